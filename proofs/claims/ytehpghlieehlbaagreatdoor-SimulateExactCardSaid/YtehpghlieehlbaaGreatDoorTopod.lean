/- Node1: what a node does with a packet: the program. -/
import Derived.Test.YtehpghlieehlbaaGreatDoorNodek
import Derived.Test.YtehpghlieehlbaaGreatDoorIdent
set_option maxRecDepth 100000
set_option linter.unusedVariables false
open Int (toNat)
open List (length take getD set range)
namespace Go.RS
open Go.SX Go.Proofs
abbrev CP:OT := .pair (.dat (.sl cJ)) (.pair cI (.pair (.row 3 cI) (.pair ob cI)))
abbrev pI:OT := .pair bN (.pair CP (.pair cI (.pair cI (.pair (.dat (.sl bz)) lX))))
abbrev uG:CT := .pair cI (.sl bz)
abbrev dL:Type:=ar×bY×Int×Int×ad×dg
abbrev nE:Type:=bY×(Int×ad)×Int
def lS(h:dg):Int:=h.2.2.2.2.2.1
def f9(h:dg):Int:=h.2.2.2.2.2.2
def pj(h:dg):Int:=h.2.1
def sJ(h:dg):Int:=h.2.2.1
def BX(h:dg):Int:=h.2.2.2.1
def bM(x:ar)(link:Int):Int:=max (cG x link) 0
def adr(x:ar)(i:Int):Int:=if i<0∨(aA x).length<=i then 0 else ((aA x).getD i.toNat default).1
def fm(s:bY)(a:Int):Bool:=kO (bn s) a&&decide (0<(bw (bn s) a).2.1.length)
def lK(x:ar)(s:bY)(r:Rt)(k:ph):Int:=(ik r.2.2 (Cv x) k (i9 s) r.2.1.length).1
def fR(x:ar)(s:bY)(r:Rt)(k:ph):Int:=if r.2.1.length=1 then r.2.1.getD 0 default else r.2.1.getD (lK x s r k).toNat default
def Pj(s:bY)(b:Int):bY:=(s.1,s.2.1,s.2.2.1,s.2.2.2.1,b)
def dq(s:bY)(r:Rt):bY:=if r.2.1.length=1 then s else Pj s (IntKind.i64.wrap (i9 s+1))
def Bi(s:bY)(t:Int×Int):bY:=(s.1,s.2.1,s.2.2.1,t,s.2.2.2.2)
def qw(l:ad)(i:Int):ad:=if i<l.length then l.set i.toNat (IntKind.i64.wrap (l.getD i.toNat default+1)) else l
def MF(s:bY)(i:Int):bY:=(s.1,IntKind.i64.wrap (s.2.1+1),qw s.2.2.1 i,s.2.2.2)
def kx(x:ar)(i link:Int):Int:=if lu x=2 then adr x (cG x link) else if lu x=3 then fM x else if lu x=4 then pK x else adr x i
def iU(w:dL)(s:bY):dL:=(w.1,s,w.2.2)
def vB(w:dL)(h:dg):dL:=(w.1,w.2.1,w.2.2.1,w.2.2.2.1,w.2.2.2.2.1,h)
def iw:Int×ad:=(0,[])
def fP(w:dL):(Int×Int)×Bool:=gm (jE w.1) (sN w.2.1) w.2.2.2.1
def jc(w:dL):bY:=MF (Bi w.2.1 (fP w).1) (bM w.1 w.2.2.1)
def fJ(w:dL):Rt:=bw (bn w.2.1) (lS w.2.2.2.2.2)
def gP(B:Int->Int->ad)(w:dL):Int:=fR w.1 (jc w) (fJ w) (dV (B (adr w.1 (bM w.1 w.2.2.1)) 0))
def ig(w:dL):Int:=kY w.1 (Bi w.2.1 (fP w).1) (bM w.1 w.2.2.1) w.2.2.2.1 (pj w.2.2.2.2.2) (lS w.2.2.2.2.2)
def je(B:Int->Int->ad)(w:dL)(own:Int):Int:=if own=0 then kx w.1 (bM w.1 w.2.2.1) (gP B w) else own
def dC(B:Int->Int->ad)(E:Int->Int)(w:dL)(own:Int):nE :=
 if own=0/\jU w.1=true then (w.2.1,iw,4)
 else if E 0≠0 then (w.2.1,iw,6)
 else if fm w.2.1 (lS w.2.2.2.2.2)=false then (w.2.1,iw,8)
 else if (fP w).2=false then (Bi w.2.1 (fP w).1,iw,5)
 else (dq (jc w) (fJ w),(gP B w,B (je B w own) (ig w)),2)
def fI(w:dL)(f i:Int):ad:=fZ w.2.2.2.2.1 f i (jt w.1)
def jq(w:dL)(i:Int):Int:=eh w.2.2.2.2.1 i (jt w.1)
def fA(w:dL)(kind code f i:Int):ad:=eT w.2.2.2.2.1 f kind code i (jt w.1)
def kH(w:dL)(kind code i:Int):Int:=dS w.2.2.2.2.1 kind code i (jt w.1)
def ij(w:dL):nE :=
 if w.2.2.1 = -1∨jq w 0≠0 then (w.2.1,iw,1)
 else dC (fI w) (jq w) w (if BX w.2.2.2.2.2=17 then 0 else f9 w.2.2.2.2.2)
def eG(w:dL):nE :=
 if w.2.2.1 ≠ -1/\dY w.1=false/\sJ w.2.2.2.2.2<2 then dC (fA w 11 0) (kH w 11 0) w 0
 else if fm w.2.1 (f9 w.2.2.2.2.2)=false then (if w.2.2.1 = -1 then (w.2.1,iw,8) else dC (fA w 3 0) (kH w 3 0) w 0)
 else (dq w.2.1 (bw (bn w.2.1) (f9 w.2.2.2.2.2)),(fR w.1 w.2.1 (bw (bn w.2.1) (f9 w.2.2.2.2.2)) (dV w.2.2.2.2.1),if w.2.2.1 ≠ -1/\dY w.1=false then gU w.2.2.2.2.1 else w.2.2.2.2.1),0)
def gw(w:dL):nE :=
 if bT w.2.2.2.2.1≠0 then (w.2.1,iw,6)
 else if fH w.1 (f9 (aP w.2.2.2.2.1).1)=true then ij (vB w (aP w.2.2.2.2.1).1)
 else if mS w.1=true/\w.2.2.1 ≠ -1 then (w.2.1,iw,6)
 else eG (vB w (aP w.2.2.2.2.1).1)
def fC(x:ar)(s:bY)(link at':Int)(b:ad):nE:=gw (x,s,link,at',b,oV)
def oI(w:dL):Prop:=cK (bn w.2.1)/\okL (bn w.2.1)/\(w.2.2.2.2.1.length:Int)<=1000000
theorem FJ{way seed:Int}{k:ph}{count n:Int}(h:1<=n):0<=(ik way seed k count n).1/\(ik way seed k count n).1<n:=by
 have h1:=vy seed k
 have h2:=vy seed (k.1,k.2.1,0,0,0)
 unfold ik
 split
 .exact⟨iE _,by show (0:Int)<n;omega⟩
 next hn=>
  dsimp only;split
  .exact⟨Int.tmod_nonneg _ h1.1,Int.tmod_lt_of_pos _ ab⟩
  .split
   .exact⟨Int.tmod_nonneg _ h2.1,Int.tmod_lt_of_pos _ ab⟩
   .exact⟨Int.tmod_nonneg _ ab,Int.tmod_lt_of_pos _ ab⟩
theorem DT{r:nE}{s:bY}{o:Int×ad}{y:Int}(w:dL)(e:r=(s,o,y)):o=r.2.1/\y=r.2.2/\iU w s=iU w r.1:=by subst e;exact⟨rfl,rfl,rfl⟩
theorem vW{B:Int->Int->ad}{E:Int->Int}{w:dL}{own:Int}(h:own=0/\jU w.1=true):dC B E w own=(w.2.1,iw,4):=by unfold dC;rw[am h]
theorem vU{B:Int->Int->ad}{E:Int->Int}{w:dL}{own:Int}(h:¬ (own=0/\jU w.1=true))(h1:E 0≠0):dC B E w own=(w.2.1,iw,6):=by unfold dC;rw[af h,am h1]
theorem xh{B:Int->Int->ad}{E:Int->Int}{w:dL}{own:Int}(h:¬ (own=0/\jU w.1=true))(h1:¬ E 0≠0)(h2:fm w.2.1 (lS w.2.2.2.2.2)=false):dC B E w own=(w.2.1,iw,8):=by
 unfold dC;rw[af h,af h1,am h2]
theorem wX{B:Int->Int->ad}{E:Int->Int}{w:dL}{own:Int}(h:¬ (own=0/\jU w.1=true))(h1:¬ E 0≠0)(h2:¬ fm w.2.1 (lS w.2.2.2.2.2)=false)(h3:(fP w).2=false):dC B E w own=(Bi w.2.1 (fP w).1,iw,5):=by
 unfold dC;rw[af h,af h1,af h2,am h3]
theorem wE{B:Int->Int->ad}{E:Int->Int}{w:dL}{own:Int}(h:¬ (own=0/\jU w.1=true))(h1:¬ E 0≠0)(h2:¬ fm w.2.1 (lS w.2.2.2.2.2)=false)(h3:¬ (fP w).2=false) :
  dC B E w own=(dq (jc w) (fJ w),(gP B w,B (je B w own) (ig w)),2):=by
 unfold dC;rw[af h,af h1,af h2,af h3]
theorem wN{s:bY}{a:Int}(h:¬ fm s a=false):(bw (bn s) a).2.1≠[]:=by
 intro e;apply h;unfold fm;rw[e];simp
theorem Gd(p:o3):((dE p).length:Int)<=1500:=by
 unfold dE
 split
 next h=>
  unfold fg at h;split at h
  .cases h
  .split at h
   .cases h
   .rw[cD,rG];omega
 .simp
theorem KH(b:ad)(src kind code id ttl:Int):((eT b src kind code id ttl).length:Int)<=1500:=by
 unfold eT;split
 .exact Gd _
 .simp
theorem aG7(b:ad)(src id ttl:Int):((fZ b src id ttl).length:Int)<=1500:=by
 unfold fZ;split
 .split
  .exact Gd _
  .split
   .exact KH ..
   .exact Gd _
 .simp
theorem PL(w:dL)(f i:Int):((fI w f i).length:Int)<=1500:=aG7 ..
theorem IJ(w:dL)(k c f i:Int):((fA w k c f i).length:Int)<=1500:=KH ..
theorem AP(x:ar)(k:Int):0<=bM x k:=by unfold bM;omega
theorem EV{l:ad}{i:Int}(h:i<l.length):qw l i=l.set i.toNat (IntKind.i64.wrap (l.getD i.toNat default+1)):=am h
theorem PW{l:ad}{i:Int}(h:¬ i<l.length):qw l i=l:=af h
def YU:Ct:=⟨[.box 245 pI],[.val cI],λd=>[],λd=>((bM d.1.1 d.1.2.2.1,()),(d.1,()))⟩
def vM(a:ar)(b:List aG)(c:Int)(d:ad)(e f g h i:Int)(j:ad)(k:dg) :=
 CT.wf bN a/\((b.length<=maxLen/\ ∀(l:aG),l∈b->((0<=l.1.1/\l.1.1<=4294967295)/\aj l.1.2)/\(l.2.1.length<=maxLen/\ ∀(m:Int),m∈l.2.1->aj m)/\aj l.2.2)/\aj c/\(d.length<=maxLen/\ ∀(l:Int),l∈d->aj l)/\(aj e/\aj f)/\aj g)/\aj h/\aj i/\(j.length<=maxLen/\ ∀(l:Int),l∈j->0<=l/\l<=255)/\CT.wf lX k
def oG(a:ar)(b:List aG)(c:Int)(d:ad)(e f g h i:Int)(j:ad)(k:dg) :=
 (a,(b,c,d,(e,f),g),h,i,j,k)=(a,(b,c,d,(e,f),g),h,i,j,k)
theorem al9 :
 ∀(a:ar)(b:List aG)(c:Int)(d:ad)(e f g h i:Int)(j:ad)(k:dg),(vM a b c d e f g h i j k)/\True->True->max (cG a h) (0:Int)=bM a h/\(oG a b c d e f g h i j k):=by
  delta vM oG
  intros
  exact⟨rfl,rfl⟩
theorem LG:aD 269 YU.spec:=aH Tryz.func269 (au aE C9) aR al9
def X6:Ct:=⟨[.box 245 pI,.val cI],[.val cy],λd=>[],λd=>((adr d.1.1 d.2.1,()),(d.1,()))⟩
def zP(a:ar)(b:List aG)(c:Int)(d:ad)(e f g h i:Int)(j:ad)(k:dg) :=
 CT.wf bN a/\((b.length<=maxLen/\ ∀(m:aG),m∈b->((0<=m.1.1/\m.1.1<=4294967295)/\aj m.1.2)/\(m.2.1.length<=maxLen/\ ∀(n:Int),n∈m.2.1->aj n)/\aj m.2.2)/\aj c/\(d.length<=maxLen/\ ∀(m:Int),m∈d->aj m)/\(aj e/\aj f)/\aj g)/\aj h/\aj i/\(j.length<=maxLen/\ ∀(m:Int),m∈j->0<=m/\m<=255)/\CT.wf lX k
theorem aa9 :
 ∀(a:ar)(b:List aG)(c:Int)(d:ad)(e f g h i:Int)(j:ad)(k:dg)(l:Int),(zP a b c d e f g h i j k)/\aj l/\True->True-> ∀(m:Bool),m=decide (l<0)->(ae (! m))/\(ae (! m))/\(ae (! m))/\(ae (! m))/\(ae (! m))/\((! m)->(aq (! m))/\(aq (! m))/\True)/\(aF m)/\ao (bif m then true else decide ((ac a.1)<=l)) (0=adr a l/\(oG a b c d e f g h i j k)) (0<=l/\l<(ac a.1)/\(getD a.1 l.toNat default).1=adr a l/\(oG a b c d e f g h i j k)):=by
  delta zP oG ae aq aF ac;rintro d x x1 x2 x3 x4 x5 x6 x7 x8 h i - -
  (repeat (refine bO ?_;repeat refine bP ?_));refine oT (λho=>?_) (λh1 h2=>?_)
  .unfold adr;rw[am (by rcases ho with q|q <;> have:=aL q <;> first|exact .inl this|exact .inr this)];exact⟨rfl,rfl⟩
  .have h1:=aO h1;have h2:=aO h2;refine⟨ab,ab,?_,rfl⟩;unfold adr;rw[af (by rintro (q|q);exact h1 q;exact h2 q)];rfl
theorem Ij:aD 270 X6.spec:=aH Tryz.func270 aE aR aa9
def aj6:Ct:=⟨[.box 245 pI,.agg cJ,.val (.sl bz)],[.val cI],λd=>[d.2.1.2.1≠[],(d.2.2.1.length:Int)<=1000000],λd=>((fR d.1.1 d.1.2.1 d.2.1 (dV d.2.2.1),()),(iU d.1 (dq d.1.2.1 d.2.1),()))⟩
theorem ay2 :
 ∀(a:ar)(b:List aG)(c:Int)(d:ad)(e f g h i:Int)(j:ad)(k:dg)(l m:Int)(n:ad)(o:Int)(p:ad),(CT.wf bN a/\((b.length<=maxLen/\ ∀(q:aG),q∈b->((0<=q.1.1/\q.1.1<=4294967295)/\aj q.1.2)/\(q.2.1.length<=maxLen/\ ∀(r:Int),r∈q.2.1->aj r)/\aj q.2.2)/\aj c/\(d.length<=maxLen/\ ∀(q:Int),q∈d->aj q)/\(aj e/\aj f)/\aj g)/\aj h/\aj i/\(j.length<=maxLen/\ ∀(q:Int),q∈j->0<=q/\q<=255)/\CT.wf lX k)/\(((0<=l/\l<=4294967295)/\aj m)/\(n.length<=maxLen/\ ∀(q:Int),q∈n->aj q)/\aj o)/\(p.length<=maxLen/\ ∀(q:Int),q∈p->0<=q/\q<=255)/\True->n≠([]:ad)/\(ac p)<=1000000->ao (decide ((ac n)=1)) ((0:Int)<=0/\0<(ac n)/\ah n (0:Int)=fR a (b,c,d,(e,f),g) ((l,m),n,o) (dV p)/\(a,(b,c,d,(e,f),g),h,i,j,k)=iU (a,(b,c,d,(e,f),g),h,i,j,k) (dq (b,c,d,(e,f),g) ((l,m),n,o))) ((ac p)<=1099511627776/\0<=(ik o a.2.2.2.2.2.2.2.2.2.2.2.2.2.2 (dV p) g
 (ac n)).1/\(ik o a.2.2.2.2.2.2.2.2.2.2.2.2.2.2 (dV p) g (ac n)).1<(ac n)/\n.getD (toNat (ik o a.2.2.2.2.2.2.2.2.2.2.2.2.2.2 (dV p) g (ac n)).1) default=fR a (b,c,d,(e,f),g) ((l,m),n,o) (dV p)/\(a,(b,c,d,(e,f),ai (g+1)),h,i,j,k)=iU (a,(b,c,d,(e,f),g),h,i,j,k) (dq (b,c,d,(e,f),g) ((l,m),n,o))):=by
  delta ai ah ac;rintro d x x1 x2 x3 x4 x5 x6 x7 x8 h r1 r2 nx bl b-⟨hn,hb⟩;have hpos:1<=(nx.length:Int):=by cases nx with
   | nil=>exact absurd rfl hn
   | cons a l=>simp;omega
  refine bt (λh1=>?_) (λh1=>?_)
  .have h1':nx.length=1:=ab;refine⟨ab,ab,?_,?_⟩
   .unfold fR;rw[am h1'];rfl
   .unfold dq;rw[am h1'];rfl
  .have h1':¬ nx.length=1:=ab;have hc:=FJ (way:=bl) (seed:=d.2.2.2.2.2.2.2.2.2.2.2.2.2.2) (k:=dV b) (count:=x5) hpos;refine⟨ab,hc.1,hc.2,?_,?_⟩
   .unfold fR;rw[af h1'];rfl
   .unfold dq;rw[af h1'];rfl
theorem Gn:aD 247 aj6.spec:=aH Tryz.func247 (au (au aE UT) Yp) aR ay2
def Vi:Ct:=⟨[.box 245 pI,.val cy],[.agg cJ,.val .bool],λd=>[cK (bn d.1.2.1),okL (bn d.1.2.1)],λd=>((bw (bn d.1.2.1) d.2.1,fm d.1.2.1 d.2.1,()),(d.1,()))⟩
theorem To :
 ∀(a:ar)(b:List aG)(c:Int)(d:ad)(e f g h i:Int)(j:ad)(k:dg)(l:Int),(zP a b c d e f g h i j k)/\(0<=l/\l<=4294967295)/\True->(cK (bn (b,c,d,(e,f),g))/\((length (bn (b,c,d,(e,f),g))):Int)<=134217728/\ ∀(m:Rt),m∈bn (b,c,d,(e,f),g)->(ac m.2.1)<=1099511627776)->cK b/\okL b/\ ∀(m:Bool),m=kO b l->(ae m)/\(ae m)/\(ae m)/\(aq m)/\bw b l=bw (bn (b,c,d,(e,f),g)) l/\(bif m then decide (0<((length (bw b l).2.1):Int)) else false)=fm (b,c,d,(e,f),g) l/\(oG a b c d e f g h i j k):=by
  delta zP oG ae aq ac;rintro d x x1 x2 x3 x4 x5 x6 x7 x8 h a-⟨h1,h2⟩;refine⟨h1,h2,?_⟩
  (repeat (refine bO ?_;repeat refine bP ?_));refine⟨rfl,?_,rfl⟩;show (bif kO x a then decide (0<((bw x a).2.1.length:Int)) else false)=(kO x a&&decide (0<(bw x a).2.1.length))
  cases kO x a <;> simp
theorem Gx:aD 246 Vi.spec:=aH Tryz.func246 (au aE S9) aR To
def Wj:Ct:=⟨[.val cy,.val cI,.box 243 (.ref 245 pI),.box 3 cI,.box 3 cI],[.own 5 bz,.val cI],λd=>[(d.2.2.1.2.2.2.2.1.length:Int)<=1000000],λd=>((fA d.2.2.1 d.2.2.2.1 d.2.2.2.2.1 d.1 d.2.1,kH d.2.2.1 d.2.2.2.1 d.2.2.2.2.1 d.2.1,()),(d.2.2.1,d.2.2.2.1,d.2.2.2.2.1,()))⟩
theorem ac1 :
 ∀(a b:Int)(c:ar)(d:List aG)(e:Int)(f:ad)(g h i j k:Int)(l:ad)(m:dg)(n o:Int),(0<=a/\a<=4294967295)/\aj b/\(CT.wf bN c/\((d.length<=maxLen/\ ∀(p:aG),p∈d->((0<=p.1.1/\p.1.1<=4294967295)/\aj p.1.2)/\(p.2.1.length<=maxLen/\ ∀(q:Int),q∈p.2.1->aj q)/\aj p.2.2)/\aj e/\(f.length<=maxLen/\ ∀(p:Int),p∈f->aj p)/\(aj g/\aj h)/\aj i)/\aj j/\aj k/\(l.length<=maxLen/\ ∀(p:Int),p∈l->0<=p/\p<=255)/\CT.wf lX m)/\aj n/\aj o/\True->(ac l)<=1000000->(ac l)<=1099511627776/\eT l a n o b c.2.2.2.2.2.2.2.2.2.2.2.2.2.1=fA (c,(d,e,f,(g,h),i),j,k,l,m) n o a b/\dS l n o b c.2.2.2.2.2.2.2.2.2.2.2.2.2.1=kH (c,(d,e,f,(g,h),i),j,k,l,m) n o b/\(c,(d,e,f,(g,h),i),j,k,l,m)=(c,(d,e,f,(g,h),i),j,k,l,m)/\n=n/\o=o:=by
  delta ac;rintro x x1 d y y1 y2 y3 y4 y5 y6 y7 b h k c-hb;exact⟨ab,rfl,rfl,rfl,rfl,rfl⟩
theorem VU:aD 274 Wj.spec:=aH Tryz.func274 (au aE Km) aR ac1
def ZH:Ct:=⟨[.box 245 pI,.val cI,.val cI],[.fn 274 3,.box 243 .ali,.box 3 cI,.box 3 cI],λd=>[],λd=>(((),(),d.2.1,d.2.2.1,()),(d.1,()))⟩
def Aw(n:aG) :=
 ((0<=n.1.1/\n.1.1<=4294967295)/\aj n.1.2)/\(n.2.1.length<=maxLen/\ ∀(o:Int),o∈n.2.1->aj o)/\aj n.2.2
def ER(a:ar)(b:List aG)(c:Int)(d:ad)(e f g h i:Int)(j:ad)(k:dg) :=
 CT.wf bN a/\((b.length<=maxLen/\ ∀(n:aG),n∈b->(Aw n))/\aj c/\(d.length<=maxLen/\ ∀(n:Int),n∈d->aj n)/\(aj e/\aj f)/\aj g)/\aj h/\aj i/\(j.length<=maxLen/\ ∀(n:Int),n∈j->0<=n/\n<=255)/\CT.wf lX k
theorem Xh :
 ∀(a:ar)(b:List aG)(c:Int)(d:ad)(e f g h i:Int)(j:ad)(k:dg)(l m:Int),(ER a b c d e f g h i j k)/\aj l/\aj m/\True->True->()=()/\()=()/\l=l/\m=m/\(oG a b c d e f g h i j k):=by
  delta ER Aw oG
  intros
  exact⟨rfl,rfl,rfl,rfl,rfl⟩
theorem az6:aD 245 ZH.spec:=aH Tryz.func245 aE aR Xh
def ao8:Ct:=⟨[.val cy,.val cI,.box 243 (.ref 245 pI)],[.own 5 bz,.val cI],λd=>[(d.2.2.1.2.2.2.2.1.length:Int)<=1000000],λd=>((fI d.2.2.1 d.1 d.2.1,jq d.2.2.1 d.2.1,()),(d.2.2.1,()))⟩
theorem aA5 :
 ∀(a b:Int)(c:ar)(d:List aG)(e:Int)(f:ad)(g h i j k:Int)(l:ad)(m:dg),(0<=a/\a<=4294967295)/\aj b/\(CT.wf bN c/\((d.length<=maxLen/\ ∀(n:aG),n∈d->(Aw n))/\aj e/\(f.length<=maxLen/\ ∀(n:Int),n∈f->aj n)/\(aj g/\aj h)/\aj i)/\aj j/\aj k/\(l.length<=maxLen/\ ∀(n:Int),n∈l->0<=n/\n<=255)/\CT.wf lX m)/\True->(ac l)<=1000000->(ac l)<=1099511627776/\fZ l a b c.2.2.2.2.2.2.2.2.2.2.2.2.2.1=fI (c,(d,e,f,(g,h),i),j,k,l,m) a b/\eh l b c.2.2.2.2.2.2.2.2.2.2.2.2.2.1=jq (c,(d,e,f,(g,h),i),j,k,l,m) b/\(c,(d,e,f,(g,h),i),j,k,l,m)=(c,(d,e,f,(g,h),i),j,k,l,m):=by
  delta Aw ac;rintro x x1 d y y1 y2 y3 y4 y5 y6 y7 b h-hb;exact⟨ab,rfl,rfl,rfl⟩
theorem MJ:aD 242 ao8.spec:=aH Tryz.func242 (au aE TW) aR aA5
def Wy:Ct:=⟨[.box 245 pI,.val cI,.val cI],[.val cy],λd=>[],λd=>((kx d.1.1 d.2.1 d.2.2.1,()),(d.1,()))⟩
theorem T2 :
 ∀(a:ar)(b:List aG)(c:Int)(d:ad)(e f g h i:Int)(j:ad)(k:dg)(l m:Int),(ER a b c d e f g h i j k)/\aj l/\aj m/\True->True->ao (decide (a.2.2.2.2.2.1=2)) (adr a (cG a m)=kx a l m/\(oG a b c d e f g h i j k)) (ao (decide (a.2.2.2.2.2.1=3)) (a.2.1=kx a l m/\(oG a b c d e f g h i j k)) (ao (decide (a.2.2.2.2.2.1=4)) (a.2.2.2.2.2.2.1=kx a l m/\(oG a b c d e f g h i j k)) (adr a l=kx a l m/\(oG a b c d e f g h i j k)))):=by
  delta ER Aw oG;rintro d x x1 x2 x3 x4 x5 x6 x7 x8 h i l - -;unfold kx lu fM pK;refine av (λh1=>?_) (λh1=>?_)
  .rw[am (aL h1)];exact⟨rfl,rfl⟩
  rw[af (aO h1)];refine av (λh2=>?_) (λh2=>?_)
  .rw[am (aL h2)];exact⟨rfl,rfl⟩
  rw[af (aO h2)];refine av (λh3=>?_) (λh3=>?_)
  .rw[am (aL h3)];exact⟨rfl,rfl⟩
  rw[af (aO h3)];exact⟨rfl,rfl⟩
theorem Nl:aD 273 Wy.spec:=aH Tryz.func273 (au (au aE C9) Ij) aR T2
def LH:Ct:=⟨[.box 245 pI,.fn 242 1,.box 243 .ali,.val cy],[.agg uG,.val cI],λd=>[oI d.1],λd=>(((dC (fI d.1) (jq d.1) d.1 d.2.2.2.1).2.1,(dC (fI d.1) (jq d.1) d.1 d.2.2.2.1).2.2,()),(iU d.1 (dC (fI d.1) (jq d.1) d.1 d.2.2.2.1).1,(),()))⟩
def aW3:bu LH.ps->bS:=(λd=>{cuts:=(bm 17 (λS=>{ι:=Int×ad×(Int×Int),qn:=qU,inv:=λi=>dC (fI d.1) (jq d.1) d.1 d.2.2.2.1=(dq (jc d.1) (fJ d.1),(gP (fI d.1) d.1,(fI d.1) (je (fI d.1) d.1 d.2.2.2.1) (ig d.1)),2)/\(fJ d.1).2.1≠[]/\(bn d.1.2.1,i.1,i.2.1,i.2.2,i9 d.1.2.1)=jc d.1,keep:=[0,1,2,6,9,11],slots:=λi=>[(8,.int .i64 (bM d.1.1 d.1.2.2.1)),(13,.int .i64 (ig d.1))],keepN:=[112,192,560,1048577],names:=λi=>[(1048576,.live (.cells 245 (cR bN d.1.1++([.dsl cJ (bn d.1.2.1),.int .i64 i.1,.own 524288 1]++(cR ob i.2.2++([.int .i64 (i9 d.1.2.1),.int .i64 d.1.2.2.1,.int .i64 d.1.2.2.2.1,.dsl bz d.1.2.2.2.2.1]++cR lX d.1.2.2.2.2.2)))))),(524288,.live (.row 3 cI i.2.1))]}) ci)})
def md(a:ar)(b:List aG)(c:Int)(d:ad)(e f g h i:Int)(j:ad)(k:dg)(l:Int) :=
 dC (fI (a,(b,c,d,(e,f),g),h,i,j,k)) (jq (a,(b,c,d,(e,f),g),h,i,j,k)) (a,(b,c,d,(e,f),g),h,i,j,k) l
def dZ(b:List aG)(c:Int)(d:ad)(e f g:Int)(k:dg) :=
 bw (bn (b,c,d,(e,f),g)) k.2.2.2.2.2.1
def Gw(a:ar)(b:List aG)(c:Int)(d:ad)(e f g h i:Int)(j:ad)(k:dg)(l:Int) :=
 (dq (jc (a,(b,c,d,(e,f),g),h,i,j,k)) (fJ (a,(b,c,d,(e,f),g),h,i,j,k)),(gP (fI (a,(b,c,d,(e,f),g),h,i,j,k)) (a,(b,c,d,(e,f),g),h,i,j,k),fI (a,(b,c,d,(e,f),g),h,i,j,k) (je (fI (a,(b,c,d,(e,f),g),h,i,j,k)) (a,(b,c,d,(e,f),g),h,i,j,k) l) (ig (a,(b,c,d,(e,f),g),h,i,j,k))),(2:Int))
def mv(a:ar)(e f i:Int) :=
 gm a.2.2.2.2.2.2.2.2.2.2.1 (e,f) i
def m4 :=
 ((0:Int),([]:ad))
def tQ(b:List aG)(c:Int)(d:ad)(e f g:Int)(j:ad) :=
 cK (bn (b,c,d,(e,f),g))/\okL (bn (b,c,d,(e,f),g))/\(ac j)<=1000000
def JM(a:ar)(b:List aG)(c:Int)(d:ad)(e f g h i:Int)(j:ad)(k:dg)(l n:Int)(o:ad)(p:Int×Int) :=
 dC (fI (a,(b,c,d,(e,f),g),h,i,j,k)) (jq (a,(b,c,d,(e,f),g),h,i,j,k)) (a,(b,c,d,(e,f),g),h,i,j,k) l=(Gw a b c d e f g h i j k l)/\(fJ (a,(b,c,d,(e,f),g),h,i,j,k)).2.1≠([]:ad)/\(bn (b,c,d,(e,f),g),n,o,p,i9 (b,c,d,(e,f),g))=jc (a,(b,c,d,(e,f),g),h,i,j,k)
theorem Up :
 ∀(a:ar)(b:List aG)(c:Int)(d:ad)(e f g h i:Int)(j:ad)(k:dg)(l:Int),(zP a b c d e f g h i j k)/\True/\True/\(0<=l/\l<=4294967295)/\True->(tQ b c d e f g j)-> ∀(m:Bool),m=decide (l=0)->(ae m)/\(ae m)/\(ae m)/\(ae m)/\(aq m)/\ao (bif m then a.2.2.2.2.2.2.2.2.2.2.2.1 else false) ((m4)=(md a b c d e f g h i j k l).2.1/\4=(md a b c d e f g h i j k l).2.2/\(a,(b,c,d,(e,f),g),h,i,j,k)=iU (a,(b,c,d,(e,f),g),h,i,j,k) (md a b c d e f g h i j k l).1/\()=()) ((ac j)<=1000000/\ao (! decide (jq (a,(b,c,d,(e,f),g),h,i,j,k) (0:Int)=0)) ((m4)=(md a b c d e f g h i j k l).2.1/\6=(md a b c d e f g h i j k l).2.2/\(a,(b,c,d,(e,f),g),h,i,j,k)=iU (a,(b,c,d,(e,f),g),h,i,j,k) (md a b c d e f g h i j k l).1/\()=()) (cK (bn (b,c,d,(e,f),g))/\okL (bn (b,c,d,(e,f),g))/\ao (! fm (b,c,d,(e,f),g) k.2.2.2.2.2.1) ((m4)=(md a b c d e f g
 h i j k l).2.1/\8=(md a b c d e f g h i j k l).2.2/\(a,(b,c,d,(e,f),g),h,i,j,k)=iU (a,(b,c,d,(e,f),g),h,i,j,k) (md a b c d e f g h i j k l).1/\()=()) (ao (! (mv a e f i).2) ((m4)=(md a b c d e f g h i j k l).2.1/\5=(md a b c d e f g h i j k l).2.2/\(a,(b,c,d,(mv a e f i).1,g),h,i,j,k)=iU (a,(b,c,d,(e,f),g),h,i,j,k) (md a b c d e f g h i j k l).1/\()=()) (ao (decide (bM a h<(ac d))) (0<=bM a h/\bM a h<(ac d)/\0<=bM a h/\bM a h<(ac d)/\ ∃(n:Int) (o:ad),∃(p:Int×Int),(JM a b c d e f g h i j k l n o p)/\l=l/\bM a h=bM a h/\kY a (b,c,d,(mv a e f i).1,g) (bM a h) i k.2.1 k.2.2.2.2.2.1=ig (a,(b,c,d,(e,f),g),h,i,j,k)/\(0:Int)=0/\(dZ b c d e f g k).1.1=(dZ b c d e f g k).1.1/\(dZ b c d e f g k).1.2=(dZ b c d e f g k).1.2/\(dZ b c d e f g k).2.1=(dZ b c d e f g k).2.1/\(dZ b c d e f g k).2.2=(dZ b c d e f g k).2.2/\fI
 (a,(b,c,d,(e,f),g),h,i,j,k) (adr a (bM a h)) (0:Int)=fI (a,(b,c,d,(e,f),g),h,i,j,k) (adr a (bM a h)) (0:Int)/\a.1=a.1/\a.2.1=a.2.1/\a.2.2.1=a.2.2.1/\a.2.2.2.1=a.2.2.2.1/\a.2.2.2.2.1=a.2.2.2.2.1/\a.2.2.2.2.2.1=a.2.2.2.2.2.1/\a.2.2.2.2.2.2.1=a.2.2.2.2.2.2.1/\a.2.2.2.2.2.2.2.1=a.2.2.2.2.2.2.2.1/\a.2.2.2.2.2.2.2.2.1=a.2.2.2.2.2.2.2.2.1/\a.2.2.2.2.2.2.2.2.2.1=a.2.2.2.2.2.2.2.2.2.1/\a.2.2.2.2.2.2.2.2.2.2.1.1=a.2.2.2.2.2.2.2.2.2.2.1.1/\a.2.2.2.2.2.2.2.2.2.2.1.2=a.2.2.2.2.2.2.2.2.2.2.1.2/\a.2.2.2.2.2.2.2.2.2.2.2.1=a.2.2.2.2.2.2.2.2.2.2.2.1/\a.2.2.2.2.2.2.2.2.2.2.2.2.1=a.2.2.2.2.2.2.2.2.2.2.2.2.1/\a.2.2.2.2.2.2.2.2.2.2.2.2.2.1=a.2.2.2.2.2.2.2.2.2.2.2.2.2.1/\a.2.2.2.2.2.2.2.2.2.2.2.2.2.2=a.2.2.2.2.2.2.2.2.2.2.2.2.2.2/\b=bn (b,c,d,(e,f),g)/\ai (c+1)=n/\(mv a e f i).1.1=p.1/\(mv a e f i).1.2=p.2/\g=i9
 (b,c,d,(e,f),g)/\h=h/\i=i/\j=j/\k.1=k.1/\k.2.1=k.2.1/\k.2.2.1=k.2.2.1/\k.2.2.2.1=k.2.2.2.1/\k.2.2.2.2.1=k.2.2.2.2.1/\k.2.2.2.2.2.1=k.2.2.2.2.2.1/\k.2.2.2.2.2.2=k.2.2.2.2.2.2/\set d (toNat (bM a h)) (ai (ah d (bM a h)+1))=o/\True) (∃(n:Int) (o:ad),∃(p:Int×Int),(JM a b c d e f g h i j k l n o p)/\l=l/\bM a h=bM a h/\kY a (b,c,d,(mv a e f i).1,g) (bM a h) i k.2.1 k.2.2.2.2.2.1=ig (a,(b,c,d,(e,f),g),h,i,j,k)/\(0:Int)=0/\(dZ b c d e f g k).1.1=(dZ b c d e f g k).1.1/\(dZ b c d e f g k).1.2=(dZ b c d e f g k).1.2/\(dZ b c d e f g k).2.1=(dZ b c d e f g k).2.1/\(dZ b c d e f g k).2.2=(dZ b c d e f g k).2.2/\fI (a,(b,c,d,(e,f),g),h,i,j,k) (adr a (bM a h)) (0:Int)=fI (a,(b,c,d,(e,f),g),h,i,j,k) (adr a (bM a h))
 (0:Int)/\a.1=a.1/\a.2.1=a.2.1/\a.2.2.1=a.2.2.1/\a.2.2.2.1=a.2.2.2.1/\a.2.2.2.2.1=a.2.2.2.2.1/\a.2.2.2.2.2.1=a.2.2.2.2.2.1/\a.2.2.2.2.2.2.1=a.2.2.2.2.2.2.1/\a.2.2.2.2.2.2.2.1=a.2.2.2.2.2.2.2.1/\a.2.2.2.2.2.2.2.2.1=a.2.2.2.2.2.2.2.2.1/\a.2.2.2.2.2.2.2.2.2.1=a.2.2.2.2.2.2.2.2.2.1/\a.2.2.2.2.2.2.2.2.2.2.1.1=a.2.2.2.2.2.2.2.2.2.2.1.1/\a.2.2.2.2.2.2.2.2.2.2.1.2=a.2.2.2.2.2.2.2.2.2.2.1.2/\a.2.2.2.2.2.2.2.2.2.2.2.1=a.2.2.2.2.2.2.2.2.2.2.2.1/\a.2.2.2.2.2.2.2.2.2.2.2.2.1=a.2.2.2.2.2.2.2.2.2.2.2.2.1/\a.2.2.2.2.2.2.2.2.2.2.2.2.2.1=a.2.2.2.2.2.2.2.2.2.2.2.2.2.1/\a.2.2.2.2.2.2.2.2.2.2.2.2.2.2=a.2.2.2.2.2.2.2.2.2.2.2.2.2.2/\b=bn (b,c,d,(e,f),g)/\ai (c+1)=n/\(mv a e f i).1.1=p.1/\(mv a e f i).1.2=p.2/\g=i9
 (b,c,d,(e,f),g)/\h=h/\i=i/\j=j/\k.1=k.1/\k.2.1=k.2.1/\k.2.2.1=k.2.2.1/\k.2.2.2.1=k.2.2.2.1/\k.2.2.2.2.1=k.2.2.2.2.1/\k.2.2.2.2.2.1=k.2.2.2.2.2.1/\k.2.2.2.2.2.2=k.2.2.2.2.2.2/\d=o/\True)/\ ∀(n:Int)(o:ad)(p:Int×Int),dC (fI (a,(b,c,d,(e,f),g),h,i,j,k)) (jq (a,(b,c,d,(e,f),g),h,i,j,k)) (a,(b,c,d,(e,f),g),h,i,j,k) l=(Gw a b c d e f g h i j k l)/\(fJ (a,(b,c,d,(e,f),g),h,i,j,k)).2.1≠([]:ad)/\(bn (b,c,d,(e,f),g),n,o,p,i9 (b,c,d,(e,f),g))=jc (a,(b,c,d,(e,f),g),h,i,j,k)->(dZ b c d e f g k).2.1≠([]:ad)/\((length (fI (a,(b,c,d,(e,f),g),h,i,j,k) (adr a (bM a h)) (0:Int))):Int)<=1000000/\ao (decide (l=0)) ((ac j)<=1000000/\(fR a (b,n,o,p,g) (dZ b c d e f g k) (dV (fI (a,(b,c,d,(e,f),g),h,i,j,k) (adr a (bM a h)) (0:Int))),fI (a,dq (b,n,o,p,g) (dZ b c d e f g k),h,i,j,k) (kx a (bM a h) (fR a (b,n,o,p,g) (dZ b c
 d e f g k) (dV (fI (a,(b,c,d,(e,f),g),h,i,j,k) (adr a (bM a h)) (0:Int))))) (ig (a,(b,c,d,(e,f),g),h,i,j,k)))=(md a b c d e f g h i j k l).2.1/\2=(md a b c d e f g h i j k l).2.2/\(a,dq (b,n,o,p,g) (dZ b c d e f g k),h,i,j,k)=iU (a,(b,c,d,(e,f),g),h,i,j,k) (md a b c d e f g h i j k l).1/\()=()) ((ac j)<=1000000/\(fR a (b,n,o,p,g) (dZ b c d e f g k) (dV (fI (a,(b,c,d,(e,f),g),h,i,j,k) (adr a (bM a h)) (0:Int))),fI (a,dq (b,n,o,p,g) (dZ b c d e f g k),h,i,j,k) l (ig (a,(b,c,d,(e,f),g),h,i,j,k)))=(md a b c d e f g h i j k l).2.1/\2=(md a b c d e f g h i j k l).2.2/\(a,dq (b,n,o,p,g) (dZ b c d e f g k),h,i,j,k)=iU (a,(b,c,d,(e,f),g),h,i,j,k) (md a b c d e f g h i j k l).1/\()=()))))):=by
  delta md dZ zP Gw mv m4 tQ JM ae aq ai ah ac;rintro d x x1 x2 x3 x4 x5 x6 x7 x8 h own-⟨hs,hl,hb⟩;obtain⟨w,hw⟩:∃ w:dL,w=(d,(x,x1,x2,(x3,x4),x5),x6,x7,x8,h):=⟨_,rfl⟩
  have e0:d.2.2.2.2.2.2.2.2.2.2.2.1=jU w.1:=by rw[hw];rfl
  have e2:fm (x,x1,x2,(x3,x4),x5) h.2.2.2.2.2.1=fm w.2.1 (lS w.2.2.2.2.2):=by rw[hw];rfl
  have e3:gm d.2.2.2.2.2.2.2.2.2.2.1 (x3,x4) x7=fP w:=by rw[hw];rfl
  rw[e0,e2,e3,← hw];have fin:=λ{s o y}=>DT (r:=dC (fI w) (jq w) w own) (s:=s) (o:=o) (y:=y) w;intro b hb0
  (repeat refine⟨(by first|(simp;done)|(rw[hb0];simp;done)|(cases b <;> simp)),?_⟩);have hq:(bif b then jU w.1 else false)=true↔own=0/\jU w.1=true:=by rw[hb0];by_cases k:own=0 <;> simp[k]
  refine av (λh0=>?_) (λh0=>?_)
  .obtain⟨f1,f2,f3⟩:=fin (vW (hq.1 h0));exact⟨f1,f2,by rw[← f3,hw];rfl,rfl⟩
  have h0:¬ (own=0/\jU w.1=true):=λk=>by rw[hq.2 k] at h0;cases h0
  refine⟨hb,av (λh1=>?_) (λh1=>?_)⟩
  .obtain⟨f1,f2,f3⟩:=fin (vU h0 (by simpa using h1));exact⟨f1,f2,by rw[← f3,hw];rfl,rfl⟩
  have h1:¬ (jq w) 0≠0:=by simpa using h1
  refine⟨hs,hl,av (λh2=>?_) (λh2=>?_)⟩
  .obtain⟨f1,f2,f3⟩:=fin (xh h0 h1 (by simpa using h2));exact⟨f1,f2,by rw[← f3,hw];rfl,rfl⟩
  have h2:¬ fm w.2.1 (lS w.2.2.2.2.2)=false:=by simpa using h2
  refine av (λh3=>?_) (λh3=>⟨?_,?_⟩)
  .obtain⟨f1,f2,f3⟩:=fin (wX h0 h1 h2 (by simpa using h3));exact⟨f1,f2,by rw[← f3,hw];rfl,rfl⟩
  .have h3:¬ (fP w).2=false:=by simpa using h3
   have eg:=wE (B:=fI w) h0 h1 h2 h3;have hne:(fJ w).2.1≠[]:=wN h2;have hin:=AP d x6;have pj:kY d (x,x1,x2,(fP w).1,x5) (bM d x6) x7 h.2.1 h.2.2.2.2.2.1=ig w:=by rw[← e3,hw];rfl
   have hS:jc w=(x,IntKind.i64.wrap (x1+1),qw x2 (bM d x6),(fP w).1,x5):=by rw[← e3,hw];rfl
   refine bt (λh4=>?_) (λh4=>?_)
   .refine⟨hin,h4,hin,h4,_,_,_,⟨eg,hne,?_⟩,rfl,rfl,pj,aM⟩;rw[hS,EV h4];rfl
   .refine⟨_,_,_,⟨eg,hne,?_⟩,rfl,rfl,pj,aM⟩;rw[hS,PW h4];rfl
  .rintro k l t ⟨eg,hne,hS⟩;have e4:bw (bn (x,x1,x2,(x3,x4),x5)) h.2.2.2.2.2.1=fJ w:=by rw[hw];rfl
   have e5:(x,k,l,t,x5)=jc w:=hS;have e6:fR d (jc w) (fJ w) (dV ((fI w) (adr d (bM d x6)) 0))=gP (fI w) w:=by rw[hw];rfl
   rw[e4,e5,e6];obtain⟨f1,f2,f3⟩:=fin eg;have hlen:=PL w (adr d (bM d x6)) 0;refine⟨hne,ab,bt (λh4=>?_) (λh4=>?_)⟩
   .refine⟨hb,?_,f2,by rw[← f3,hw];rfl,rfl⟩;rw[← f1];unfold je;rw[am h4,hw];rfl
   .refine⟨hb,?_,f2,by rw[← f3,hw];rfl,rfl⟩;rw[← f1];unfold je;rw[af h4,hw];rfl
theorem VC:aD 244 LH.spec:=aH Tryz.func244 (au (au (au (au (au (au (au (au aE LG) Ij) MJ) Gx) Kg) K8) Gn) Nl) aW3 Up
def KB:Ct:=⟨[.box 245 pI,.fn 274 3,.box 243 .ali,.box 3 cI,.box 3 cI,.val cy],[.agg uG,.val cI],λd=>[oI d.1],λd=>(((dC (fA d.1 d.2.2.2.1 d.2.2.2.2.1) (kH d.1 d.2.2.2.1 d.2.2.2.2.1) d.1 d.2.2.2.2.2.1).2.1,(dC (fA d.1 d.2.2.2.1 d.2.2.2.2.1) (kH d.1 d.2.2.2.1 d.2.2.2.2.1) d.1 d.2.2.2.2.2.1).2.2,()),(iU d.1 (dC (fA d.1 d.2.2.2.1 d.2.2.2.2.1) (kH d.1 d.2.2.2.1 d.2.2.2.2.1) d.1 d.2.2.2.2.2.1).1,(),d.2.2.2.1,d.2.2.2.2.1,()))⟩
def aw4:bu KB.ps->bS:=(λd=>{cuts:=(bm 17 (λS=>{ι:=Int×ad×(Int×Int),qn:=qU,inv:=λi=>dC (fA d.1 d.2.2.2.1 d.2.2.2.2.1) (kH d.1 d.2.2.2.1 d.2.2.2.2.1) d.1 d.2.2.2.2.2.1=(dq (jc d.1) (fJ d.1),(gP (fA d.1 d.2.2.2.1 d.2.2.2.2.1) d.1,(fA d.1 d.2.2.2.1 d.2.2.2.2.1) (je (fA d.1 d.2.2.2.1 d.2.2.2.2.1) d.1 d.2.2.2.2.2.1) (ig d.1)),2)/\(fJ d.1).2.1≠[]/\(bn d.1.2.1,i.1,i.2.1,i.2.2,i9 d.1.2.1)=jc d.1,keep:=[0,1,2,6,9,11],slots:=λi=>[(8,.int .i64 (bM d.1.1 d.1.2.2.1)),(13,.int .i64 (ig d.1))],keepN:=[112,192,560,1048577,1048578,1048579],names:=λi=>[(1048576,.live (.cells 245 (cR bN d.1.1++([.dsl cJ (bn d.1.2.1),.int .i64 i.1,.own 524288 1]++(cR ob i.2.2++([.int .i64 (i9 d.1.2.1),.int .i64 d.1.2.2.1,.int .i64 d.1.2.2.2.1,.dsl bz d.1.2.2.2.2.1]++cR lX d.1.2.2.2.2.2)))))),(524288,.live (.row 3 cI i.2.1))]}) ci)})
def mn(a:ar)(b:List aG)(c:Int)(d:ad)(e f g h i:Int)(j:ad)(k:dg)(l m n:Int) :=
 dC (fA (a,(b,c,d,(e,f),g),h,i,j,k) l m) (kH (a,(b,c,d,(e,f),g),h,i,j,k) l m) (a,(b,c,d,(e,f),g),h,i,j,k) n
def IL(a:ar)(b:List aG)(c:Int)(d:ad)(e f g h i:Int)(j:ad)(k:dg)(l m n:Int) :=
 (dq (jc (a,(b,c,d,(e,f),g),h,i,j,k)) (fJ (a,(b,c,d,(e,f),g),h,i,j,k)),(gP (fA (a,(b,c,d,(e,f),g),h,i,j,k) l m) (a,(b,c,d,(e,f),g),h,i,j,k),fA (a,(b,c,d,(e,f),g),h,i,j,k) l m (je (fA (a,(b,c,d,(e,f),g),h,i,j,k) l m) (a,(b,c,d,(e,f),g),h,i,j,k) n) (ig (a,(b,c,d,(e,f),g),h,i,j,k))),(2:Int))
def Fg(a:ar)(b:List aG)(c:Int)(d:ad)(e f g h i:Int)(j:ad)(k:dg)(l m n p:Int)(q:ad)(r:Int×Int) :=
 dC (fA (a,(b,c,d,(e,f),g),h,i,j,k) l m) (kH (a,(b,c,d,(e,f),g),h,i,j,k) l m) (a,(b,c,d,(e,f),g),h,i,j,k) n=(IL a b c d e f g h i j k l m n)/\(fJ (a,(b,c,d,(e,f),g),h,i,j,k)).2.1≠([]:ad)/\(bn (b,c,d,(e,f),g),p,q,r,i9 (b,c,d,(e,f),g))=jc (a,(b,c,d,(e,f),g),h,i,j,k)
theorem Z7 :
 ∀(a:ar)(b:List aG)(c:Int)(d:ad)(e f g h i:Int)(j:ad)(k:dg)(l m n:Int),(CT.wf bN a/\((b.length<=maxLen/\ ∀(o:aG),o∈b->((0<=o.1.1/\o.1.1<=4294967295)/\aj o.1.2)/\(o.2.1.length<=maxLen/\ ∀(p:Int),p∈o.2.1->aj p)/\aj o.2.2)/\aj c/\(d.length<=maxLen/\ ∀(o:Int),o∈d->aj o)/\(aj e/\aj f)/\aj g)/\aj h/\aj i/\(j.length<=maxLen/\ ∀(o:Int),o∈j->0<=o/\o<=255)/\CT.wf lX k)/\True/\True/\aj l/\aj m/\(0<=n/\n<=4294967295)/\True->(tQ b c d e f g j)-> ∀(o:Bool),o=decide (n=0)->(ae o)/\(ae o)/\(ae o)/\(ae o)/\(aq o)/\ao (bif o then a.2.2.2.2.2.2.2.2.2.2.2.1 else false) ((m4)=(mn a b c d e f g h i j k l m n).2.1/\4=(mn a b c d e f g h i j k l m n).2.2/\(a,(b,c,d,(e,f),g),h,i,j,k)=iU (a,(b,c,d,(e,f),g),h,i,j,k) (mn a b c d e f g h i j k l m n).1/\()=()/\l=l/\m=m) ((ac j)<=1000000/\ao (! decide (kH (a,(b,c,d,(e,f),g),h,i,j,k) l m
 (0:Int)=0)) ((m4)=(mn a b c d e f g h i j k l m n).2.1/\6=(mn a b c d e f g h i j k l m n).2.2/\(a,(b,c,d,(e,f),g),h,i,j,k)=iU (a,(b,c,d,(e,f),g),h,i,j,k) (mn a b c d e f g h i j k l m n).1/\()=()/\l=l/\m=m) (cK (bn (b,c,d,(e,f),g))/\okL (bn (b,c,d,(e,f),g))/\ao (! fm (b,c,d,(e,f),g) k.2.2.2.2.2.1) ((m4)=(mn a b c d e f g h i j k l m n).2.1/\8=(mn a b c d e f g h i j k l m n).2.2/\(a,(b,c,d,(e,f),g),h,i,j,k)=iU (a,(b,c,d,(e,f),g),h,i,j,k) (mn a b c d e f g h i j k l m n).1/\()=()/\l=l/\m=m) (ao (! (mv a e f i).2) ((m4)=(mn a b c d e f g h i j k l m n).2.1/\5=(mn a b c d e f g h i j k l m n).2.2/\(a,(b,c,d,(mv a e f i).1,g),h,i,j,k)=iU (a,(b,c,d,(e,f),g),h,i,j,k) (mn a b c d e f g h i j k l m n).1/\()=()/\l=l/\m=m) (ao (decide (bM a h<(ac d))) (0<=bM a h/\bM a h<(ac d)/\0<=bM a h/\bM a h<(ac d)/\ ∃(p:Int) (q:List
 Int),∃(r:Int×Int),(Fg a b c d e f g h i j k l m n p q r)/\n=n/\bM a h=bM a h/\kY a (b,c,d,(mv a e f i).1,g) (bM a h) i k.2.1 k.2.2.2.2.2.1=ig (a,(b,c,d,(e,f),g),h,i,j,k)/\(0:Int)=0/\(dZ b c d e f g k).1.1=(dZ b c d e f g k).1.1/\(dZ b c d e f g k).1.2=(dZ b c d e f g k).1.2/\(dZ b c d e f g k).2.1=(dZ b c d e f g k).2.1/\(dZ b c d e f g k).2.2=(dZ b c d e f g k).2.2/\fA (a,(b,c,d,(e,f),g),h,i,j,k) l m (adr a (bM a h)) (0:Int)=fA (a,(b,c,d,(e,f),g),h,i,j,k) l m (adr a (bM a h))
 (0:Int)/\l=l/\m=m/\a.1=a.1/\a.2.1=a.2.1/\a.2.2.1=a.2.2.1/\a.2.2.2.1=a.2.2.2.1/\a.2.2.2.2.1=a.2.2.2.2.1/\a.2.2.2.2.2.1=a.2.2.2.2.2.1/\a.2.2.2.2.2.2.1=a.2.2.2.2.2.2.1/\a.2.2.2.2.2.2.2.1=a.2.2.2.2.2.2.2.1/\a.2.2.2.2.2.2.2.2.1=a.2.2.2.2.2.2.2.2.1/\a.2.2.2.2.2.2.2.2.2.1=a.2.2.2.2.2.2.2.2.2.1/\a.2.2.2.2.2.2.2.2.2.2.1.1=a.2.2.2.2.2.2.2.2.2.2.1.1/\a.2.2.2.2.2.2.2.2.2.2.1.2=a.2.2.2.2.2.2.2.2.2.2.1.2/\a.2.2.2.2.2.2.2.2.2.2.2.1=a.2.2.2.2.2.2.2.2.2.2.2.1/\a.2.2.2.2.2.2.2.2.2.2.2.2.1=a.2.2.2.2.2.2.2.2.2.2.2.2.1/\a.2.2.2.2.2.2.2.2.2.2.2.2.2.1=a.2.2.2.2.2.2.2.2.2.2.2.2.2.1/\a.2.2.2.2.2.2.2.2.2.2.2.2.2.2=a.2.2.2.2.2.2.2.2.2.2.2.2.2.2/\b=bn (b,c,d,(e,f),g)/\ai (c+1)=p/\(mv a e f i).1.1=r.1/\(mv a e f i).1.2=r.2/\g=i9
 (b,c,d,(e,f),g)/\h=h/\i=i/\j=j/\k.1=k.1/\k.2.1=k.2.1/\k.2.2.1=k.2.2.1/\k.2.2.2.1=k.2.2.2.1/\k.2.2.2.2.1=k.2.2.2.2.1/\k.2.2.2.2.2.1=k.2.2.2.2.2.1/\k.2.2.2.2.2.2=k.2.2.2.2.2.2/\set d (toNat (bM a h)) (ai (ah d (bM a h)+1))=q/\True) (∃(p:Int) (q:ad),∃(r:Int×Int),(Fg a b c d e f g h i j k l m n p q r)/\n=n/\bM a h=bM a h/\kY a (b,c,d,(mv a e f i).1,g) (bM a h) i k.2.1 k.2.2.2.2.2.1=ig (a,(b,c,d,(e,f),g),h,i,j,k)/\(0:Int)=0/\(dZ b c d e f g k).1.1=(dZ b c d e f g k).1.1/\(dZ b c d e f g k).1.2=(dZ b c d e f g k).1.2/\(dZ b c d e f g k).2.1=(dZ b c d e f g k).2.1/\(dZ b c d e f g k).2.2=(dZ b c d e f g k).2.2/\fA (a,(b,c,d,(e,f),g),h,i,j,k) l m (adr a (bM a h)) (0:Int)=fA (a,(b,c,d,(e,f),g),h,i,j,k) l m (adr a (bM a h))
 (0:Int)/\l=l/\m=m/\a.1=a.1/\a.2.1=a.2.1/\a.2.2.1=a.2.2.1/\a.2.2.2.1=a.2.2.2.1/\a.2.2.2.2.1=a.2.2.2.2.1/\a.2.2.2.2.2.1=a.2.2.2.2.2.1/\a.2.2.2.2.2.2.1=a.2.2.2.2.2.2.1/\a.2.2.2.2.2.2.2.1=a.2.2.2.2.2.2.2.1/\a.2.2.2.2.2.2.2.2.1=a.2.2.2.2.2.2.2.2.1/\a.2.2.2.2.2.2.2.2.2.1=a.2.2.2.2.2.2.2.2.2.1/\a.2.2.2.2.2.2.2.2.2.2.1.1=a.2.2.2.2.2.2.2.2.2.2.1.1/\a.2.2.2.2.2.2.2.2.2.2.1.2=a.2.2.2.2.2.2.2.2.2.2.1.2/\a.2.2.2.2.2.2.2.2.2.2.2.1=a.2.2.2.2.2.2.2.2.2.2.2.1/\a.2.2.2.2.2.2.2.2.2.2.2.2.1=a.2.2.2.2.2.2.2.2.2.2.2.2.1/\a.2.2.2.2.2.2.2.2.2.2.2.2.2.1=a.2.2.2.2.2.2.2.2.2.2.2.2.2.1/\a.2.2.2.2.2.2.2.2.2.2.2.2.2.2=a.2.2.2.2.2.2.2.2.2.2.2.2.2.2/\b=bn (b,c,d,(e,f),g)/\ai (c+1)=p/\(mv a e f i).1.1=r.1/\(mv a e f i).1.2=r.2/\g=i9
 (b,c,d,(e,f),g)/\h=h/\i=i/\j=j/\k.1=k.1/\k.2.1=k.2.1/\k.2.2.1=k.2.2.1/\k.2.2.2.1=k.2.2.2.1/\k.2.2.2.2.1=k.2.2.2.2.1/\k.2.2.2.2.2.1=k.2.2.2.2.2.1/\k.2.2.2.2.2.2=k.2.2.2.2.2.2/\d=q/\True)/\ ∀(p:Int)(q:ad)(r:Int×Int),dC (fA (a,(b,c,d,(e,f),g),h,i,j,k) l m) (kH (a,(b,c,d,(e,f),g),h,i,j,k) l m) (a,(b,c,d,(e,f),g),h,i,j,k) n=(IL a b c d e f g h i j k l m n)/\(fJ (a,(b,c,d,(e,f),g),h,i,j,k)).2.1≠([]:ad)/\(bn (b,c,d,(e,f),g),p,q,r,i9 (b,c,d,(e,f),g))=jc (a,(b,c,d,(e,f),g),h,i,j,k)->(dZ b c d e f g k).2.1≠([]:ad)/\((length (fA (a,(b,c,d,(e,f),g),h,i,j,k) l m (adr a (bM a h)) (0:Int))):Int)<=1000000/\ao (decide (n=0)) ((ac j)<=1000000/\(fR a (b,p,q,r,g) (dZ b c d e f g k) (dV (fA (a,(b,c,d,(e,f),g),h,i,j,k) l m (adr a (bM a h)) (0:Int))),fA (a,dq (b,p,q,r,g) (dZ b c d e f g k),h,i,j,k) l m (kx a (bM a h) (fR a
 (b,p,q,r,g) (dZ b c d e f g k) (dV (fA (a,(b,c,d,(e,f),g),h,i,j,k) l m (adr a (bM a h)) (0:Int))))) (ig (a,(b,c,d,(e,f),g),h,i,j,k)))=(mn a b c d e f g h i j k l m n).2.1/\2=(mn a b c d e f g h i j k l m n).2.2/\(a,dq (b,p,q,r,g) (dZ b c d e f g k),h,i,j,k)=iU (a,(b,c,d,(e,f),g),h,i,j,k) (mn a b c d e f g h i j k l m n).1/\()=()/\l=l/\m=m) ((ac j)<=1000000/\(fR a (b,p,q,r,g) (dZ b c d e f g k) (dV (fA (a,(b,c,d,(e,f),g),h,i,j,k) l m (adr a (bM a h)) (0:Int))),fA (a,dq (b,p,q,r,g) (dZ b c d e f g k),h,i,j,k) l m n (ig (a,(b,c,d,(e,f),g),h,i,j,k)))=(mn a b c d e f g h i j k l m n).2.1/\2=(mn a b c d e f g h i j k l m n).2.2/\(a,dq (b,p,q,r,g) (dZ b c d e f g k),h,i,j,k)=iU (a,(b,c,d,(e,f),g),h,i,j,k) (mn a b c d e f g h i j k l m n).1/\()=()/\l=l/\m=m))))):=by
  delta mn dZ IL mv m4 tQ Fg ae aq ai ah ac;rintro d x x1 x2 x3 x4 x5 x6 x7 x8 h ki co own-⟨hs,hl,hb⟩;obtain⟨w,hw⟩:∃ w:dL,w=(d,(x,x1,x2,(x3,x4),x5),x6,x7,x8,h):=⟨_,rfl⟩
  have e0:d.2.2.2.2.2.2.2.2.2.2.2.1=jU w.1:=by rw[hw];rfl
  have e2:fm (x,x1,x2,(x3,x4),x5) h.2.2.2.2.2.1=fm w.2.1 (lS w.2.2.2.2.2):=by rw[hw];rfl
  have e3:gm d.2.2.2.2.2.2.2.2.2.2.1 (x3,x4) x7=fP w:=by rw[hw];rfl
  rw[e0,e2,e3,← hw];have fin:=λ{s o y}=>DT (r:=dC (fA w ki co) (kH w ki co) w own) (s:=s) (o:=o) (y:=y) w;intro b hb0
  (repeat refine⟨(by first|(simp;done)|(rw[hb0];simp;done)|(cases b <;> simp)),?_⟩);have hq:(bif b then jU w.1 else false)=true↔own=0/\jU w.1=true:=by rw[hb0];by_cases k:own=0 <;> simp[k]
  refine av (λh0=>?_) (λh0=>?_)
  .obtain⟨f1,f2,f3⟩:=fin (vW (hq.1 h0));exact⟨f1,f2,by rw[← f3,hw];rfl,rfl,rfl,rfl⟩
  have h0:¬ (own=0/\jU w.1=true):=λk=>by rw[hq.2 k] at h0;cases h0
  refine⟨hb,av (λh1=>?_) (λh1=>?_)⟩
  .obtain⟨f1,f2,f3⟩:=fin (vU h0 (by simpa using h1));exact⟨f1,f2,by rw[← f3,hw];rfl,rfl,rfl,rfl⟩
  have h1:¬ (kH w ki co) 0≠0:=by simpa using h1
  refine⟨hs,hl,av (λh2=>?_) (λh2=>?_)⟩
  .obtain⟨f1,f2,f3⟩:=fin (xh h0 h1 (by simpa using h2));exact⟨f1,f2,by rw[← f3,hw];rfl,rfl,rfl,rfl⟩
  have h2:¬ fm w.2.1 (lS w.2.2.2.2.2)=false:=by simpa using h2
  refine av (λh3=>?_) (λh3=>⟨?_,?_⟩)
  .obtain⟨f1,f2,f3⟩:=fin (wX h0 h1 h2 (by simpa using h3));exact⟨f1,f2,by rw[← f3,hw];rfl,rfl,rfl,rfl⟩
  .have h3:¬ (fP w).2=false:=by simpa using h3
   have eg:=wE (B:=fA w ki co) h0 h1 h2 h3;have hne:(fJ w).2.1≠[]:=wN h2;have hin:=AP d x6;have pj:kY d (x,x1,x2,(fP w).1,x5) (bM d x6) x7 h.2.1 h.2.2.2.2.2.1=ig w:=by rw[← e3,hw];rfl
   have hS:jc w=(x,IntKind.i64.wrap (x1+1),qw x2 (bM d x6),(fP w).1,x5):=by rw[← e3,hw];rfl
   refine bt (λh4=>?_) (λh4=>?_)
   .refine⟨hin,h4,hin,h4,_,_,_,⟨eg,hne,?_⟩,rfl,rfl,pj,aM⟩;rw[hS,EV h4];rfl
   .refine⟨_,_,_,⟨eg,hne,?_⟩,rfl,rfl,pj,aM⟩;rw[hS,PW h4];rfl
  .rintro k l t ⟨eg,hne,hS⟩;have e4:bw (bn (x,x1,x2,(x3,x4),x5)) h.2.2.2.2.2.1=fJ w:=by rw[hw];rfl
   have e5:(x,k,l,t,x5)=jc w:=hS;have e6:fR d (jc w) (fJ w) (dV ((fA w ki co) (adr d (bM d x6)) 0))=gP (fA w ki co) w:=by rw[hw];rfl
   rw[e4,e5,e6];obtain⟨f1,f2,f3⟩:=fin eg;have hlen:=IJ w ki co (adr d (bM d x6)) 0;refine⟨hne,ab,bt (λh4=>?_) (λh4=>?_)⟩
   .refine⟨hb,?_,f2,by rw[← f3,hw];rfl,rfl,rfl,rfl⟩;rw[← f1];unfold je;rw[am h4,hw];rfl
   .refine⟨hb,?_,f2,by rw[← f3,hw];rfl,rfl,rfl,rfl⟩;rw[← f1];unfold je;rw[af h4,hw];rfl
theorem al5:aD 244 KB.spec:=aH Tryz.func244 (au (au (au (au (au (au (au (au aE LG) Ij) VU) Gx) Kg) K8) Gn) Nl) aw4 Z7
def aX4:Ct:=⟨[.box 245 pI],[.agg uG,.val cI],λd=>[oI d.1],λd=>(((ij d.1).2.1,(ij d.1).2.2,()),(iU d.1 (ij d.1).1,()))⟩
def Cd(a:ar)(b:List aG)(c:Int)(d:ad)(e f g h i:Int)(j:ad)(k:dg) :=
 dC (fI (a,(b,c,d,(e,f),g),h,i,j,k)) (jq (a,(b,c,d,(e,f),g),h,i,j,k)) (a,(b,c,d,(e,f),g),h,i,j,k) k.2.2.2.2.2.2
def Cs(a:ar)(b:List aG)(c:Int)(d:ad)(e f g h i:Int)(j:ad)(k:dg) :=
 dC (fI (a,(b,c,d,(e,f),g),h,i,j,k)) (jq (a,(b,c,d,(e,f),g),h,i,j,k)) (a,(b,c,d,(e,f),g),h,i,j,k) (0:Int)
theorem ZJ :
 ∀(a:ar)(b:List aG)(c:Int)(d:ad)(e f g h i:Int)(j:ad)(k:dg),(vM a b c d e f g h i j k)/\True->(tQ b c d e f g j)->(ac j)<=1000000/\ ∀(l:Bool),l=decide (h= -1)->(ae (! l))/\(aF l)/\ao (bif l then true else ! decide (jq (a,(b,c,d,(e,f),g),h,i,j,k) (0:Int)=0)) ((m4)=(ij (a,(b,c,d,(e,f),g),h,i,j,k)).2.1/\1=(ij (a,(b,c,d,(e,f),g),h,i,j,k)).2.2/\(a,(b,c,d,(e,f),g),h,i,j,k)=iU (a,(b,c,d,(e,f),g),h,i,j,k) (ij (a,(b,c,d,(e,f),g),h,i,j,k)).1) (ao (decide (k.2.2.2.1=17)) (oI (a,(b,c,d,(e,f),g),h,i,j,k)/\(Cs a b c d e f g h i j k).2.1=(ij (a,(b,c,d,(e,f),g),h,i,j,k)).2.1/\(Cs a b c d e f g h i j k).2.2=(ij (a,(b,c,d,(e,f),g),h,i,j,k)).2.2/\(a,(Cs a b c d e f g h i j k).1,h,i,j,k)=iU (a,(b,c,d,(e,f),g),h,i,j,k) (ij (a,(b,c,d,(e,f),g),h,i,j,k)).1) (oI (a,(b,c,d,(e,f),g),h,i,j,k)/\(Cd a b c d e f g h i j k).2.1=(ij
 (a,(b,c,d,(e,f),g),h,i,j,k)).2.1/\(Cd a b c d e f g h i j k).2.2=(ij (a,(b,c,d,(e,f),g),h,i,j,k)).2.2/\(a,(Cd a b c d e f g h i j k).1,h,i,j,k)=iU (a,(b,c,d,(e,f),g),h,i,j,k) (ij (a,(b,c,d,(e,f),g),h,i,j,k)).1)):=by
  delta vM m4 tQ Cd Cs ae aF ac;rintro d x x1 x2 x3 x4 x5 x6 x7 x8 h-⟨hs,hl,hb⟩;obtain⟨w,hw⟩:∃ w:dL,w=(d,(x,x1,x2,(x3,x4),x5),x6,x7,x8,h):=⟨_,rfl⟩
  rw[← hw];have fin:=λ{s o y}=>DT (r:=ij w) (s:=s) (o:=o) (y:=y) w;have e0:w.2.2.1=x6:=by rw[hw]
  have e1:h=w.2.2.2.2.2:=by rw[hw]
  have okw:oI w:=by rw[hw];exact⟨hs,hl,hb⟩
  refine⟨hb,?_⟩
  (repeat (refine bO ?_;repeat refine bP ?_));refine oT (λho=>?_) (λh1 h2=>?_)
  .obtain⟨f1,f2,f3⟩:=fin (s:=w.2.1) (o:=iw) (y:=1) (by unfold ij;rw[am];rcases ho with q|q;left;rw[e0];exact aL q;right;simpa using q);exact⟨f1,f2,by rw[← f3,hw];rfl⟩
  have hn:¬ (w.2.2.1 = -1∨jq w 0≠0):=by
   rintro (q|q)
   .rw[e0] at q;exact aO h1 q
   .apply q;simpa using h2
  have er:ij w=dC (fI w) (jq w) w (if h.2.2.2.1=17 then 0 else h.2.2.2.2.2.2):=by unfold ij;rw[af hn,e1];rfl
  rw[er];refine bt (λh3=>?_) (λh3=>?_)
  .rw[am h3];exact⟨okw,rfl,rfl,by rw[hw];rfl⟩
  .rw[af h3];exact⟨okw,rfl,rfl,by rw[hw];rfl⟩
theorem Z6:aD 217 aX4.spec:=aH Tryz.func217 (au (au aE MJ) VC) aR ZJ
def Z8:Ct:=⟨[.box 245 pI],[.agg uG,.val cI],λd=>[oI d.1],λd=>(((eG d.1).2.1,(eG d.1).2.2,()),(iU d.1 (eG d.1).1,()))⟩
def Cw(a:ar)(b:List aG)(c:Int)(d:ad)(e f g h i:Int)(j:ad)(k:dg) :=
 dC (fA (a,(b,c,d,(e,f),g),h,i,j,k) (11:Int) (0:Int)) (kH (a,(b,c,d,(e,f),g),h,i,j,k) (11:Int) (0:Int)) (a,(b,c,d,(e,f),g),h,i,j,k) (0:Int)
def Cx(a:ar)(b:List aG)(c:Int)(d:ad)(e f g h i:Int)(j:ad)(k:dg) :=
 dC (fA (a,(b,c,d,(e,f),g),h,i,j,k) (3:Int) (0:Int)) (kH (a,(b,c,d,(e,f),g),h,i,j,k) (3:Int) (0:Int)) (a,(b,c,d,(e,f),g),h,i,j,k) (0:Int)
theorem Ve :
 ∀(a:ar)(b:List aG)(c:Int)(d:ad)(e f g h i:Int)(j:ad)(k:dg),(vM a b c d e f g h i j k)/\True->(tQ b c d e f g j)-> ∀(l:Bool),l= ! decide (h= -1)->(ae l)/\(ae l)/\(ae l)/\(ae l)/\(ae l)/\(aq l)/\ ∀(m:Bool),(m=bif l then ! a.2.2.2.2.2.2.2.2.2.2.2.2.1 else false)->(ae m)/\(ae m)/\(ae m)/\(ae m)/\(ae m)/\(aq m)/\ao (bif m then decide (k.2.2.1<2) else false) (oI (a,(b,c,d,(e,f),g),h,i,j,k)/\(Cw a b c d e f g h i j k).2.1=(eG (a,(b,c,d,(e,f),g),h,i,j,k)).2.1/\(Cw a b c d e f g h i j k).2.2=(eG (a,(b,c,d,(e,f),g),h,i,j,k)).2.2/\(a,(Cw a b c d e f g h i j k).1,h,i,j,k)=iU (a,(b,c,d,(e,f),g),h,i,j,k) (eG (a,(b,c,d,(e,f),g),h,i,j,k)).1) (cK (bn (b,c,d,(e,f),g))/\okL (bn (b,c,d,(e,f),g))/\ ∀(n:Bool),n= ! fm (b,c,d,(e,f),g) k.2.2.2.2.2.2->(aq n)/\ao (bif n then decide (h= -1) else false) ((m4)=(eG
 (a,(b,c,d,(e,f),g),h,i,j,k)).2.1/\8=(eG (a,(b,c,d,(e,f),g),h,i,j,k)).2.2/\(a,(b,c,d,(e,f),g),h,i,j,k)=iU (a,(b,c,d,(e,f),g),h,i,j,k) (eG (a,(b,c,d,(e,f),g),h,i,j,k)).1) (ao (! fm (b,c,d,(e,f),g) k.2.2.2.2.2.2) (oI (a,(b,c,d,(e,f),g),h,i,j,k)/\(Cx a b c d e f g h i j k).2.1=(eG (a,(b,c,d,(e,f),g),h,i,j,k)).2.1/\(Cx a b c d e f g h i j k).2.2=(eG (a,(b,c,d,(e,f),g),h,i,j,k)).2.2/\(a,(Cx a b c d e f g h i j k).1,h,i,j,k)=iU (a,(b,c,d,(e,f),g),h,i,j,k) (eG (a,(b,c,d,(e,f),g),h,i,j,k)).1) ((bw (bn (b,c,d,(e,f),g)) k.2.2.2.2.2.2).2.1≠([]:ad)/\(ac j)<=1000000/\j=j/\j=j/\(ac j)<=1099511627776/\ ∀(o:Bool),o= ! decide (h= -1)->(ae o)/\(ae o)/\(ae o)/\(ae o)/\(ae o)/\(aq o)/\ao (bif o then ! a.2.2.2.2.2.2.2.2.2.2.2.2.1 else false) ((ac j)<=1099511627776/\(fR a (b,c,d,(e,f),g) (bw (bn (b,c,d,(e,f),g)) k.2.2.2.2.2.2) (dV j),gU j)=(eG
 (a,(b,c,d,(e,f),g),h,i,j,k)).2.1/\0=(eG (a,(b,c,d,(e,f),g),h,i,j,k)).2.2/\(a,dq (b,c,d,(e,f),g) (bw (bn (b,c,d,(e,f),g)) k.2.2.2.2.2.2),h,i,j,k)=iU (a,(b,c,d,(e,f),g),h,i,j,k) (eG (a,(b,c,d,(e,f),g),h,i,j,k)).1) ((fR a (b,c,d,(e,f),g) (bw (bn (b,c,d,(e,f),g)) k.2.2.2.2.2.2) (dV j),j)=(eG (a,(b,c,d,(e,f),g),h,i,j,k)).2.1/\0=(eG (a,(b,c,d,(e,f),g),h,i,j,k)).2.2/\(a,dq (b,c,d,(e,f),g) (bw (bn (b,c,d,(e,f),g)) k.2.2.2.2.2.2),h,i,j,k)=iU (a,(b,c,d,(e,f),g),h,i,j,k) (eG (a,(b,c,d,(e,f),g),h,i,j,k)).1)))):=by
  delta vM m4 tQ Cw Cx ae aq ac;rintro d x x1 x2 x3 x4 x5 x6 x7 x8 h-⟨hs,hl,hb⟩;obtain⟨w,hw⟩:∃ w:dL,w=(d,(x,x1,x2,(x3,x4),x5),x6,x7,x8,h):=⟨_,rfl⟩
  have e0:d.2.2.2.2.2.2.2.2.2.2.2.2.1=dY w.1:=by rw[hw];rfl
  have e2:fm (x,x1,x2,(x3,x4),x5) h.2.2.2.2.2.2=fm w.2.1 (f9 w.2.2.2.2.2):=by rw[hw];rfl
  have e3:x6=w.2.2.1:=by rw[hw]
  have e4:h.2.2.1=sJ w.2.2.2.2.2:=by rw[hw];rfl
  have e5:bw (bn (x,x1,x2,(x3,x4),x5)) h.2.2.2.2.2.2=bw (bn w.2.1) (f9 w.2.2.2.2.2):=by rw[hw];rfl
  have okw:oI w:=by rw[hw];exact⟨hs,hl,hb⟩
  have fin:=λ{s o y}=>DT (r:=eG w) (s:=s) (o:=o) (y:=y) w;rw[← hw,e0,e2,e4,e5];intro b hb0
  (repeat refine⟨(by first|(simp;done)|(rw[hb0];simp;done)|(cases b <;> simp)),?_⟩);intro b1 hb1
  (repeat refine⟨(by first|(simp;done)|(rw[hb1];simp;done)|(cases b1 <;> simp)|(cases b <;> cases b1 <;> simp)),?_⟩);have h1b:b1=true↔w.2.2.1 ≠ -1/\dY w.1=false:=by rw[hb1,hb0,e3];by_cases k:w.2.2.1 = -1 <;> cases dY w.1 <;> simp[k]
  have hq:(bif b1 then decide (sJ w.2.2.2.2.2<2) else false)=true↔w.2.2.1 ≠ -1/\dY w.1=false/\sJ w.2.2.2.2.2<2:=by
   rw[← and_assoc,← h1b];cases b1 <;> simp
  refine av (λk1=>?_) (λk1=>?_)
  .have e:eG w=dC (fA w 11 0) (kH w 11 0) w 0:=by unfold eG;rw[am (hq.1 k1)]
   rw[e];exact⟨okw,rfl,rfl,by rw[hw];rfl⟩
  have k1:¬ (w.2.2.1 ≠ -1/\dY w.1=false/\sJ w.2.2.2.2.2<2):=λk=>by rw[hq.2 k] at k1;cases k1
  refine⟨hs,hl,?_⟩;intro c hc
  (repeat refine⟨(by first|(simp;done)|(rw[hc];simp;done)|(cases c <;> simp)),?_⟩);refine av (λk2=>?_) (λk2=>?_)
  .have q:fm w.2.1 (f9 w.2.2.2.2.2)=false/\w.2.2.1 = -1:=by
    rw[hc,e3] at k2;cases hh:fm w.2.1 (f9 w.2.2.2.2.2) with
    | true=>rw[hh] at k2;simp at k2
    | false=>rw[hh] at k2;exact⟨rfl,by simpa using k2⟩
   obtain⟨f1,f2,f3⟩:=fin (s:=w.2.1) (o:=iw) (y:=8) (by unfold eG;rw[af k1,am q.1,am q.2]);exact⟨f1,f2,by rw[← f3,hw];rfl⟩
  refine av (λk3=>?_) (λk3=>?_)
  .have k3:fm w.2.1 (f9 w.2.2.2.2.2)=false:=by simpa using k3
   have q:¬ w.2.2.1 = -1:=λq=>by rw[hc,k3,e3,q] at k2;simp at k2
   have e:eG w=dC (fA w 3 0) (kH w 3 0) w 0:=by unfold eG;rw[af k1,am k3,af q]
   rw[e];exact⟨okw,rfl,rfl,by rw[hw];rfl⟩
  have k3:¬ fm w.2.1 (f9 w.2.2.2.2.2)=false:=by simpa using k3
  refine⟨wN k3,hb,?_⟩;clear h1b hq
  (repeat refine⟨(by first|(with_reducible rfl)|trivial|omega),?_⟩);intro b' hb0'
  (repeat refine⟨(by first|(simp;done)|(rw[hb0'];simp;done)|(cases b' <;> simp)),?_⟩);have hq:(bif b' then !dY w.1 else false)=true↔w.2.2.1 ≠ -1/\dY w.1=false:=by rw[hb0',e3];by_cases k:w.2.2.1 = -1 <;> cases dY w.1 <;> simp[k]
  have e:eG w=(dq w.2.1 (bw (bn w.2.1) (f9 w.2.2.2.2.2)),(fR w.1 w.2.1 (bw (bn w.2.1) (f9 w.2.2.2.2.2)) (dV w.2.2.2.2.1),if w.2.2.1 ≠ -1/\dY w.1=false then gU w.2.2.2.2.1 else w.2.2.2.2.1),0):=by unfold eG;rw[af k1,af k3]
  obtain⟨f1,f2,f3⟩:=fin e;refine av (λk4=>?_) (λk4=>?_)
  .refine⟨ab,?_,f2,by rw[← f3,hw];rfl⟩;rw[← f1,am (hq.1 k4),hw]
  .refine⟨?_,f2,by rw[← f3,hw];rfl⟩;rw[← f1,af (λk=>by rw[hq.2 k] at k4;cases k4),hw]
theorem YB:aD 218 Z8.spec:=aH Tryz.func218 (au (au (au (au (au (au aE az6) al5) Gx) Gn) ZT) sZ) aR Ve
def aL1:Ct:=⟨[.box 245 pI],[.agg uG,.val cI],λd=>[oI d.1],λd=>(((gw d.1).2.1,(gw d.1).2.2,()),((d.1.1,(gw d.1).1,d.1.2.2.1,d.1.2.2.2.1,d.1.2.2.2.2.1,(aP d.1.2.2.2.2.1).1),()))⟩
theorem Xj :
 ∀(a:ar)(b:List aG)(c:Int)(d:ad)(e f g h i:Int)(j:ad)(k:dg),(vM a b c d e f g h i j k)/\True->(tQ b c d e f g j)->(ac j)<=1099511627776/\ao (! decide (bT j=0)) ((m4)=(gw (a,(b,c,d,(e,f),g),h,i,j,k)).2.1/\6=(gw (a,(b,c,d,(e,f),g),h,i,j,k)).2.2/\(a,(b,c,d,(e,f),g),h,i,j,(aP j).1)=(a,(gw (a,(b,c,d,(e,f),g),h,i,j,k)).1,h,i,j,(aP j).1)) (ao (fH a (aP j).1.2.2.2.2.2.2) (oI (a,(b,c,d,(e,f),g),h,i,j,(aP j).1)/\(ij (a,(b,c,d,(e,f),g),h,i,j,(aP j).1)).2.1=(gw (a,(b,c,d,(e,f),g),h,i,j,k)).2.1/\(ij (a,(b,c,d,(e,f),g),h,i,j,(aP j).1)).2.2=(gw (a,(b,c,d,(e,f),g),h,i,j,k)).2.2/\(a,(ij (a,(b,c,d,(e,f),g),h,i,j,(aP j).1)).1,h,i,j,(aP j).1)=(a,(gw (a,(b,c,d,(e,f),g),h,i,j,k)).1,h,i,j,(aP j).1)) (∀(l:Bool),l=a.2.2.2.1->(ae l)/\(ae l)/\(ae l)/\(ae l)/\(aq l)/\ao (bif l then ! decide (h= -1) else false)
 ((m4)=(gw (a,(b,c,d,(e,f),g),h,i,j,k)).2.1/\6=(gw (a,(b,c,d,(e,f),g),h,i,j,k)).2.2/\(a,(b,c,d,(e,f),g),h,i,j,(aP j).1)=(a,(gw (a,(b,c,d,(e,f),g),h,i,j,k)).1,h,i,j,(aP j).1)) (oI (a,(b,c,d,(e,f),g),h,i,j,(aP j).1)/\(eG (a,(b,c,d,(e,f),g),h,i,j,(aP j).1)).2.1=(gw (a,(b,c,d,(e,f),g),h,i,j,k)).2.1/\(eG (a,(b,c,d,(e,f),g),h,i,j,(aP j).1)).2.2=(gw (a,(b,c,d,(e,f),g),h,i,j,k)).2.2/\(a,(eG (a,(b,c,d,(e,f),g),h,i,j,(aP j).1)).1,h,i,j,(aP j).1)=(a,(gw (a,(b,c,d,(e,f),g),h,i,j,k)).1,h,i,j,(aP j).1)))):=by
  delta vM m4 tQ ae aq ac;rintro d x x1 x2 x3 x4 x5 x6 x7 x8 h-⟨hs,hl,hb⟩;refine⟨ab,av (λh1=>?_) (λh1=>?_)⟩
  .have e:gw (d,(x,x1,x2,(x3,x4),x5),x6,x7,x8,h)=((x,x1,x2,(x3,x4),x5),iw,6):=by unfold gw;rw[am (by simpa using h1)]
   rw[e];exact⟨rfl,rfl,rfl⟩
  have h1:¬ bT x8≠0:=by simpa using h1
  refine av (λh2=>?_) (λh2=>?_)
  .have e:gw (d,(x,x1,x2,(x3,x4),x5),x6,x7,x8,h)=ij (d,(x,x1,x2,(x3,x4),x5),x6,x7,x8,(aP x8).1):=by unfold gw;rw[af h1];exact am h2
   rw[e];exact⟨⟨hs,hl,hb⟩,rfl,rfl,rfl⟩
  have h2:¬ fH d (f9 (aP x8).1)=true:=by show ¬ fH d (aP x8).1.2.2.2.2.2.2=true;rw[h2];simp
  intro b hb0
  (repeat refine⟨(by first|(simp;done)|(rw[hb0];simp;done)|(cases b <;> simp)),?_⟩);have hq:(bif b then !decide (x6 = -1) else false)=true↔mS d=true/\x6 ≠ -1:=by rw[hb0];show (bif d.2.2.2.1 then _ else _)=true↔d.2.2.2.1=true/\_;cases d.2.2.2.1 <;> simp
  refine av (λh3=>?_) (λh3=>?_)
  .have e:gw (d,(x,x1,x2,(x3,x4),x5),x6,x7,x8,h)=((x,x1,x2,(x3,x4),x5),iw,6):=by unfold gw;rw[af h1,af h2];exact am (hq.1 h3)
   rw[e];exact⟨rfl,rfl,rfl⟩
  .have e:gw (d,(x,x1,x2,(x3,x4),x5),x6,x7,x8,h)=eG (d,(x,x1,x2,(x3,x4),x5),x6,x7,x8,(aP x8).1):=by unfold gw;rw[af h1,af h2];exact af (λk=>by rw[hq.2 k] at h3;cases h3)
   rw[e];exact⟨⟨hs,hl,hb⟩,rfl,rfl,rfl⟩
theorem UF:aD 175 aL1.spec:=aH Tryz.func175 (au (au (au (au aE CI) UJ) Z6) YB) aR Xj
def ar7:Ct:=⟨[.val (.sl cJ)],[.own 93 cJ],λd=>[(d.1.length:Int)<=134217728],λd=>((d.1,()),())⟩
theorem am6 :
 ∀(a:List aG),(a.length<=maxLen/\ ∀(b:aG),b∈a->((0<=b.1.1/\b.1.1<=4294967295)/\aj b.1.2)/\(b.2.1.length<=maxLen/\ ∀(c:Int),c∈b.2.1->aj c)/\aj b.2.2)/\True->(ac a)<=134217728-> ∀(b:Bool),(b=true->a.length=(0:Nat))->ao b (([]:List aG)=a) (((0:Nat)+a.length)*(48:Nat)<=(140737488355328:Nat)/\a=a):=by
  delta ac;rintro x ⟨⟨hl,-⟩,-⟩ h b hb;refine av (λh1=>?_) (λh1=>⟨ab,aC⟩);have:=hb h1;exact (nI this).symm
theorem L6:aD 151 ar7.spec:=aH Tryz.func151 aE aR am6
abbrev gh:CT := .pair cI (.pair cI (.pair cI (.pair cI (.pair cI cI))))
abbrev ft:CT := .pair cI (.pair cI (.pair .bool cJ))
abbrev gS:CT := .pair (.sl bN) (.pair (.sl gh) (.sl ft))
abbrev aN:Type:=Int×Int×Int×Int×Int×Int
abbrev aT:Type:=Int×Int×Bool×Rt
abbrev cC:Type:=List ar×List aN×List aT
abbrev aZ:Type:=ad×Int
abbrev oe:Type:=Int×Int
def lA(l:aN):Int:=l.1
def lB(l:aN):Int:=l.2.1
def mL(l:aN):Int:=l.2.2.1
def iH(l:aN):Int:=l.2.2.2.1
def mP(l:aN):Int:=l.2.2.2.2.1
def uH(l:aN):Int:=l.2.2.2.2.2
theorem m7{α:Type} [Inhabited α] {l:List α} {i j:Nat} {a:α} (h:i≠j):(l.set i a).getD j default=l.getD j default:=by
 rw[ce,ce,List.getElem?_set_ne h]
def AO(c:aZ):Int:=c.1.getD c.2.toNat default
def mW(c:aZ)(n:Int):Int×aZ:=if (c.1.length:Int)<=c.2∨n<1 then (0,c) else ((AO c).tmod n,(c.1,c.2+1))
def aw(c:aZ)(n:Int):Int×aZ :=
 if (c.1.length:Int)<=c.2∨n<1 then (0,c)
 else if 256<n then ((256*AO c+(mW (c.1,c.2+1) 256).1).tmod n,(mW (c.1,c.2+1) 256).2)
 else ((AO c).tmod n,(c.1,c.2+1))
structure cV (c:aZ):Prop where
 at':ay c
 b:∀ x∈c.1,0<=x/\x<=255
theorem cV.code{c:aZ}(h:cV c)(hb:¬ (c.1.length:Int)<=c.2):0<=AO c/\AO c<=255:=h.b _ (bW h.at'.1 ab)
theorem Kp{c:aZ}(h:cV c)(n:Int):cV (mW c n).2/\0<=(mW c n).1/\((mW c n).1<n∨(mW c n).1=0):=by
 unfold mW
 split
 .exact⟨h,aC,.inr rfl⟩
 next hb=>have hc:=h.code ab;have ha:=h.at';exact⟨⟨⟨by have:=ha.1;show 0<=c.2+1;omega,by show c.2+1<=(c.1.length:Int);omega⟩,h.b⟩,sn hc.1,.inl (th hc.1 ab)⟩
theorem dk{c:aZ}(h:cV c)(n:Int):cV (aw c n).2/\0<=(aw c n).1/\((aw c n).1<n∨(aw c n).1=0):=by
 unfold aw
 split
 .exact⟨h,aC,.inr rfl⟩
 next hb=>
  have hc:=h.code ab;have ha:=h.at';have h1:cV (c.1,c.2+1):=⟨⟨by have:=ha.1;show 0<=c.2+1;omega,by show c.2+1<=(c.1.length:Int);omega⟩,h.b⟩
  split
  .have k:=Kp h1 256;exact⟨k.1,sn ab,.inl (th ab ab)⟩
  .exact⟨h1,sn hc.1,.inl (th hc.1 ab)⟩
theorem fp{c:aZ}(h:cV c){n:Int}(hn:0<n):0<=(aw c n).1/\(aw c n).1<n:=by
 have:=dk h n;omega
def rg(i:Int)(host:Bool)(f sd:Int):ar:=([],0,1+i/3,host,[],1,0,0,0,0,(0,0),false,false,f,sd)
abbrev bG:Type:=cC×aZ
def j4(s:bG)(host:Bool):bG :=
 ((s.1.1++[rg s.1.1.length host (([64,255,128]:ad).getD (aw s.2 3).1.toNat default) (aw (aw s.2 3).2 256).1],s.1.2),(aw (aw s.2 3).2 256).2)
def j5(ns:List ar)(x:Int)(p:oe):List ar:=ns.set x.toNat ((ns.getD x.toNat default).1++[p],(ns.getD x.toNat default).2)
def gA(l:Int):Int:=167837696+4*l
def ji(s:bG)(a b:Int):bG :=
 ((j5 (j5 s.1.1 a (gA s.1.2.1.length+1,s.1.2.1.length)) b (gA s.1.2.1.length+2,s.1.2.1.length),
   s.1.2.1++[(a,b,1+(aw s.2 20).1,0,0,(aw (aw s.2 20).2 256).1)],s.1.2.2),(aw (aw s.2 20).2 256).2)
def kK(k:Int):ad->ad
 | []=>[k]
 | x::r=>if k<x then k::x::r else x::kK k r
theorem Ot{k:Int}:∀{l:ad},(∀ x∈l,¬ k<x)->kK k l=l++[k]
 | [],_=>rfl
 | x::r,h=>by rw[kK,af (h x fF),Ot λy hy=>h y (fw _ hy)];rfl
theorem M0{k:Int}{m:ad}:∀{l:ad},(∃ x∈l,k<x)->kK k (l++m)=kK k l++m
 | [],h=>by obtain⟨x,hx,-⟩:=h;cases hx
 | y::r,h=>by
  rw[jS,kK,kK];by_cases hy:k<y
  .rw[am hy,am hy];rfl
  .rw[af hy,af hy,M0 (l:=r)];rfl;obtain⟨x,hx,hk⟩:=h;rcases dj.1 hx with rfl|hx
   .exact absurd hk hy
   .exact⟨x,hx,hk⟩
theorem LQ{k x:Int}:∀{l:ad},(∀ y∈l,¬ k<y)->k<x->kK k (l++[x])=l++[k]++[x]
 | [],_,h=>by rw[pH,kK,am h];rfl
 | y::r,h,hk=>by rw[jS,kK,af (h y fF),LQ (λz hz=>h z (fw _ hz)) hk];rfl
theorem FA(k:Int):∀ l:ad,(kK k l).length=l.length+1
 | []=>rfl
 | x::r=>by rw[kK];split <;> simp[FA k r]
def rH(l:List Rt)(p:d8):Nat:=l.findIdx λr=>decide (r.1=p)
def yR(x:ar)(l:List Rt):ar:=(x.1,x.2.1,x.2.2.1,x.2.2.2.1,l,x.2.2.2.2.2)
def vp(l:List Rt)(p:d8)(k way:Int):List Rt :=
 if rH l p<l.length then
  if k∈(l.getD (rH l p) default).2.1 then l else f6 l (p,kK k (l.getD (rH l p) default).2.1,(l.getD (rH l p) default).2.2)
 else f6 l (p,[k],way)
def qQ(ns:List ar)(n:Int)(p:d8)(k way:Int):List ar:=ns.set n.toNat (yR (ns.getD n.toNat default) (vp (bf (ns.getD n.toNat default)) p k way))
def rN(d:ad)(l:aN):ad :=
 (d.set (lA l).toNat (min (d.getD (lA l).toNat default) (d.getD (lB l).toNat default+1))).set (lB l).toNat (min (d.getD (lB l).toNat default) (d.getD (lA l).toNat default+1))
def fc(nn:Nat)(ls:List aN)(to:Int):ad:=(range nn).foldl (λd _=>ls.foldl rN d) ((List.replicate nn (1000:Int)).set to.toNat 0)
def rI(d:ad)(to:Int)(p:d8)(plain:Bool)(k way:Int)(ns:List ar)(a b:Int):List ar :=
 if d.getD a.toNat default≠d.getD b.toNat default+1∨(b≠to/\mS (ns.getD b.toNat default)=true) then ns
 else if plain=true/\mz (bf (ns.getD a.toNat default)) p=true then ns else qQ ns a p k way
def stepK(ls:List aN)(d:ad)(to:Int)(p:d8)(plain:Bool)(way:Int)(ns:List ar)(k:Nat):List ar :=
 rI d to p plain k way (rI d to p plain k way ns (lA (ls.getD k default)) (lB (ls.getD k default))) (lB (ls.getD k default)) (lA (ls.getD k default))
def stepP(ls:List aN)(d:ad)(to:Int)(plain:Bool)(way:Int)(ns:List ar)(q:oe):List ar :=
 (range ls.length).foldl (stepK ls d to (q.1,32) plain way) ns
def nZ(c:aZ):Int×aZ:=if 1+(aw c 3).1=3 then (if 0<(aw (aw c 3).2 3).1 then 1 else 3,(aw (aw c 3).2 3).2) else (1+(aw c 3).1,(aw c 3).2)
def stepT(ls:List aN)(plain:Bool)(s:List ar×aZ)(to:Nat):List ar×aZ :=
 ((aA (s.1.getD to default)).foldl (stepP ls (fc s.1.length ls to) to plain (nZ s.2).1) s.1,(nZ s.2).2)
def BJ(s:bG)(plain:Bool):bG :=
 let r:=(range s.1.1.length).foldl (stepT s.1.2.1 plain) (s.1.1,s.2)
 ((r.1,s.1.2),r.2)
def Vk(x:ar):ar:=(x.1,x.2.1,x.2.2.1,x.2.2.2.1,x.2.2.2.2.1,x.2.2.2.2.2.1,x.2.2.2.2.2.2.1,x.2.2.2.2.2.2.2.1,x.2.2.2.2.2.2.2.2.1,x.2.2.2.2.2.2.2.2.2.1,x.2.2.2.2.2.2.2.2.2.2.1,true,x.2.2.2.2.2.2.2.2.2.2.2.2)
def an0(x:ar)(b:Int×Int):ar:=(x.1,x.2.1,x.2.2.1,x.2.2.2.1,x.2.2.2.2.1,x.2.2.2.2.2.1,x.2.2.2.2.2.2.1,x.2.2.2.2.2.2.2.1,x.2.2.2.2.2.2.2.2.1,x.2.2.2.2.2.2.2.2.2.1,b,x.2.2.2.2.2.2.2.2.2.2.2)
def Dq(x:ar)(b:Bool):ar:=(x.1,x.2.1,x.2.2.1,x.2.2.2.1,x.2.2.2.2.1,x.2.2.2.2.2.1,x.2.2.2.2.2.2.1,x.2.2.2.2.2.2.2.1,x.2.2.2.2.2.2.2.2.1,x.2.2.2.2.2.2.2.2.2.1,x.2.2.2.2.2.2.2.2.2.2.1,x.2.2.2.2.2.2.2.2.2.2.2.1,b,x.2.2.2.2.2.2.2.2.2.2.2.2.2)
def Yu(x:ar)(s:Int):ar:=(x.1,x.2.1,x.2.2.1,x.2.2.2.1,x.2.2.2.2.1,s,x.2.2.2.2.2.2)
def as0(x:ar)(a s:Int):ar:=(x.1,a,x.2.2.1,x.2.2.2.1,x.2.2.2.2.1,s,x.2.2.2.2.2.2)
def VN(x:ar)(a s:Int):ar:=(x.1,x.2.1,x.2.2.1,x.2.2.2.1,x.2.2.2.2.1,s,a,x.2.2.2.2.2.2.2)
def V5(x:ar)(i b s:Int):ar:=(x.1,x.2.1,x.2.2.1,x.2.2.2.1,x.2.2.2.2.1,x.2.2.2.2.2.1,x.2.2.2.2.2.2.1,i,b,s,x.2.2.2.2.2.2.2.2.2.2)
def iF(x:ar)(i:Int)(c:aZ):ar×aZ :=
 let a:=aw c 10
 if a.1=1 then (Vk x,a.2)
 else if a.1=2 then (an0 x (1+(aw a.2 3).1,1+(aw (aw a.2 3).2 200).1),(aw (aw a.2 3).2 200).2)
 else if a.1=3 then (Dq x (!mS x&&decide (i%2=1)),a.2)
 else if a.1=4 then (Yu x 2,a.2)
 else if a.1=5 then (as0 x (167903232+i) 3,a.2)
 else if a.1=6 then (VN x (167837696+(aw a.2 40).1) 4,(aw a.2 40).2)
 else (x,a.2)
def xI(x:ar)(i:Int)(c:aZ):ar×aZ :=
 let y:=iF x i c
 (V5 y.1 (aw y.2 6).1 (aw (aw y.2 6).2 65536).1 (aw (aw (aw y.2 6).2 65536).2 1000).1,(aw (aw (aw y.2 6).2 65536).2 1000).2)
def xr(s:List ar×aZ)(i:Nat):List ar×aZ:=(s.1.set i (xI (s.1.getD i default) i s.2).1,(xI (s.1.getD i default) i s.2).2)
def odLink(l:aN)(c:aZ):aN×aZ :=
 let a:=aw c 6
 if a.1=1 then ((l.1,l.2.1,l.2.2.1,(aw a.2 10).1,l.2.2.2.2),(aw a.2 10).2)
 else if a.1=2 then ((l.1,l.2.1,l.2.2.1,l.2.2.2.1,([65536,20000,3]:ad).getD (aw a.2 3).1.toNat default,l.2.2.2.2.2),(aw a.2 3).2)
 else (l,a.2)
def qV(ns:List ar)(l:aN):List ar :=
 if dY (ns.getD (lA l).toNat default)=true/\dY (ns.getD (lB l).toNat default)=true then ns.set (lB l).toNat (Dq (ns.getD (lB l).toNat default) false) else ns
def sa(s:(List ar×List aN)×aZ)(i:Nat):(List ar×List aN)×aZ :=
 let r:=odLink (s.1.2.getD i default) s.2
 ((qV s.1.1 r.1,s.1.2.set i r.1),r.2)
def pL(ns:List ar)(s:List aT×Int×aZ):List aT×Int×aZ :=
 let a:=aw s.2.2 60
 let at':=s.2.1+a.1
 let w:=aw a.2 ns.length
 let x:=ns.getD w.1.toNat default
 if (bf x).length=0 then (s.1,at',w.2)
 else
  let r:=aw w.2 (bf x).length
  let p:=aw r.2 (aA x).length
  let z:=aw p.2 4
  let rt:=(bf x).getD r.1.toNat default
  (s.1++[(at',w.1,false,(rt.1,if z.1=3 then [] else [((aA x).getD p.1.toNat default).2],rt.2.2))],at',z.2)
def oD(s:bG):bG :=
 let n:=(range s.1.1.length).foldl xr (s.1.1,s.2)
 let l:=(range s.1.2.1.length).foldl sa ((n.1,s.1.2.1),n.2)
 let k:=aw l.2 4
 let h:=(range k.1.toNat).foldl (λs _=>pL l.1.1 s) ([],0,k.2)
 ((l.1.1,l.1.2,h.1),h.2.2)
def ro(s:bG)(k:Nat):bG:=ji (j4 s false) k (k+1)
def sj(n:Int)(s:bG):bG :=
 let a:=aw s.2 n
 let b:=aw a.2 n
 if a.1=b.1 then (s.1,b.2) else ji (s.1,b.2) (1+a.1) (1+b.1)
def ni(c:aZ):Int×bG :=
 let a:=j4 (([],[],[]),c) true
 let m:=aw a.2 5
 let s:=(range (1+m.1).toNat).foldl ro (a.1,m.2)
 (1+m.1,ji (j4 s true) (1+m.1) (1+m.1+1))
def xS(plain:Bool)(n:Int)(s:bG):bG :=
 let k:=aw s.2 4
 let s1:=if 1<n/\plain=false then (range k.1.toNat).foldl (λs _=>sj n s) (s.1,k.2) else (s.1,k.2)
 if plain=true/\2<n then
  if (aw s1.2 2).1=1 then ji (s1.1,(aw (aw s1.2 2).2 (n-1)).2) (1+(aw (aw s1.2 2).2 (n-1)).1) n else (s1.1,(aw s1.2 2).2)
 else s1
def Ak(plain:Bool)(c:aZ):bG :=
 let s:=BJ (xS plain (ni c).1 (ni c).2) plain
 if plain then s else oD s
def rM(plain:Bool)(c:aZ):cC:=(Ak plain c).1
def zF(plain:Bool)(c:aZ):aZ:=(Ak plain c).2
def cz(x:ar):ad:=lL x++(if fM x=0 then [] else [fM x])
def S8:Ct:=⟨[.val cI,.val cI,.val cI],[.val .bool],λ_=>[],λd=>((decide (d.2.1<=d.1/\d.1<=d.2.2.1),()),())⟩
theorem ac4 :
 ∀(a b c:Int),aj a/\aj b/\aj c/\True->True-> ∀(d:Bool),d=decide (b<=a)->(d->(aq d)/\(aq d)/\True)/\(aq d)/\(bif d then decide (a<=c) else false)=decide (b<=a/\a<=c):=by
  delta aq;rintro a b c - -
  (repeat (refine bO ?_;repeat refine bP ?_));by_cases h1:b<=a <;> by_cases h2:a<=c <;> simp[h1,h2]
theorem JX:aD 150 S8.spec:=aH Tryz.func150 aE aR ac4
def LW:Ct:=⟨[.agg bN],[.own 58 cy],λd=>[(aA d.1).length<=100000],λd=>((cz d.1,()),())⟩
def Y4:bu LW.ps->bS:=(λd=>{loops:=(bm 3 (λS=>{ι:=Int×ad,qn:=fj,μ:=λi=>((aA d.1).length-i.1).toNat,inv:=λi=>0<=i.1/\i.1<=(aA d.1).length/\i.2=(lL d.1).take i.1.toNat,keep:=[1,7,8],slots:=λi=>[(3,.own 524288 1),(9,.int .i64 i.1)],keepN:=[32],names:=λi=>[(524288,.live (.row 58 cy i.2))]}) ci)})
def EA(a:ar)(b:Int)(c:ad) :=
 a.1=a.1/\(ac a.1)=(ac a.1)/\0=b/\a.1=a.1/\a.2.1=a.2.1/\a.2.2.1=a.2.2.1/\a.2.2.2.1=a.2.2.2.1/\a.2.2.2.2.1=a.2.2.2.2.1/\a.2.2.2.2.2.1=a.2.2.2.2.2.1/\a.2.2.2.2.2.2.1=a.2.2.2.2.2.2.1/\a.2.2.2.2.2.2.2.1=a.2.2.2.2.2.2.2.1/\a.2.2.2.2.2.2.2.2.1=a.2.2.2.2.2.2.2.2.1/\a.2.2.2.2.2.2.2.2.2.1=a.2.2.2.2.2.2.2.2.2.1/\a.2.2.2.2.2.2.2.2.2.2.1.1=a.2.2.2.2.2.2.2.2.2.2.1.1/\a.2.2.2.2.2.2.2.2.2.2.1.2=a.2.2.2.2.2.2.2.2.2.2.1.2/\a.2.2.2.2.2.2.2.2.2.2.2.1=a.2.2.2.2.2.2.2.2.2.2.2.1/\a.2.2.2.2.2.2.2.2.2.2.2.2.1=a.2.2.2.2.2.2.2.2.2.2.2.2.1/\a.2.2.2.2.2.2.2.2.2.2.2.2.2.1=a.2.2.2.2.2.2.2.2.2.2.2.2.2.1/\a.2.2.2.2.2.2.2.2.2.2.2.2.2.2=a.2.2.2.2.2.2.2.2.2.2.2.2.2.2/\c=([]:ad)/\True
def qu(a:ar) :=
 ((length (aA a)):Int)
theorem SW :
 ∀(a:ar),CT.wf bN a/\True->length (aA a)<=(100000:Nat)->(∃(b:Int) (c:ad),(0<=b/\b<=(qu a)/\c=take b.toNat (lL a))/\(EA a b c))/\ ∀(b:Int)(c:ad),0<=b/\b<=(qu a)/\c=take b.toNat (lL a)->ao (decide (b<(ac a.1))) (0<=b/\b<(ac a.1)/\(c.length+length [(getD a.1 b.toNat default).1])*(4:Nat)<=(140737488355328:Nat)/\ ∃(d:Int) (e:ad),(0<=d/\d<=(qu a)/\e=take d.toNat (lL a))/\toNat ((qu a) -d)<toNat ((qu a) -b)/\a.1=a.1/\(ac a.1)=(ac a.1)/\ai
 (b+1)=d/\a.1=a.1/\a.2.1=a.2.1/\a.2.2.1=a.2.2.1/\a.2.2.2.1=a.2.2.2.1/\a.2.2.2.2.1=a.2.2.2.2.1/\a.2.2.2.2.2.1=a.2.2.2.2.2.1/\a.2.2.2.2.2.2.1=a.2.2.2.2.2.2.1/\a.2.2.2.2.2.2.2.1=a.2.2.2.2.2.2.2.1/\a.2.2.2.2.2.2.2.2.1=a.2.2.2.2.2.2.2.2.1/\a.2.2.2.2.2.2.2.2.2.1=a.2.2.2.2.2.2.2.2.2.1/\a.2.2.2.2.2.2.2.2.2.2.1.1=a.2.2.2.2.2.2.2.2.2.2.1.1/\a.2.2.2.2.2.2.2.2.2.2.1.2=a.2.2.2.2.2.2.2.2.2.2.1.2/\a.2.2.2.2.2.2.2.2.2.2.2.1=a.2.2.2.2.2.2.2.2.2.2.2.1/\a.2.2.2.2.2.2.2.2.2.2.2.2.1=a.2.2.2.2.2.2.2.2.2.2.2.2.1/\a.2.2.2.2.2.2.2.2.2.2.2.2.2.1=a.2.2.2.2.2.2.2.2.2.2.2.2.2.1/\a.2.2.2.2.2.2.2.2.2.2.2.2.2.2=a.2.2.2.2.2.2.2.2.2.2.2.2.2.2/\c++[(getD a.1 b.toNat default).1]=e/\True) (ao (! decide (a.2.1=0)) ((c.length+length [a.2.1])*(4:Nat)<=(140737488355328:Nat)/\c++[a.2.1]=cz a) (c=cz a)):=by
  delta EA qu ai ac;rintro d-hl;have hlen:(lL d).length=(aA d).length:=by simp[lL]
  have hd:d.1=aA d:=rfl;have hz:d.2.1=fM d:=rfl;rw[hd,hz];refine⟨⟨0,[],⟨ab,ab,rfl⟩,aM⟩,?_⟩;rintro j l ⟨j0,j1,rfl⟩;refine bt (λhk=>?_) (λhk=>?_)
  .refine⟨j0,hk,by simp only[cW,cQ,List.length_nil];omega,j+1,_,⟨ab,ab,rfl⟩,ab,?_⟩
   (repeat refine iK ?_);refine⟨?_,bv⟩;rw[uM j0 (by rw[hlen];exact hk)];unfold lL;rw[ce,ce,List.getElem?_map,cF ab];rfl
  .rw[dm ab];unfold cz;refine av (λh=>?_) (λh=>?_)
   .rw[af (fQ h)];exact⟨by simp only[cQ,List.length_nil];omega,rfl⟩
   .rw[am (gH h),ke]
theorem Vv:aD 166 LW.spec:=aH Tryz.func166 aE Y4 SW
def mR(i:Int)(l:ad)(m:List (Int×Int)):List (Int×Int):=l.foldl (λm a=>jZ a i m) m
def gn(ns:List ar)(k:Nat):List (Int×Int):=(range k).foldl (λm (i:Nat)=>mR (i:Int) (cz (ns.getD i default)) m) []
def Sb(ns:List ar):Bool:=(range ns.length).any λ(i:Nat)=>(cz (ns.getD i default)).any λa=>gq a (gn ns i)
def nT(n:cC):Int:=if Sb n.1 then 10 else 0
theorem K3{a b v:Int}:∀{m:List (Int×Int)},gq a (jZ b v m)=(decide (a=b)||gq a m)
 | []=>by simp only[jZ,gq];cases decide (a=b) <;> rfl
 | p::m=>by
  simp only[jZ];by_cases hb:b=p.1
  .rw[dM hb,cond_true,gq,gq,← hb];cases decide (a=b) <;> rfl
  .rw[dw hb,nP,gq,gq,K3];cases decide (a=p.1) <;> cases decide (a=b) <;> rfl
theorem OD{a b v:Int}:∀{m:List (Int×Int)},lp a (jZ b v m)=if a=b then v else lp a m
 | []=>by
  simp only[jZ,lp];by_cases h:a=b
  .rw[dM h,am h];rfl
  .rw[dw h,af h];rfl
 | p::m=>by
  simp only[jZ];by_cases hb:b=p.1
  .rw[dM hb,cond_true,lp,lp,← hb];by_cases h:a=b
   .rw[dM h,am h];rfl
   .rw[dw h,af h];rfl
  .rw[dw hb,nP,lp,lp,OD];by_cases h:a=p.1
   .have hab:¬ a=b:=λe=>hb (e.symm.trans h);simp only[af hab]
   .rw[dw h];rfl
theorem af2(i a:Int)(l:ad)(m:List (Int×Int)):mR i (l++[a]) m=jZ a i (mR i l m):=by
 unfold mR;rw[j9];rfl
theorem B1{i a:Int}{m:List (Int×Int)}:∀{l:ad},gq a (mR i l m)=(decide (a∈l)||gq a m)/\lp a (mR i l m)=if a∈l then i else lp a m:=by
 intro l
 induction l generalizing m with
 | nil=>simp[mR]
 | cons b l ih =>
  have k:=ih (m:=jZ b i m);unfold mR at k ⊢;rw[List.foldl_cons,k.1,k.2,K3,OD];by_cases h1:a=b <;> by_cases h2:a∈l <;> simp[h1,h2]
theorem Sf(ns:List ar):∀(k:Nat)(a:Int),gq a (gn ns k)=true->lp a (gn ns k)<k
 | 0,a,h=>by cases h
 | k+1,a,h=>by
  have e:gn ns (k+1)=mR k (cz (ns.getD k default)) (gn ns k):=by unfold gn;rw[mM,j9];rfl
  rw[e] at h ⊢;have q:=B1 (i:=(k:Int)) (a:=a) (m:=gn ns k) (l:=cz (ns.getD k default));rw[q.1] at h;rw[q.2];split
  .omega
  next hn=>rw[dw hn,Bool.false_or] at h;have:=Sf ns k a h;omega
def Rr:Ct:=⟨[.agg gS],[.val cI],λd=>[∀ x∈d.1.1,(aA x).length<=100000],λd=>((nT d.1,()),())⟩
def Ux:bu Rr.ps->bS:=(λd=>{loops:=(bm 3 (λS=>{ι:=Int,μ:=λi=>(d.1.1.length-i).toNat,inv:=λi=>0<=i/\i<=d.1.1.length∧∀ k:Nat,(k:Int)<i→∀ a∈cz (d.1.1.getD k default),gq a (gn d.1.1 k)=false,keep:=[1,12,13],slots:=λi=>[(14,.int .i64 i),(3,.mapp 524288)],keepN:=[32],names:=λi=>[(524288,.live (.mp .u32 .i64 (gn d.1.1 i.toNat)))]}) (bm 6 (λS=>{ι:=Int,μ:=λi=>((cz (d.1.1.getD (S.i 14).toNat default)).length-i).toNat,inv:=λi=>0<=i/\i<=(cz (d.1.1.getD (S.i 14).toNat default)).length∧∀ a∈(cz (d.1.1.getD (S.i 14).toNat default)).take i.toNat,gq a (gn d.1.1 (S.i 14).toNat)=false,keep:=[1,4,12,13,14,20,21],slots:=λi=>[(22,.int .i64 i),(3,.mapp 524288)],keepN:=[32,336],names:=λi=>[(524288,.live (.mp .u32 .i64 (mR (S.i 14) ((cz (d.1.1.getD (S.i 14).toNat default)).take i.toNat) (gn d.1.1 (S.i 14).toNat))))]}) ci))})
def sM(a:List ar)(b:List aN)(c:List aT) :=
 (a.length<=maxLen/\ ∀(d:ar),d∈a->CT.wf bN d)/\(b.length<=maxLen/\ ∀(d:aN),d∈b->CT.wf gh d)/\c.length<=maxLen/\ ∀(d:aT),d∈c->CT.wf ft d
def qc(a:List ar)(d:Int) :=
 ((length (cz (ah a d))):Int)
def ET(a:List ar)(d e:Int) :=
 mR d (take e.toNat (cz (ah a d))) (gn a d.toNat)
def I7(a:List ar)(d:Int) :=
 0<=d/\d<=(ac a)/\ ∀(e:Nat),(↑e:Int)<d-> ∀(f:Int),f∈cz (a.getD e default)->gq f (gn a e)=false
theorem VV :
 ∀(a:List ar)(b:List aN)(c:List aT),(sM a b c)/\True->(∀(d:ar),d∈a->length (aA d)<=(100000:Nat))->(∃(d:Int),(I7 a d)/\a=a/\(ac a)=(ac a)/\0=d/\a=a/\b=b/\c=c/\([]:List (Int×Int))=gn a d.toNat/\True)/\ ∀(d:Int),(I7 a d)->ao (decide (d<(ac a))) (0<=d/\d<(ac a)/\length (aA (ah a d))<=(100000:Nat)/\(∃(e:Int),(0<=e/\e<=(qc a d)/\ ∀(f:Int),f∈take e.toNat (cz (ah a d))->gq f (gn a d.toNat)=false)/\d=d/\a=a/\(ac a)=(ac a)/\d=d/\(qc a d)=(qc a d)/\0=e/\a=a/\b=b/\c=c/\cz (ah a d)=cz (ah a d)/\gn a d.toNat=mR d (take e.toNat (cz (ah a d))) (gn a d.toNat)/\True)/\ ∀(e:Int),(0<=e/\e<=(qc a d)/\ ∀(f:Int),f∈take e.toNat (cz (ah a d))->gq f (gn a d.toNat)=false)->ao (decide (e<(qc a d))) (0<=e/\e<(qc a d)/\ ∀(f:Bool),f=gq (getD (cz (ah a d)) e.toNat default) (ET a d e)->(f->(aq f)/\(aq
 f)/\True)/\(aq f)/\ao (bif f then ! decide (lp (getD (cz (ah a d)) e.toNat default) (ET a d e)=d) else false) (10=nT (a,b,c)) (∃(g:Int),(0<=g/\g<=(qc a d)/\ ∀(h:Int),h∈take g.toNat (cz (ah a d))->gq h (gn a d.toNat)=false)/\toNat ((qc a d) -g)<toNat ((qc a d) -e)/\d=d/\a=a/\(ac a)=(ac a)/\d=d/\(qc a d)=(qc a d)/\ai (e+1)=g/\a=a/\b=b/\c=c/\cz (ah a d)=cz (ah a d)/\jZ (getD (cz (ah a d)) e.toNat default) d (ET a d e)=mR d (take g.toNat (cz (ah a d))) (gn a d.toNat)/\True)) (∃(f:Int),(0<=f/\f<=(ac a)/\ ∀(g:Nat),(↑g:Int)<f-> ∀(h:Int),h∈cz (a.getD g default)->gq h (gn a g)=false)/\toNat ((ac a) -f)<toNat ((ac a) -d)/\a=a/\(ac a)=(ac a)/\ai (d+1)=f/\a=a/\b=b/\c=c/\mR d (take e.toNat (cz (ah a d))) (gn a d.toNat)=gn a f.toNat/\True)) (0=nT (a,b,c)):=by
  delta sM qc ET I7 aq ai ah ac;rintro ns ls hs ⟨⟨⟨hnl,-⟩,-⟩,-⟩ hp;simp only[maxLen] at hnl;have hlen:∀ x∈ns,(cz x).length<=100001:=λx hx=>by
   have:=hp x hx;unfold cz lL;rw[cD,qm];split <;> simp <;> omega
  refine⟨⟨0,⟨ab,ab,λk hk=>ab⟩,aM⟩,?_⟩;rintro i ⟨i0,i1,hI⟩;refine av (λhi=>?_) (λhi=>?_)
  rotate_left
  .have hi:=aO hi;unfold nT;rw[af];intro h;obtain⟨k,hk,h2⟩:=List.any_eq_true.1 h;obtain⟨a,ha,h3⟩:=List.any_eq_true.1 h2;have hk:k<ns.length:=List.mem_range.1 hk;rw[hI k ab a ha] at h3;cases h3
  have hi:=aL hi;have hm:=bW i0 hi;have hl:=hlen _ hm;refine⟨i0,hi,hp _ hm,⟨0,⟨ab,ab,aC⟩,aM⟩,?_⟩;rintro j ⟨j0,j1,hJ⟩;have ei:((i.toNat:Nat):Int)=i:=ab;refine av (λhj=>?_) (λhj=>?_)
  rotate_left
  .have hj:=aO hj;rw[dm ab] at hJ ⊢;refine⟨i+1,⟨ab,ab,λk hk a ha=>?_⟩,ab,?_⟩
   .by_cases e:(k:Int)<i
    .exact hI k e a ha
    .have:k=i.toNat:=ab;subst this;exact hJ a ha
   .have e:mR i (cz (ns.getD i.toNat default)) (gn ns i.toNat)=gn ns (i+1).toNat:=by
     rw[show (i+1).toNat=i.toNat+1 by omega];unfold gn;rw[mM,j9,List.foldl_cons,List.foldl_nil,ei]
    rw[e];exact aM
  have hj:=aL hj;have ha:=bW j0 hj;have st:=uM j0 hj;refine⟨j0,hj,?_⟩;have q:=B1 (i:=i) (a:=(cz (ns.getD i.toNat default)).getD j.toNat default) (m:=gn ns i.toNat) (l:=(cz (ns.getD i.toNat default)).take j.toNat);generalize (cz (ns.getD i.toNat default)).getD j.toNat default=a at ha st q ⊢;have lt:=Sf ns i.toNat a;rw[ei] at lt;intro b hb
  (repeat refine⟨aC,?_⟩);refine pT (λx1 x2=>?_) (λhno=>?_)
  .have x2:=fQ x2;rw[hb,q.1] at x1;rw[q.2] at x2;have hn:a ∉ (cz (ns.getD i.toNat default)).take j.toNat:=λh=>by rw[am h] at x2;exact x2 rfl
   rw[dw hn,Bool.false_or] at x1;unfold nT;rw[am];exact List.any_eq_true.2 ⟨i.toNat,List.mem_range.2 (show i.toNat<ns.length by omega),List.any_eq_true.2 ⟨a,ha,x1⟩⟩
  .have hz:gq a (gn ns i.toNat)=false:=by
    by_cases hn:a∈(cz (ns.getD i.toNat default)).take j.toNat
    .exact hJ a hn
    .rw[dw hn,Bool.false_or] at q;rw[af hn] at q;rcases hno with h|h
     .rw[hb,q.1] at h;exact h
     .have h:=gH h;rw[q.2] at h;cases hq:gq a (gn ns i.toNat) with
      | false=>rfl
      | true=>have:=lt hq;omega
   refine⟨j+1,⟨ab,ab,λy hy=>?_⟩,ab,?_⟩
   .rw[st] at hy;rcases dH.1 hy with hy|hy
    .exact hJ y hy
    .rw[jR.1 hy];exact hz
   .rw[st,af2];exact aM
theorem SH:aD 98 Rr.spec:=aH Tryz.func98 (au aE Vv) Ux VV
def f7(ls:List aN)(k x:Int):Int:=if k<0∨(ls.length:Int)<=k then -1 else if x=lA (ls.getD k.toNat default) then lB (ls.getD k.toNat default) else if x=lB (ls.getD k.toNat default) then lA (ls.getD k.toNat default) else -1
def nG(n:cC):Int:=if n.1.length<1∨64<n.1.length∨128<n.2.1.length∨64<n.2.2.length then 5 else 0
def VK:Ct:=⟨[.agg gS],[.val cI],λ_=>[],λd=>((nG d.1,()),())⟩
theorem WJ :
 ∀(a:List ar)(b:List aN)(c:List aT),(sM a b c)/\True->True-> ∀(d:Bool),d=decide ((ac a)<1)->(ae (! d))/\(ae (! d))/\(ae (! d))/\(aF d)/\ ∀(e:Bool),(e=bif d then true else decide (64<(ac a)))->(ae (! e))/\(ae (! e))/\(ae (! e))/\(aF e)/\ ∀(f:Bool),(f=bif e then true else decide (128<(ac b)))->(ae (! f))/\(ae (! f))/\(ae (! f))/\(aF f)/\ao (bif f then true else decide (64<(ac c))) (5=nG (a,b,c)) (0=nG (a,b,c)):=by
  delta sM ae aF ac;rintro ns ls hs - -
  (repeat (refine bO ?_;repeat refine bP ?_));unfold nG;refine av (λh=>?_) (λh=>?_)
  .simp[db] at h;rw[am (by dsimp only;omega)]
  .simp[db] at h;rw[af (by dsimp only;omega)]
theorem at7:aD 94 VK.spec:=aH Tryz.func94 aE aR WJ
def N9:Ct:=⟨[.agg bN],[.own 3 cI],λd=>[(aA d.1).length<=100000],λd=>((bq d.1,()),())⟩
def a03:bu N9.ps->bS:=(λd=>{loops:=(bm 3 (λS=>{ι:=Int×ad,qn:=fj,μ:=λi=>((aA d.1).length-i.1).toNat,inv:=λi=>0<=i.1/\i.1<=(aA d.1).length/\i.2=(bq d.1).take i.1.toNat,keep:=[1,7,8],slots:=λi=>[(3,.own 524288 1),(9,.int .i64 i.1)],keepN:=[32],names:=λi=>[(524288,.live (.row 3 cI i.2))]}) ci)})
theorem Xz :
 ∀(a:ar),CT.wf bN a/\True->length (aA a)<=(100000:Nat)->(∃(b:Int) (c:ad),(0<=b/\b<=(qu a)/\c=take b.toNat (bq a))/\(EA a b c))/\ ∀(b:Int)(c:ad),0<=b/\b<=(qu a)/\c=take b.toNat (bq a)->ao (decide (b<(ac a.1))) (0<=b/\b<(ac a.1)/\(c.length+length [(getD a.1 b.toNat default).2])*(8:Nat)<=(140737488355328:Nat)/\ ∃(d:Int) (e:ad),(0<=d/\d<=(qu a)/\e=take d.toNat (bq a))/\toNat ((qu a) -d)<toNat ((qu a) -b)/\a.1=a.1/\(ac a.1)=(ac a.1)/\ai
 (b+1)=d/\a.1=a.1/\a.2.1=a.2.1/\a.2.2.1=a.2.2.1/\a.2.2.2.1=a.2.2.2.1/\a.2.2.2.2.1=a.2.2.2.2.1/\a.2.2.2.2.2.1=a.2.2.2.2.2.1/\a.2.2.2.2.2.2.1=a.2.2.2.2.2.2.1/\a.2.2.2.2.2.2.2.1=a.2.2.2.2.2.2.2.1/\a.2.2.2.2.2.2.2.2.1=a.2.2.2.2.2.2.2.2.1/\a.2.2.2.2.2.2.2.2.2.1=a.2.2.2.2.2.2.2.2.2.1/\a.2.2.2.2.2.2.2.2.2.2.1.1=a.2.2.2.2.2.2.2.2.2.2.1.1/\a.2.2.2.2.2.2.2.2.2.2.1.2=a.2.2.2.2.2.2.2.2.2.2.1.2/\a.2.2.2.2.2.2.2.2.2.2.2.1=a.2.2.2.2.2.2.2.2.2.2.2.1/\a.2.2.2.2.2.2.2.2.2.2.2.2.1=a.2.2.2.2.2.2.2.2.2.2.2.2.1/\a.2.2.2.2.2.2.2.2.2.2.2.2.2.1=a.2.2.2.2.2.2.2.2.2.2.2.2.2.1/\a.2.2.2.2.2.2.2.2.2.2.2.2.2.2=a.2.2.2.2.2.2.2.2.2.2.2.2.2.2/\c++[(getD a.1 b.toNat default).2]=e/\True) (c=bq a):=by
  delta EA qu ai ac;rintro d-hl;have hlen:(bq d).length=(aA d).length:=by simp[bq]
  refine⟨⟨0,[],⟨ab,ab,rfl⟩,aM⟩,?_⟩;rintro j l ⟨j0,j1,rfl⟩;have hd:d.1=aA d:=rfl;rw[hd];refine bt (λhk=>?_) (λhk=>?_)
  .refine⟨j0,hk,by simp only[cW,cQ,List.length_nil];omega,j+1,_,⟨ab,ab,rfl⟩,ab,?_⟩
   (repeat refine iK ?_);refine⟨?_,bv⟩;rw[uM j0 (by rw[hlen];exact hk)];unfold bq;rw[ce,ce,List.getElem?_map,cF ab];rfl
  .rw[dm ab]
theorem RJ:aD 165 N9.spec:=aH Tryz.func165 aE a03 Xz
def Wa:Ct:=⟨[.agg gS,.val cI,.val cI],[.val cI],λ_=>[],λd=>((f7 d.1.2.1 d.2.1 d.2.2.1,()),())⟩
theorem V3 :
 ∀(a:List ar)(b:List aN)(c:List aT)(d e:Int),((a.length<=maxLen/\ ∀(f:ar),f∈a->CT.wf bN f)/\(b.length<=maxLen/\ ∀(f:aN),f∈b->CT.wf gh f)/\c.length<=maxLen/\ ∀(f:aT),f∈c->CT.wf ft f)/\aj d/\aj e/\True->True->ao (! decide (0<=d/\d<=ai ((ac b) -1))) (-1=f7 b d e) (0<=d/\d<(ac b)/\ao (decide (e=(ah b d).1)) ((ah b d).2.1=f7 b d e) (ao (decide (e=(ah b d).2.1)) ((ah b d).1=f7 b d e) (-1=f7 b d e))):=by
  delta ai ah ac;rintro ns ls hs k x ⟨⟨-,⟨hl,-⟩,-⟩,-⟩ -;simp only[maxLen] at hl;rw[aQ (n:=(ls.length:Int)-1) ab ab];unfold f7 lA lB;refine av (λh=>?_) (λh=>?_)
  .have h:=fQ h;rw[am ab]
  have h:=gH h;rw[af ab];refine⟨h.1,ab,av (λh1=>?_) (λh1=>?_)⟩
  .rw[am (aL h1)]
  rw[af (aO h1)];refine bt (λh2=>?_) (λh2=>?_)
  .rw[am h2]
  .rw[af h2]
theorem aj8:aD 81 Wa.spec:=aH Tryz.func81 (au aE JX) aR V3
def ja(ns:List ar)(l:aN):Bool:=dY (ns.getD (lA l).toNat default)&&dY (ns.getD (lB l).toNat default)
def nq(n:cC):Int:=if n.2.1.any (ja n.1) then 13 else 0
def Ad(n:cC):Prop:=∀ l∈n.2.1,0<=lA l/\lA l<n.1.length/\0<=lB l/\lB l<n.1.length
def RB:Ct:=⟨[.agg gS],[.val cI],λd=>[Ad d.1],λd=>((nq d.1,()),())⟩
def aH1:bu RB.ps->bS:=(λd=>{loops:=(bm 2 (λS=>{ι:=Int,μ:=λi=>(d.1.2.1.length-i).toNat,inv:=λi=>0<=i/\i<=d.1.2.1.length∧∀ x∈d.1.2.1.take i.toNat,ja d.1.1 x=false,keep:=[1,6,7],slots:=λi=>[(8,.int .i64 i)],keepN:=[32]}) ci)})
theorem SN :
 ∀(a:List ar)(b:List aN)(c:List aT),(sM a b c)/\True->(∀(d:aN),d∈b->0<=lA d/\lA d<(ac a)/\0<=lB d/\lB d<(ac a))->(∃(d:Int),(0<=d/\d<=(ac b)/\ ∀(e:Int×Int×Int×Int×Int×Int),e∈take d.toNat b->ja a e=false)/\b=b/\(ac b)=(ac b)/\0=d/\a=a/\b=b/\c=c/\True)/\ ∀(d:Int),(0<=d/\d<=(ac b)/\ ∀(e:Int×Int×Int×Int×Int×Int),e∈take d.toNat b->ja a e=false)->ao (decide (d<(ac b))) (0<=d/\d<(ac b)/\0<=(ah b d).1/\(ah b d).1<(ac a)/\ ∀(e:Bool),e=(a.getD (toNat (ah b d).1) default).2.2.2.2.2.2.2.2.2.2.2.2.1->(ae e)/\(ae e)/\(e->(aq e)/\(aq e)/\0<=(ah b d).2.1/\(ah b d).2.1<(ac a)/\True)/\(ae e)/\(ae e)/\(aq e)/\ao (bif e then (a.getD (toNat (ah b d).2.1) default).2.2.2.2.2.2.2.2.2.2.2.2.1 else false) (13=nq (a,b,c)) (∃(f:Int),(0<=f/\f<=(ac b)/\ ∀(g:Int×Int×Int×Int×Int×Int),g∈take f.toNat b->ja a g=false)/\toNat ((ac b)
 -f)<toNat ((ac b) -d)/\b=b/\(ac b)=(ac b)/\ai (d+1)=f/\a=a/\b=b/\c=c/\True)) (0=nq (a,b,c)):=by
  delta sM ae aq ai ah ac;rintro ns ls hs ⟨⟨-,⟨hl,-⟩,-⟩,-⟩ he;simp only[maxLen] at hl;refine⟨⟨0,⟨ab,ab,aC⟩,aM⟩,?_⟩;rintro i ⟨i0,i1,hI⟩;refine av (λhi=>?_) (λhi=>?_)
  rotate_left
  .have hi:=aO hi;rw[dm ab] at hI;unfold nq;rw[af];intro h;obtain⟨l,h1,h2⟩:=List.any_eq_true.1 h;rw[hI l h1] at h2;cases h2
  have hi:=aL hi;have hm:=bW i0 hi;have e:=he _ hm;refine⟨i0,hi,e.1,e.2.1,?_⟩;intro b hb
  (repeat first|refine⟨λh=>⟨λ_=>h,λ_=>h,e.2.2.1,e.2.2.2,bv⟩,?_⟩|refine⟨λh=>⟨λ_=>h,e.2.2.1,e.2.2.2,bv⟩,?_⟩|refine⟨aC,?_⟩);refine pT (λx1 x2=>?_) (λhno=>?_)
  .unfold nq;rw[am];refine List.any_eq_true.2 ⟨_,hm,?_⟩;unfold ja;rw[dr];exact⟨hb.symm.trans x1,x2⟩
  .refine⟨i+1,⟨ab,ab,nY i0 hi hI ?_⟩,ab,aM⟩;unfold ja;rw[Bool.and_eq_false_iff];rcases hno with h|h
   .exact .inl (hb.symm.trans h)
   .exact .inr h
theorem as7:aD 99 RB.spec:=aH Tryz.func99 aE aH1 SN
def my(n:cC)(k:Nat):Bool:=decide (cG (n.1.getD (lA (n.2.1.getD k default)).toNat default) k<0)||decide (cG (n.1.getD (lB (n.2.1.getD k default)).toNat default) k<0)
def mU(n:cC):Int:=if (range n.2.1.length).any (my n) then 11 else 0
def Pp:Ct:=⟨[.agg gS],[.val cI],λd=>[Ad d.1],λd=>((mU d.1,()),())⟩
def aK2:bu Pp.ps->bS:=(λd=>{loops:=(bm 2 (λS=>{ι:=Int,μ:=λi=>(d.1.2.1.length-i).toNat,inv:=λi=>0<=i/\i<=d.1.2.1.length∧∀ k:Nat,(k:Int)<i->my d.1 k=false,keep:=[1,6,7],slots:=λi=>[(8,.int .i64 i)],keepN:=[32]}) ci)})
theorem ae1 :
 ∀(a:List ar)(b:List aN)(c:List aT),(sM a b c)/\True->(∀(d:aN),d∈b->0<=lA d/\lA d<(ac a)/\0<=lB d/\lB d<(ac a))->(∃(d:Int),(0<=d/\d<=(ac b)/\ ∀(e:Nat),(↑e:Int)<d->my (a,b,c) e=false)/\b=b/\(ac b)=(ac b)/\0=d/\a=a/\b=b/\c=c/\True)/\ ∀(d:Int),(0<=d/\d<=(ac b)/\ ∀(e:Nat),(↑e:Int)<d->my (a,b,c) e=false)->ao (decide (d<(ac b))) (0<=d/\d<(ac b)/\0<=(ah b d).1/\(ah b d).1<(ac a)/\ ∀(e:Bool),e=decide (cG (a.getD (toNat (ah b d).1) default) d<0)->(ae (! e))/\(ae (! e))/\((! e)->(aq (! e))/\(aq (! e))/\0<=(ah b d).2.1/\(ah b d).2.1<(ac a)/\True)/\(ae (! e))/\((! e)->(aq (! e))/\(aq (! e))/\True)/\(ae (! e))/\(aF e)/\ao (bif e then true else decide (cG (a.getD (toNat (ah b d).2.1) default) d<0)) (11=mU (a,b,c)) (∃(f:Int),(0<=f/\f<=(ac b)/\ ∀(g:Nat),(↑g:Int)<f->my (a,b,c) g=false)/\toNat ((ac b) -f)<toNat ((ac b)
 -d)/\b=b/\(ac b)=(ac b)/\ai (d+1)=f/\a=a/\b=b/\c=c/\True)) (0=mU (a,b,c)):=by
  delta sM ae aq aF ai ah ac;rintro ns ls hs ⟨⟨-,⟨hl,-⟩,-⟩,-⟩ he;simp only[maxLen] at hl;refine⟨⟨0,⟨ab,ab,λk hk=>ab⟩,aM⟩,?_⟩;rintro i ⟨i0,i1,hI⟩;refine av (λhi=>?_) (λhi=>?_)
  rotate_left
  .have hi:=aO hi;unfold mU;rw[af];intro h;obtain⟨k,h1,h2⟩:=List.any_eq_true.1 h;have h1:k<ls.length:=List.mem_range.1 h1;rw[hI k ab] at h2;cases h2
  have hi:=aL hi;have hm:=bW i0 hi;have e:=he _ hm;have ei:((i.toNat:Nat):Int)=i:=ab;refine⟨i0,hi,e.1,e.2.1,?_⟩;intro b hb
  (repeat first|refine⟨λh=>⟨λ_=>h,λ_=>h,e.2.2.1,e.2.2.2,bv⟩,?_⟩|refine⟨λh=>⟨λ_=>h,e.2.2.1,e.2.2.2,bv⟩,?_⟩|refine⟨aC,?_⟩);refine oT (λho=>?_) (λx1 x2=>?_)
  .unfold mU;rw[am];refine List.any_eq_true.2 ⟨i.toNat,List.mem_range.2 (show i.toNat<ls.length by omega),?_⟩;unfold my;rw[oo,ei];rcases ho with h|h
   .exact .inl (hb.symm.trans h)
   .exact .inr h
  .refine⟨i+1,⟨ab,ab,λk hk=>?_⟩,ab,aM⟩;by_cases e2:(k:Int)<i
   .exact hI k e2
   .have:k=i.toNat:=ab;subst this;unfold my;rw[Bool.or_eq_false_iff,ei];exact⟨hb.symm.trans x1,x2⟩
theorem af5:aD 97 Pp.spec:=aH Tryz.func97 (au aE C9) aK2 ae1
def ia(nn:Nat)(l:aN):Prop:=0<=lA l/\lA l<nn/\0<=lB l/\lB l<nn/\lA l≠lB l/\1<=mL l/\mL l<=1073741824/\0<=iH l/\iH l<=1073741824/\0<=mP l/\mP l<=65536
instance (nn:Nat) (l:aN):Decidable (ia nn l):=by unfold ia;infer_instance
def lG(n:cC):Int:=if n.2.1.all (λl=>decide (ia n.1.length l)) then 0 else 11
def NG:Ct:=⟨[.agg gS],[.val cI],λd=>[],λd=>((lG d.1,()),())⟩
def aF3:bu NG.ps->bS:=(λd=>{loops:=(bm 3 (λS=>{ι:=Int,μ:=λi=>(d.1.2.1.length-i).toNat,inv:=λi=>0<=i/\i<=d.1.2.1.length∧∀ x∈d.1.2.1.take i.toNat,ia d.1.1.length x,keep:=[1,3,11,12],slots:=λi=>[(13,.int .i64 i)],keepN:=[32]}) ci)})
theorem Yr :
 ∀(a:List ar)(b:List aN)(c:List aT),(sM a b c)/\True->True->(∃(d:Int),(0<=d/\d<=(ac b)/\ ∀(e:Int×Int×Int×Int×Int×Int),e∈take d.toNat b->ia a.length e)/\ai ((ac a) -1)=ai ((ac a) -1)/\b=b/\(ac b)=(ac b)/\0=d/\a=a/\b=b/\c=c/\True)/\ ∀(d:Int),(0<=d/\d<=(ac b)/\ ∀(e:Int×Int×Int×Int×Int×Int),e∈take d.toNat b->ia a.length e)->ao (decide (d<(ac b))) (0<=d/\d<(ac b)/\ ∀(e:Bool),e= ! decide (0<=(ah b d).1/\(ah b d).1<=ai ((ac a) -1))->(ae (! e))/\((! e)->(aq (! e))/\(aq (! e))/\True)/\(ae (! e))/\(aF e)/\ ∀(f:Bool),(f=bif e then true else ! decide (0<=(ah b d).2.1/\(ah b d).2.1<=ai ((ac a) -1)))->(ae (! f))/\(ae (! f))/\((! f)->(aq (! f))/\(aq (! f))/\True)/\(aF f)/\ ∀(g:Bool),(g=bif f then true else decide ((ah b d).1=(ah b d).2.1))->(ae (! g))/\(ae (! g))/\(ae (! g))/\(aF g)/\ ∀(h:Bool),(h=bif g then true else ! decide (1<=(ah b
 d).2.2.1/\(ah b d).2.2.1<=1073741824))->(ae (! h))/\(ae (! h))/\(ae (! h))/\(aF h)/\ ∀(i:Bool),(i=bif h then true else ! decide (0<=(ah b d).2.2.2.1/\(ah b d).2.2.2.1<=1073741824))->(ae (! i))/\(ae (! i))/\(ae (! i))/\(aF i)/\ao (bif i then true else ! decide (0<=(ah b d).2.2.2.2.1/\(ah b d).2.2.2.2.1<=65536)) (11=lG (a,b,c)) (∃(j:Int),(0<=j/\j<=(ac b)/\ ∀(k:Int×Int×Int×Int×Int×Int),k∈take j.toNat b->ia a.length k)/\toNat ((ac b) -j)<toNat ((ac b) -d)/\ai ((ac a) -1)=ai ((ac a) -1)/\b=b/\(ac b)=(ac b)/\ai (d+1)=j/\a=a/\b=b/\c=c/\True)) (0=lG (a,b,c)):=by
  delta sM ae aq aF ai ah ac;rintro ns ls hs ⟨⟨⟨hnl,-⟩,⟨hl,-⟩,-⟩,-⟩ -;simp only[maxLen] at hl hnl;rw[aQ (n:=(ns.length:Int)-1) ab ab];refine⟨⟨0,⟨ab,ab,aC⟩,aM⟩,?_⟩;rintro i ⟨i0,i1,hI⟩;refine av (λhi=>?_) (λhi=>?_)
  rotate_left
  .have hi:=aO hi;rw[dm ab] at hI;unfold lG;rw[am];exact List.all_eq_true.2 λl hl=>dM (hI l hl)
  have hi:=aL hi;have hm:=bW i0 hi;refine⟨i0,hi,?_⟩;have key:ia ns.length (ls.getD i.toNat default)↔((0<=(ls.getD i.toNat default).1/\(ls.getD i.toNat default).1<=(ns.length:Int)-1)/\(0<=(ls.getD i.toNat default).2.1/\(ls.getD i.toNat default).2.1<=(ns.length:Int)-1)∧¬ (ls.getD i.toNat default).1=(ls.getD i.toNat default).2.1/\(1<=(ls.getD i.toNat default).2.2.1/\(ls.getD i.toNat default).2.2.1<=1073741824)/\(0<=(ls.getD i.toNat default).2.2.2.1/\(ls.getD i.toNat default).2.2.2.1<=1073741824)/\(0<=(ls.getD i.toNat default).2.2.2.2.1/\(ls.getD i.toNat default).2.2.2.2.1<=65536)):=by
   unfold ia lA lB mL iH mP;omega
  have dG:=λh=>nY i0 hi hI (P:=ia ns.length) h;generalize ls.getD i.toNat default=l at hm key dG ⊢;generalize hA:decide (0<=l.1/\l.1<=(ns.length:Int)-1)=bA;generalize hB:decide (0<=l.2.1/\l.2.1<=(ns.length:Int)-1)=bB;generalize hC:decide (l.1=l.2.1)=bC;generalize hD:decide (1<=l.2.2.1/\l.2.2.1<=1073741824)=bD;generalize hE:decide (0<=l.2.2.2.1/\l.2.2.2.1<=1073741824)=bE;generalize hF:decide (0<=l.2.2.2.2.1/\l.2.2.2.2.1<=65536)=bF;have key2:ia ns.length l↔(bA=true/\bB=true/\bC=false/\bD=true/\bE=true/\bF=true):=by
   rw[key,← hA,← hB,← hC,← hD,← hE,← hF];simp only[jz,sC]
  have bad:¬ ia ns.length l->(11:Int)=lG (ns,ls,hs):=λh=>by
   unfold lG;rw[af];intro k;exact h (aL (List.all_eq_true.1 k l hm))
  intro b1 hb1
  (repeat refine⟨aC,?_⟩);intro b2 hb2
  (repeat refine⟨aC,?_⟩);intro b3 hb3
  (repeat refine⟨aC,?_⟩);intro b4 hb4
  (repeat refine⟨aC,?_⟩);intro b5 hb5
  (repeat refine⟨aC,?_⟩);have tot:(bif b5 then true else !bF) = !(bA&&bB && !bC&&bD&&bE&&bF):=by
   rw[hb5,hb4,hb3,hb2,hb1];cases bA <;> cases bB <;> cases bC <;> cases bD <;> cases bE <;> cases bF <;> rfl
  rw[tot];refine av (λh=>bad λk=>?_) (λh=>?_)
  .obtain⟨a1,a2,a3,a4,a5,a6⟩:=key2.1 k;rw[a1,a2,a3,a4,a5,a6] at h;cases h
  .have h2:ia ns.length l:=key2.2 (by
    clear tot hb1 hb2 hb3 hb4 hb5 key2 hA hB hC hD hE hF;revert h;cases bA <;> cases bB <;> cases bC <;> cases bD <;> cases bE <;> cases bF <;> decide)
   exact⟨i+1,⟨ab,ab,dG h2⟩,ab,aM⟩
theorem aN4:aD 95 NG.spec:=aH Tryz.func95 (au aE JX) aF3 Yr
theorem Ra{links:ad}:∀{l:List Rt}{q:Option d8},chk links q l=0->cK l/\(∀ p,q=some p→∀ r∈l,bL p r.1)∧∀ r∈l,ga r.1=true/\lI r links
 | [],q,_=>⟨List.Pairwise.nil,λ_ _ r hr=>(by cases hr),λr hr=>(by cases hr)⟩
 | r::l,q,h=>by
  rw[chk] at h;split at h
  .cases h
  rename_i h1;split at h
  .cases h
  rename_i h2;split at h
  .cases h
  rename_i h3;obtain⟨i1,i2,i3⟩:=Ra h;have hv:ga r.1=true:=by cases hh:ga r.1 <;> simp_all
  have hp:∀ p,q=some p->bL p r.1:=λp hp=>by
   subst hp;rw[Option.any_some] at h2;have:¬ (0<=gD p r.1):=by simpa using h2
   exact z9.1 ab
  refine⟨List.pairwise_cons.2 ⟨i2 _ rfl,i1⟩,λp e z hz=>?_,λz hz=>?_⟩
  .rcases dj.1 hz with rfl|hz
   .exact hp p e
   .exact Bc (hp p e) (i2 _ rfl z hz)
  .rcases dj.1 hz with rfl|hz
   .exact⟨hv,gC h3⟩
   .exact i3 z hz
theorem yN{l:List Rt}{links:ad}(h:dJ l links=0):cK l/\l.length<=64∧∀ r∈l,ga r.1=true/\lI r links:=by
 unfold dJ at h
 split at h
 .cases h
 next hl=>have k:=Ra h;exact⟨k.1,ab,k.2.2⟩
theorem uU{l:List Rt}{links:ad}(h:dJ l links=0):cK l/\okL l:=by
 obtain⟨h1,h2,h3⟩:=yN h
 exact⟨h1,ab,λr hr=>by have:=(h3 r hr).2.1.1;omega⟩
def iu(c:aT):Int:=c.1
def bI(c:aT):Int:=c.2.1
def o8(c:aT):Bool:=c.2.2.1
def dB(c:aT):Rt:=c.2.2.2
def ml(a b:Int):Int:=if a≠0 then a else b
theorem qK{a b:Int}(h:ml a b=0):a=0/\b=0:=by
 unfold ml at h
 split at h
 next k=>exact absurd h k
 next k=>exact⟨ab,h⟩
def mh(n:cC)(i:Nat)(k:Int):Bool:=decide ((n.2.1.length:Int)<=k) || !(decide (lA (n.2.1.getD k.toNat default)=i)||decide (lB (n.2.1.getD k.toNat default)=i))
def jY(n:cC)(i:Nat):Int :=
 if dN (n.1.getD i default)≠0 then dN (n.1.getD i default)
 else if (bq (n.1.getD i default)).any (mh n i) then 11 else 0
def ku(n:cC):Int:=first (jY n) n.1.length
def fT(l:List Rt)(c:aT):List Rt:=if o8 c=true then jl l (dB c).1 else f6 l (dB c)
def dD(n:cC):Nat->List (List Rt)
 | 0=>n.1.map bf
 | i+1=>(dD n i).set (bI (n.2.2.getD i default)).toNat (fT ((dD n i).getD (bI (n.2.2.getD i default)).toNat default) (n.2.2.getD i default))
def mC(n:cC)(i:Nat)(c p:aT)(l:List Rt):Int :=
 if iu c<0∨1125899906842624<iu c then 1
 else if 0<i/\iu c<iu p then 6
 else if bI c<0∨(n.1.length:Int)<=bI c then 8
 else if o8 c=true/\mz l (dB c).1=false then 8
 else dJ (fT l c) (bq (n.1.getD (bI c).toNat default))
def ie(n:cC)(i:Nat):Int:=mC n i (n.2.2.getD i default) (n.2.2.getD (i-1) default) ((dD n i).getD (bI (n.2.2.getD i default)).toNat default)
def ld(n:cC):Int:=first (ie n) n.2.2.length
def dA(n:cC):Int:=ml (nG n) (ml (lG n) (ml (ku n) (ml (mU n) (ml (nT n) (ml (nq n) (ld n))))))
theorem H7{n:cC}(h:lG n=0):Ad n:=λl hl=>by
 unfold lG at h
 split at h
 next k=>have k:=aL (List.all_eq_true.1 k l hl);exact⟨k.1,k.2.1,k.2.2.1,k.2.2.2.1⟩
 .cases h
theorem pf{α:Type} [Inhabited α] {xs:List α} {i:Nat} (h:i<xs.length):xs.getD i default∈xs:=by
 have:=bW (xs:=xs) (i:=(i:Nat)) ab ab
 simpa using this
theorem Py{x:ar}(h:first (g9 x) (aA x).length=0):∀ k∈bq x,0<=k:=λk hk=>by
 obtain⟨q,hq,rfl⟩:=List.mem_map.1 hk
 obtain⟨i,hi,e⟩:=List.mem_iff_getElem.1 hq
 have k1:=um h i hi
 unfold g9 at k1
 rw[ce,cF hi,fu,e] at k1
 split at k1
 .cases k1
 split at k1
 .cases k1
 rename_i h2
 show 0<=q.2
 omega
structure NV (x:ar):Prop where
 len:(aA x).length<=32
 pos:0<(aA x).length
 bad:first (g9 x) (aA x).length=0
 loop:¬ nU x
 form:¬ mJ x
 tab:dJ (bf x) (bq x)=0
theorem GK{x:ar}(h:dN x=0):NV x:=by
 unfold dN at h
 split at h
 .cases h
 rename_i h1
 split at h
 next k=>exact absurd h k
 rename_i h2
 split at h
 .cases h
 rename_i h3
 split at h
 .cases h
 rename_i h4
 split at h
 next k=>exact absurd h k
 split at h
 next k=>exact absurd h k
 refine⟨ab,?_,ab,h3,h4,h⟩
 unfold mJ at h4
 omega
theorem Au{n:cC}(h:ku n=0){i:Nat}(hi:i<n.1.length):NV (n.1.getD i default):=by
 have k:=um h i hi
 unfold jY at k
 split at k
 next e=>exact absurd k e
 next e=>exact GK ab
theorem PQ{n:cC}(h:ku n=0):∀ x∈n.1,NV x:=λx hx=>by
 obtain⟨i,hi,e⟩:=List.mem_iff_getElem.1 hx
 have:=Au h hi
 rw[ce,cF hi,e] at this;exact this
structure TB (n:cC) (t:List (List Rt)):Prop where
 len:t.length=n.1.length
 r:∀ i:Nat,i<n.1.length->cK (t.getD i default)/\okL (t.getD i default)
theorem A0{α β:Type} [Inhabited α] [Inhabited β] {f:α->β} {l:List α} {i:Nat} (h:i<l.length):(l.map f).getD i default=f (l.getD i default):=by
 rw[ce,ce,List.getElem?_map,cF h];rfl
theorem qo(n:cC):∀ i:Nat,(dD n i).length=n.1.length
 | 0=>by simp[dD]
 | i+1=>by rw[dD,fV,qo n i]
theorem Ju{n:cC}(hb:ku n=0):∀{i:Nat},first (ie n) i=0->TB n (dD n i)
 | 0,_=>⟨qo n 0,λi hi=>by
  rw[dD,A0 hi];exact uU (Au hb hi).tab⟩
 | i+1,h=>by
  have h0:first (ie n) i=0:=by
   by_cases e:first (ie n) i=0
   .exact e
   .rw[first,am e] at h;exact h
  have k:=Ju hb h0;have hz:ie n i=0:=um h i ab;refine⟨qo n _,λj hj=>?_⟩;rw[dD];unfold ie mC at hz;generalize n.2.2.getD i default=c at hz ⊢;split at hz
  .cases hz
  split at hz
  .cases hz
  split at hz
  .cases hz
  rename_i hw;split at hz
  .cases hz
  by_cases e:(bI c).toNat=j
  .subst e;rw[jN (by rw[k.len];exact hj)];exact uU hz
  .rw[m7 e];exact k.r j hj
def Fl(who at':Int)(l:List Rt)(c:aT):List Rt:=if bI c=who/\iu c<=at' then fT l c else l
def M4(n:cC)(who at':Int)(k:Int):List Rt:=(n.2.2.take k.toNat).foldl (Fl who at') (bf (n.1.getD who.toNat default))
def GH(n:cC)(who at':Int):List Rt:=if who<0∨(n.1.length:Int)<=who then [] else M4 n who at' n.2.2.length
structure Af (m:Nat) (l:List Rt):Prop where
 s:cK l
 n:l.length<=m
 x:∀ r∈l,(r.2.1.length:Int)<=1099511627776
theorem Af.okL{m:Nat}{l:List Rt}(h:Af m l)(hm:m<=100000):okL l:=⟨by have:=h.n;omega,h.x⟩
theorem Af.ch{m:Nat}{l:List Rt}(h:Af m l){c:aT}(hc:((dB c).2.1.length:Int)<=1099511627776):Af (m+1) (fT l c):=by
 unfold fT
 split
 .refine⟨List.Pairwise.filter _ h.s,?_,λr hr=>h.x r (List.mem_filter.1 hr).1⟩;have:=OL l (dB c).1;have:=h.n;omega
 .refine⟨I4 h.s,?_,λr hr=>?_⟩
  .have:=Rz l (dB c);have:=h.n;omega
  .rcases Sc.1 hr with rfl|⟨hr,-⟩
   .exact hc
   .exact h.x r hr
def a06(s t:Int)(c:aT):Bool:=decide (s<iu c/\iu c<=t)
theorem KP{x:ar}{a:Int}:0<=jo x a↔a∈lL x:=by
 unfold jo iy
 constructor
 .intro h;split at h
  next k=>have:=List.findIdx_getElem (w:=k);exact List.mem_map.2 ⟨_,List.getElem_mem k,aL this⟩
  .omega
 .intro h;obtain⟨q,hq,rfl⟩:=List.mem_map.1 h;have:(aA x).findIdx (gZ q.1)<(aA x).length:=List.findIdx_lt_length_of_exists ⟨q,hq,by unfold gZ;simp⟩;rw[am this];omega
theorem LR{x:ar}{a:Int}:fH x a=true↔a∈cz x:=by
 unfold fH cz
 rw[oo,dr,ng,KP,dH]
 refine or_congr lW ?_
 by_cases h:fM x=0
 .rw[am h];simp[h]
 .rw[af h];simp[h];exact eq_comm
end Go.RS
