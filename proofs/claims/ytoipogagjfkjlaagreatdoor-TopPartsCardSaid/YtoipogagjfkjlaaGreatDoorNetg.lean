/- Node1: what a node does with a packet: the program. -/
import Derived.Test.YtoipogagjfkjlaaGreatDoorNodek
import Derived.Test.YtoipogagjfkjlaaGreatDoorIdent
import Derived.Test.YtoipogagjfkjlaaGreatDoorVant
set_option maxRecDepth 100000
set_option linter.unusedVariables false
open Int (toNat)
open List (take set replicate range)
namespace Go.RS
open Go.SX Go.Proofs
abbrev bG0:OT := .pair (.dat (.sl d8)) (.pair cI (.pair (.row 3 cI) (.pair xF cI)))
abbrev sE:OT := .pair dK (.pair bG0 (.pair cI (.pair cI (.pair (.dat (.sl bq)) oV))))
abbrev AA:CT := .pair cI (.sl bq)
abbrev fi:Type:=ar×NState×Int×Int×ac×dJ
abbrev qL:Type:=NState×bU0×Int
def pj(h:dJ):Int:=h.2.2.2.2.2.1
def mh(h:dJ):Int:=h.2.2.2.2.2.2
def vh(h:dJ):Int:=h.2.1
def DA(h:dJ):Int:=h.2.2.1
def Fh(h:dJ):Int:=h.2.2.2.1
def dR(x:ar)(link:Int):Int:=max (fG x link) 0
def adr(x:ar)(i:Int):Int:=if i<0∨(aM x).length<=i then 0 else ((aM x).getD i.toNat default).1
def iG(s:NState)(a:Int):Bool:=sG (cR s) a&&decide (0<(cN (cR s) a).2.1.length)
def pickI(x:ar)(s:NState)(r:Rt)(k:kx):Int:=(qt r.2.2 (GU x) k (pf s) r.2.1.length).1
def lW(x:ar)(s:NState)(r:Rt)(k:kx):Int:=if r.2.1.length=1 then r.2.1.getD 0 default else r.2.1.getD (pickI x s r k).toNat default
def RT(s:NState)(b:Int):NState:=(s.1,s.2.1,s.2.2.1,s.2.2.2.1,b)
def jv(s:NState)(r:Rt):NState:=if r.2.1.length=1 then s else RT s (IntKind.i64.wrap (pf s+1))
def Gj(s:NState)(t:bT2):NState:=(s.1,s.2.1,s.2.2.1,t,s.2.2.2.2)
def uq(l:ac)(i:Int):ac:=if i<l.length then l.set i.toNat (IntKind.i64.wrap (l.getD i.toNat default+1)) else l
def SY(s:NState)(i:Int):NState:=(s.1,IntKind.i64.wrap (s.2.1+1),uq s.2.2.1 i,s.2.2.2)
def ob(x:ar)(i link:Int):Int:=if oJ x=2 then adr x (fG x link) else if oJ x=3 then kT x else if oJ x=4 then uf x else adr x i
def jZ(w:fi)(s:NState):fi:=(w.1,s,w.2.2)
def yW(w:fi)(h:dJ):fi:=(w.1,w.2.1,w.2.2.1,w.2.2.2.1,w.2.2.2.2.1,h)
def lF:Int×ac:=(0,[])
def om(w:fi):bT2×Bool:=gw (mw w.1) (wD w.2.1) w.2.2.2.1
def oq(w:fi):NState:=SY (Gj w.2.1 (om w).1) (dR w.1 w.2.2.1)
def nL(w:fi):Rt:=cN (cR w.2.1) (pj w.2.2.2.2.2)
def mo(B:Int->Int->ac)(w:fi):Int:=lW w.1 (oq w) (nL w) (iR (B (adr w.1 (dR w.1 w.2.2.1)) 0))
def jk(w:fi):Int:=oP w.1 (Gj w.2.1 (om w).1) (dR w.1 w.2.2.1) w.2.2.2.1 (vh w.2.2.2.2.2) (pj w.2.2.2.2.2)
def lE(B:Int->Int->ac)(w:fi)(own:Int):Int:=if own=0 then ob w.1 (dR w.1 w.2.2.1) (mo B w) else own
def fT(B:Int->Int->ac)(E:Int->Int)(w:fi)(own:Int):qL :=
 if own=0/\oH w.1=true then (w.2.1,lF,4)
 else if E 0≠0 then (w.2.1,lF,6)
 else if iG w.2.1 (pj w.2.2.2.2.2)=false then (w.2.1,lF,8)
 else if (om w).2=false then (Gj w.2.1 (om w).1,lF,5)
 else (jv (oq w) (nL w),(mo B w,B (lE B w own) (jk w)),2)
def jE(w:fi)(f i:Int):ac:=lS w.2.2.2.2.1 f i (lN w.1)
def oS(w:fi)(i:Int):Int:=jn w.2.2.2.2.1 i (lN w.1)
def gT(w:fi)(kind code f i:Int):ac:=lv w.2.2.2.2.1 f kind code i (lN w.1)
def o7(w:fi)(kind code i:Int):Int:=iW w.2.2.2.2.1 kind code i (lN w.1)
def kA(w:fi):qL :=
 if w.2.2.1 = -1∨oS w 0≠0 then (w.2.1,lF,1)
 else fT (jE w) (oS w) w (if Fh w.2.2.2.2.2=17 then 0 else mh w.2.2.2.2.2)
def gS(w:fi):qL :=
 if w.2.2.1 ≠ -1/\gG w.1=false/\DA w.2.2.2.2.2<2 then fT (gT w 11 0) (o7 w 11 0) w 0
 else if iG w.2.1 (mh w.2.2.2.2.2)=false then (if w.2.2.1 = -1 then (w.2.1,lF,8) else fT (gT w 3 0) (o7 w 3 0) w 0)
 else (jv w.2.1 (cN (cR w.2.1) (mh w.2.2.2.2.2)),(lW w.1 w.2.1 (cN (cR w.2.1) (mh w.2.2.2.2.2)) (iR w.2.2.2.2.1),if w.2.2.1 ≠ -1/\gG w.1=false then lL w.2.2.2.2.1 else w.2.2.2.2.1),0)
def ir(w:fi):qL :=
 if dE w.2.2.2.2.1≠0 then (w.2.1,lF,6)
 else if mD w.1 (mh (cD w.2.2.2.2.1).1)=true then kA (yW w (cD w.2.2.2.2.1).1)
 else if pv w.1=true/\w.2.2.1 ≠ -1 then (w.2.1,lF,6)
 else gS (yW w (cD w.2.2.2.2.1).1)
def gO(x:ar)(s:NState)(link at':Int)(b:ac):qL:=ir (x,s,link,at',b,sy)
def rG(w:fi):Prop:=dS (cR w.2.1)/\okL (cR w.2.1)/\(w.2.2.2.2.1.length:Int)<=1000000
theorem UU{way seed:Int}{k:kx}{count n:Int}(h:1<=n):0<=(qt way seed k count n).1/\(qt way seed k count n).1<n:=by
 have h1:=EH seed k
 have h2:=EH seed (k.1,k.2.1,0,0,0)
 unfold qt
 split
 .exact⟨gH _,by show (0:Int)<n;omega⟩
 next hn=>
  dsimp only;split
  .exact⟨Int.tmod_nonneg _ h1.1,Int.tmod_lt_of_pos _ ab⟩
  .split
   .exact⟨Int.tmod_nonneg _ h2.1,Int.tmod_lt_of_pos _ ab⟩
   .exact⟨Int.tmod_nonneg _ ab,Int.tmod_lt_of_pos _ ab⟩
theorem Ie{r:qL}{s:NState}{o:bU0}{y:Int}(w:fi)(e:r=(s,o,y)):o=r.2.1/\y=r.2.2/\jZ w s=jZ w r.1:=by subst e;exact⟨rfl,rfl,rfl⟩
theorem A5{B:Int->Int->ac}{E:Int->Int}{w:fi}{own:Int}(h:own=0/\oH w.1=true):fT B E w own=(w.2.1,lF,4):=by unfold fT;rw[aj h]
theorem Bj{B:Int->Int->ac}{E:Int->Int}{w:fi}{own:Int}(h:¬ (own=0/\oH w.1=true))(h1:E 0≠0):fT B E w own=(w.2.1,lF,6):=by unfold fT;rw[ah h,aj h1]
theorem BN{B:Int->Int->ac}{E:Int->Int}{w:fi}{own:Int}(h:¬ (own=0/\oH w.1=true))(h1:¬ E 0≠0)(h2:iG w.2.1 (pj w.2.2.2.2.2)=false):fT B E w own=(w.2.1,lF,8):=by
 unfold fT;rw[ah h,ah h1,aj h2]
theorem Cz{B:Int->Int->ac}{E:Int->Int}{w:fi}{own:Int}(h:¬ (own=0/\oH w.1=true))(h1:¬ E 0≠0)(h2:¬ iG w.2.1 (pj w.2.2.2.2.2)=false)(h3:(om w).2=false):fT B E w own=(Gj w.2.1 (om w).1,lF,5):=by
 unfold fT;rw[ah h,ah h1,ah h2,aj h3]
theorem Df{B:Int->Int->ac}{E:Int->Int}{w:fi}{own:Int}(h:¬ (own=0/\oH w.1=true))(h1:¬ E 0≠0)(h2:¬ iG w.2.1 (pj w.2.2.2.2.2)=false)(h3:¬ (om w).2=false) :
  fT B E w own=(jv (oq w) (nL w),(mo B w,B (lE B w own) (jk w)),2):=by
 unfold fT;rw[ah h,ah h1,ah h2,ah h3]
theorem Fp{s:NState}{a:Int}(h:¬ iG s a=false):(cN (cR s) a).2.1≠[]:=by
 intro e;apply h;unfold iG;rw[e];simp
theorem PR(p:nH):((fN p).length:Int)<=1500:=by
 unfold fN
 split
 next h=>
  unfold gv at h;split at h
  .cases h
  .split at h
   .cases h
   .rw[cL,vu];omega
 .simp
theorem Rj(b:ac)(src kind code id ttl:Int):((lv b src kind code id ttl).length:Int)<=1500:=by
 unfold lv;split
 .exact PR _
 .simp
theorem aI9(b:ac)(src id ttl:Int):((lS b src id ttl).length:Int)<=1500:=by
 unfold lS;split
 .split
  .exact PR _
  .split
   .exact Rj ..
   .exact PR _
 .simp
theorem Q2(w:fi)(f i:Int):((jE w f i).length:Int)<=1500:=aI9 ..
theorem OQ(w:fi)(k c f i:Int):((gT w k c f i).length:Int)<=1500:=Rj ..
theorem Ho(x:ar)(k:Int):0<=dR x k:=by unfold dR;omega
theorem Pf{l:ac}{i:Int}(h:i<l.length):uq l i=l.set i.toNat (IntKind.i64.wrap (l.getD i.toNat default+1)):=aj h
theorem Ts{l:ac}{i:Int}(h:¬ i<l.length):uq l i=l:=ah h
def aL0:Ct:=⟨[.box 341 sE],[.val cI],λd=>[],λd=>((dR d.1.1 d.1.2.2.1,()),(d.1,()))⟩
def px(a:ar)(b:List ci)(c:Int)(d:ac×bT2×Int)(e f:Int)(g:ac×dJ):=(a,(b,c,d),e,f,g)=(a,(b,c,d),e,f,g)
def lp(a b:Int)(c:ac)(d:dJ):=bG a b (aV c) (CT.wf oV d)
theorem bG9:
 ∀(a:ar)(b:List ci)(c:Int)(d:ac)(e f g h i:Int)(j:ac)(k:dJ),ft (CT.wf dK a/\gM b c d e f g/\lp h i j k) (max (fG a h) 0=dR a h/\px a b c (d,(e,f),g) h i (j,k)):= by
  delta aq aI aV aQ cO cS cB bG gM ai px aD ft lp
  intros
  exact⟨rfl,rfl⟩
theorem Xc:aB 317 aL0.spec:=aF Tryz.func317 (am aC J8) aS bG9
def a17:Ct:=⟨[.box 341 sE,.val cI],[.val db],λd=>[],λd=>((adr d.1.1 d.2.1,()),(d.1,()))⟩
theorem bQ8:
 ∀(a:ar)(b:List ci)(c:Int)(d:ac)(e f g h i:Int)(j:ac)(k:dJ)(l:Int),(CT.wf dK a/\gM b c d e f g/\lp h i j k)/\ai (aq l)->True-> ∀(m:Bool),m=dw l->cX m (bO m) (cX m (fZ m) (br m/\au (bn m (decide (ae a.1<=l))) (0=adr a l/\px a b c (d,(e,f),g) h i (j,k)) (bu l (ae a.1) ((af a.1 l).1=adr a l) (px a b c (d,(e,f),g) h i (j,k))))):= by
  delta af ae aq aI bO aV aQ aT cO cS cB bG bn cX ao br fZ gM ai px aD dw bu d7 av lp
  rintro d x x1 x2 x3 x4 x5 x6 x7 x8 h i - -
  (repeat (refine dq ?_;repeat refine dm ?_))
  refine vL (λho=>?_) (λh1 h2=>?_)
  .unfold adr
   rw[aj (by rcases ho with q|q <;> have:=aX q <;> first|exact .inl this|exact .inr this)]
   exact⟨rfl,rfl⟩
  .have h1:=bi h1
   have h2:=bi h2
   refine⟨ab,ab,?_,rfl⟩
   unfold adr
   rw[ah (by rintro (q|q);exact h1 q;exact h2 q)]
   rfl
theorem Lk:aB 318 a17.spec:=aF Tryz.func318 aC aS bQ8
def Y4:Ct:=⟨[.box 341 sE,.agg d8,.val (.sl bq)],[.val cI],λd=>[d.2.1.2.1≠[],(d.2.2.1.length:Int)<=1000000],λd=>((lW d.1.1 d.1.2.1 d.2.1 (iR d.2.2.1),()),(jZ d.1 (jv d.1.2.1 d.2.1),()))⟩
theorem ah0:
 ∀(a:ar)(b:List ci)(c:Int)(d:ac)(e f g h i:Int)(j:ac)(k:dJ)(l m:Int)(n:ac)(o:Int)(p:ac),(CT.wf dK a/\gM b c d e f g/\lp h i j k)/\cS l m n o/\ai (aV p)->n≠[]/\bY p->au (iO (ae n)) (bu 0 (ae n) (af n 0=lW a (b,c,d,(e,f),g) ((l,m),n,o) (iR p)) ((a,(b,c,d,(e,f),g),h,i,j,k)=jZ (a,(b,c,d,(e,f),g),h,i,j,k) (jv (b,c,d,(e,f),g) ((l,m),n,o)))) (aG p/\bu (qt o a.2.2.2.2.2.2.2.2.2.2.2.2.2.2 (iR p) g (ae n)).1 (ae n) (af n (qt o a.2.2.2.2.2.2.2.2.2.2.2.2.2.2 (iR p) g (ae n)).1=lW a (b,c,d,(e,f),g) ((l,m),n,o) (iR p)) ((a,(b,c,d,(e,f),ap (g+1)),h,i,j,k)=jZ (a,(b,c,d,(e,f),g),h,i,j,k) (jv (b,c,d,(e,f),g) ((l,m),n,o)))):= by
  delta af ae ap aq aI aV aQ cO cS cB aG bG cH ao gM bY ai aD bu lp iO
  rintro d x x1 x2 x3 x4 x5 x6 x7 x8 h r1 r2 nx bl b-⟨hn,hb⟩
  have hpos:1<=(nx.length:Int):=by cases nx with
   | nil=>exact absurd rfl hn
   | cons a l=>simp;omega
  refine bP (λh1=>?_) (λh1=>?_)
  .have h1':nx.length=1:=ab
   refine⟨ab,ab,?_,?_⟩
   .unfold lW;rw[aj h1'];rfl
   .unfold jv;rw[aj h1'];rfl
  .have h1':¬ nx.length=1:=ab
   have hc:=UU (way:=bl) (seed:=d.2.2.2.2.2.2.2.2.2.2.2.2.2.2) (k:=iR b) (count:=x5) hpos
   refine⟨ab,hc.1,hc.2,?_,?_⟩
   .unfold lW;rw[ah h1'];rfl
   .unfold jv;rw[ah h1'];rfl
theorem O7:aB 296 Y4.spec:=aF Tryz.func296 (am (am aC aD6) ag4) aS ah0
def Zy:Ct:=⟨[.box 341 sE,.val db],[.agg d8,.val .bool],λd=>[dS (cR d.1.2.1),okL (cR d.1.2.1)],λd=>((cN (cR d.1.2.1) d.2.1,iG d.1.2.1 d.2.1,()),(d.1,()))⟩
def gK(a:List ci)(b:Int)(c:ac)(d e f g:Int):=cN (cR (a,b,c,(d,e),f)) g
theorem aV8:
 ∀(a:ar)(b:List ci)(c:Int)(d:ac)(e f g h i:Int)(j:ac)(k:dJ)(l:Int),(CT.wf dK a/\gM b c d e f g/\lp h i j k)/\ai (aQ l)->(dS (cR (b,c,d,(e,f),g))/\ae (cR (b,c,d,(e,f),g))<=134217728/\ ∀(m:Rt),m∈cR (b,c,d,(e,f),g)->aG m.2.1)->dS b/\okL b/\ ∀(m:Bool),m=sG b l->ia m m (aT m) (m->m) (cN b l=gK b c d e f g l/\bw m (av 0 (ae (cN b l).2.1))=iG (b,c,d,(e,f),g) l/\px a b c (d,(e,f),g) h i (j,k)):= by
  delta ae aq aI aV aQ aT cO cS cB aG bG cH cG bw gM ia gK ai px aD av lp
  rintro d x x1 x2 x3 x4 x5 x6 x7 x8 h a-⟨h1,h2⟩
  refine⟨h1,h2,?_⟩
  (repeat (refine dq ?_;repeat refine dm ?_))
  refine⟨rfl,?_,rfl⟩
  show (bif sG x a then decide (0<((cN x a).2.1.length:Int)) else false)=(sG x a&&decide (0<(cN x a).2.1.length))
  cases sG x a <;> simp
theorem O2:aB 295 Zy.spec:=aF Tryz.func295 (am aC bi7) aS aV8
def aa1:Ct:=⟨[.val db,.val cI,.box 339 (.ref 341 sE),.box 3 cI,.box 3 cI],[.own 5 bq,.val cI],λd=>[(d.2.2.1.2.2.2.2.1.length:Int)<=1000000],λd=>((gT d.2.2.1 d.2.2.2.1 d.2.2.2.2.1 d.1 d.2.1,o7 d.2.2.1 d.2.2.2.1 d.2.2.2.2.1 d.2.1,()),(d.2.2.1,d.2.2.2.1,d.2.2.2.2.1,()))⟩
theorem at1:
 ∀(a b:Int)(c:ar)(d:List ci)(e:Int)(f:ac)(g h i j k:Int)(l:ac)(m:dJ)(n o:Int),aQ a/\aq b/\(CT.wf dK c/\gM d e f g h i/\lp j k l m)/\dI n o->bY l->aG l/\lv l a n o b c.2.2.2.2.2.2.2.2.2.2.2.2.2.1=gT (c,(d,e,f,(g,h),i),j,k,l,m) n o a b/\iW l n o b c.2.2.2.2.2.2.2.2.2.2.2.2.2.1=o7 (c,(d,e,f,(g,h),i),j,k,l,m) n o b/\px c d e (f,(g,h),i) j k (l,m)/\n=n/\o=o:= by
  delta ae aq aI aV aQ cO cS cB aG bG cH gM bY dI ai px aD lp
  rintro x x1 d y y1 y2 y3 y4 y5 y6 y7 b h k c-hb
  exact⟨ab,rfl,rfl,rfl,rfl,rfl⟩
theorem br7:aB 321 aa1.spec:=aF Tryz.func321 (am aC Wv) aS at1
def bC1:Ct:=⟨[.box 341 sE,.val cI,.val cI],[.fn 321 3,.box 339 .ali,.box 3 cI,.box 3 cI],λd=>[],λd=>(((),(),d.2.1,d.2.2.1,()),(d.1,()))⟩
theorem bv0:
 ∀(a:ar)(b:List ci)(c:Int)(d:ac)(e f g h i:Int)(j:ac)(k:dJ)(l m:Int),(CT.wf dK a/\gM b c d e f g/\lp h i j k)/\dI l m->True->()=()/\()=()/\aA l (m=m) (px a b c (d,(e,f),g) h i (j,k)):= by
  delta aq aI aV aQ cO cS cB bG aA gM dI ai px aD lp
  intros
  exact⟨rfl,rfl,rfl,rfl,rfl⟩
theorem a83:aB 294 bC1.spec:=aF Tryz.func294 aC aS bv0
def ab5:Ct:=⟨[.val db,.val cI,.box 339 (.ref 341 sE)],[.own 5 bq,.val cI],λd=>[(d.2.2.1.2.2.2.2.1.length:Int)<=1000000],λd=>((jE d.2.2.1 d.1 d.2.1,oS d.2.2.1 d.2.1,()),(d.2.2.1,()))⟩
theorem ao3:
 ∀(a b:Int)(c:ar)(d:List ci)(e:Int)(f:ac)(g h i j k:Int)(l:ac)(m:dJ),aQ a/\aq b/\ai (CT.wf dK c/\gM d e f g h i/\lp j k l m)->bY l->aG l/\lS l a b c.2.2.2.2.2.2.2.2.2.2.2.2.2.1=jE (c,(d,e,f,(g,h),i),j,k,l,m) a b/\jn l b c.2.2.2.2.2.2.2.2.2.2.2.2.2.1=oS (c,(d,e,f,(g,h),i),j,k,l,m) b/\px c d e (f,(g,h),i) j k (l,m):= by
  delta ae aq aI aV aQ cO cS cB aG bG cH gM bY ai px aD lp
  rintro x x1 d y y1 y2 y3 y4 y5 y6 y7 b h-hb
  exact⟨ab,rfl,rfl,rfl⟩
theorem XC:aB 291 ab5.spec:=aF Tryz.func291 (am aC ao0) aS ao3
def Yq:Ct:=⟨[.box 341 sE,.val cI,.val cI],[.val db],λd=>[],λd=>((ob d.1.1 d.2.1 d.2.2.1,()),(d.1,()))⟩
theorem ar0:
 ∀(a:ar)(b:List ci)(c:Int)(d:ac)(e f g h i:Int)(j:ac)(k:dJ)(l m:Int),(CT.wf dK a/\gM b c d e f g/\lp h i j k)/\dI l m->True->au (decide (a.2.2.2.2.2.1=2)) (adr a (fG a m)=ob a l m/\px a b c (d,(e,f),g) h i (j,k)) (au (decide (a.2.2.2.2.2.1=3)) (a.2.1=ob a l m/\px a b c (d,(e,f),g) h i (j,k)) (au (decide (a.2.2.2.2.2.1=4)) (a.2.2.2.2.2.2.1=ob a l m/\px a b c (d,(e,f),g) h i (j,k)) (adr a l=ob a l m/\px a b c (d,(e,f),g) h i (j,k)))):= by
  delta aq aI aV aQ cO cS cB bG gM dI ai px aD lp
  rintro d x x1 x2 x3 x4 x5 x6 x7 x8 h i l - -
  unfold ob oJ kT uf
  refine ay (λh1=>?_) (λh1=>?_)
  .rw[aj (aX h1)];exact⟨rfl,rfl⟩
  rw[ah (bi h1)]
  refine ay (λh2=>?_) (λh2=>?_)
  .rw[aj (aX h2)];exact⟨rfl,rfl⟩
  rw[ah (bi h2)]
  refine ay (λh3=>?_) (λh3=>?_)
  .rw[aj (aX h3)];exact⟨rfl,rfl⟩
  rw[ah (bi h3)]
  exact⟨rfl,rfl⟩
theorem XA:aB 320 Yq.spec:=aF Tryz.func320 (am (am aC J8) Lk) aS ar0
def WT:Ct:=⟨[.box 341 sE,.fn 291 1,.box 339 .ali,.val db],[.agg AA,.val cI],λd=>[rG d.1],λd=>(((fT (jE d.1) (oS d.1) d.1 d.2.2.2.1).2.1,(fT (jE d.1) (oS d.1) d.1 d.2.2.2.1).2.2,()),(jZ d.1 (fT (jE d.1) (oS d.1) d.1 d.2.2.2.1).1,(),()))⟩
def ab6:bp WT.ps->bI:=(λd=>{cuts:=(bt 17 (λS=>{ι:=Int×ac×bT2,qn:=pI,inv:=λi=>fT (jE d.1) (oS d.1) d.1 d.2.2.2.1=(jv (oq d.1) (nL d.1),(mo (jE d.1) d.1,(jE d.1) (lE (jE d.1) d.1 d.2.2.2.1) (jk d.1)),2)/\(nL d.1).2.1≠[]/\(cR d.1.2.1,i.1,i.2.1,i.2.2,pf d.1.2.1)=oq d.1,keep:=[0,1,2,6,9,11],slots:=λi=>[(8,.int .i64 (dR d.1.1 d.1.2.2.1)),(13,.int .i64 (jk d.1))],keepN:=[112,192,560,1048577],names:=λi=>[(1048576,.live (.cells 341 (cQ dK d.1.1++([.dsl d8 (cR d.1.2.1),.int .i64 i.1,.own 524288 1]++(cQ xF i.2.2++([.int .i64 (pf d.1.2.1),.int .i64 d.1.2.2.1,.int .i64 d.1.2.2.2.1,.dsl bq d.1.2.2.2.2.1]++cQ oV d.1.2.2.2.2.2)))))),(524288,.live (.row 3 cI i.2.1))]}) bZ)})
def jM(a:ar)(b:NState×Int×Int×ac×dJ)(c:List ci×Int×ac×bT2×Int)(d:Int×Int×ac×dJ)(e:Int):=fT (jE (a,b)) (oS (a,b)) (a,c,d) e
def o6(a:ac)(b:Int):=set a b.toNat (ap (af a b+1))
def wV(a:List ci)(b:Int)(c:ac)(d e f:Int)(g:ac):=dS (cR (a,b,c,(d,e),f))/\okL (cR (a,b,c,(d,e),f))/\bY g
def yy(a:ar)(b:List ci)(c:bV4)(d:Int)(e:Int×ac×dJ):=jE (a,(b,c),d,e) (adr a (dR a d)) 0
def zF(a:ar)(b:List ci)(c:bV4)(d:Int)(e:Int×ac×dJ):=jv (oq (a,(b,c),d,e)) (nL (a,(b,c),d,e))
def d6(a b c:Int)(d e:Prop):=aU a b (c=c) (d/\e)
def Dz(a b:Bool)(c d:Prop):=∀(e:Bool),e=a->ia e e (aT e) (e->aT e) ((e->e)/\au (bw e b) c d)
def Dd(a:List ci)(b:Int)(c:ac)(d e f g:Int):=(gK a b c d e f g).2.1=(gK a b c d e f g).2.1
def yZ(a:ar×NState×Int×Int×ac×dJ)(b:List ci×Int×ac×bT2×Int)(c:Int)(d:ac×bT2×Int)(e:ar)(f:NState×Int×Int×ac×dJ):=(nL a).2.1≠[]/\(cR b,c,d)=oq (e,f)
def KA(a:ar)(b:NState×Int×Int×ac×dJ)(c:List ci×Int×ac×bT2×Int)(d:Int×Int×ac×dJ)(e:ar×NState×Int×Int×ac×dJ)(f:Int):=((mo (jE (a,b)) (a,c,d),jE (a,c,d) (lE (jE e) (a,b) f) (jk (a,b))),(2:Int))
theorem ad7:
 ∀(a:ar)(b:List ci)(c:Int)(d:ac)(e f g h i:Int)(j:ac)(k:dJ)(l:Int),(CT.wf dK a/\gM b c d e f g/\lp h i j k)/\True/\True/\ai (aQ l)->wV b c d e f g j->Dz (eG l) a.2.2.2.2.2.2.2.2.2.2.2.1 (gA=(jM a ((b,c,d,(e,f),g),h,i,j,k) (b,c,d,(e,f),g) (h,i,j,k) l).2.1/\4=(jM a ((b,c,d,(e,f),g),h,i,j,k) (b,c,d,(e,f),g) (h,i,j,k) l).2.2/\(a,(b,c,d,(e,f),g),h,i,j,k)=jZ (a,(b,c,d,(e,f),g),h,i,j,k) (jM a ((b,c,d,(e,f),g),h,i,j,k) (b,c,d,(e,f),g) (h,i,j,k) l).1/\()=()) (bY j/\au (bJ (oS (a,(b,c,d,(e,f),g),h,i,j,k) 0)) (gA=(jM a ((b,c,d,(e,f),g),h,i,j,k) (b,c,d,(e,f),g) (h,i,j,k) l).2.1/\6=(jM a ((b,c,d,(e,f),g),h,i,j,k) (b,c,d,(e,f),g) (h,i,j,k) l).2.2/\(a,(b,c,d,(e,f),g),h,i,j,k)=jZ (a,(b,c,d,(e,f),g),h,i,j,k) (jM a ((b,c,d,(e,f),g),h,i,j,k) (b,c,d,(e,f),g) (h,i,j,k) l).1/\()=()) (dS (cR (b,c,d,(e,f),g))/\okL (cR
 (b,c,d,(e,f),g))/\au ( !iG (b,c,d,(e,f),g) k.2.2.2.2.2.1) (gA=(jM a ((b,c,d,(e,f),g),h,i,j,k) (b,c,d,(e,f),g) (h,i,j,k) l).2.1/\8=(jM a ((b,c,d,(e,f),g),h,i,j,k) (b,c,d,(e,f),g) (h,i,j,k) l).2.2/\(a,(b,c,d,(e,f),g),h,i,j,k)=jZ (a,(b,c,d,(e,f),g),h,i,j,k) (jM a ((b,c,d,(e,f),g),h,i,j,k) (b,c,d,(e,f),g) (h,i,j,k) l).1/\()=()) (au ( !(gw a.2.2.2.2.2.2.2.2.2.2.1 (e,f) i).2) (gA=(jM a ((b,c,d,(e,f),g),h,i,j,k) (b,c,d,(e,f),g) (h,i,j,k) l).2.1/\5=(jM a ((b,c,d,(e,f),g),h,i,j,k) (b,c,d,(e,f),g) (h,i,j,k) l).2.2/\(a,(b,c,d,(gw a.2.2.2.2.2.2.2.2.2.2.1 (e,f) i).1,g),h,i,j,k)=jZ (a,(b,c,d,(e,f),g),h,i,j,k) (jM a ((b,c,d,(e,f),g),h,i,j,k) (b,c,d,(e,f),g) (h,i,j,k) l).1/\()=()) (au (av (dR a h) (ae d)) (ao (dR a h) (dR a h<ae d) (ao (dR a h) (dR a h<ae d) (∃(m:Int) (n:ac) (o:bT2),(jM a ((b,c,d,(e,f),g),h,i,j,k) (b,c,d,(e,f),g) (h,i,j,k)
 l=(zF a b (c,d,(e,f),g) h (i,j,k),KA a ((b,c,d,(e,f),g),h,i,j,k) (b,c,d,(e,f),g) (h,i,j,k) (a,(b,c,d,(e,f),g),h,i,j,k) l)/\yZ (a,(b,c,d,(e,f),g),h,i,j,k) (b,c,d,(e,f),g) m (n,o,pf (b,c,d,(e,f),g)) a ((b,c,d,(e,f),g),h,i,j,k))/\aU l (dR a h) (oP a (b,c,d,(gw a.2.2.2.2.2.2.2.2.2.2.1 (e,f) i).1,g) (dR a h) i k.2.1 k.2.2.2.2.2.1=jk (a,(b,c,d,(e,f),g),h,i,j,k)) (d6 0 (gK b c d e f g k.2.2.2.2.2.1).1.1 (gK b c d e f g k.2.2.2.2.2.1).1.2 (Dd b c d e f g k.2.2.2.2.2.1) (aA (gK b c d e f g k.2.2.2.2.2.1).2.2 (yy a b (c,d,(e,f),g) h (i,j,k)=yy a b (c,d,(e,f),g) h (i,j,k)) (rN a.1 a.2.1 a.2.2.1 a.2.2.2.1 (a.2.2.2.2.1=a.2.2.2.2.1) (ce a.2.2.2.2.2.1 a.2.2.2.2.2.2.1 a.2.2.2.2.2.2.2.1 a.2.2.2.2.2.2.2.2.1 a.2.2.2.2.2.2.2.2.2.1 (a.2.2.2.2.2.2.2.2.2.2.1.1=a.2.2.2.2.2.2.2.2.2.2.1.1) (aA a.2.2.2.2.2.2.2.2.2.2.1.2
 (a.2.2.2.2.2.2.2.2.2.2.2.1=a.2.2.2.2.2.2.2.2.2.2.2.1) (a.2.2.2.2.2.2.2.2.2.2.2.2.1=a.2.2.2.2.2.2.2.2.2.2.2.2.1/\aU a.2.2.2.2.2.2.2.2.2.2.2.2.2.1 a.2.2.2.2.2.2.2.2.2.2.2.2.2.2 (b=cR (b,c,d,(e,f),g)) (aY c m/\(gw a.2.2.2.2.2.2.2.2.2.2.1 (e,f) i).1.1=o.1/\(gw a.2.2.2.2.2.2.2.2.2.2.1 (e,f) i).1.2=o.2/\g=pf (b,c,d,(e,f),g)/\aU h i (j=j) (gQ k.1 k.2.1 k.2.2.1 k.2.2.2.1 (k.2.2.2.2.1=k.2.2.2.2.1) (aU k.2.2.2.2.2.1 k.2.2.2.2.2.2 (o6 d (dR a h)=n) True)))))))))))) (∃(m:Int) (n:ac) (o:bT2),(jM a ((b,c,d,(e,f),g),h,i,j,k) (b,c,d,(e,f),g) (h,i,j,k) l=(zF a b (c,d,(e,f),g) h (i,j,k),KA a ((b,c,d,(e,f),g),h,i,j,k) (b,c,d,(e,f),g) (h,i,j,k) (a,(b,c,d,(e,f),g),h,i,j,k) l)/\yZ (a,(b,c,d,(e,f),g),h,i,j,k) (b,c,d,(e,f),g) m (n,o,pf (b,c,d,(e,f),g)) a ((b,c,d,(e,f),g),h,i,j,k))/\aU l (dR a h) (oP a (b,c,d,(gw a.2.2.2.2.2.2.2.2.2.2.1
 (e,f) i).1,g) (dR a h) i k.2.1 k.2.2.2.2.2.1=jk (a,(b,c,d,(e,f),g),h,i,j,k)) (d6 0 (gK b c d e f g k.2.2.2.2.2.1).1.1 (gK b c d e f g k.2.2.2.2.2.1).1.2 (Dd b c d e f g k.2.2.2.2.2.1) (aA (gK b c d e f g k.2.2.2.2.2.1).2.2 (yy a b (c,d,(e,f),g) h (i,j,k)=yy a b (c,d,(e,f),g) h (i,j,k)) (rN a.1 a.2.1 a.2.2.1 a.2.2.2.1 (a.2.2.2.2.1=a.2.2.2.2.1) (ce a.2.2.2.2.2.1 a.2.2.2.2.2.2.1 a.2.2.2.2.2.2.2.1 a.2.2.2.2.2.2.2.2.1 a.2.2.2.2.2.2.2.2.2.1 (a.2.2.2.2.2.2.2.2.2.2.1.1=a.2.2.2.2.2.2.2.2.2.2.1.1) (aA a.2.2.2.2.2.2.2.2.2.2.1.2 (a.2.2.2.2.2.2.2.2.2.2.2.1=a.2.2.2.2.2.2.2.2.2.2.2.1) (a.2.2.2.2.2.2.2.2.2.2.2.2.1=a.2.2.2.2.2.2.2.2.2.2.2.2.1/\aU a.2.2.2.2.2.2.2.2.2.2.2.2.2.1 a.2.2.2.2.2.2.2.2.2.2.2.2.2.2 (b=cR (b,c,d,(e,f),g)) (aY c m/\(gw a.2.2.2.2.2.2.2.2.2.2.1 (e,f) i).1.1=o.1/\(gw a.2.2.2.2.2.2.2.2.2.2.1 (e,f) i).1.2=o.2/\g=pf
 (b,c,d,(e,f),g)/\aU h i (j=j) (gQ k.1 k.2.1 k.2.2.1 k.2.2.2.1 (k.2.2.2.2.1=k.2.2.2.2.1) (aU k.2.2.2.2.2.1 k.2.2.2.2.2.2 (d=n) True))))))))))/\ ∀(m:Int)(n:ac)(o:bT2),jM a ((b,c,d,(e,f),g),h,i,j,k) (b,c,d,(e,f),g) (h,i,j,k) l=(zF a b (c,d,(e,f),g) h (i,j,k),KA a ((b,c,d,(e,f),g),h,i,j,k) (b,c,d,(e,f),g) (h,i,j,k) (a,(b,c,d,(e,f),g),h,i,j,k) l)/\yZ (a,(b,c,d,(e,f),g),h,i,j,k) (b,c,d,(e,f),g) m (n,o,pf (b,c,d,(e,f),g)) a ((b,c,d,(e,f),g),h,i,j,k)->(gK b c d e f g k.2.2.2.2.2.1).2.1≠[]/\bY (yy a b (c,d,(e,f),g) h (i,j,k))/\au (eG l) (bY j/\(lW a (b,m,n,o,g) (gK b c d e f g k.2.2.2.2.2.1) (iR (yy a b (c,d,(e,f),g) h (i,j,k))),jE (a,jv (b,m,n,o,g) (gK b c d e f g k.2.2.2.2.2.1),h,i,j,k) (ob a (dR a h) (lW a (b,m,n,o,g) (gK b c d e f g k.2.2.2.2.2.1) (iR (yy a b (c,d,(e,f),g) h (i,j,k))))) (jk
 (a,(b,c,d,(e,f),g),h,i,j,k)))=(jM a ((b,c,d,(e,f),g),h,i,j,k) (b,c,d,(e,f),g) (h,i,j,k) l).2.1/\2=(jM a ((b,c,d,(e,f),g),h,i,j,k) (b,c,d,(e,f),g) (h,i,j,k) l).2.2/\(a,jv (b,m,n,o,g) (gK b c d e f g k.2.2.2.2.2.1),h,i,j,k)=jZ (a,(b,c,d,(e,f),g),h,i,j,k) (jM a ((b,c,d,(e,f),g),h,i,j,k) (b,c,d,(e,f),g) (h,i,j,k) l).1/\()=()) (bY j/\(lW a (b,m,n,o,g) (gK b c d e f g k.2.2.2.2.2.1) (iR (yy a b (c,d,(e,f),g) h (i,j,k))),jE (a,jv (b,m,n,o,g) (gK b c d e f g k.2.2.2.2.2.1),h,i,j,k) l (jk (a,(b,c,d,(e,f),g),h,i,j,k)))=(jM a ((b,c,d,(e,f),g),h,i,j,k) (b,c,d,(e,f),g) (h,i,j,k) l).2.1/\2=(jM a ((b,c,d,(e,f),g),h,i,j,k) (b,c,d,(e,f),g) (h,i,j,k) l).2.2/\(a,jv (b,m,n,o,g) (gK b c d e f g k.2.2.2.2.2.1),h,i,j,k)=jZ (a,(b,c,d,(e,f),g),h,i,j,k) (jM a ((b,c,d,(e,f),g),h,i,j,k) (b,c,d,(e,f),g) (h,i,j,k) l).1/\()=()))))):= by
  delta af ae ap aq aI aV aQ aT cO cS cB aU bG aA cG bw ao bJ gM jM bY o6 ia gK aY gA ce ai gQ wV aD bW av rN yy eG zF d6 Dz Dd yZ lp KA
  rintro d x x1 x2 x3 x4 x5 x6 x7 x8 h own-⟨hs,hl,hb⟩
  obtain⟨w,hw⟩:∃ w:fi,w=(d,(x,x1,x2,(x3,x4),x5),x6,x7,x8,h):=⟨_,rfl⟩
  have e0:d.2.2.2.2.2.2.2.2.2.2.2.1=oH w.1:=by rw[hw];rfl
  have e2:iG (x,x1,x2,(x3,x4),x5) h.2.2.2.2.2.1=iG w.2.1 (pj w.2.2.2.2.2):=by rw[hw];rfl
  have e3:gw d.2.2.2.2.2.2.2.2.2.2.1 (x3,x4) x7=om w:=by rw[hw];rfl
  rw[e0,e2,e3,← hw]
  have fin:=λ{s o y}=>Ie (r:=fT (jE w) (oS w) w own) (s:=s) (o:=o) (y:=y) w
  intro b hb0
  (repeat refine⟨(by first|(simp;done)|(rw[hb0];simp;done)|(cases b <;> simp)),?_⟩)
  have hq:(bif b then oH w.1 else false)=true↔own=0/\oH w.1=true:=by rw[hb0];by_cases k:own=0 <;> simp[k]
  refine ay (λh0=>?_) (λh0=>?_)
  .obtain⟨f1,f2,f3⟩:=fin (A5 (hq.1 h0))
   exact⟨f1,f2,by rw[← f3,hw];rfl,rfl⟩
  have h0:¬ (own=0/\oH w.1=true):=λk=>by rw[hq.2 k] at h0;cases h0
  refine⟨hb,ay (λh1=>?_) (λh1=>?_)⟩
  .obtain⟨f1,f2,f3⟩:=fin (Bj h0 (by simpa using h1))
   exact⟨f1,f2,by rw[← f3,hw];rfl,rfl⟩
  have h1:¬ (oS w) 0≠0:=by simpa using h1
  refine⟨hs,hl,ay (λh2=>?_) (λh2=>?_)⟩
  .obtain⟨f1,f2,f3⟩:=fin (BN h0 h1 (by simpa using h2))
   exact⟨f1,f2,by rw[← f3,hw];rfl,rfl⟩
  have h2:¬ iG w.2.1 (pj w.2.2.2.2.2)=false:=by simpa using h2
  refine ay (λh3=>?_) (λh3=>⟨?_,?_⟩)
  .obtain⟨f1,f2,f3⟩:=fin (Cz h0 h1 h2 (by simpa using h3))
   exact⟨f1,f2,by rw[← f3,hw];rfl,rfl⟩
  .have h3:¬ (om w).2=false:=by simpa using h3
   have eg:=Df (B:=jE w) h0 h1 h2 h3
   have hne:(nL w).2.1≠[]:=Fp h2
   have hin:=Ho d x6
   have vh:oP d (x,x1,x2,(om w).1,x5) (dR d x6) x7 h.2.1 h.2.2.2.2.2.1=jk w:=by rw[← e3,hw];rfl
   have hS:oq w=(x,IntKind.i64.wrap (x1+1),uq x2 (dR d x6),(om w).1,x5):=by rw[← e3,hw];rfl
   refine bP (λh4=>?_) (λh4=>?_)
   .refine⟨hin,h4,hin,h4,_,_,_,⟨eg,hne,?_⟩,rfl,rfl,vh,aK⟩
    rw[hS,Pf h4];rfl
   .refine⟨_,_,_,⟨eg,hne,?_⟩,rfl,rfl,vh,aK⟩
    rw[hS,Ts h4];rfl
  .rintro k l t ⟨eg,hne,hS⟩
   have e4:cN (cR (x,x1,x2,(x3,x4),x5)) h.2.2.2.2.2.1=nL w:=by rw[hw];rfl
   have e5:(x,k,l,t,x5)=oq w:=hS
   have e6:lW d (oq w) (nL w) (iR ((jE w) (adr d (dR d x6)) 0))=mo (jE w) w:=by rw[hw];rfl
   rw[e4,e5,e6]
   obtain⟨f1,f2,f3⟩:=fin eg
   have hlen:=Q2 w (adr d (dR d x6)) 0
   refine⟨hne,ab,bP (λh4=>?_) (λh4=>?_)⟩
   .refine⟨hb,?_,f2,by rw[← f3,hw];rfl,rfl⟩
    rw[← f1];unfold lE;rw[aj h4,hw];rfl
   .refine⟨hb,?_,f2,by rw[← f3,hw];rfl,rfl⟩
    rw[← f1];unfold lE;rw[ah h4,hw];rfl
theorem bu7:aB 293 WT.spec:=aF Tryz.func293 (am (am (am (am (am (am (am (am aC Xc) Lk) XC) O2) K1) T8) O7) XA) ab6 ad7
def Wj:Ct:=⟨[.box 341 sE,.fn 321 3,.box 339 .ali,.box 3 cI,.box 3 cI,.val db],[.agg AA,.val cI],λd=>[rG d.1],λd=>(((fT (gT d.1 d.2.2.2.1 d.2.2.2.2.1) (o7 d.1 d.2.2.2.1 d.2.2.2.2.1) d.1 d.2.2.2.2.2.1).2.1,(fT (gT d.1 d.2.2.2.1 d.2.2.2.2.1) (o7 d.1 d.2.2.2.1 d.2.2.2.2.1) d.1 d.2.2.2.2.2.1).2.2,()),(jZ d.1 (fT (gT d.1 d.2.2.2.1 d.2.2.2.2.1) (o7 d.1 d.2.2.2.1 d.2.2.2.2.1) d.1 d.2.2.2.2.2.1).1,(),d.2.2.2.1,d.2.2.2.2.1,()))⟩
def aG3:bp Wj.ps->bI:=(λd=>{cuts:=(bt 17 (λS=>{ι:=Int×ac×bT2,qn:=pI,inv:=λi=>fT (gT d.1 d.2.2.2.1 d.2.2.2.2.1) (o7 d.1 d.2.2.2.1 d.2.2.2.2.1) d.1 d.2.2.2.2.2.1=(jv (oq d.1) (nL d.1),(mo (gT d.1 d.2.2.2.1 d.2.2.2.2.1) d.1,(gT d.1 d.2.2.2.1 d.2.2.2.2.1) (lE (gT d.1 d.2.2.2.1 d.2.2.2.2.1) d.1 d.2.2.2.2.2.1) (jk d.1)),2)/\(nL d.1).2.1≠[]/\(cR d.1.2.1,i.1,i.2.1,i.2.2,pf d.1.2.1)=oq d.1,keep:=[0,1,2,6,9,11],slots:=λi=>[(8,.int .i64 (dR d.1.1 d.1.2.2.1)),(13,.int .i64 (jk d.1))],keepN:=[112,192,560,1048577,1048578,1048579],names:=λi=>[(1048576,.live (.cells 341 (cQ dK d.1.1++([.dsl d8 (cR d.1.2.1),.int .i64 i.1,.own 524288 1]++(cQ xF i.2.2++([.int .i64 (pf d.1.2.1),.int .i64 d.1.2.2.1,.int .i64 d.1.2.2.2.1,.dsl bq d.1.2.2.2.2.1]++cQ oV d.1.2.2.2.2.2)))))),(524288,.live (.row 3 cI i.2.1))]}) bZ)})
def jK(a:ar)(b:NState×Int×Int×ac×dJ)(c d:Int)(e:List ci×Int×ac×bT2×Int)(f:Int×Int×ac×dJ)(g:Int):=fT (gT (a,b) c d) (o7 (a,b) c d) (a,e,f) g
def yk(a:ar)(b:List ci)(c:bV4)(d:Int)(e:Int×ac×dJ)(f g:Int):=gT (a,(b,c),d,e) f g (adr a (dR a d)) 0
def Ax(a b:Int):=()=()/\a=a/\b=b
theorem aw0:
 ∀(a:ar)(b:List ci)(c:Int)(d:ac)(e f g h i:Int)(j:ac)(k:dJ)(l m n:Int),(CT.wf dK a/\gM b c d e f g/\lp h i j k)/\True/\True/\bG l m (aQ n) True->wV b c d e f g j->Dz (eG n) a.2.2.2.2.2.2.2.2.2.2.2.1 (gA=(jK a ((b,c,d,(e,f),g),h,i,j,k) l m (b,c,d,(e,f),g) (h,i,j,k) n).2.1/\4=(jK a ((b,c,d,(e,f),g),h,i,j,k) l m (b,c,d,(e,f),g) (h,i,j,k) n).2.2/\(a,(b,c,d,(e,f),g),h,i,j,k)=jZ (a,(b,c,d,(e,f),g),h,i,j,k) (jK a ((b,c,d,(e,f),g),h,i,j,k) l m (b,c,d,(e,f),g) (h,i,j,k) n).1/\Ax l m) (bY j/\au (bJ (o7 (a,(b,c,d,(e,f),g),h,i,j,k) l m 0)) (gA=(jK a ((b,c,d,(e,f),g),h,i,j,k) l m (b,c,d,(e,f),g) (h,i,j,k) n).2.1/\6=(jK a ((b,c,d,(e,f),g),h,i,j,k) l m (b,c,d,(e,f),g) (h,i,j,k) n).2.2/\(a,(b,c,d,(e,f),g),h,i,j,k)=jZ (a,(b,c,d,(e,f),g),h,i,j,k) (jK a ((b,c,d,(e,f),g),h,i,j,k) l m (b,c,d,(e,f),g) (h,i,j,k) n).1/\Ax l m) (dS
 (cR (b,c,d,(e,f),g))/\okL (cR (b,c,d,(e,f),g))/\au ( !iG (b,c,d,(e,f),g) k.2.2.2.2.2.1) (gA=(jK a ((b,c,d,(e,f),g),h,i,j,k) l m (b,c,d,(e,f),g) (h,i,j,k) n).2.1/\8=(jK a ((b,c,d,(e,f),g),h,i,j,k) l m (b,c,d,(e,f),g) (h,i,j,k) n).2.2/\(a,(b,c,d,(e,f),g),h,i,j,k)=jZ (a,(b,c,d,(e,f),g),h,i,j,k) (jK a ((b,c,d,(e,f),g),h,i,j,k) l m (b,c,d,(e,f),g) (h,i,j,k) n).1/\Ax l m) (au ( !(gw a.2.2.2.2.2.2.2.2.2.2.1 (e,f) i).2) (gA=(jK a ((b,c,d,(e,f),g),h,i,j,k) l m (b,c,d,(e,f),g) (h,i,j,k) n).2.1/\5=(jK a ((b,c,d,(e,f),g),h,i,j,k) l m (b,c,d,(e,f),g) (h,i,j,k) n).2.2/\(a,(b,c,d,(gw a.2.2.2.2.2.2.2.2.2.2.1 (e,f) i).1,g),h,i,j,k)=jZ (a,(b,c,d,(e,f),g),h,i,j,k) (jK a ((b,c,d,(e,f),g),h,i,j,k) l m (b,c,d,(e,f),g) (h,i,j,k) n).1/\Ax l m) (au (av (dR a h) (ae d)) (ao (dR a h) (dR a h<ae d) (ao (dR a h) (dR a h<ae d) (∃(o:Int) (p:ac)
 (q:bT2),(jK a ((b,c,d,(e,f),g),h,i,j,k) l m (b,c,d,(e,f),g) (h,i,j,k) n=(zF a b (c,d,(e,f),g) h (i,j,k),(mo (gT (a,(b,c,d,(e,f),g),h,i,j,k) l m) (a,(b,c,d,(e,f),g),h,i,j,k),gT (a,(b,c,d,(e,f),g),h,i,j,k) l m (lE (gT (a,(b,c,d,(e,f),g),h,i,j,k) l m) (a,(b,c,d,(e,f),g),h,i,j,k) n) (jk (a,(b,c,d,(e,f),g),h,i,j,k))),2)/\yZ (a,(b,c,d,(e,f),g),h,i,j,k) (b,c,d,(e,f),g) o (p,q,pf (b,c,d,(e,f),g)) a ((b,c,d,(e,f),g),h,i,j,k))/\aU n (dR a h) (oP a (b,c,d,(gw a.2.2.2.2.2.2.2.2.2.2.1 (e,f) i).1,g) (dR a h) i k.2.1 k.2.2.2.2.2.1=jk (a,(b,c,d,(e,f),g),h,i,j,k)) (d6 0 (gK b c d e f g k.2.2.2.2.2.1).1.1 (gK b c d e f g k.2.2.2.2.2.1).1.2 (Dd b c d e f g k.2.2.2.2.2.1) (aA (gK b c d e f g k.2.2.2.2.2.1).2.2 (yk a b (c,d,(e,f),g) h (i,j,k) l m=yk a b (c,d,(e,f),g) h (i,j,k) l m) (aU l m (a.1=a.1) (aU a.2.1 a.2.2.1
 (a.2.2.2.1=a.2.2.2.1) (a.2.2.2.2.1=a.2.2.2.2.1/\ce a.2.2.2.2.2.1 a.2.2.2.2.2.2.1 a.2.2.2.2.2.2.2.1 a.2.2.2.2.2.2.2.2.1 a.2.2.2.2.2.2.2.2.2.1 (a.2.2.2.2.2.2.2.2.2.2.1.1=a.2.2.2.2.2.2.2.2.2.2.1.1) (aA a.2.2.2.2.2.2.2.2.2.2.1.2 (a.2.2.2.2.2.2.2.2.2.2.2.1=a.2.2.2.2.2.2.2.2.2.2.2.1) (a.2.2.2.2.2.2.2.2.2.2.2.2.1=a.2.2.2.2.2.2.2.2.2.2.2.2.1/\aU a.2.2.2.2.2.2.2.2.2.2.2.2.2.1 a.2.2.2.2.2.2.2.2.2.2.2.2.2.2 (b=cR (b,c,d,(e,f),g)) (aY c o/\(gw a.2.2.2.2.2.2.2.2.2.2.1 (e,f) i).1.1=q.1/\(gw a.2.2.2.2.2.2.2.2.2.2.1 (e,f) i).1.2=q.2/\g=pf (b,c,d,(e,f),g)/\aU h i (j=j) (gQ k.1 k.2.1 k.2.2.1 k.2.2.2.1 (k.2.2.2.2.1=k.2.2.2.2.1) (aU k.2.2.2.2.2.1 k.2.2.2.2.2.2 (o6 d (dR a h)=p) True))))))))))))) (∃(o:Int) (p:ac) (q:bT2),(jK a ((b,c,d,(e,f),g),h,i,j,k) l m (b,c,d,(e,f),g) (h,i,j,k) n=(zF a b (c,d,(e,f),g) h (i,j,k),(mo (gT (a,(b,c,d,(e,f),g),h,i,j,k)
 l m) (a,(b,c,d,(e,f),g),h,i,j,k),gT (a,(b,c,d,(e,f),g),h,i,j,k) l m (lE (gT (a,(b,c,d,(e,f),g),h,i,j,k) l m) (a,(b,c,d,(e,f),g),h,i,j,k) n) (jk (a,(b,c,d,(e,f),g),h,i,j,k))),2)/\yZ (a,(b,c,d,(e,f),g),h,i,j,k) (b,c,d,(e,f),g) o (p,q,pf (b,c,d,(e,f),g)) a ((b,c,d,(e,f),g),h,i,j,k))/\aU n (dR a h) (oP a (b,c,d,(gw a.2.2.2.2.2.2.2.2.2.2.1 (e,f) i).1,g) (dR a h) i k.2.1 k.2.2.2.2.2.1=jk (a,(b,c,d,(e,f),g),h,i,j,k)) (d6 0 (gK b c d e f g k.2.2.2.2.2.1).1.1 (gK b c d e f g k.2.2.2.2.2.1).1.2 (Dd b c d e f g k.2.2.2.2.2.1) (aA (gK b c d e f g k.2.2.2.2.2.1).2.2 (yk a b (c,d,(e,f),g) h (i,j,k) l m=yk a b (c,d,(e,f),g) h (i,j,k) l m) (aU l m (a.1=a.1) (aU a.2.1 a.2.2.1 (a.2.2.2.1=a.2.2.2.1) (a.2.2.2.2.1=a.2.2.2.2.1/\ce a.2.2.2.2.2.1 a.2.2.2.2.2.2.1 a.2.2.2.2.2.2.2.1 a.2.2.2.2.2.2.2.2.1 a.2.2.2.2.2.2.2.2.2.1
 (a.2.2.2.2.2.2.2.2.2.2.1.1=a.2.2.2.2.2.2.2.2.2.2.1.1) (aA a.2.2.2.2.2.2.2.2.2.2.1.2 (a.2.2.2.2.2.2.2.2.2.2.2.1=a.2.2.2.2.2.2.2.2.2.2.2.1) (a.2.2.2.2.2.2.2.2.2.2.2.2.1=a.2.2.2.2.2.2.2.2.2.2.2.2.1/\aU a.2.2.2.2.2.2.2.2.2.2.2.2.2.1 a.2.2.2.2.2.2.2.2.2.2.2.2.2.2 (b=cR (b,c,d,(e,f),g)) (aY c o/\(gw a.2.2.2.2.2.2.2.2.2.2.1 (e,f) i).1.1=q.1/\(gw a.2.2.2.2.2.2.2.2.2.2.1 (e,f) i).1.2=q.2/\g=pf (b,c,d,(e,f),g)/\aU h i (j=j) (gQ k.1 k.2.1 k.2.2.1 k.2.2.2.1 (k.2.2.2.2.1=k.2.2.2.2.1) (aU k.2.2.2.2.2.1 k.2.2.2.2.2.2 (d=p) True)))))))))))/\ ∀(o:Int)(p:ac)(q:bT2),jK a ((b,c,d,(e,f),g),h,i,j,k) l m (b,c,d,(e,f),g) (h,i,j,k) n=(zF a b (c,d,(e,f),g) h (i,j,k),(mo (gT (a,(b,c,d,(e,f),g),h,i,j,k) l m) (a,(b,c,d,(e,f),g),h,i,j,k),gT (a,(b,c,d,(e,f),g),h,i,j,k) l m (lE (gT (a,(b,c,d,(e,f),g),h,i,j,k) l m) (a,(b,c,d,(e,f),g),h,i,j,k) n) (jk
 (a,(b,c,d,(e,f),g),h,i,j,k))),2)/\yZ (a,(b,c,d,(e,f),g),h,i,j,k) (b,c,d,(e,f),g) o (p,q,pf (b,c,d,(e,f),g)) a ((b,c,d,(e,f),g),h,i,j,k)->(gK b c d e f g k.2.2.2.2.2.1).2.1≠[]/\bY (yk a b (c,d,(e,f),g) h (i,j,k) l m)/\au (eG n) (bY j/\(lW a (b,o,p,q,g) (gK b c d e f g k.2.2.2.2.2.1) (iR (yk a b (c,d,(e,f),g) h (i,j,k) l m)),gT (a,jv (b,o,p,q,g) (gK b c d e f g k.2.2.2.2.2.1),h,i,j,k) l m (ob a (dR a h) (lW a (b,o,p,q,g) (gK b c d e f g k.2.2.2.2.2.1) (iR (yk a b (c,d,(e,f),g) h (i,j,k) l m)))) (jk (a,(b,c,d,(e,f),g),h,i,j,k)))=(jK a ((b,c,d,(e,f),g),h,i,j,k) l m (b,c,d,(e,f),g) (h,i,j,k) n).2.1/\2=(jK a ((b,c,d,(e,f),g),h,i,j,k) l m (b,c,d,(e,f),g) (h,i,j,k) n).2.2/\(a,jv (b,o,p,q,g) (gK b c d e f g k.2.2.2.2.2.1),h,i,j,k)=jZ (a,(b,c,d,(e,f),g),h,i,j,k) (jK a ((b,c,d,(e,f),g),h,i,j,k) l m (b,c,d,(e,f),g) (h,i,j,k)
 n).1/\Ax l m) (bY j/\(lW a (b,o,p,q,g) (gK b c d e f g k.2.2.2.2.2.1) (iR (yk a b (c,d,(e,f),g) h (i,j,k) l m)),gT (a,jv (b,o,p,q,g) (gK b c d e f g k.2.2.2.2.2.1),h,i,j,k) l m n (jk (a,(b,c,d,(e,f),g),h,i,j,k)))=(jK a ((b,c,d,(e,f),g),h,i,j,k) l m (b,c,d,(e,f),g) (h,i,j,k) n).2.1/\2=(jK a ((b,c,d,(e,f),g),h,i,j,k) l m (b,c,d,(e,f),g) (h,i,j,k) n).2.2/\(a,jv (b,o,p,q,g) (gK b c d e f g k.2.2.2.2.2.1),h,i,j,k)=jZ (a,(b,c,d,(e,f),g),h,i,j,k) (jK a ((b,c,d,(e,f),g),h,i,j,k) l m (b,c,d,(e,f),g) (h,i,j,k) n).1/\Ax l m))))):= by
  delta af ae ap aq aI aV aQ aT cO cS cB aU bG aA cG bw ao bJ jK gM bY o6 ia gK aY gA ce ai gQ wV aD bW av yk eG zF d6 Dz Dd yZ lp Ax
  rintro d x x1 x2 x3 x4 x5 x6 x7 x8 h ki co own-⟨hs,hl,hb⟩
  obtain⟨w,hw⟩:∃ w:fi,w=(d,(x,x1,x2,(x3,x4),x5),x6,x7,x8,h):=⟨_,rfl⟩
  have e0:d.2.2.2.2.2.2.2.2.2.2.2.1=oH w.1:=by rw[hw];rfl
  have e2:iG (x,x1,x2,(x3,x4),x5) h.2.2.2.2.2.1=iG w.2.1 (pj w.2.2.2.2.2):=by rw[hw];rfl
  have e3:gw d.2.2.2.2.2.2.2.2.2.2.1 (x3,x4) x7=om w:=by rw[hw];rfl
  rw[e0,e2,e3,← hw]
  have fin:=λ{s o y}=>Ie (r:=fT (gT w ki co) (o7 w ki co) w own) (s:=s) (o:=o) (y:=y) w
  intro b hb0
  (repeat refine⟨(by first|(simp;done)|(rw[hb0];simp;done)|(cases b <;> simp)),?_⟩)
  have hq:(bif b then oH w.1 else false)=true↔own=0/\oH w.1=true:=by rw[hb0];by_cases k:own=0 <;> simp[k]
  refine ay (λh0=>?_) (λh0=>?_)
  .obtain⟨f1,f2,f3⟩:=fin (A5 (hq.1 h0))
   exact⟨f1,f2,by rw[← f3,hw];rfl,rfl,rfl,rfl⟩
  have h0:¬ (own=0/\oH w.1=true):=λk=>by rw[hq.2 k] at h0;cases h0
  refine⟨hb,ay (λh1=>?_) (λh1=>?_)⟩
  .obtain⟨f1,f2,f3⟩:=fin (Bj h0 (by simpa using h1))
   exact⟨f1,f2,by rw[← f3,hw];rfl,rfl,rfl,rfl⟩
  have h1:¬ (o7 w ki co) 0≠0:=by simpa using h1
  refine⟨hs,hl,ay (λh2=>?_) (λh2=>?_)⟩
  .obtain⟨f1,f2,f3⟩:=fin (BN h0 h1 (by simpa using h2))
   exact⟨f1,f2,by rw[← f3,hw];rfl,rfl,rfl,rfl⟩
  have h2:¬ iG w.2.1 (pj w.2.2.2.2.2)=false:=by simpa using h2
  refine ay (λh3=>?_) (λh3=>⟨?_,?_⟩)
  .obtain⟨f1,f2,f3⟩:=fin (Cz h0 h1 h2 (by simpa using h3))
   exact⟨f1,f2,by rw[← f3,hw];rfl,rfl,rfl,rfl⟩
  .have h3:¬ (om w).2=false:=by simpa using h3
   have eg:=Df (B:=gT w ki co) h0 h1 h2 h3
   have hne:(nL w).2.1≠[]:=Fp h2
   have hin:=Ho d x6
   have vh:oP d (x,x1,x2,(om w).1,x5) (dR d x6) x7 h.2.1 h.2.2.2.2.2.1=jk w:=by rw[← e3,hw];rfl
   have hS:oq w=(x,IntKind.i64.wrap (x1+1),uq x2 (dR d x6),(om w).1,x5):=by rw[← e3,hw];rfl
   refine bP (λh4=>?_) (λh4=>?_)
   .refine⟨hin,h4,hin,h4,_,_,_,⟨eg,hne,?_⟩,rfl,rfl,vh,aK⟩
    rw[hS,Pf h4];rfl
   .refine⟨_,_,_,⟨eg,hne,?_⟩,rfl,rfl,vh,aK⟩
    rw[hS,Ts h4];rfl
  .rintro k l t ⟨eg,hne,hS⟩
   have e4:cN (cR (x,x1,x2,(x3,x4),x5)) h.2.2.2.2.2.1=nL w:=by rw[hw];rfl
   have e5:(x,k,l,t,x5)=oq w:=hS
   have e6:lW d (oq w) (nL w) (iR ((gT w ki co) (adr d (dR d x6)) 0))=mo (gT w ki co) w:=by rw[hw];rfl
   rw[e4,e5,e6]
   obtain⟨f1,f2,f3⟩:=fin eg
   have hlen:=OQ w ki co (adr d (dR d x6)) 0
   refine⟨hne,ab,bP (λh4=>?_) (λh4=>?_)⟩
   .refine⟨hb,?_,f2,by rw[← f3,hw];rfl,rfl,rfl,rfl⟩
    rw[← f1];unfold lE;rw[aj h4,hw];rfl
   .refine⟨hb,?_,f2,by rw[← f3,hw];rfl,rfl,rfl,rfl⟩
    rw[← f1];unfold lE;rw[ah h4,hw];rfl
theorem bj9:aB 293 Wj.spec:=aF Tryz.func293 (am (am (am (am (am (am (am (am aC Xc) Lk) br7) O2) K1) T8) O7) XA) aG3 aw0
def bw4:Ct:=⟨[.box 341 sE],[.agg AA,.val cI],λd=>[rG d.1],λd=>(((kA d.1).2.1,(kA d.1).2.2,()),(jZ d.1 (kA d.1).1,()))⟩
theorem a28:
 ∀(a:ar)(b:List ci)(c:Int)(d:ac)(e f g h i:Int)(j:ac)(k:dJ),ai (CT.wf dK a/\gM b c d e f g/\lp h i j k)->wV b c d e f g j->bY j/\nt (decide (h=(-1))) (bJ (oS (a,(b,c,d,(e,f),g),h,i,j,k) 0)) (gA=(kA (a,(b,c,d,(e,f),g),h,i,j,k)).2.1/\1=(kA (a,(b,c,d,(e,f),g),h,i,j,k)).2.2/\(a,(b,c,d,(e,f),g),h,i,j,k)=jZ (a,(b,c,d,(e,f),g),h,i,j,k) (kA (a,(b,c,d,(e,f),g),h,i,j,k)).1) (au (decide (k.2.2.2.1=17)) (rG (a,(b,c,d,(e,f),g),h,i,j,k)/\(jM a ((b,c,d,(e,f),g),h,i,j,k) (b,c,d,(e,f),g) (h,i,j,k) 0).2.1=(kA (a,(b,c,d,(e,f),g),h,i,j,k)).2.1/\(jM a ((b,c,d,(e,f),g),h,i,j,k) (b,c,d,(e,f),g) (h,i,j,k) 0).2.2=(kA (a,(b,c,d,(e,f),g),h,i,j,k)).2.2/\(a,(jM a ((b,c,d,(e,f),g),h,i,j,k) (b,c,d,(e,f),g) (h,i,j,k) 0).1,h,i,j,k)=jZ (a,(b,c,d,(e,f),g),h,i,j,k) (kA (a,(b,c,d,(e,f),g),h,i,j,k)).1) (rG (a,(b,c,d,(e,f),g),h,i,j,k)/\(jM a
 ((b,c,d,(e,f),g),h,i,j,k) (b,c,d,(e,f),g) (h,i,j,k) k.2.2.2.2.2.2).2.1=(kA (a,(b,c,d,(e,f),g),h,i,j,k)).2.1/\(jM a ((b,c,d,(e,f),g),h,i,j,k) (b,c,d,(e,f),g) (h,i,j,k) k.2.2.2.2.2.2).2.2=(kA (a,(b,c,d,(e,f),g),h,i,j,k)).2.2/\(a,(jM a ((b,c,d,(e,f),g),h,i,j,k) (b,c,d,(e,f),g) (h,i,j,k) k.2.2.2.2.2.2).1,h,i,j,k)=jZ (a,(b,c,d,(e,f),g),h,i,j,k) (kA (a,(b,c,d,(e,f),g),h,i,j,k)).1)):= by
  delta ae aq aI bO aV aQ aT cO cS cB bG bn br bJ gM jM bY nt gA ai wV aD bW jW lp
  rintro d x x1 x2 x3 x4 x5 x6 x7 x8 h-⟨hs,hl,hb⟩
  obtain⟨w,hw⟩:∃ w:fi,w=(d,(x,x1,x2,(x3,x4),x5),x6,x7,x8,h):=⟨_,rfl⟩
  rw[← hw]
  have fin:=λ{s o y}=>Ie (r:=kA w) (s:=s) (o:=o) (y:=y) w
  have e0:w.2.2.1=x6:=by rw[hw]
  have e1:h=w.2.2.2.2.2:=by rw[hw]
  have okw:rG w:=by rw[hw];exact⟨hs,hl,hb⟩
  refine⟨hb,?_⟩
  (repeat (refine dq ?_;repeat refine dm ?_))
  refine vL (λho=>?_) (λh1 h2=>?_)
  .obtain⟨f1,f2,f3⟩:=fin (s:=w.2.1) (o:=lF) (y:=1) (by unfold kA;rw[aj];rcases ho with q|q;left;rw[e0];exact aX q;right;simpa using q)
   exact⟨f1,f2,by rw[← f3,hw];rfl⟩
  have hn:¬ (w.2.2.1 = -1∨oS w 0≠0):=by
   rintro (q|q)
   .rw[e0] at q;exact bi h1 q
   .apply q;simpa using h2
  have er:kA w=fT (jE w) (oS w) w (if h.2.2.2.1=17 then 0 else h.2.2.2.2.2.2):=by unfold kA;rw[ah hn,e1];rfl
  rw[er]
  refine bP (λh3=>?_) (λh3=>?_)
  .rw[aj h3]
   exact⟨okw,rfl,rfl,by rw[hw];rfl⟩
  .rw[ah h3]
   exact⟨okw,rfl,rfl,by rw[hw];rfl⟩
theorem aV9:aB 256 bw4.spec:=aF Tryz.func256 (am (am aC XC) bu7) aS a28
def bK9:Ct:=⟨[.box 341 sE],[.agg AA,.val cI],λd=>[rG d.1],λd=>(((gS d.1).2.1,(gS d.1).2.2,()),(jZ d.1 (gS d.1).1,()))⟩
def vl(a:Bool)(b c d e:Prop):=cG a a (aT b) (b->c) (cG a b c d e)
theorem a15:
 ∀(a:ar)(b:List ci)(c:Int)(d:ac)(e f g h i:Int)(j:ac)(k:dJ),ai (CT.wf dK a/\gM b c d e f g/\lp h i j k)->wV b c d e f g j-> ∀(l:Bool),l=bW h (-1)->vl l l (aT l) (l->l) (∀(m:Bool),m=bw l ( !a.2.2.2.2.2.2.2.2.2.2.2.2.1)->vl m m (aT m) (m->m) (au (bw m (av k.2.2.1 2)) (rG (a,(b,c,d,(e,f),g),h,i,j,k)/\(jK a ((b,c,d,(e,f),g),h,i,j,k) 11 0 (b,c,d,(e,f),g) (h,i,j,k) 0).2.1=(gS (a,(b,c,d,(e,f),g),h,i,j,k)).2.1/\(jK a ((b,c,d,(e,f),g),h,i,j,k) 11 0 (b,c,d,(e,f),g) (h,i,j,k) 0).2.2=(gS (a,(b,c,d,(e,f),g),h,i,j,k)).2.2/\(a,(jK a ((b,c,d,(e,f),g),h,i,j,k) 11 0 (b,c,d,(e,f),g) (h,i,j,k) 0).1,h,i,j,k)=jZ (a,(b,c,d,(e,f),g),h,i,j,k) (gS (a,(b,c,d,(e,f),g),h,i,j,k)).1) (dS (cR (b,c,d,(e,f),g))/\okL (cR (b,c,d,(e,f),g))/\ ∀(n:Bool),n=( !iG (b,c,d,(e,f),g) k.2.2.2.2.2.2)->(n->n)/\au (m5 n h (-1)) (gA=(gS
 (a,(b,c,d,(e,f),g),h,i,j,k)).2.1/\8=(gS (a,(b,c,d,(e,f),g),h,i,j,k)).2.2/\(a,(b,c,d,(e,f),g),h,i,j,k)=jZ (a,(b,c,d,(e,f),g),h,i,j,k) (gS (a,(b,c,d,(e,f),g),h,i,j,k)).1) (au ( !iG (b,c,d,(e,f),g) k.2.2.2.2.2.2) (rG (a,(b,c,d,(e,f),g),h,i,j,k)/\(jK a ((b,c,d,(e,f),g),h,i,j,k) 3 0 (b,c,d,(e,f),g) (h,i,j,k) 0).2.1=(gS (a,(b,c,d,(e,f),g),h,i,j,k)).2.1/\(jK a ((b,c,d,(e,f),g),h,i,j,k) 3 0 (b,c,d,(e,f),g) (h,i,j,k) 0).2.2=(gS (a,(b,c,d,(e,f),g),h,i,j,k)).2.2/\(a,(jK a ((b,c,d,(e,f),g),h,i,j,k) 3 0 (b,c,d,(e,f),g) (h,i,j,k) 0).1,h,i,j,k)=jZ (a,(b,c,d,(e,f),g),h,i,j,k) (gS (a,(b,c,d,(e,f),g),h,i,j,k)).1) ((gK b c d e f g k.2.2.2.2.2.2).2.1≠[]/\bY j/\j=j/\j=j/\aG j/\ ∀(o:Bool),o=bW h (-1)->vl o o (aT o) (o->o) (au (bw o ( !a.2.2.2.2.2.2.2.2.2.2.2.2.1)) (aG j/\(lW a (b,c,d,(e,f),g) (gK b c d e f g k.2.2.2.2.2.2) (iR j),lL j)=(gS
 (a,(b,c,d,(e,f),g),h,i,j,k)).2.1/\0=(gS (a,(b,c,d,(e,f),g),h,i,j,k)).2.2/\(a,jv (b,c,d,(e,f),g) (gK b c d e f g k.2.2.2.2.2.2),h,i,j,k)=jZ (a,(b,c,d,(e,f),g),h,i,j,k) (gS (a,(b,c,d,(e,f),g),h,i,j,k)).1) ((lW a (b,c,d,(e,f),g) (gK b c d e f g k.2.2.2.2.2.2) (iR j),j)=(gS (a,(b,c,d,(e,f),g),h,i,j,k)).2.1/\0=(gS (a,(b,c,d,(e,f),g),h,i,j,k)).2.2/\(a,jv (b,c,d,(e,f),g) (gK b c d e f g k.2.2.2.2.2.2),h,i,j,k)=jZ (a,(b,c,d,(e,f),g),h,i,j,k) (gS (a,(b,c,d,(e,f),g),h,i,j,k)).1))))))):= by
  delta ae aq aI aV aQ aT cO cS cB aG bG cH cG bw jK gM bY gK gA ai wV aD bW av vl lp m5
  rintro d x x1 x2 x3 x4 x5 x6 x7 x8 h-⟨hs,hl,hb⟩
  obtain⟨w,hw⟩:∃ w:fi,w=(d,(x,x1,x2,(x3,x4),x5),x6,x7,x8,h):=⟨_,rfl⟩
  have e0:d.2.2.2.2.2.2.2.2.2.2.2.2.1=gG w.1:=by rw[hw];rfl
  have e2:iG (x,x1,x2,(x3,x4),x5) h.2.2.2.2.2.2=iG w.2.1 (mh w.2.2.2.2.2):=by rw[hw];rfl
  have e3:x6=w.2.2.1:=by rw[hw]
  have e4:h.2.2.1=DA w.2.2.2.2.2:=by rw[hw];rfl
  have e5:cN (cR (x,x1,x2,(x3,x4),x5)) h.2.2.2.2.2.2=cN (cR w.2.1) (mh w.2.2.2.2.2):=by rw[hw];rfl
  have okw:rG w:=by rw[hw];exact⟨hs,hl,hb⟩
  have fin:=λ{s o y}=>Ie (r:=gS w) (s:=s) (o:=o) (y:=y) w
  rw[← hw,e0,e2,e4,e5]
  intro b hb0
  (repeat refine⟨(by first|(simp;done)|(rw[hb0];simp;done)|(cases b <;> simp)),?_⟩)
  intro b1 hb1
  (repeat refine⟨(by first|(simp;done)|(rw[hb1];simp;done)|(cases b1 <;> simp)|(cases b <;> cases b1 <;> simp)),?_⟩)
  have h1b:b1=true↔w.2.2.1 ≠ -1/\gG w.1=false:=by rw[hb1,hb0,e3];by_cases k:w.2.2.1 = -1 <;> cases gG w.1 <;> simp[k]
  have hq:(bif b1 then decide (DA w.2.2.2.2.2<2) else false)=true↔w.2.2.1 ≠ -1/\gG w.1=false/\DA w.2.2.2.2.2<2:=by
   rw[← and_assoc,← h1b];cases b1 <;> simp
  refine ay (λk1=>?_) (λk1=>?_)
  .have e:gS w=fT (gT w 11 0) (o7 w 11 0) w 0:=by unfold gS;rw[aj (hq.1 k1)]
   rw[e]
   exact⟨okw,rfl,rfl,by rw[hw];rfl⟩
  have k1:¬ (w.2.2.1 ≠ -1/\gG w.1=false/\DA w.2.2.2.2.2<2):=λk=>by rw[hq.2 k] at k1;cases k1
  refine⟨hs,hl,?_⟩
  intro c hc
  (repeat refine⟨(by first|(simp;done)|(rw[hc];simp;done)|(cases c <;> simp)),?_⟩)
  refine ay (λk2=>?_) (λk2=>?_)
  .have q:iG w.2.1 (mh w.2.2.2.2.2)=false/\w.2.2.1 = -1:=by
    rw[hc,e3] at k2
    cases hh:iG w.2.1 (mh w.2.2.2.2.2) with
    | true=>rw[hh] at k2;simp at k2
    | false=>rw[hh] at k2;exact⟨rfl,by simpa using k2⟩
   obtain⟨f1,f2,f3⟩:=fin (s:=w.2.1) (o:=lF) (y:=8) (by unfold gS;rw[ah k1,aj q.1,aj q.2])
   exact⟨f1,f2,by rw[← f3,hw];rfl⟩
  refine ay (λk3=>?_) (λk3=>?_)
  .have k3:iG w.2.1 (mh w.2.2.2.2.2)=false:=by simpa using k3
   have q:¬ w.2.2.1 = -1:=λq=>by rw[hc,k3,e3,q] at k2;simp at k2
   have e:gS w=fT (gT w 3 0) (o7 w 3 0) w 0:=by unfold gS;rw[ah k1,aj k3,ah q]
   rw[e]
   exact⟨okw,rfl,rfl,by rw[hw];rfl⟩
  have k3:¬ iG w.2.1 (mh w.2.2.2.2.2)=false:=by simpa using k3
  refine⟨Fp k3,hb,?_⟩
  clear h1b hq
  (repeat refine⟨(by first|(with_reducible rfl)|trivial|omega),?_⟩)
  intro b' hb0'
  (repeat refine⟨(by first|(simp;done)|(rw[hb0'];simp;done)|(cases b' <;> simp)),?_⟩)
  have hq:(bif b' then !gG w.1 else false)=true↔w.2.2.1 ≠ -1/\gG w.1=false:=by rw[hb0',e3];by_cases k:w.2.2.1 = -1 <;> cases gG w.1 <;> simp[k]
  have e:gS w=(jv w.2.1 (cN (cR w.2.1) (mh w.2.2.2.2.2)),(lW w.1 w.2.1 (cN (cR w.2.1) (mh w.2.2.2.2.2)) (iR w.2.2.2.2.1),if w.2.2.1 ≠ -1/\gG w.1=false then lL w.2.2.2.2.1 else w.2.2.2.2.1),0):=by unfold gS;rw[ah k1,ah k3]
  obtain⟨f1,f2,f3⟩:=fin e
  refine ay (λk4=>?_) (λk4=>?_)
  .refine⟨ab,?_,f2,by rw[← f3,hw];rfl⟩
   rw[← f1,aj (hq.1 k4),hw]
  .refine⟨?_,f2,by rw[← f3,hw];rfl⟩
   rw[← f1,ah (λk=>by rw[hq.2 k] at k4;cases k4),hw]
theorem by5:aB 257 bK9.spec:=aF Tryz.func257 (am (am (am (am (am (am aC a83) bj9) O2) O7) aU2) na) aS a15
def bf4:Ct:=⟨[.box 341 sE],[.agg AA,.val cI],λd=>[rG d.1],λd=>(((ir d.1).2.1,(ir d.1).2.2,()),((d.1.1,(ir d.1).1,d.1.2.2.1,d.1.2.2.2.1,d.1.2.2.2.2.1,(cD d.1.2.2.2.2.1).1),()))⟩
def pY(a:ac):=(a,(cD a).1)
theorem a53:
 ∀(a:ar)(b:List ci)(c:Int)(d:ac)(e f g h i:Int)(j:ac)(k:dJ),ai (CT.wf dK a/\gM b c d e f g/\lp h i j k)->wV b c d e f g j->aG j/\au (bJ (dE j)) (gA=(ir (a,(b,c,d,(e,f),g),h,i,j,k)).2.1/\6=(ir (a,(b,c,d,(e,f),g),h,i,j,k)).2.2/\(a,(b,c,d,(e,f),g),h,i,pY j)=(a,(ir (a,(b,c,d,(e,f),g),h,i,j,k)).1,h,i,pY j)) (au (mD a (cD j).1.2.2.2.2.2.2) (rG (a,(b,c,d,(e,f),g),h,i,pY j)/\(kA (a,(b,c,d,(e,f),g),h,i,pY j)).2.1=(ir (a,(b,c,d,(e,f),g),h,i,j,k)).2.1/\(kA (a,(b,c,d,(e,f),g),h,i,pY j)).2.2=(ir (a,(b,c,d,(e,f),g),h,i,j,k)).2.2/\(a,(kA (a,(b,c,d,(e,f),g),h,i,pY j)).1,h,i,pY j)=(a,(ir (a,(b,c,d,(e,f),g),h,i,j,k)).1,h,i,pY j)) (Dz a.2.2.2.1 (bW h (-1)) (gA=(ir (a,(b,c,d,(e,f),g),h,i,j,k)).2.1/\6=(ir (a,(b,c,d,(e,f),g),h,i,j,k)).2.2/\(a,(b,c,d,(e,f),g),h,i,pY j)=(a,(ir
 (a,(b,c,d,(e,f),g),h,i,j,k)).1,h,i,pY j)) (rG (a,(b,c,d,(e,f),g),h,i,pY j)/\(gS (a,(b,c,d,(e,f),g),h,i,pY j)).2.1=(ir (a,(b,c,d,(e,f),g),h,i,j,k)).2.1/\(gS (a,(b,c,d,(e,f),g),h,i,pY j)).2.2=(ir (a,(b,c,d,(e,f),g),h,i,j,k)).2.2/\(a,(gS (a,(b,c,d,(e,f),g),h,i,pY j)).1,h,i,pY j)=(a,(ir (a,(b,c,d,(e,f),g),h,i,j,k)).1,h,i,pY j)))):= by
  delta ae aq aI aV aQ aT cO cS cB aG bG cH cG bw bJ gM bY ia gA ai wV aD bW pY Dz lp
  rintro d x x1 x2 x3 x4 x5 x6 x7 x8 h-⟨hs,hl,hb⟩
  refine⟨ab,ay (λh1=>?_) (λh1=>?_)⟩
  .have e:ir (d,(x,x1,x2,(x3,x4),x5),x6,x7,x8,h)=((x,x1,x2,(x3,x4),x5),lF,6):=by unfold ir;rw[aj (by simpa using h1)]
   rw[e];exact⟨rfl,rfl,rfl⟩
  have h1:¬ dE x8≠0:=by simpa using h1
  refine ay (λh2=>?_) (λh2=>?_)
  .have e:ir (d,(x,x1,x2,(x3,x4),x5),x6,x7,x8,h)=kA (d,(x,x1,x2,(x3,x4),x5),x6,x7,x8,(cD x8).1):=by unfold ir;rw[ah h1];exact aj h2
   rw[e];exact⟨⟨hs,hl,hb⟩,rfl,rfl,rfl⟩
  have h2:¬ mD d (mh (cD x8).1)=true:=by show ¬ mD d (cD x8).1.2.2.2.2.2.2=true;rw[h2];simp
  intro b hb0
  (repeat refine⟨(by first|(simp;done)|(rw[hb0];simp;done)|(cases b <;> simp)),?_⟩)
  have hq:(bif b then !decide (x6 = -1) else false)=true↔pv d=true/\x6 ≠ -1:=by rw[hb0];show (bif d.2.2.2.1 then _ else _)=true↔d.2.2.2.1=true/\_;cases d.2.2.2.1 <;> simp
  refine ay (λh3=>?_) (λh3=>?_)
  .have e:ir (d,(x,x1,x2,(x3,x4),x5),x6,x7,x8,h)=((x,x1,x2,(x3,x4),x5),lF,6):=by unfold ir;rw[ah h1,ah h2];exact aj (hq.1 h3)
   rw[e];exact⟨rfl,rfl,rfl⟩
  .have e:ir (d,(x,x1,x2,(x3,x4),x5),x6,x7,x8,h)=gS (d,(x,x1,x2,(x3,x4),x5),x6,x7,x8,(cD x8).1):=by unfold ir;rw[ah h1,ah h2];exact ah (λk=>by rw[hq.2 k] at h3;cases h3)
   rw[e];exact⟨⟨hs,hl,hb⟩,rfl,rfl,rfl⟩
theorem bD0:aB 206 bf4.spec:=aF Tryz.func206 (am (am (am (am aC E8) Wl) aV9) by5) aS a53
def bu6:Ct:=⟨[.val (.sl d8)],[.own 176 d8],λd=>[(d.1.length:Int)<=134217728],λd=>((d.1,()),())⟩
theorem bN7:
 ∀(a:List ci),ai (cO a)->mX a->jj (a.length=0) ([]=a) (bv ((0+a.length)*48)/\a=a):= by
  delta ae aq aI aQ cO cS cB bv ai jj aD mX
  rintro x ⟨⟨hl,-⟩,-⟩ h b hb
  refine ay (λh1=>?_) (λh1=>⟨ab,aw⟩)
  have:=hb h1
  exact (BC this).symm
theorem RX:aB 201 bu6.spec:=aF Tryz.func201 aC aS bN7
abbrev rb:CT := .pair cI (.pair cI (.pair cI (.pair cI (.pair cI cI))))
abbrev kO:CT := .pair cI (.pair cI (.pair .bool d8))
abbrev kJ:CT := .pair (.sl dK) (.pair (.sl rb) (.sl kO))
abbrev cj:Type:=Int×Int×Int×Int×Int×Int
abbrev bV:Type:=Int×Int×Bool×Rt
abbrev Net:Type:=List ar×List cj×List bV
abbrev bm:Type:=ac×Int
abbrev rC:Type:=Int×Int
def lA(l:cj):Int:=l.1
def lB(l:cj):Int:=l.2.1
def qi(l:cj):Int:=l.2.2.1
def me(l:cj):Int:=l.2.2.2.1
def wn(l:cj):Int:=l.2.2.2.2.1
def zg(l:cj):Int:=l.2.2.2.2.2
theorem o5{α:Type} [Inhabited α] {l:List α} {i j:Nat} {a:α} (h:i≠j):(l.set i a).getD j default=l.getD j default:=by
 rw[ct,ct,List.getElem?_set_ne h]
def FU(c:bm):Int:=c.1.getD c.2.toNat default
def qc(c:bm)(n:Int):Int×bm:=if (c.1.length:Int)<=c.2∨n<1 then (0,c) else ((FU c).tmod n,(c.1,c.2+1))
def ax(c:bm)(n:Int):Int×bm :=
 if (c.1.length:Int)<=c.2∨n<1 then (0,c)
 else if 256<n then ((256*FU c+(qc (c.1,c.2+1) 256).1).tmod n,(qc (c.1,c.2+1) 256).2)
 else ((FU c).tmod n,(c.1,c.2+1))
structure dF (c:bm):Prop where
 at':bH c
 b:∀ x∈c.1,0<=x/\x<=255
theorem dF.code{c:bm}(h:dF c)(hb:¬ (c.1.length:Int)<=c.2):0<=FU c/\FU c<=255:=h.b _ (cA h.at'.1 ab)
theorem X5{c:bm}(h:dF c)(n:Int):dF (qc c n).2/\0<=(qc c n).1/\((qc c n).1<n∨(qc c n).1=0):=by
 unfold qc
 split
 .exact⟨h,aw,.inr rfl⟩
 next hb=>have hc:=h.code ab;have ha:=h.at';exact⟨⟨⟨by have:=ha.1;show 0<=c.2+1;omega,by show c.2+1<=(c.1.length:Int);omega⟩,h.b⟩,yu hc.1,.inl (yq hc.1 ab)⟩
theorem dV{c:bm}(h:dF c)(n:Int):dF (ax c n).2/\0<=(ax c n).1/\((ax c n).1<n∨(ax c n).1=0):=by
 unfold ax
 split
 .exact⟨h,aw,.inr rfl⟩
 next hb=>
  have hc:=h.code ab;have ha:=h.at';have h1:dF (c.1,c.2+1):=⟨⟨by have:=ha.1;show 0<=c.2+1;omega,by show c.2+1<=(c.1.length:Int);omega⟩,h.b⟩
  split
  .have k:=X5 h1 256;exact⟨k.1,yu ab,.inl (yq ab ab)⟩
  .exact⟨h1,yu hc.1,.inl (yq hc.1 ab)⟩
theorem f5{c:bm}(h:dF c){n:Int}(hn:0<n):0<=(ax c n).1/\(ax c n).1<n:=by
 have:=dV h n;omega
def vF(i:Int)(host:Bool)(f sd:Int):ar:=([],0,1+i/3,host,[],1,0,0,0,0,(0,0),false,false,f,sd)
abbrev bU:Type:=Net×bm
def mv(s:bU)(host:Bool):bU :=
 ((s.1.1++[vF s.1.1.length host (([64,255,128]:ac).getD (ax s.2 3).1.toNat default) (ax (ax s.2 3).2 256).1],s.1.2),(ax (ax s.2 3).2 256).2)
def mB(ns:List ar)(x:Int)(p:rC):List ar:=ns.set x.toNat ((ns.getD x.toNat default).1++[p],(ns.getD x.toNat default).2)
def ip(l:Int):Int:=167837696+4*l
def kU(s:bU)(a b:Int):bU :=
 ((mB (mB s.1.1 a (ip s.1.2.1.length+1,s.1.2.1.length)) b (ip s.1.2.1.length+2,s.1.2.1.length),
   s.1.2.1++[(a,b,1+(ax s.2 20).1,0,0,(ax (ax s.2 20).2 256).1)],s.1.2.2),(ax (ax s.2 20).2 256).2)
def mW(k:Int):ac->ac
 | []=>[k]
 | x::r=>if k<x then k::x::r else x::mW k r
theorem Ro{k:Int}:∀{l:ac},(∀ x∈l,¬ k<x)->mW k l=l++[k]
 | [],_=>rfl
 | x::r,h=>by rw[mW,ah (h x fp),Ro λy hy=>h y (fu _ hy)];rfl
theorem RG{k:Int}{m:ac}:∀{l:ac},(∃ x∈l,k<x)->mW k (l++m)=mW k l++m
 | [],h=>by obtain⟨x,hx,-⟩:=h;cases hx
 | y::r,h=>by
  rw[nO,mW,mW];by_cases hy:k<y
  .rw[aj hy,aj hy];rfl
  .rw[ah hy,ah hy,RG (l:=r)];rfl;obtain⟨x,hx,hk⟩:=h;rcases eZ.1 hx with rfl|hx
   .exact absurd hk hy
   .exact⟨x,hx,hk⟩
theorem Xv{k x:Int}:∀{l:ac},(∀ y∈l,¬ k<y)->k<x->mW k (l++[x])=l++[k]++[x]
 | [],_,h=>by rw[uy,mW,aj h];rfl
 | y::r,h,hk=>by rw[nO,mW,ah (h y fp),Xv (λz hz=>h z (fu _ hz)) hk];rfl
theorem LU(k:Int):∀ l:ac,(mW k l).length=l.length+1
 | []=>rfl
 | x::r=>by rw[mW];split <;> simp[LU k r]
def vE(l:List Rt)(p:fD):Nat:=l.findIdx λr=>decide (r.1=p)
def Do(x:ar)(l:List Rt):ar:=(x.1,x.2.1,x.2.2.1,x.2.2.2.1,l,x.2.2.2.2.2)
def zD(l:List Rt)(p:fD)(k way:Int):List Rt :=
 if vE l p<l.length then
  if k∈(l.getD (vE l p) default).2.1 then l else iu l (p,mW k (l.getD (vE l p) default).2.1,(l.getD (vE l p) default).2.2)
 else iu l (p,[k],way)
def vB(ns:List ar)(n:Int)(p:fD)(k way:Int):List ar:=ns.set n.toNat (Do (ns.getD n.toNat default) (zD (bL (ns.getD n.toNat default)) p k way))
def yb(d:ac)(l:cj):ac :=
 (d.set (lA l).toNat (min (d.getD (lA l).toNat default) (d.getD (lB l).toNat default+1))).set (lB l).toNat (min (d.getD (lB l).toNat default) (d.getD (lA l).toNat default+1))
def kM(nn:Nat)(ls:List cj)(to:Int):ac:=(range nn).foldl (λd _=>ls.foldl yb d) ((replicate nn (1000:Int)).set to.toNat 0)
def uK(d:ac)(to:Int)(p:fD)(plain:Bool)(k way:Int)(ns:List ar)(a b:Int):List ar :=
 if d.getD a.toNat default≠d.getD b.toNat default+1∨(b≠to/\pv (ns.getD b.toNat default)=true) then ns
 else if plain=true/\rB (bL (ns.getD a.toNat default)) p=true then ns else vB ns a p k way
def stepK(ls:List cj)(d:ac)(to:Int)(p:fD)(plain:Bool)(way:Int)(ns:List ar)(k:Nat):List ar :=
 uK d to p plain k way (uK d to p plain k way ns (lA (ls.getD k default)) (lB (ls.getD k default))) (lB (ls.getD k default)) (lA (ls.getD k default))
def stepP(ls:List cj)(d:ac)(to:Int)(plain:Bool)(way:Int)(ns:List ar)(q:rC):List ar :=
 (range ls.length).foldl (stepK ls d to (q.1,32) plain way) ns
def qS(c:bm):Int×bm:=if 1+(ax c 3).1=3 then (if 0<(ax (ax c 3).2 3).1 then 1 else 3,(ax (ax c 3).2 3).2) else (1+(ax c 3).1,(ax c 3).2)
def stepT(ls:List cj)(plain:Bool)(s:List ar×bm)(to:Nat):List ar×bm :=
 ((aM (s.1.getD to default)).foldl (stepP ls (kM s.1.length ls to) to plain (qS s.2).1) s.1,(qS s.2).2)
def Fw(s:bU)(plain:Bool):bU :=
 let r:=(range s.1.1.length).foldl (stepT s.1.2.1 plain) (s.1.1,s.2)
 ((r.1,s.1.2),r.2)
def aq1(x:ar):ar:=(x.1,x.2.1,x.2.2.1,x.2.2.2.1,x.2.2.2.2.1,x.2.2.2.2.2.1,x.2.2.2.2.2.2.1,x.2.2.2.2.2.2.2.1,x.2.2.2.2.2.2.2.2.1,x.2.2.2.2.2.2.2.2.2.1,x.2.2.2.2.2.2.2.2.2.2.1,true,x.2.2.2.2.2.2.2.2.2.2.2.2)
def a63(x:ar)(b:bT2):ar:=(x.1,x.2.1,x.2.2.1,x.2.2.2.1,x.2.2.2.2.1,x.2.2.2.2.2.1,x.2.2.2.2.2.2.1,x.2.2.2.2.2.2.2.1,x.2.2.2.2.2.2.2.2.1,x.2.2.2.2.2.2.2.2.2.1,b,x.2.2.2.2.2.2.2.2.2.2.2)
def Jc(x:ar)(b:Bool):ar:=(x.1,x.2.1,x.2.2.1,x.2.2.2.1,x.2.2.2.2.1,x.2.2.2.2.2.1,x.2.2.2.2.2.2.1,x.2.2.2.2.2.2.2.1,x.2.2.2.2.2.2.2.2.1,x.2.2.2.2.2.2.2.2.2.1,x.2.2.2.2.2.2.2.2.2.2.1,x.2.2.2.2.2.2.2.2.2.2.2.1,b,x.2.2.2.2.2.2.2.2.2.2.2.2.2)
def a87(x:ar)(s:Int):ar:=(x.1,x.2.1,x.2.2.1,x.2.2.2.1,x.2.2.2.2.1,s,x.2.2.2.2.2.2)
def aN9(x:ar)(a s:Int):ar:=(x.1,a,x.2.2.1,x.2.2.2.1,x.2.2.2.2.1,s,x.2.2.2.2.2.2)
def bC8(x:ar)(a s:Int):ar:=(x.1,x.2.1,x.2.2.1,x.2.2.2.1,x.2.2.2.2.1,s,a,x.2.2.2.2.2.2.2)
def a84(x:ar)(i b s:Int):ar:=(x.1,x.2.1,x.2.2.1,x.2.2.2.1,x.2.2.2.2.1,x.2.2.2.2.2.1,x.2.2.2.2.2.2.1,i,b,s,x.2.2.2.2.2.2.2.2.2.2)
def jp(x:ar)(i:Int)(c:bm):ar×bm :=
 let a:=ax c 10
 if a.1=1 then (aq1 x,a.2)
 else if a.1=2 then (a63 x (1+(ax a.2 3).1,1+(ax (ax a.2 3).2 200).1),(ax (ax a.2 3).2 200).2)
 else if a.1=3 then (Jc x (!pv x&&decide (i%2=1)),a.2)
 else if a.1=4 then (a87 x 2,a.2)
 else if a.1=5 then (aN9 x (167903232+i) 3,a.2)
 else if a.1=6 then (bC8 x (167837696+(ax a.2 40).1) 4,(ax a.2 40).2)
 else (x,a.2)
def Bz(x:ar)(i:Int)(c:bm):ar×bm :=
 let y:=jp x i c
 (a84 y.1 (ax y.2 6).1 (ax (ax y.2 6).2 65536).1 (ax (ax (ax y.2 6).2 65536).2 1000).1,(ax (ax (ax y.2 6).2 65536).2 1000).2)
def Bv(s:List ar×bm)(i:Nat):List ar×bm:=(s.1.set i (Bz (s.1.getD i default) i s.2).1,(Bz (s.1.getD i default) i s.2).2)
def odLink(l:cj)(c:bm):cj×bm :=
 let a:=ax c 6
 if a.1=1 then ((l.1,l.2.1,l.2.2.1,(ax a.2 10).1,l.2.2.2.2),(ax a.2 10).2)
 else if a.1=2 then ((l.1,l.2.1,l.2.2.1,l.2.2.2.1,([65536,20000,3]:ac).getD (ax a.2 3).1.toNat default,l.2.2.2.2.2),(ax a.2 3).2)
 else (l,a.2)
def vG(ns:List ar)(l:cj):List ar :=
 if gG (ns.getD (lA l).toNat default)=true/\gG (ns.getD (lB l).toNat default)=true then ns.set (lB l).toNat (Jc (ns.getD (lB l).toNat default) false) else ns
def ww(s:(List ar×List cj)×bm)(i:Nat):(List ar×List cj)×bm :=
 let r:=odLink (s.1.2.getD i default) s.2
 ((vG s.1.1 r.1,s.1.2.set i r.1),r.2)
def tv(ns:List ar)(s:List bV×Int×bm):List bV×Int×bm :=
 let a:=ax s.2.2 60
 let at':=s.2.1+a.1
 let w:=ax a.2 ns.length
 let x:=ns.getD w.1.toNat default
 if (bL x).length=0 then (s.1,at',w.2)
 else
  let r:=ax w.2 (bL x).length
  let p:=ax r.2 (aM x).length
  let z:=ax p.2 4
  let rt:=(bL x).getD r.1.toNat default
  (s.1++[(at',w.1,false,(rt.1,if z.1=3 then [] else [((aM x).getD p.1.toNat default).2],rt.2.2))],at',z.2)
def rK(s:bU):bU :=
 let n:=(range s.1.1.length).foldl Bv (s.1.1,s.2)
 let l:=(range s.1.2.1.length).foldl ww ((n.1,s.1.2.1),n.2)
 let k:=ax l.2 4
 let h:=(range k.1.toNat).foldl (λs _=>tv l.1.1 s) ([],0,k.2)
 ((l.1.1,l.1.2,h.1),h.2.2)
def uN(s:bU)(k:Nat):bU:=kU (mv s false) k (k+1)
def wp(n:Int)(s:bU):bU :=
 let a:=ax s.2 n
 let b:=ax a.2 n
 if a.1=b.1 then (s.1,b.2) else kU (s.1,b.2) (1+a.1) (1+b.1)
def qq(c:bm):Int×bU :=
 let a:=mv (([],[],[]),c) true
 let m:=ax a.2 5
 let s:=(range (1+m.1).toNat).foldl uN (a.1,m.2)
 (1+m.1,kU (mv s true) (1+m.1) (1+m.1+1))
def Di(plain:Bool)(n:Int)(s:bU):bU :=
 let k:=ax s.2 4
 let s1:=if 1<n/\plain=false then (range k.1.toNat).foldl (λs _=>wp n s) (s.1,k.2) else (s.1,k.2)
 if plain=true/\2<n then
  if (ax s1.2 2).1=1 then kU (s1.1,(ax (ax s1.2 2).2 (n-1)).2) (1+(ax (ax s1.2 2).2 (n-1)).1) n else (s1.1,(ax s1.2 2).2)
 else s1
def FE(plain:Bool)(c:bm):bU :=
 let s:=Fw (Di plain (qq c).1 (qq c).2) plain
 if plain then s else rK s
def sS(plain:Bool)(c:bm):Net:=(FE plain c).1
def Bs(plain:Bool)(c:bm):bm:=(FE plain c).2
def ga(x:ar):ac:=vd x++(if kT x=0 then [] else [kT x])
def aC7:Ct:=⟨[.val cI,.val cI,.val cI],[.val .bool],λ_=>[],λd=>((decide (d.2.1<=d.1/\d.1<=d.2.2.1),()),())⟩
theorem Zt:
 ∀(a b c:Int),bG a b (aq c) True->True-> ∀(d:Bool),d=decide (b<=a)->(d->d7 d)/\(d->d)/\bw d (decide (a<=c))=decide (b<=a/\a<=c):= by
  delta aq aI aT bG bw ai d7
  rintro a b c - -
  (repeat (refine dq ?_;repeat refine dm ?_))
  by_cases h1:b<=a <;> by_cases h2:a<=c <;> simp[h1,h2]
theorem Oj:aB 192 aC7.spec:=aF Tryz.func192 aC aS Zt
def U5:Ct:=⟨[.agg dK],[.own 49 db],λd=>[(aM d.1).length<=100000],λd=>((ga d.1,()),())⟩
def YS:bp U5.ps->bI:=(λd=>{loops:=(bt 3 (λS=>{ι:=Int×ac,qn:=eO,μ:=λi=>((aM d.1).length-i.1).toNat,inv:=λi=>0<=i.1/\i.1<=(aM d.1).length/\i.2=(vd d.1).take i.1.toNat,keep:=[1,7,8],slots:=λi=>[(3,.own 524288 1),(9,.int .i64 i.1)],keepN:=[32],names:=λi=>[(524288,.live (.row 49 db i.2))]}) bZ)})
def Iw(a:Int)(b:ar)(c:ac):=ao a (a<=ae (aM b)) (c=take a.toNat (vd b))
theorem aJ3:
 ∀(a:ar),ai (CT.wf dK a)->qu (aM a)->(∃(b:Int) (c:ac),Iw b a c/\a.1=a.1/\aA (ae a.1) (0=b) (rN a.1 a.2.1 a.2.2.1 a.2.2.2.1 (a.2.2.2.2.1=a.2.2.2.2.1) (ce a.2.2.2.2.2.1 a.2.2.2.2.2.2.1 a.2.2.2.2.2.2.2.1 a.2.2.2.2.2.2.2.2.1 a.2.2.2.2.2.2.2.2.2.1 (a.2.2.2.2.2.2.2.2.2.2.1.1=a.2.2.2.2.2.2.2.2.2.2.1.1) (aA a.2.2.2.2.2.2.2.2.2.2.1.2 (a.2.2.2.2.2.2.2.2.2.2.2.1=a.2.2.2.2.2.2.2.2.2.2.2.1) (a.2.2.2.2.2.2.2.2.2.2.2.2.1=a.2.2.2.2.2.2.2.2.2.2.2.2.1/\aU a.2.2.2.2.2.2.2.2.2.2.2.2.2.1 a.2.2.2.2.2.2.2.2.2.2.2.2.2.2 (c=[]) True)))))/\ ∀(b:Int)(c:ac),Iw b a c->au (av b (ae a.1)) (bu b (ae a.1) (bv ((c.length+List.length (bN (af a.1 b).1))*4)) (∃(d:Int) (e:ac),Iw d a e/\aZ (ae (aM a)) d b/\a.1=a.1/\aA (ae a.1) (aY b d) (rN a.1 a.2.1 a.2.2.1 a.2.2.2.1 (a.2.2.2.2.1=a.2.2.2.2.1) (ce a.2.2.2.2.2.1 a.2.2.2.2.2.2.1
 a.2.2.2.2.2.2.2.1 a.2.2.2.2.2.2.2.2.1 a.2.2.2.2.2.2.2.2.2.1 (a.2.2.2.2.2.2.2.2.2.2.1.1=a.2.2.2.2.2.2.2.2.2.2.1.1) (aA a.2.2.2.2.2.2.2.2.2.2.1.2 (a.2.2.2.2.2.2.2.2.2.2.2.1=a.2.2.2.2.2.2.2.2.2.2.2.1) (a.2.2.2.2.2.2.2.2.2.2.2.2.1=a.2.2.2.2.2.2.2.2.2.2.2.2.1/\aU a.2.2.2.2.2.2.2.2.2.2.2.2.2.1 a.2.2.2.2.2.2.2.2.2.2.2.2.2.2 (c++bN (af a.1 b).1=e) True)))))) (au (bJ a.2.1) (bv ((c.length+List.length (bN a.2.1))*4)/\c++bN a.2.1=ga a) (c=ga a)):= by
  delta af ae ap aU aA aZ cu ao bv bJ bN aY ce ai bW bu av rN qu Iw
  rintro d-hl
  have hlen:(vd d).length=(aM d).length:=by simp[vd]
  have hd:d.1=aM d:=rfl
  have hz:d.2.1=kT d:=rfl
  rw[hd,hz]
  refine⟨⟨0,[],⟨ab,ab,rfl⟩,aK⟩,?_⟩
  rintro j l ⟨j0,j1,rfl⟩
  refine bP (λhk=>?_) (λhk=>?_)
  .refine⟨j0,hk,by simp only[dG,dP,List.length_nil];omega,j+1,_,⟨ab,ab,rfl⟩,ab,?_⟩
   (repeat refine fR ?_)
   refine⟨?_,aN⟩
   rw[Jh j0 (by rw[hlen];exact hk)]
   unfold vd
   rw[ct,ct,List.getElem?_map,cM ab]
   rfl
  .rw[fH ab]
   unfold ga
   refine ay (λh=>?_) (λh=>?_)
   .rw[ah (ke h)]
    exact⟨by simp only[dP,List.length_nil];omega,rfl⟩
   .rw[aj (kS h),kY]
theorem ar7:aB 196 U5.spec:=aF Tryz.func196 aC YS aJ3
def ta(i:Int)(l:ac)(m:bU1):List bT2:=l.foldl (λm a=>mH a i m) m
def kr(ns:List ar)(k:Nat):List bT2:=(range k).foldl (λm (i:Nat)=>ta (i:Int) (ga (ns.getD i default)) m) []
def twice(ns:List ar):Bool:=(range ns.length).any λ(i:Nat)=>(ga (ns.getD i default)).any λa=>iU a (kr ns i)
def xh(n:Net):Int:=if twice n.1 then 10 else 0
theorem Xw{a b v:Int}:∀{m:bU1},iU a (mH b v m)=(decide (a=b)||iU a m)
 | []=>by simp only[mH,iU];cases decide (a=b) <;> rfl
 | p::m=>by
  simp only[mH];by_cases hb:b=p.1
  .rw[fm hb,cond_true,iU,iU,← hb];cases decide (a=b) <;> rfl
  .rw[fh hb,sg,iU,iU,Xw];cases decide (a=p.1) <;> cases decide (a=b) <;> rfl
theorem Tj{a b v:Int}:∀{m:bU1},nC a (mH b v m)=if a=b then v else nC a m
 | []=>by
  simp only[mH,nC];by_cases h:a=b
  .rw[fm h,aj h];rfl
  .rw[fh h,ah h];rfl
 | p::m=>by
  simp only[mH];by_cases hb:b=p.1
  .rw[fm hb,cond_true,nC,nC,← hb];by_cases h:a=b
   .rw[fm h,aj h];rfl
   .rw[fh h,ah h];rfl
  .rw[fh hb,sg,nC,nC,Tj];by_cases h:a=p.1
   .have hab:¬ a=b:=λe=>hb (e.symm.trans h);simp only[ah hab]
   .rw[fh h];rfl
theorem an9(i a:Int)(l:ac)(m:bU1):ta i (l++[a]) m=mH a i (ta i l m):=by
 unfold ta;rw[ld];rfl
theorem Mv{i a:Int}{m:bU1}:∀{l:ac},iU a (ta i l m)=(decide (a∈l)||iU a m)/\nC a (ta i l m)=if a∈l then i else nC a m:=by
 intro l
 induction l generalizing m with
 | nil=>simp[ta]
 | cons b l ih =>
  have k:=ih (m:=mH b i m);unfold ta at k ⊢;rw[List.foldl_cons,k.1,k.2,Xw,Tj];by_cases h1:a=b <;> by_cases h2:a∈l <;> simp[h1,h2]
theorem R8(ns:List ar):∀(k:Nat)(a:Int),iU a (kr ns k)=true->nC a (kr ns k)<k
 | 0,a,h=>by cases h
 | k+1,a,h=>by
  have e:kr ns (k+1)=ta k (ga (ns.getD k default)) (kr ns k):=by unfold kr;rw[lP,ld];rfl
  rw[e] at h ⊢;have q:=Mv (i:=(k:Int)) (a:=a) (m:=kr ns k) (l:=ga (ns.getD k default));rw[q.1] at h;rw[q.2];split
  .omega
  next hn=>rw[fh hn,Bool.false_or] at h;have:=R8 ns k a h;omega
def Qj:Ct:=⟨[.agg kJ],[.val cI],λd=>[∀ x∈d.1.1,(aM x).length<=100000],λd=>((xh d.1,()),())⟩
def aj8:bp Qj.ps->bI:=(λd=>{loops:=(bt 3 (λS=>{ι:=Int,μ:=λi=>(d.1.1.length-i).toNat,inv:=λi=>0<=i/\i<=d.1.1.length∧∀ k:Nat,(k:Int)<i→∀ a∈ga (d.1.1.getD k default),iU a (kr d.1.1 k)=false,keep:=[1,12,13],slots:=λi=>[(14,.int .i64 i),(3,.mapp 524288)],keepN:=[32],names:=λi=>[(524288,.live (.mp .u32 .i64 (kr d.1.1 i.toNat)))]}) (bt 6 (λS=>{ι:=Int,μ:=λi=>((ga (d.1.1.getD (S.i 14).toNat default)).length-i).toNat,inv:=λi=>0<=i/\i<=(ga (d.1.1.getD (S.i 14).toNat default)).length∧∀ a∈(ga (d.1.1.getD (S.i 14).toNat default)).take i.toNat,iU a (kr d.1.1 (S.i 14).toNat)=false,keep:=[1,4,12,13,14,20,21],slots:=λi=>[(22,.int .i64 i),(3,.mapp 524288)],keepN:=[32,336],names:=λi=>[(524288,.live (.mp .u32 .i64 (ta (S.i 14) ((ga (d.1.1.getD (S.i 14).toNat default)).take i.toNat) (kr d.1.1 (S.i 14).toNat))))]}) bZ))})
def kF(a:List ar):=a.length<=maxLen/\ ∀(b:ar),b∈a->jt b.1/\aQ b.2.1/\aq b.2.2.1/\True/\cO b.2.2.2.2.1/\aq b.2.2.2.2.2.1/\aQ b.2.2.2.2.2.2.1/\bG b.2.2.2.2.2.2.2.1 b.2.2.2.2.2.2.2.2.1 (aq b.2.2.2.2.2.2.2.2.2.1) ((aq b.2.2.2.2.2.2.2.2.2.2.1.1/\aq b.2.2.2.2.2.2.2.2.2.2.1.2)/\True/\True/\aq b.2.2.2.2.2.2.2.2.2.2.2.2.2.1/\aq b.2.2.2.2.2.2.2.2.2.2.2.2.2.2)
def ji(a:List bc):=a.length<=maxLen/\ ∀(b:bc),b∈a->bG b.1 b.2.1 (aq b.2.2.1) (fB b.2.2.2.1 b.2.2.2.2.1 b.2.2.2.2.2)
def kC(a:List bV):=a.length<=maxLen/\ ∀(b:bV),b∈a->bG b.1 b.2.1 True (cS b.2.2.2.1.1 b.2.2.2.1.2 b.2.2.2.2.1 b.2.2.2.2.2)
def f7(a:List ar)(b:List bc)(c:List bV):=kF a/\ji b/\kC c
def cT(a:List ar)(b:List bc)(c d:Prop):=a=a/\b=b/\c/\d
def Ap(a b:Int)(c:List ar):=ta a (take b.toNat (ga (af c a))) (kr c a.toNat)
def Hx(a:Int)(b:List ar)(c:Int):=ao a (a<=ae (ga (af b c))) (∀(d:Int),d∈take a.toNat (ga (af b c))->iU d (kr b c.toNat)=false)
def HO(a:Int)(b:List ar):=ao a (a<=ae b) (∀(c:Nat),(c:Int)<a-> ∀(d:Int),d∈ga (yp b c)->iU d (kr b c)=false)
def zJ(a:List ar)(b c:Int)(d:List bc)(e f:Prop):=aZ (ae a) b c/\a=a/\aA (ae a) (aY c b) (cT a d e f)
theorem bz7:
 ∀(a:List ar)(b:List bc)(c:List bV),ai (f7 a b c)->(∀(d:ar),d∈a->qu (aM d))->(∃(d:Int),HO d a/\a=a/\aA (ae a) (0=d) (cT a b (c=c) (ai ([]=kr a d.toNat))))/\ ∀(d:Int),HO d a->au (av d (ae a)) (bu d (ae a) (qu (aM (af a d))) ((∃(e:Int),Hx e a d/\aA d (a=a) (d6 (ae a) d (ae (ga (af a d))) (0=e) (cT a b (c=c) (ga (af a d)=ga (af a d)/\ai (kr a d.toNat=Ap d e a)))))/\ ∀(e:Int),Hx e a d->au (av e (ae (ga (af a d)))) (ao e (e<ae (ga (af a d))) (∀(f:Bool),f=iU (af (ga (af a d)) e) (Ap d e a)->(f->d7 f)/\(f->f)/\au (bw f (bW (nC (af (ga (af a d)) e) (Ap d e a)) d)) (10=xh (a,b,c)) (∃(g:Int),Hx g a d/\aZ (ae (ga (af a d))) g e/\aA d (a=a) (d6 (ae a) d (ae (ga (af a d))) (aY e g) (cT a b (c=c) (ga (af a d)=ga (af a d)/\ai (mH (af
 (ga (af a d)) e) d (Ap d e a)=Ap d g a))))))) (∃(f:Int),HO f a/\zJ a f d b (c=c) (ai (Ap d e a=kr a f.toNat))))) (0=xh (a,b,c)):= by
  delta af yp ae ap aq aI aQ aT f7 kF cO cS cB aU ji bG aA aZ bw jt cu ao cT aY ai kC Ap Hx HO aD bW bu d7 av d6 qu fB zJ
  rintro ns ls hs ⟨⟨⟨hnl,-⟩,-⟩,-⟩ hp
  simp only[maxLen] at hnl
  have hlen:∀ x∈ns,(ga x).length<=100001:=λx hx=>by
   have:=hp x hx
   unfold ga vd
   rw[cL,mg]
   split <;> simp <;> omega
  refine⟨⟨0,⟨ab,ab,λk hk=>ab⟩,aK⟩,?_⟩
  rintro i ⟨i0,i1,hI⟩
  refine ay (λhi=>?_) (λhi=>?_)
  rotate_left
  .have hi:=bi hi
   unfold xh
   rw[ah]
   intro h
   obtain⟨k,hk,h2⟩:=List.any_eq_true.1 h
   obtain⟨a,ha,h3⟩:=List.any_eq_true.1 h2
   have hk:k<ns.length:=List.mem_range.1 hk
   rw[hI k ab a ha] at h3
   cases h3
  have hi:=aX hi
  have hm:=cA i0 hi
  have hl:=hlen _ hm
  refine⟨i0,hi,hp _ hm,⟨0,⟨ab,ab,aw⟩,aK⟩,?_⟩
  rintro j ⟨j0,j1,hJ⟩
  have ei:((i.toNat:Nat):Int)=i:=ab
  refine ay (λhj=>?_) (λhj=>?_)
  rotate_left
  .have hj:=bi hj
   rw[fH ab] at hJ ⊢
   refine⟨i+1,⟨ab,ab,λk hk a ha=>?_⟩,ab,?_⟩
   .by_cases e:(k:Int)<i
    .exact hI k e a ha
    .have:k=i.toNat:=ab
     subst this
     exact hJ a ha
   .have e:ta i (ga (ns.getD i.toNat default)) (kr ns i.toNat)=kr ns (i+1).toNat:=by
     rw[show (i+1).toNat=i.toNat+1 by omega]
     unfold kr
     rw[lP,ld,List.foldl_cons,List.foldl_nil,ei]
    rw[e]
    exact aK
  have hj:=aX hj
  have ha:=cA j0 hj
  have st:=Jh j0 hj
  refine⟨j0,hj,?_⟩
  have q:=Mv (i:=i) (a:=(ga (ns.getD i.toNat default)).getD j.toNat default) (m:=kr ns i.toNat) (l:=(ga (ns.getD i.toNat default)).take j.toNat)
  generalize (ga (ns.getD i.toNat default)).getD j.toNat default=a at ha st q ⊢
  have lt:=R8 ns i.toNat a
  rw[ei] at lt
  intro b hb
  (repeat refine⟨aw,?_⟩)
  refine z8 (λx1 x2=>?_) (λhno=>?_)
  .have x2:=ke x2
   rw[hb,q.1] at x1
   rw[q.2] at x2
   have hn:a ∉ (ga (ns.getD i.toNat default)).take j.toNat:=λh=>by rw[aj h] at x2;exact x2 rfl
   rw[fh hn,Bool.false_or] at x1
   unfold xh
   rw[aj]
   exact List.any_eq_true.2 ⟨i.toNat,List.mem_range.2 (show i.toNat<ns.length by omega),List.any_eq_true.2 ⟨a,ha,x1⟩⟩
  .have hz:iU a (kr ns i.toNat)=false:=by
    by_cases hn:a∈(ga (ns.getD i.toNat default)).take j.toNat
    .exact hJ a hn
    .rw[fh hn,Bool.false_or] at q
     rw[ah hn] at q
     rcases hno with h|h
     .rw[hb,q.1] at h;exact h
     .have h:=kS h
      rw[q.2] at h
      cases hq:iU a (kr ns i.toNat) with
      | false=>rfl
      | true=>have:=lt hq;omega
   refine⟨j+1,⟨ab,ab,λy hy=>?_⟩,ab,?_⟩
   .rw[st] at hy
    rcases fC.1 hy with hy|hy
    .exact hJ y hy
    .rw[nz.1 hy];exact hz
   .rw[st,an9]
    exact aK
theorem bC3:aB 124 Qj.spec:=aF Tryz.func124 (am aC ar7) aj8 bz7
def jG(ls:List cj)(k x:Int):Int:=if k<0∨(ls.length:Int)<=k then -1 else if x=lA (ls.getD k.toNat default) then lB (ls.getD k.toNat default) else if x=lB (ls.getD k.toNat default) then lA (ls.getD k.toNat default) else -1
def ud(n:Net):Int:=if n.1.length<1∨64<n.1.length∨128<n.2.1.length∨64<n.2.2.length then 5 else 0
def bE5:Ct:=⟨[.agg kJ],[.val cI],λ_=>[],λd=>((ud d.1,()),())⟩
theorem aM5:
 ∀(a:List ar)(b:List bc)(c:List bV),ft (f7 a b c) (Dg (av (ae a) 1) (av 64 (ae a)) (av 128 (ae b)) (av 64 (ae c)) (5=ud (a,b,c)) (0=ud (a,b,c))):= by
  delta ae aq aI bO aQ aT f7 kF cO cS cB ji bG bn jt cX br oa ai kC Dg aD av ft fB lR
  rintro ns ls hs - -
  (repeat (refine dq ?_;repeat refine dm ?_))
  unfold ud
  refine ay (λh=>?_) (λh=>?_)
  .simp[gb] at h
   rw[aj (by dsimp only;omega)]
  .simp[gb] at h
   rw[ah (by dsimp only;omega)]
theorem bJ7:aB 120 bE5.spec:=aF Tryz.func120 aC aS aM5
def Td:Ct:=⟨[.agg dK],[.own 3 cI],λd=>[(aM d.1).length<=100000],λd=>((c8 d.1,()),())⟩
def aD8:bp Td.ps->bI:=(λd=>{loops:=(bt 3 (λS=>{ι:=Int×ac,qn:=eO,μ:=λi=>((aM d.1).length-i.1).toNat,inv:=λi=>0<=i.1/\i.1<=(aM d.1).length/\i.2=(c8 d.1).take i.1.toNat,keep:=[1,7,8],slots:=λi=>[(3,.own 524288 1),(9,.int .i64 i.1)],keepN:=[32],names:=λi=>[(524288,.live (.row 3 cI i.2))]}) bZ)})
theorem ba6:
 IP:= by
 delta af ae ap aU aA aZ cu IP ao bv bN aY ce ai bu av rN wY qu DY
 rintro d-hl
 have hlen:(c8 d).length=(aM d).length:=by simp[c8]
 refine⟨⟨0,[],⟨ab,ab,rfl⟩,aK⟩,?_⟩
 rintro j l ⟨j0,j1,rfl⟩
 have hd:d.1=aM d:=rfl
 rw[hd]
 refine bP (λhk=>?_) (λhk=>?_)
 .refine⟨j0,hk,by simp only[dG,dP,List.length_nil];omega,j+1,_,⟨ab,ab,rfl⟩,ab,?_⟩
  (repeat refine fR ?_)
  refine⟨?_,aN⟩
  rw[Jh j0 (by rw[hlen];exact hk)]
  unfold c8
  rw[ct,ct,List.getElem?_map,cM ab]
  rfl
 .rw[fH ab]
theorem TZ:aB 194 Td.spec:=aF Tryz.func194 aC aD8 ba6
def as5:Ct:=⟨[.agg kJ,.val cI,.val cI],[.val cI],λ_=>[],λd=>((jG d.1.2.1 d.2.1 d.2.2.1,()),())⟩
theorem Ze:
 ∀(a:List ar)(b:List bc)(c:List bV)(d e:Int),f7 a b c/\dI d e->True->au ( !decide (0<=d/\d<=ap (ae b -1))) ((-1)=jG b d e) (fw d (ae b) (decide (e=(af b d).1)) ((af b d).2.1=jG b d e) (au (decide (e=(af b d).2.1)) ((af b d).1=jG b d e) ((-1)=jG b d e))):= by
  delta af ae ap aq aI aQ f7 kF cO cS cB ji bG jt ao dI ai kC aD fw fB
  rintro ns ls hs k x ⟨⟨-,⟨hl,-⟩,-⟩,-⟩ -
  simp only[maxLen] at hl
  rw[aL (n:=(ls.length:Int)-1) ab ab]
  unfold jG lA lB
  refine ay (λh=>?_) (λh=>?_)
  .have h:=ke h
   rw[aj ab]
  have h:=kS h
  rw[ah ab]
  refine⟨h.1,ab,ay (λh1=>?_) (λh1=>?_)⟩
  .rw[aj (aX h1)]
  rw[ah (bi h1)]
  refine bP (λh2=>?_) (λh2=>?_)
  .rw[aj h2]
  .rw[ah h2]
theorem aH3:aB 208 as5.spec:=aF Tryz.func208 (am aC Oj) aS Ze
def nQ(ns:List ar)(l:cj):Bool:=gG (ns.getD (lA l).toNat default)&&gG (ns.getD (lB l).toNat default)
def uO(n:Net):Int:=if n.2.1.any (nQ n.1) then 13 else 0
def EN(n:Net):Prop:=∀ l∈n.2.1,0<=lA l/\lA l<n.1.length/\0<=lB l/\lB l<n.1.length
def Ty:Ct:=⟨[.agg kJ],[.val cI],λd=>[EN d.1],λd=>((uO d.1,()),())⟩
def Z2:bp Ty.ps->bI:=(λd=>{loops:=(bt 2 (λS=>{ι:=Int,μ:=λi=>(d.1.2.1.length-i).toNat,inv:=λi=>0<=i/\i<=d.1.2.1.length∧∀ x∈d.1.2.1.take i.toNat,nQ d.1.1 x=false,keep:=[1,6,7],slots:=λi=>[(8,.int .i64 i)],keepN:=[32]}) bZ)})
def J1(a:Int)(b:List bc)(c:List ar):=ao a (a<=ae b) (∀(d:bc),d∈take a.toNat b->nQ c d=false)
theorem ZW:
 ∀(a:List ar)(b:List bc)(c:List bV),ai (f7 a b c)->(∀(d:cj),d∈b->bu (lA d) (ae a) (0<=lB d) (lB d<ae a))->(∃(d:Int),J1 d b a/\b=b/\aA (ae b) (0=d) (cT a b (c=c) True))/\ ∀(d:Int),J1 d b a->au (av d (ae b)) (ao d (d<ae b) (ao (af b d).1 ((af b d).1<ae a) (∀(e:Bool),e=(af a (af b d).1).2.2.2.2.2.2.2.2.2.2.2.2.1->cG e e (aT e) (e->iM e e (af b d).2.1 ((af b d).2.1<ae a)) (wv e e (bw e (af a (af b d).2.1).2.2.2.2.2.2.2.2.2.2.2.2.1) (13=uO (a,b,c)) (∃(f:Int),J1 f b a/\aZ (ae b) f d/\b=b/\aA (ae b) (aY d f) (cT a b (c=c) True)))))) (0=uO (a,b,c)):= by
  delta af ae ap aq aI aQ aT f7 kF cO cS cB ji bG aA cG aZ bw jt cu ao cT iM aY ai kC aD bu av wv J1 fB
  rintro ns ls hs ⟨⟨-,⟨hl,-⟩,-⟩,-⟩ he
  simp only[maxLen] at hl
  refine⟨⟨0,⟨ab,ab,aw⟩,aK⟩,?_⟩
  rintro i ⟨i0,i1,hI⟩
  refine ay (λhi=>?_) (λhi=>?_)
  rotate_left
  .have hi:=bi hi
   rw[fH ab] at hI
   unfold uO
   rw[ah]
   intro h
   obtain⟨l,h1,h2⟩:=List.any_eq_true.1 h
   rw[hI l h1] at h2;cases h2
  have hi:=aX hi
  have hm:=cA i0 hi
  have e:=he _ hm
  refine⟨i0,hi,e.1,e.2.1,?_⟩
  intro b hb
  (repeat first|refine⟨λh=>⟨λ_=>h,λ_=>h,e.2.2.1,e.2.2.2,aN⟩,?_⟩|refine⟨λh=>⟨λ_=>h,e.2.2.1,e.2.2.2,aN⟩,?_⟩|refine⟨aw,?_⟩)
  refine z8 (λx1 x2=>?_) (λhno=>?_)
  .unfold uO
   rw[aj]
   refine List.any_eq_true.2 ⟨_,hm,?_⟩
   unfold nQ
   rw[fe]
   exact⟨hb.symm.trans x1,x2⟩
  .refine⟨i+1,⟨ab,ab,xV i0 hi hI ?_⟩,ab,aK⟩
   unfold nQ
   rw[Bool.and_eq_false_iff]
   rcases hno with h|h
   .exact .inl (hb.symm.trans h)
   .exact .inr h
theorem aQ8:aB 125 Ty.spec:=aF Tryz.func125 aC Z2 ZW
def w9(n:Net)(k:Nat):Bool:=decide (fG (n.1.getD (lA (n.2.1.getD k default)).toNat default) k<0)||decide (fG (n.1.getD (lB (n.2.1.getD k default)).toNat default) k<0)
def tG(n:Net):Int:=if (range n.2.1.length).any (w9 n) then 11 else 0
def Qq:Ct:=⟨[.agg kJ],[.val cI],λd=>[EN d.1],λd=>((tG d.1,()),())⟩
def au9:bp Qq.ps->bI:=(λd=>{loops:=(bt 2 (λS=>{ι:=Int,μ:=λi=>(d.1.2.1.length-i).toNat,inv:=λi=>0<=i/\i<=d.1.2.1.length∧∀ k:Nat,(k:Int)<i->w9 d.1 k=false,keep:=[1,6,7],slots:=λi=>[(8,.int .i64 i)],keepN:=[32]}) bZ)})
def IT(a b:Int)(c:List ar×List cj×List bV):=ao a (a<=b) (∀(d:Nat),(d:Int)<a->w9 c d=false)
theorem al1:
 ∀(a:List ar)(b:List bc)(c:List bV),ai (f7 a b c)->(∀(d:cj),d∈b->bu (lA d) (ae a) (0<=lB d) (lB d<ae a))->(∃(d:Int),IT d (ae b) (a,b,c)/\b=b/\aA (ae b) (0=d) (cT a b (c=c) True))/\ ∀(d:Int),IT d (ae b) (a,b,c)->au (av d (ae b)) (ao d (d<ae b) (ao (af b d).1 ((af b d).1<ae a) (∀(e:Bool),e=dw (fG (af a (af b d).1) d)->cX e ( !e->iM ( !e) ( !e) (af b d).2.1 ((af b d).2.1<ae a)) (bO e/\fZ e/\jW e (bn e (dw (fG (af a (af b d).2.1) d))) (11=tG (a,b,c)) (∃(f:Int),IT f (ae b) (a,b,c)/\aZ (ae b) f d/\b=b/\aA (ae b) (aY d f) (cT a b (c=c) True)))))) (0=tG (a,b,c)):= by
  delta af ae ap aq aI bO aQ aT f7 kF cO cS cB ji bG aA bn aZ jt cu cX ao br fZ cT iM aY ai kC aD dw bu d7 av IT jW fB
  rintro ns ls hs ⟨⟨-,⟨hl,-⟩,-⟩,-⟩ he
  simp only[maxLen] at hl
  refine⟨⟨0,⟨ab,ab,λk hk=>ab⟩,aK⟩,?_⟩
  rintro i ⟨i0,i1,hI⟩
  refine ay (λhi=>?_) (λhi=>?_)
  rotate_left
  .have hi:=bi hi
   unfold tG
   rw[ah]
   intro h
   obtain⟨k,h1,h2⟩:=List.any_eq_true.1 h
   have h1:k<ls.length:=List.mem_range.1 h1
   rw[hI k ab] at h2;cases h2
  have hi:=aX hi
  have hm:=cA i0 hi
  have e:=he _ hm
  have ei:((i.toNat:Nat):Int)=i:=ab
  refine⟨i0,hi,e.1,e.2.1,?_⟩
  intro b hb
  (repeat first|refine⟨λh=>⟨λ_=>h,λ_=>h,e.2.2.1,e.2.2.2,aN⟩,?_⟩|refine⟨λh=>⟨λ_=>h,e.2.2.1,e.2.2.2,aN⟩,?_⟩|refine⟨aw,?_⟩)
  refine vL (λho=>?_) (λx1 x2=>?_)
  .unfold tG
   rw[aj]
   refine List.any_eq_true.2 ⟨i.toNat,List.mem_range.2 (show i.toNat<ls.length by omega),?_⟩
   unfold w9
   rw[sD,ei]
   rcases ho with h|h
   .exact .inl (hb.symm.trans h)
   .exact .inr h
  .refine⟨i+1,⟨ab,ab,λk hk=>?_⟩,ab,aK⟩
   by_cases e2:(k:Int)<i
   .exact hI k e2
   .have:k=i.toNat:=ab
    subst this
    unfold w9
    rw[Bool.or_eq_false_iff,ei]
    exact⟨hb.symm.trans x1,x2⟩
theorem aL2:aB 123 Qq.spec:=aF Tryz.func123 (am aC J8) au9 al1
def nY(nn:Nat)(l:cj):Prop:=0<=lA l/\lA l<nn/\0<=lB l/\lB l<nn/\lA l≠lB l/\1<=qi l/\qi l<=1073741824/\0<=me l/\me l<=1073741824/\0<=wn l/\wn l<=65536
instance (nn:Nat) (l:cj):Decidable (nY nn l):=by unfold nY;infer_instance
def qO(n:Net):Int:=if n.2.1.all (λl=>decide (nY n.1.length l)) then 0 else 11
def VI:Ct:=⟨[.agg kJ],[.val cI],λd=>[],λd=>((qO d.1,()),())⟩
def bH0:bp VI.ps->bI:=(λd=>{loops:=(bt 3 (λS=>{ι:=Int,μ:=λi=>(d.1.2.1.length-i).toNat,inv:=λi=>0<=i/\i<=d.1.2.1.length∧∀ x∈d.1.2.1.take i.toNat,nY d.1.1.length x,keep:=[1,3,11,12],slots:=λi=>[(13,.int .i64 i)],keepN:=[32]}) bZ)})
def HT(a:Int)(b:List bc)(c:List ar):=ao a (a<=ae b) (∀(d:bc),d∈take a.toNat b->nY c.length d)
theorem bp4:
 ∀(a:List ar)(b:List bc)(c:List bV),ft (f7 a b c) ((∃(d:Int),HT d b a/\aA (ap (ae a -1)) (b=b) (aA (ae b) (0=d) (cT a b (c=c) True)))/\ ∀(d:Int),HT d b a->au (av d (ae b)) (ao d (d<ae b) (∀(e:Bool),e=( !decide (0<=(af b d).1/\(af b d).1<=ap (ae a -1)))->bO e/\fZ e/\bO e/\br e/\ ∀(f:Bool),f=bn e ( !decide (0<=(af b d).2.1/\(af b d).2.1<=ap (ae a -1)))->cX f (fZ f) (br f/\Dg (bn f (decide ((af b d).1=(af b d).2.1))) ( !decide (1<=(af b d).2.2.1/\(af b d).2.2.1<=1073741824)) ( !decide (0<=(af b d).2.2.2.1/\(af b d).2.2.2.1<=1073741824)) ( !decide (0<=(af b d).2.2.2.2.1/\(af b d).2.2.2.2.1<=65536)) (11=qO (a,b,c)) (∃(g:Int),HT g b a/\aZ (ae b) g d/\aA (ap (ae a -1)) (b=b) (aA (ae b) (aY d g) (cT a b (c=c) True)))))) (0=qO (a,b,c))):= by
  delta af ae ap aq aI bO aQ aT f7 kF cO cS cB ji bG aA bn aZ jt cu cX ao br fZ oa cT aY ai kC Dg aD d7 av HT ft fB lR
  rintro ns ls hs ⟨⟨⟨hnl,-⟩,⟨hl,-⟩,-⟩,-⟩ -
  simp only[maxLen] at hl hnl
  rw[aL (n:=(ns.length:Int)-1) ab ab]
  refine⟨⟨0,⟨ab,ab,aw⟩,aK⟩,?_⟩
  rintro i ⟨i0,i1,hI⟩
  refine ay (λhi=>?_) (λhi=>?_)
  rotate_left
  .have hi:=bi hi
   rw[fH ab] at hI
   unfold qO
   rw[aj]
   exact List.all_eq_true.2 λl hl=>fm (hI l hl)
  have hi:=aX hi
  have hm:=cA i0 hi
  refine⟨i0,hi,?_⟩
  have key:nY ns.length (ls.getD i.toNat default)↔((0<=(ls.getD i.toNat default).1/\(ls.getD i.toNat default).1<=(ns.length:Int)-1)/\(0<=(ls.getD i.toNat default).2.1/\(ls.getD i.toNat default).2.1<=(ns.length:Int)-1)∧¬ (ls.getD i.toNat default).1=(ls.getD i.toNat default).2.1/\(1<=(ls.getD i.toNat default).2.2.1/\(ls.getD i.toNat default).2.2.1<=1073741824)/\(0<=(ls.getD i.toNat default).2.2.2.1/\(ls.getD i.toNat default).2.2.2.1<=1073741824)/\(0<=(ls.getD i.toNat default).2.2.2.2.1/\(ls.getD i.toNat default).2.2.2.2.1<=65536)):=by
   unfold nY lA lB qi me wn
   omega
  have dZ:=λh=>xV i0 hi hI (P:=nY ns.length) h
  generalize ls.getD i.toNat default=l at hm key dZ ⊢
  generalize hA:decide (0<=l.1/\l.1<=(ns.length:Int)-1)=bA
  generalize hB:decide (0<=l.2.1/\l.2.1<=(ns.length:Int)-1)=bB
  generalize hC:decide (l.1=l.2.1)=bC
  generalize hD:decide (1<=l.2.2.1/\l.2.2.1<=1073741824)=bD
  generalize hE:decide (0<=l.2.2.2.1/\l.2.2.2.1<=1073741824)=bE
  generalize hF:decide (0<=l.2.2.2.2.1/\l.2.2.2.2.1<=65536)=bF
  have key2:nY ns.length l↔(bA=true/\bB=true/\bC=false/\bD=true/\bE=true/\bF=true):=by
   rw[key,← hA,← hB,← hC,← hD,← hE,← hF]
   simp only[pD,sF]
  have bad:¬ nY ns.length l->(11:Int)=qO (ns,ls,hs):=λh=>by
   unfold qO
   rw[ah]
   intro k
   exact h (aX (List.all_eq_true.1 k l hm))
  intro b1 hb1
  (repeat refine⟨aw,?_⟩)
  intro b2 hb2
  (repeat refine⟨aw,?_⟩)
  intro b3 hb3
  (repeat refine⟨aw,?_⟩)
  intro b4 hb4
  (repeat refine⟨aw,?_⟩)
  intro b5 hb5
  (repeat refine⟨aw,?_⟩)
  have tot:(bif b5 then true else !bF) = !(bA&&bB && !bC&&bD&&bE&&bF):=by
   rw[hb5,hb4,hb3,hb2,hb1]
   cases bA <;> cases bB <;> cases bC <;> cases bD <;> cases bE <;> cases bF <;> rfl
  rw[tot]
  refine ay (λh=>bad λk=>?_) (λh=>?_)
  .obtain⟨a1,a2,a3,a4,a5,a6⟩:=key2.1 k
   rw[a1,a2,a3,a4,a5,a6] at h;cases h
  .have h2:nY ns.length l:=key2.2 (by
    clear tot hb1 hb2 hb3 hb4 hb5 key2 hA hB hC hD hE hF
    revert h
    cases bA <;> cases bB <;> cases bC <;> cases bD <;> cases bE <;> cases bF <;> decide)
   exact⟨i+1,⟨ab,ab,dZ h2⟩,ab,aK⟩
theorem bB9:aB 121 VI.spec:=aF Tryz.func121 (am aC Oj) bH0 bp4
theorem Qe{links:ac}:∀{l:List Rt}{q:Option fD},chk links q l=0->dS l/\(∀ p,q=some p→∀ r∈l,cF p r.1)∧∀ r∈l,nE r.1=true/\oU r links
 | [],q,_=>⟨List.Pairwise.nil,λ_ _ r hr=>(by cases hr),λr hr=>(by cases hr)⟩
 | r::l,q,h=>by
  rw[chk] at h;split at h
  .cases h
  rename_i h1;split at h
  .cases h
  rename_i h2;split at h
  .cases h
  rename_i h3;obtain⟨i1,i2,i3⟩:=Qe h;have hv:nE r.1=true:=by cases hh:nE r.1 <;> simp_all
  have hp:∀ p,q=some p->cF p r.1:=λp hp=>by
   subst hp;rw[Option.any_some] at h2;have:¬ (0<=iY p r.1):=by simpa using h2
   exact D0.1 ab
  refine⟨List.pairwise_cons.2 ⟨i2 _ rfl,i1⟩,λp e z hz=>?_,λz hz=>?_⟩
  .rcases eZ.1 hz with rfl|hz
   .exact hp p e
   .exact FY (hp p e) (i2 _ rfl z hz)
  .rcases eZ.1 hz with rfl|hz
   .exact⟨hv,i5 h3⟩
   .exact i3 z hz
theorem Fz{l:List Rt}{links:ac}(h:jf l links=0):dS l/\l.length<=64∧∀ r∈l,nE r.1=true/\oU r links:=by
 unfold jf at h
 split at h
 .cases h
 next hl=>have k:=Qe h;exact⟨k.1,ab,k.2.2⟩
theorem Bp{l:List Rt}{links:ac}(h:jf l links=0):dS l/\okL l:=by
 obtain⟨h1,h2,h3⟩:=Fz h
 exact⟨h1,ab,λr hr=>by have:=(h3 r hr).2.1.1;omega⟩
def jP(c:bV):Int:=c.1
def cZ(c:bV):Int:=c.2.1
def xw(c:bV):Bool:=c.2.2.1
def gE(c:bV):Rt:=c.2.2.2
def sf(a b:Int):Int:=if a≠0 then a else b
theorem t9{a b:Int}(h:sf a b=0):a=0/\b=0:=by
 unfold sf at h
 split at h
 next k=>exact absurd h k
 next k=>exact⟨ab,h⟩
def wj(n:Net)(i:Nat)(k:Int):Bool:=decide ((n.2.1.length:Int)<=k) || !(decide (lA (n.2.1.getD k.toNat default)=i)||decide (lB (n.2.1.getD k.toNat default)=i))
def sc(n:Net)(i:Nat):Int :=
 if iE (n.1.getD i default)≠0 then iE (n.1.getD i default)
 else if (c8 (n.1.getD i default)).any (wj n i) then 11 else 0
def rk(n:Net):Int:=first (sc n) n.1.length
def jw(l:List Rt)(c:bV):List Rt:=if xw c=true then lM l (gE c).1 else iu l (gE c)
def gp(n:Net):Nat->List (List Rt)
 | 0=>n.1.map bL
 | i+1=>(gp n i).set (cZ (n.2.2.getD i default)).toNat (jw ((gp n i).getD (cZ (n.2.2.getD i default)).toNat default) (n.2.2.getD i default))
def tx(n:Net)(i:Nat)(c p:bV)(l:List Rt):Int :=
 if jP c<0∨1125899906842624<jP c then 1
 else if 0<i/\jP c<jP p then 6
 else if cZ c<0∨(n.1.length:Int)<=cZ c then 8
 else if xw c=true/\rB l (gE c).1=false then 8
 else jf (jw l c) (c8 (n.1.getD (cZ c).toNat default))
def nk(n:Net)(i:Nat):Int:=tx n i (n.2.2.getD i default) (n.2.2.getD (i-1) default) ((gp n i).getD (cZ (n.2.2.getD i default)).toNat default)
def sk(n:Net):Int:=first (nk n) n.2.2.length
def iB(n:Net):Int:=sf (ud n) (sf (qO n) (sf (rk n) (sf (tG n) (sf (xh n) (sf (uO n) (sk n))))))
theorem XJ{n:Net}(h:qO n=0):EN n:=λl hl=>by
 unfold qO at h
 split at h
 next k=>have k:=aX (List.all_eq_true.1 k l hl);exact⟨k.1,k.2.1,k.2.2.1,k.2.2.2.1⟩
 .cases h
theorem qj{α:Type} [Inhabited α] {xs:List α} {i:Nat} (h:i<xs.length):xs.getD i default∈xs:=by
 have:=cA (xs:=xs) (i:=(i:Nat)) ab ab
 simpa using this
theorem aY0{x:ar}(h:first (ly x) (aM x).length=0):∀ k∈c8 x,0<=k:=λk hk=>by
 obtain⟨q,hq,rfl⟩:=List.mem_map.1 hk
 obtain⟨i,hi,e⟩:=List.mem_iff_getElem.1 hq
 have k1:=zW h i hi
 unfold ly at k1
 rw[ct,cM hi,jo,e] at k1
 split at k1
 .cases k1
 split at k1
 .cases k1
 rename_i h2
 show 0<=q.2
 omega
structure NV (x:ar):Prop where
 len:(aM x).length<=32
 pos:0<(aM x).length
 bad:first (ly x) (aM x).length=0
 loop:¬ tu x
 form:¬ qU x
 tab:jf (bL x) (c8 x)=0
theorem Tg{x:ar}(h:iE x=0):NV x:=by
 unfold iE at h
 split at h
 .cases h
 rename_i h1
 split at h
 next k=>exact absurd h k
 rename_i h2
 split at h
 .cases h
 rename_i h3
 split at h
 .cases h
 rename_i h4
 split at h
 next k=>exact absurd h k
 split at h
 next k=>exact absurd h k
 refine⟨ab,?_,ab,h3,h4,h⟩
 unfold qU at h4
 omega
theorem JO{n:Net}(h:rk n=0){i:Nat}(hi:i<n.1.length):NV (n.1.getD i default):=by
 have k:=zW h i hi
 unfold sc at k
 split at k
 next e=>exact absurd k e
 next e=>exact Tg ab
theorem bQ7{n:Net}(h:rk n=0):∀ x∈n.1,NV x:=λx hx=>by
 obtain⟨i,hi,e⟩:=List.mem_iff_getElem.1 hx
 have:=JO h hi
 rw[ct,cM hi,e] at this;exact this
structure TB (n:Net) (t:List (List Rt)):Prop where
 len:t.length=n.1.length
 r:∀ i:Nat,i<n.1.length->dS (t.getD i default)/\okL (t.getD i default)
theorem Eb{α β:Type} [Inhabited α] [Inhabited β] {f:α->β} {l:List α} {i:Nat} (h:i<l.length):(l.map f).getD i default=f (l.getD i default):=by
 rw[ct,ct,List.getElem?_map,cM h];rfl
theorem vf(n:Net):∀ i:Nat,(gp n i).length=n.1.length
 | 0=>by simp[gp]
 | i+1=>by rw[gp,fF,vf n i]
theorem Ws{n:Net}(hb:rk n=0):∀{i:Nat},first (nk n) i=0->TB n (gp n i)
 | 0,_=>⟨vf n 0,λi hi=>by
  rw[gp,Eb hi];exact Bp (JO hb hi).tab⟩
 | i+1,h=>by
  have h0:first (nk n) i=0:=by
   by_cases e:first (nk n) i=0
   .exact e
   .rw[first,aj e] at h;exact h
  have k:=Ws hb h0;have hz:nk n i=0:=zW h i ab;refine⟨vf n _,λj hj=>?_⟩;rw[gp];unfold nk tx at hz;generalize n.2.2.getD i default=c at hz ⊢;split at hz
  .cases hz
  split at hz
  .cases hz
  split at hz
  .cases hz
  rename_i hw;split at hz
  .cases hz
  by_cases e:(cZ c).toNat=j
  .subst e;rw[lD (by rw[k.len];exact hj)];exact Bp hz
  .rw[o5 e];exact k.r j hj
def O0(who at':Int)(l:List Rt)(c:bV):List Rt:=if cZ c=who/\jP c<=at' then jw l c else l
def Qx(n:Net)(who at':Int)(k:Int):List Rt:=(n.2.2.take k.toNat).foldl (O0 who at') (bL (n.1.getD who.toNat default))
def LV(n:Net)(who at':Int):List Rt:=if who<0∨(n.1.length:Int)<=who then [] else Qx n who at' n.2.2.length
structure Eg (m:Nat) (l:List Rt):Prop where
 s:dS l
 n:l.length<=m
 x:∀ r∈l,(r.2.1.length:Int)<=1099511627776
theorem Eg.okL{m:Nat}{l:List Rt}(h:Eg m l)(hm:m<=100000):okL l:=⟨by have:=h.n;omega,h.x⟩
theorem Eg.ch{m:Nat}{l:List Rt}(h:Eg m l){c:bV}(hc:((gE c).2.1.length:Int)<=1099511627776):Eg (m+1) (jw l c):=by
 unfold jw
 split
 .refine⟨List.Pairwise.filter _ h.s,?_,λr hr=>h.x r (List.mem_filter.1 hr).1⟩;have:=Sn l (gE c).1;have:=h.n;omega
 .refine⟨Ov h.s,?_,λr hr=>?_⟩
  .have:=Xf l (gE c);have:=h.n;omega
  .rcases XM.1 hr with rfl|⟨hr,-⟩
   .exact hc
   .exact h.x r hr
def bT1(s t:Int)(c:bV):Bool:=decide (s<jP c/\jP c<=t)
theorem VR{x:ar}{a:Int}:0<=ph x a↔a∈vd x:=by
 unfold ph jS
 constructor
 .intro h;split at h
  next k=>have:=List.findIdx_getElem (w:=k);exact List.mem_map.2 ⟨_,List.getElem_mem k,aX this⟩
  .omega
 .intro h;obtain⟨q,hq,rfl⟩:=List.mem_map.1 h;have:(aM x).findIdx (oA q.1)<(aM x).length:=List.findIdx_lt_length_of_exists ⟨q,hq,by unfold oA;simp⟩;rw[aj this];omega
def pX(x:ar):NState:=(bL x,0,replicate (aM x).length 0,Am (mw x) 0,0)
def BV(b t:bT2):Prop:=(0<=t.2/\t.2<=1125899906842624)/\(b=(0,0)->t.1=0)/\(b≠(0,0)->0<=t.1/\t.1<=b.1*b.2)
structure jQ (x:ar) (s:NState) (K:Int):Prop where
 srt:dS (cR s)
 okl:okL (cR s)
 rt:∀ r∈cR s,oU r (c8 x)
 ps:(mE s).length=(aM x).length
 tk:BV (mw x) (wD s)
 cn:0<=sA s/\sA s<=K
 cp:∀ y∈mE s,0<=y/\y<=K
def Jb(x:ar)(s:NState)(link at':Int)(b:ac):fi:=(x,s,link,at',b,(cD b).1)
def kB(kind:Int)(w:fi)(f i:Int):ac:=if kind=2 then gT w 11 0 f i else if kind=3 then gT w 3 0 f i else jE w f i
def kE(kind:Int)(w:fi)(i:Int):Int:=if kind=2 then o7 w 11 0 i else if kind=3 then o7 w 3 0 i else oS w i
def rV(kind:Int)(w:fi):Int:=if kind=0 then mh w.2.2.2.2.2 else 0
def vX(w:fi)(kind:Int):qL:=fT (kB kind w) (kE kind w) w (rV kind w)
theorem J6{b:bT2}(h:iX b=0):b=(0,0)∨(1<=b.1/\b.1<=65536/\1<=b.2/\b.2<=1073741824/\b.2<=b.1*b.2/\b.1*b.2<=70368744177664):=by
 unfold iX at h
 split at h
 next hh=>
  rcases hh with hh|⟨h1,h2,h3,h4⟩
  .exact .inl hh
  .refine .inr ⟨h1,h2,h3,h4,?_,?_⟩
   .have:=Int.mul_le_mul_of_nonneg_right (a:=1) (b:=b.1) (c:=b.2) h1 ab;omega
   .have:=Int.mul_le_mul (a:=b.1) (b:=b.2) (c:=65536) (d:=1073741824) h2 h4 ab ab;omega
 .cases h
theorem bp8{b:bT2}(h:iX b=0)(x:Int):Am b x=(b.1*b.2,x):=by
 rcases J6 h with rfl|hh
 .rfl
 .unfold Am w;rw[aL ab ab]
theorem bn3{b t:bT2}{x:Int}(h:iX b=0)(hb:b≠(0,0))(ht:BV b t)(hx:0<=x/\x<=1125899906842624) :
  gw b t x=if min (t.1+(max x t.2-t.2)) (b.1*b.2)<b.2 then ((min (t.1+(max x t.2-t.2)) (b.1*b.2),max x t.2),false) else ((min (t.1+(max x t.2-t.2)) (b.1*b.2)-b.2,max x t.2),true):=by
 obtain⟨h1,-,h3⟩:=ht
 have h3:=h3 hb
 have hc:=(J6 h).resolve_left hb
 have e:vP b t (max x t.2)=min (t.1+(max x t.2-t.2)) (b.1*b.2):=by
  unfold vP w;rw[aL (n:=max x t.2-t.2) ab ab,aL ab ab,aL ab ab]
 unfold gw w
 rw[ah hb,e]
 split
 .rfl
 .rw[aL ab ab]
theorem aq8{b t:bT2}{x:Int}(h:iX b=0)(ht:BV b t)(hx:0<=x/\x<=1125899906842624):BV b (gw b t x).1/\(gw b t x).1.2=max x t.2:=by
 have h1:=ht.1
 by_cases hb:b=(0,0)
 .subst hb;rw[show gw (0,0) t x=((0,max x t.2),true) by simp[gw]];exact⟨⟨⟨by show 0<=max x t.2;omega,by show max x t.2<=_;omega⟩,λ_=>rfl,λk=>absurd rfl k⟩,rfl⟩
 .have hc:=(J6 h).resolve_left hb;have h3:=ht.2.2 hb;rw[bn3 h hb ht hx];split
  .exact⟨⟨⟨by show 0<=max x t.2;omega,by show max x t.2<=_;omega⟩,λk=>absurd k hb,λ_=>⟨by show 0<=min _ _;omega,by show min _ _<=_;omega⟩⟩,rfl⟩
  .exact⟨⟨⟨by show 0<=max x t.2;omega,by show max x t.2<=_;omega⟩,λk=>absurd k hb,λ_=>⟨by show 0<=min _ _-_;omega,by show min _ _-_<=_;omega⟩⟩,rfl⟩
structure tA (x:ar):Prop where
 n1:1<=(aM x).length
 n32:(aM x).length<=32
 id:pU x=0
 bk:iX (mw x)=0
 rt:jf (bL x) (c8 x)=0
 loop:¬ tu x
 ports:∀ i,i<(aM x).length->ly x i=0
 form:¬ qU x
theorem Xi{x:ar}(h:iE x=0):tA x:=by
 unfold iE at h
 split at h
 .cases h
 rename_i a1
 split at h
 next k=>exact absurd h k
 rename_i a2
 split at h
 .cases h
 rename_i a3
 split at h
 .cases h
 rename_i a4
 split at h
 next k=>exact absurd h k
 rename_i a5
 split at h
 next k=>exact absurd h k
 rename_i a6
 refine⟨?_,ab,by simpa using a5,by simpa using a6,h,a3,zW (by simpa using a2),a4⟩
 by_cases k:(aM x).length=0
 .exact absurd (.inr (.inr (.inr (.inr (.inr (.inr k)))))) a4
 .omega
theorem aa8{a:Int}(h:f9 a):a≠0:=by
 rintro rfl
 revert h
 unfold f9
 decide
theorem yg{q:Int×Int->Bool}{l:bU1}(h:0<=jS q l):jS q l<l.length/\q (l.getD (jS q l).toNat default)=true:=by
 unfold jS at h ⊢
 split at h
 next hlt=>rw[aj hlt];refine⟨ab,?_⟩;rw[Int.toNat_natCast,ct,cM hlt,jo];exact List.findIdx_getElem (w:=hlt)
 .omega
theorem WA{q:Int×Int->Bool}{l:bU1}{y:bT2}(hy:y∈l)(hq:q y=true):0<=jS q l:=by
 have hlt:l.findIdx q<l.length:=List.findIdx_lt_length_of_exists ⟨y,hy,hq⟩
 unfold jS;rw[aj hlt];omega
theorem TT{x:ar}{i:Nat}(h:ly x i=0):f9 ((aM x).getD i default).1∧¬ ((aM x).getD i default).2<0:=by
 unfold ly at h
 split at h
 .cases h
 next k=>
  split at h
  .cases h
  next k2=>exact⟨sI.1 λq=>k (.inl q),λq=>k2 (.inl q)⟩
theorem bo2{x:ar}(h:tA x){a:Int}(ha:mD x a=true):a≠0:=by
 rintro rfl
 unfold mD at ha
 simp only[sD,pD,fe,pF,sF] at ha
 rcases ha with ha|⟨h1,h2⟩
 .have ha:0<=jS (oA 0) (aM x):=ha;obtain⟨k1,k2⟩:=yg (q:=oA 0) (l:=aM x) ha;have:=(TT (h.ports (jS (oA 0) (aM x)).toNat ab)).1;have e:((aM x).getD (jS (oA 0) (aM x)).toNat default).1=0:=aX k2;rw[e] at this;exact aa8 this rfl
 .exact h1 h2
theorem ae3{x:ar}(h:tA x)(k:Int):dR x k<(aM x).length:=by
 have:=h.n1
 unfold dR
 by_cases hk:0<=fG x k
 .have:=(yg hk).1;have e:fG x k=jS (mz k) (aM x):=rfl;omega
 .omega
theorem UC{x:ar}{i:Int}(h0:0<=i)(h1:i<(aM x).length):adr x i=((aM x).getD i.toNat default).1:=by
 unfold adr;rw[ah ab]
theorem ae5{l:List Rt}{a:Int}(h:sG l a=true):cN l a∈l:=by
 have key:∀(l:List Rt)(b:Option Rt)(r:Rt),l.foldl (Aa a) b=some r->r∈l∨b=some r:=by
  intro l
  induction l with
  | nil=>intro b r e;exact .inr e
  | cons y l ih =>
   intro b r e;rcases ih _ _ e with h1|h1
   .exact .inl (fu _ h1)
   .unfold Aa at h1;split at h1
    .split at h1
     .cases h1;exact .inl fp
     .split at h1
      .cases h1;exact .inl fp
      .exact .inr h1
    .exact .inr h1
 unfold sG at h
 unfold cN
 cases hl:pR l a with
 | none=>rw[hl] at h;cases h
 | some r =>
  rcases key l none r hl with k|k
  .exact k
  .cases k
theorem V6{s:NState}{a:Int}(h:¬ iG s a=false):cN (cR s) a∈cR s:=by
 refine ae5 ?_
 unfold iG at h
 cases hb:sG (cR s) a with
 | true=>rfl
 | false=>rw[hb] at h;simp at h
theorem VD{x:ar}{s:NState}{r:Rt}{k:kx}(h:r.2.1≠[]):lW x s r k∈r.2.1:=by
 have hpos:1<=(r.2.1.length:Int):=by cases hh:r.2.1 with
  | nil=>exact absurd hh h
  | cons a l=>simp;omega
 unfold lW
 split
 .exact cA (i:=0) ab ab
 .have hc:=UU (way:=r.2.2) (seed:=GU x) (k:=k) (count:=pf s) hpos;exact cA hc.1 hc.2
theorem Wc{r:Rt}{links:ac}(h:oU r links):∀ y∈r.2.1,y∈links:=by
 intro y hy
 obtain⟨i,hi,rfl⟩:=List.mem_iff_getElem.1 hy
 have:=(h.1.2 i hi).2
 rwa [ct,cM hi,jo] at this
theorem NY{x:ar}{k:Int}(h:k∈c8 x):0<=fG x k:=by
 obtain⟨y,hy,rfl⟩:=List.mem_map.1 h
 exact WA hy (by simp[mz])
theorem ac1{x:ar}{s:NState}{K:Int}(hs:jQ x s K){a:Int}(hw:¬ iG s a=false)(s':NState)(k:kx):0<=fG x (lW x s' (cN (cR s) a) k) :=
 NY (Wc (hs.rt _ (V6 hw)) _ (VD (Fp hw)))
theorem aX0{l:ac}{K i:Int}(h:∀ y∈l,0<=y/\y<=K)(hK:0<=K/\K<=2199023255552)(h0:0<=i):(uq l i).length=l.length∧∀ y∈uq l i,0<=y/\y<=K+1:=by
 unfold uq
 split
 next hi=>
  refine⟨fF,λy hy=>?_⟩;rcases zt hy with hy|rfl
  .have:=h y hy;omega
  .have:=h _ (cA h0 hi);rw[aL ab ab];omega
 .exact⟨rfl,λy hy=>by have:=h y hy;omega⟩
theorem jQ.more{x:ar}{s:NState}{K K':Int}(h:jQ x s K)(hk:K<=K'):jQ x s K' :=
 ⟨h.srt,h.okl,h.rt,h.ps,h.tk,by have:=h.cn;omega,λy hy=>by have:=h.cp y hy;omega⟩
theorem jQ.tok{x:ar}{s:NState}{K:Int}(h:jQ x s K){t:bT2}(ht:BV (mw x) t):jQ x (Gj s t) K:=⟨h.srt,h.okl,h.rt,h.ps,ht,h.cn,h.cp⟩
theorem jQ.bal{x:ar}{s:NState}{K:Int}(h:jQ x s K)(b:Int):jQ x (RT s b) K:=⟨h.srt,h.okl,h.rt,h.ps,h.tk,h.cn,h.cp⟩
theorem jQ.pick{x:ar}{s:NState}{K:Int}(h:jQ x s K)(r:Rt):jQ x (jv s r) K:=by
 unfold jv;split
 .exact h
 .exact h.bal _
theorem jQ.sent{x:ar}{s:NState}{K i:Int}(h:jQ x s K)(hK:0<=K/\K<=2199023255552)(h0:0<=i):jQ x (SY s i) (K+1):=by
 obtain⟨b1,b2⟩:=aX0 h.cp hK h0
 refine⟨h.srt,h.okl,h.rt,b1.trans h.ps,h.tk,?_,b2⟩
 have:=h.cn
 show 0<=IntKind.i64.wrap (sA s+1)/\IntKind.i64.wrap (sA s+1)<=K+1
 rw[aL ab ab];omega
theorem PL{B:Int->Int->ac}{E:Int->Int}{w:fi}{own:Int}{K:Int}(hx:tA w.1)(hs:jQ w.1 w.2.1 K)(hK:0<=K/\K<=2199023255552)(ha:0<=w.2.2.2.1/\w.2.2.2.1<=1125899906842624) :
  jQ w.1 (fT B E w own).1 (K+1):=by
 have ht:=aq8 hx.bk hs.tk ha
 unfold fT
 split
 .exact hs.more ab
 split
 .exact hs.more ab
 split
 .exact hs.more ab
 split
 .exact (hs.tok ht.1).more ab
 .exact ((hs.tok ht.1).sent hK (Ho _ _)).pick _
theorem bH6{x:ar}{s:NState}{link at':Int}{b:ac}{K:Int}(hx:tA x)(hs:jQ x s K)(hK:0<=K/\K<=2199023255552)(ha:0<=at'∧at'<=1125899906842624):jQ x (gO x s link at' b).1 (K+1):=by
 have m:jQ x s (K+1):=hs.more ab
 unfold gO ir
 split
 .exact m
 split
 .unfold kA;split
  .exact m
  .exact PL (w:=yW (x,s,link,at',b,sy) (cD b).1) hx hs hK ha
 split
 .exact m
 .unfold gS;split
  .exact PL (w:=yW (x,s,link,at',b,sy) (cD b).1) hx hs hK ha
  split
  .split
   .exact m
   .exact PL (w:=yW (x,s,link,at',b,sy) (cD b).1) hx hs hK ha
  .exact m.pick _
theorem Ux{x:ar}(hx:tA x):jQ x (pX x) 0:=by
 obtain⟨h1,h2⟩:=Bp hx.rt
 obtain⟨-,-,h3⟩:=Fz hx.rt
 refine⟨h1,h2,λr hr=>(h3 r hr).2,wa,?_,⟨gH _,gH _⟩,λy hy=>by rw[List.eq_of_mem_replicate hy];exact⟨gH _,gH _⟩⟩
 show BV (mw x) (Am (mw x) 0)
 rw[bp8 hx.bk]
 refine⟨⟨aw,aw⟩,λk=>by rw[k];rfl,λk=>?_⟩
 have:=(J6 hx.bk).resolve_left k
 exact⟨by show 0<=_*_;omega,gH _⟩
def Vh:Ct:=⟨[.val (.sl d8)],[.own 176 d8],λd=>[okL d.1],λd=>((d.1,()),())⟩
def aR8:bp Vh.ps->bI:=(λd=>{loops:=(bt 3 (λS=>{ι:=Int,μ:=λi=>(d.1.length-i).toNat,inv:=λi=>0<=i/\i<=d.1.length,keep:=[3,8,9],slots:=λi=>[(10,.int .i64 i)],keepN:=[128]}) bZ)})
def HZ(a:List ci):=ai (cO a)->uF a->mX a/\(∃(b:Int),aD b (ae a)/\aA (ae a) (0=b) (ai (a=a)))/\ ∀(b:Int),aD b (ae a)->au (av b (ae a)) (bu b (ae a) (aG (af a b).2.1) (xl b (ae a) (ae a) (ai (set a b.toNat (af a b)=a)))) (a=a)
theorem aV7:
 ∀(a:List ci),HZ a:= by
  delta af ae ap aq aI aQ cO cS cB aG cH aA aZ cu ao HZ aY uF ai aD bu av mX xl z6
  rintro l ⟨⟨hl,-⟩,-⟩⟨h1,h2⟩
  simp only[maxLen] at hl
  refine⟨h1,⟨0,⟨ab,ab⟩,aK⟩,?_⟩
  rintro j ⟨j0,j1⟩
  refine bP (λhj=>?_) (λhj=>?_)
  .refine⟨j0,hj,h2 _ (cA j0 hj),j0,hj,j+1,⟨ab,ab⟩,ab,?_⟩
   (repeat refine fR ?_)
   exact⟨yw j0 hj,aN⟩
  .rfl
theorem Uk:aB 132 Vh.spec:=aF Tryz.func132 (am (am aC RX) yi) aR8 aV7
def aP3:Ct:=⟨[.agg dK],[.agg pi],λd=>[okL (bL d.1),((aM d.1).length:Int)<=1000000],λd=>((pX d.1,()),())⟩
theorem aC3:
 ∀(a:ar),ai (CT.wf dK a)->okL (bL a)/\ae (aM a)<=1000000->bM (ae a.1) (ae a.1) (tE ((↑((8:Nat)):Int)*ae a.1)) (okL a.2.2.2.2.1/\(a.2.2.2.2.1,0,replicate (toNat (ae a.1)) 0,(w (a.2.2.2.2.2.2.2.2.2.2.1.1*a.2.2.2.2.2.2.2.2.2.2.1.2),0),0)=pX a):= by
  delta ae ao ai bM tE
  rintro d-⟨h,hl⟩
  have hl:(d.1.length:Int)<=1000000:=hl
  exact⟨ab,ab,ab,h,rfl⟩
theorem YX:aB 58 aP3.spec:=aF Tryz.func58 (am (am aC VO) Uk) aS aC3
def bo3:Ct:=⟨[.agg dK,.agg pi,.val cI,.val cI,.val (.sl bq)],[.agg pi,.agg AA,.val cI],λd=>[dS (cR d.2.1),okL (cR d.2.1),((mE d.2.1).length:Int)<=1000000,(d.2.2.2.2.1.length:Int)<=1000000],λd=>(((gO d.1 d.2.1 d.2.2.1 d.2.2.2.1 d.2.2.2.2.1).1,(gO d.1 d.2.1 d.2.2.1 d.2.2.2.1 d.2.2.2.2.1).2.1,(gO d.1 d.2.1 d.2.2.1 d.2.2.2.1 d.2.2.2.2.1).2.2,()),())⟩
theorem ay8:
 ∀(a:ar)(b:List ci)(c:Int)(d:ac)(e f g h i:Int)(j:ac),CT.wf dK a/\gM b c d e f g/\bG h i (aV j) True->dS (cR (b,c,d,(e,f),g))/\okL (cR (b,c,d,(e,f),g))/\bY (mE (b,c,d,(e,f),g))/\bY j->aG d/\okL b/\rG (a,(b,c,d,(e,f),g),h,i,j,qN)/\(ir (a,(b,c,d,(e,f),g),h,i,j,qN)).1=(gO a (b,c,d,(e,f),g) h i j).1/\(ir (a,(b,c,d,(e,f),g),h,i,j,qN)).2.1=(gO a (b,c,d,(e,f),g) h i j).2.1/\(ir (a,(b,c,d,(e,f),g),h,i,j,qN)).2.2=(gO a (b,c,d,(e,f),g) h i j).2.2:= by
  delta ae aq aI aV aQ cO cS cB aG bG cH gM bY qN aD
  rintro d x x1 x2 x3 x4 x5 x6 x7 x8-⟨hs,hl,hp,hb⟩
  have e2:mE (x,x1,x2,(x3,x4),x5)=x2:=rfl
  rw[e2] at hp
  exact⟨ab,hl,⟨hs,hl,hb⟩,rfl,rfl,rfl⟩
theorem be6:aB 142 bo3.spec:=aF Tryz.func142 (am (am (am aC yi) Uk) bD0) aS ay8
theorem CD(s:NState)(r:Rt):jv s r=(s.1,s.2.1,s.2.2.1,s.2.2.2.1,pf (jv s r)):=by unfold jv;split <;> rfl
theorem ai0(k:Int)(w:fi)(f i:Int):((kB k w f i).length:Int)<=1500:=by
 unfold kB;split
 .exact OQ ..
 .split
  .exact OQ ..
  .exact Q2 ..
theorem ZJ(w:fi):vX w 0=fT (jE w) (oS w) w (mh w.2.2.2.2.2):=rfl
theorem aD1(w:fi):vX w 1=fT (jE w) (oS w) w 0:=rfl
theorem ak1(w:fi):vX w 2=fT (gT w 11 0) (o7 w 11 0) w 0:=rfl
theorem Y0(w:fi):vX w 3=fT (gT w 3 0) (o7 w 3 0) w 0:=rfl
theorem bI0{n:gJ}(h0:lf n=0)(hb:bytes n.2.2):mZ (jL n)=0/\nq (jL n)=n:=by
 have h1:(n.1=3∨n.1=11)/\0<=n.2.1/\n.2.1<=255:=i5 λk=>by rw[lf,aj k] at h0;cases h0
 have h2:¬ (n.2.2.length:Int)<28:=λk=>by rw[lf,ah (λq=>q h1),aj k] at h0;cases h0
 have h3:¬ (1472:Int)<n.2.2.length:=λk=>by rw[lf,ah (λq=>q h1),ah h2,aj k] at h0;cases h0
 have hc:=rX (LY (e:=n) h1 hb)
 obtain⟨t,k,l⟩:=n
 simp only at h1 h3 hb hc h2
 generalize hB:jL (t,k,l)=B
 have hs:B=t::k::(dM (pQ (t,k,l))/256%256)::(dM (pQ (t,k,l))%256)::0::0::0::0::l:=by rw[← hB,jL,aj h0];rfl
 have i2:aR B (toNat 2)=dM (pQ (t,k,l))/256%256*256+dM (pQ (t,k,l))%256:=by rw[hs];exact ju _ _ _
 have i4:aR B (toNat 4)=0:=by rw[hs];exact (ju 0 0 _)
 have i6:aR B (toNat 6)=0:=by rw[hs];exact (ju 0 0 _)
 have hset:de B (toNat 2) 0=pQ (t,k,l):=by rw[hs];rfl
 have hlen:(B.length:Int)=8+l.length:=by rw[hs];simp only[dP];omega
 have g0:B.getD (toNat 0) default=t:=by rw[hs];rfl
 have g1:B.getD (toNat 1) default=k:=by rw[hs];rfl
 have g8:B.drop 8=l:=by rw[hs];rfl
 have he:mZ B=0:=by
  rw[mZ,ah ab,ah (λq=>q ⟨by rw[g0];exact h1.1,i4,i6⟩),ah ab,ah];rw[hset,i2,oB hc.1 hc.2];exact λq=>q rfl
 refine⟨he,?_⟩
 rw[nq,aj he,g0,g1,g8]
theorem UM{n:gJ}(h0:lf n=0):(jL n).getD 0 default=n.1/\(jL n).length=8+n.2.2.length:=by
 rw[jL,aj h0];exact⟨rfl,by rw[ng,Mu]⟩
theorem NQ{n:gJ}(h0:lf n=0)(hb:bytes n.2.2):bytes (jL n):=by
 have h1:(n.1=3∨n.1=11)/\0<=n.2.1/\n.2.1<=255:=i5 λk=>by rw[lf,aj k] at h0;cases h0
 rw[jL,aj h0];exact wJ (LY h1 hb)
structure fb (p:bc):Prop where
 ok:cP p=0
 s:u32 p.1
 d:u32 p.2.1
theorem fb.dec{p:bc}(g:fb p):cy (build p)=wG p/\dE (build p)=0/\(build p).drop 20=fJ p:=W8 g.ok g.s g.d
theorem fb.len{p:bc}(g:fb p):((p.2.2.1≠6/\(build p).length=30)∨(p.2.2.1=6/\(build p).length=40)):=by
 rw[JJ g.ok,cL,vu]
 rcases Dw g.ok with h|h
 .exact .inl ⟨h.1,by rw[h.2]⟩
 .exact .inr ⟨h.1,by rw[h.2]⟩
theorem W4{p:bc}(g:fb p):(p.2.2.1=1->(fJ p).getD 0 default=8)/\(p.2.2.1=6->(fJ p).getD 13 default=2):=by
 have hr:=(qJ.1 g.ok).2
 constructor
 .intro h;rw[CF hr h];rfl
 .intro h;rw[De hr h];rfl
theorem OJ{p:bc}(g:fb p):fq (build p)↔f9 p.1:=by
 obtain⟨e1,e2,e3⟩:=g.dec
 have hs:dC (build p)=p.1:=by rw[dC,e1];rfl
 constructor
 .intro h;rw[← hs];exact (tI h).2.2.2.2
 .intro hu;refine a50 e2 (by rcases g.len with h|h <;> omega) ?_ ?_ (by rw[hs];exact hu)
  .rw[e3];intro h;exact (W4 g).1 (by rw[d5,e1] at h;exact h)
  .rw[e3];intro h _;rw[(W4 g).2 (by rw[d5,e1] at h;exact h)];decide
theorem YT{p:bc}(g:fb p):(p.2.2.1=1->aR (fJ p) 4=21075/\aR (fJ p) 6=p.2.2.2.2.1)/\(p.2.2.1=17->aR (fJ p) 4=10/\aR (fJ p) 6=p.2.2.2.2.1+1)/\(p.2.2.1=6->gX (((fJ p).drop 4).take 4)=p.2.2.2.2.1):=by
 have hr:=(qJ.1 g.ok).2
 obtain⟨hf,ht,-⟩:=id hr
 refine⟨λh=>?_,λh=>?_,λh=>?_⟩
 .rw[CF hr h,zm (by show 4+2<=10;omega) ab,zm (by show 6+2<=10;omega) ab];refine⟨rfl,?_⟩;show aR (_::_::_) 0=_;rw[ju];exact oB (n:=p.2.2.2.2.1) ab ab
 .have hs:=bK8 hr;rw[Ej hr h,zm (by show 4+2<=10;omega) ab,CM (by show 6+2<=10;omega) ab ab];refine⟨?_,hs⟩;show aR (_::_::_) 0=10;rw[ju];have:((vK p).2.2.length:Int)=2:=rfl;rw[this];decide
 .rw[De hr h];show gX [_,_,_,_]=_;rw[El];exact Mb (n:=p.2.2.2.2.1) ⟨ab,ab⟩
theorem bq3{p:bc}(g:fb p):((build p).take 28).length=28/\bytes ((build p).take 28)/\qI ((build p).take 28)=(p,true):=by
 obtain⟨e1,e2,e3⟩:=g.dec
 have hl28:((build p).take 28).length=28:=by rw[dG];rcases g.len with h|h <;> omega
 refine⟨hl28,Ms (Th p),?_⟩
 have hF:cy ((build p).take 28)=wG p:=by
  rw[← e1];unfold cy;rw[zi ab,zi ab,zi ab,uH ab,uH ab,Ca ab,Ca ab]
 have hpk:ja ((build p).take 28)=0:=by
  have h0:=I4 e2;have hlen:20<=(build p).length:=by rcases g.len with h|h <;> omega
  rw[ja,ah ab] at h0 ⊢;rw[zi ab,uH ab,uH ab,uH ab,List.take_take];exact h0
 have wq:∀ i,i+2<=8->aR ((build p).take 28) (20+i)=aR (fJ p) i:=λi hi=>by
  rw[uH ab,← e3];unfold aR;rw[List.drop_drop]
 have w0:=wq 0 ab
 have w2:=wq 2 ab
 have w4:=wq 4 ab
 have w6:=wq 6 ab
 have n4:gX ((((build p).take 28).drop 24).take 4)=gX (((fJ p).drop 4).take 4):=by rw[Ca ab,← e3,List.drop_drop]
 have cw:=bK2 g.ok
 have cm:=YT g
 have hlw:aR ((build p).take 28) 2=(build p).length:=by rw[uH ab,(DJ e2).2]
 have hq:E5 ((build p).take 28):=⟨hpk,hl28,by rw[hF];rfl,by rw[hF];rfl⟩
 have hpr:d5 ((build p).take 28)=p.2.2.1:=by rw[d5,hF];rfl
 have hfl:Av ((build p).take 28)=p.2.2.2.1:=by
  rw[Av,hpr];have w0:aR ((build p).take 28) 20=aR (fJ p) 0:=w0;rw[w2,w0,cw.1,cw.2];rcases (qJ.1 g.ok).1 with h|h|h <;> simp[h,Cr,A9] <;> omega
 have hP:tB ((build p).take 28)=p:=by
  rw[tB,hfl,hpr,dC,g9,hF];rfl
 rw[qI,aj hq,hP]
 have hR:s9 ((build p).take 28):=by
  unfold s9;rw[hpr,hF];have w0:aR ((build p).take 28) 20=aR (fJ p) 0:=w0;rw[w0,w2,w4,w6,n4,cw.1,cw.2,hlw];rcases (qJ.1 g.ok).1 with h|h|h
  .refine .inl ⟨h,?_,by rw[Cr,aj h],(cm.1 h).1,(cm.1 h).2⟩;rcases g.len with k|k <;> omega
  .refine .inr (.inr ⟨h,?_,by rw[A9,ah ab,ah ab],cm.2.2 h⟩);rcases g.len with k|k <;> omega
  .refine .inr (.inl ⟨h,?_,by rw[A9,ah ab,aj h],?_,(cm.2.1 h).2⟩)
   .rcases g.len with k|k <;> omega
   .rw[(cm.2.1 h).1];rcases g.len with k|k <;> omega
 rw[fm ⟨hR,g.ok⟩]
theorem C8{src dst proto id ttl:Int}{data:ac}(hn:kv id ttl)(hp:0<=proto/\proto<=255)(hs:u32 src)(hd:u32 dst)(hl:(data.length:Int)<=1480)(hb:bytes data) :
  dE (fN (lz src dst proto id ttl data))=0/\cy (fN (lz src dst proto id ttl data))=(0,id,ttl,proto,false,src,dst)/\(fN (lz src dst proto id ttl data)).drop 20=data/\(fN (lz src dst proto id ttl data)).length=20+data.length:=by
 have h0:=DK (src:=src) (dst:=dst) hn hp hl
 obtain⟨⟨a,b⟩,c,d⟩:=hn
 rw[fN,aj h0]
 have:=O9 (h:=(0,id,ttl,proto,false,src,dst)) (X:=data) ⟨⟨gH _,by simp only;omega⟩,⟨c,d⟩,hp,a,b⟩ hs hd hl hb
 refine⟨this.2.1,this.1,this.2.2,?_⟩
 show (kQ _ _++data).length=_
 rw[cL,vu]
structure Gm (p:bc) (a:qE) (x:ac):Prop where
 no:¬ fq x
 rd:fW x=(tH p 0,a)
 re:pL x=0
 len:x.length<=1500
theorem fb.t1{p:bc}(g:fb p)(t:Int)(h:1<=t/\t<=255):cP (tH p t)=0:=by
 obtain⟨h1,h2,h3,-⟩:=qJ.1 g.ok
 exact qJ.2 ⟨h1,h2,h3,h⟩
theorem ND{p:bc}{a:qE}{x:ac}(g:fb p)(hd:dE x=0)(hr:nR x=(tH p 0,(0,a.2.1,a.2.2.1,0,0,a.2.2.2.2.2),true))(ha:a.1=dC x)(hl:a.2.2.2.1=(cy x).2.2.1)(hi:a.2.2.2.2.1=(cy x).2.1)(hn:¬ fq x):Gm p a x:=by
 have hg:Aw x:=⟨hd,by rw[hr],by rw[hr];exact g.t1 1 ab⟩
 have:=DJ hd
 refine⟨hn,?_,by rw[pL,aj hg],ab⟩
 rw[fW,aj hg,hr,← ha,← hl,← hi]
theorem H7{p:bc}(g:fb p)(hu:f9 p.1){from' kind code id ttl:Int}(hf:u32 from')(hg:uI kind code id ttl) :
  iW (build p) kind code id ttl=0/\Gm p (from',yN kind code,code,ttl,id,p.2.2.2.2.2) (lv (build p) from' kind code id ttl)/\(lv (build p) from' kind code id ttl).length=56:=by
 have ha:=(OJ g).2 hu
 obtain⟨e0,eB,en,-⟩:=Jd (src:=from') hg ha
 obtain⟨e1,-,-⟩:=g.dec
 obtain⟨ql,qb,qv⟩:=bq3 g
 have hs:dC (build p)=p.1:=by rw[dC,e1];rfl
 have hk:=hg.1
 refine⟨e0,?_⟩
 rw[eB,hs]
 generalize hD:jL (kind,code,(build p).take 28)=D
 have un:=bI0 en qb
 have nf:=UM en
 have nb:=NQ en qb
 rw[hD] at un nf nb
 rw[ql] at nf
 have sb:=C8 (src:=from') (dst:=p.1) (proto:=1) (data:=D) hg.2.2 ab hf g.s ab nb
 generalize fN (lz from' p.1 1 id ttl D)=x at sb
 obtain⟨s1,s2,s3,s4⟩:=sb
 have hp1:d5 x=1:=by rw[d5,s2]
 have hns:¬ D.getD 0 default=8:=by rw[nf.1];simp only;omega
 refine⟨ND g s1 ?_ (by rw[dC,s2]) (by rw[s2]) (by rw[s2]) (λk=>?_),by rw[s4,nf.2]⟩
 .rw[nR,ah,aj hp1,s3,mA,aj un.1,un.2]
  .simp only;rw[qv];simp[g9,s2,tH]
  .rw[s3];rintro⟨-,-,k⟩;rw[nf.1] at k;simp only at k;omega
 .exact hns (by have:=(tI k).2.2.1 hp1;rw[s3] at this;exact this)
theorem bS2(t n:Int):cU true (dB (true,21075,t,w2 n))=cU true (dB (false,21075,t,w2 n))-2048:=by
 simp[dB,w2,cU];omega
theorem bL6(t n:Int):23000<=cU true (dB (false,21075,t,w2 n)):=by
 simp[dB,w2,cU];omega
def wt(p:bc)(id ttl:Int):qE:=if p.2.2.1=6 then (p.2.1,4,0,ttl,id,0) else if p.2.2.1=17 then (p.2.1,3,3,ttl,id,p.2.2.2.2.2) else (p.2.1,2,0,ttl,id,0)
theorem Sg{p:bc}(g:fb p)(hu:f9 p.1){id ttl:Int}(hn:kv id ttl) :
  jn (build p) id ttl=0/\Gm p (wt p id ttl) (lS (build p) p.2.1 id ttl):=by
 have ha:=(OJ g).2 hu
 obtain⟨e1,e2,e3⟩:=g.dec
 have hs:dC (build p)=p.1:=by rw[dC,e1];rfl
 have hd:g9 (build p)=p.2.1:=by rw[g9,e1];rfl
 have hpr:d5 (build p)=p.2.2.1:=by rw[d5,e1];rfl
 have hr:=(qJ.1 g.ok).2
 have hr':=hr
 obtain⟨hf,ht,-⟩:=hr'
 rcases (qJ.1 g.ok).1 with h|h|h
 .have eE:fJ p=fP (nK p):=by rw[CF hr h,fP,aj (Lh hr)]
  have u:=SW (P6 hr) (ou _) (by rw[zb];omega);have hh:=In (src:=p.2.1) hn ha (by rw[hpr];exact h) (by rw[e3,eE];exact u.1);refine⟨hh.2,?_⟩;rw[hh.1,hs,e3,eE,u.2];have ok2:He (w2 (ue p)) (true,(nK p).2):=⟨(P6 hr).1,rfl⟩
  have u2:=SW ok2 (ou _) (by rw[zb];omega);have eg:=EV ok2 (by rw[zb];omega);have esh:fP (true,(nK p).2)=de (dB (true,(nK p).2)) 2 (dM (dB (true,(nK p).2))):=by rw[fP,aj eg]
  have bb:bytes (dB (true,(nK p).2)):=BF (ou _);have hcs:=rX bb;have ecs:dM (dB (true,(nK p).2))=18432+p.2.2.2.1:=by
   have h1:=Yd hr;have h2:=bS2 p.2.2.2.2.1 (ue p);have h3:=bL6 p.2.2.2.2.1 (ue p);unfold dM at h1 ⊢;have k1:nK p=(false,21075,p.2.2.2.2.1,w2 (ue p)):=rfl;rw[k1] at h1 ⊢;simp only;rw[h2];generalize cU true (dB (false,21075,p.2.2.2.2.1,w2 (ue p)))=S at h1 h3 ⊢;unfold oc at h1 ⊢;rw[ah ab] at h1 ⊢;omega
  have w2c:aR (fP (true,(nK p).2)) 2=18432+p.2.2.2.1:=by
   rw[esh,CM (by show 2+2<=10;omega) hcs.1 hcs.2,ecs]
  have hl10:(fP (true,(nK p).2)).length=10:=by rw[esh,ng];rfl
  have hb:bytes (fP (true,(nK p).2)):=by rw[esh];exact wJ bb
  have h0:(fP (true,(nK p).2)).getD 0 default=0:=by rw[esh];rfl
  generalize hD:fP (true,(nK p).2)=D at *;have sb:=C8 (src:=p.2.1) (dst:=p.1) (proto:=1) (data:=D) hn ab g.d g.s ab hb;generalize fN (lz p.2.1 p.1 1 id ttl D)=x at sb;obtain⟨s1,s2,s3,s4⟩:=sb;have hp1:d5 x=1:=by rw[d5,s2]
  have hx:g9 x=p.1:=by rw[g9,s2]
  have hy:dC x=p.2.1:=by rw[dC,s2]
  rw[wt,ah ab,ah ab];refine ND g s1 ?_ hy.symm (by rw[s2]) (by rw[s2]) (λk=>?_)
  .have eg2:Ga D:=⟨u2.1,by rw[u2.2],by rw[u2.2];rfl,by rw[u2.2];rfl⟩
   rw[nR,aj ⟨hp1,by rw[s3];omega,by rw[s3];exact h0⟩,s3,pO,aj eg2,hx,hy,w2c,u2.2];have e9:18432+p.2.2.2.1-18432=p.2.2.2.1:=ab;rw[e9,tH,h];rfl
  .have:=(tI k).2.2.1 hp1;rw[s3,h0] at this;cases this
 .have eE:fJ p=gc p.1 p.2.1 (pE p):=by rw[De hr h,gc,aj (OV hr)]
  have u:=XY (s:=p.1) (d:=p.2.1) (M0 hr) qw aw;have hun:gF (dC (build p)) (g9 (build p)) ((build p).drop 20)=pE p:=by rw[hs,hd,e3,eE];exact u.2
  have hh:=Kw (src:=p.2.1) hn ha (by rw[hpr];exact h) (by rw[hs,hd,e3,eE];exact u.1) (by rw[hun];show bits .and .i64 2 2≠0;decide) (by rw[hun];show bits .and .i64 2 4=0;decide);refine⟨hh.2,?_⟩;rw[hh.1,hun,hs];have eY:oI (pE p)=(80,20000+p.2.2.2.1,0,p.2.2.2.2.1+1,20,0,[]):=by
   have:(p.2.2.2.2.1+1)%4294967296=p.2.2.2.2.1+1:=ab;show (80,20000+p.2.2.2.1,0,(p.2.2.2.2.1+1)%4294967296,20,0,[])=_;rw[this]
  have okY:Kx [] (oI (pE p)):=by
   rw[eY];refine⟨⟨(iQ _).2 ⟨?_,?_⟩,(iQ _).2 ⟨?_,?_⟩,⟨?_,?_⟩,⟨?_,?_⟩,⟨?_,?_⟩,(iQ _).2 ⟨?_,?_⟩⟩,rfl⟩ <;> simp only <;> omega
  have u2:=XY (s:=p.2.1) (d:=p.1) okY qw aw;have eg:=MW okY aw;have esh:gc p.2.1 p.1 (oI (pE p))=de (mT (oI (pE p))) 16 (f6 p.2.1 p.1 6 (mT (oI (pE p)))):=by rw[gc,aj eg]
  have hb:bytes (gc p.2.1 p.1 (oI (pE p))):=by rw[esh];exact wJ (CZ okY.1 qw)
  have hl20:(gc p.2.1 p.1 (oI (pE p))).length=20:=by rw[esh,ng];rfl
  have h13:(gc p.2.1 p.1 (oI (pE p))).getD 13 default=20:=by rw[esh];rfl
  rw[eY] at u2;generalize hD:gc p.2.1 p.1 (oI (pE p))=D at *;rw[← eY,hD] at u2;have sb:=C8 (src:=p.2.1) (dst:=p.1) (proto:=6) (data:=D) hn ab g.d g.s ab hb;generalize fN (lz p.2.1 p.1 6 id ttl D)=x at sb;obtain⟨s1,s2,s3,s4⟩:=sb;have hp1:d5 x=6:=by rw[d5,s2]
  have hx:g9 x=p.1:=by rw[g9,s2]
  have hy:dC x=p.2.1:=by rw[dC,s2]
  rw[eY] at u2;rw[wt,aj h];refine ND g s1 ?_ hy.symm (by rw[s2]) (by rw[s2]) (λk=>?_)
  .have eg2:EI p.2.1 p.1 D:=⟨u2.1,by rw[u2.2],by rw[u2.2],by rw[u2.2],by rw[u2.2],by rw[u2.2]⟩
   rw[nR,ah (by rw[hp1];omega),ah ab,aj hp1,s3,hx,hy,qa,aj eg2,u2.2];have e9:20000+p.2.2.2.1-20000=p.2.2.2.1:=ab;have e8:p.2.2.2.2.1+1-1=p.2.2.2.2.1:=ab;simp only;rw[e9,e8,tH,h]
  .have:=(tI k).2.2.2.1 hp1 (by rw[s3];omega);rw[s3,h13] at this;exact absurd this bo
 .have eE:fJ p=kZ p.1 p.2.1 (vK p):=by rw[Ej hr h,kZ,aj (MT hr)]
  have u:=bh0 (s:=p.1) (d:=p.2.1) (Yi hr) (ou _) (by rw[zb];omega);have hh:=II (src:=p.2.1) hn ha (by rw[hpr];exact h) (by rw[hs,hd,e3,eE];exact u.1);refine⟨hh.2,?_⟩;rw[hh.1,wt,ah ab,aj h];exact (H7 g hu g.d (kind:=3) (code:=3) ⟨.inr rfl,ab,hn⟩).2.1
def UO(p:bc)(x:ac):Prop:=(¬ f9 p.1->x=[])/\(f9 p.1→∃ a:qE,0<a.2.1/\Gm p a x)
theorem Of{α:Type} [DecidableEq α]:∀{l m:List α},l.Nodup->(∀ x∈l,x∈m)->l.length<=m.length
 | [],m,_,_=>aw
 | x::l,m,h,hs=>by
  have hx:=hs x fp;have hn:=List.nodup_cons.1 h;have:=Of (l:=l) (m:=m.erase x) hn.2 λy hy=>(List.mem_erase_of_ne (λe:y=x=>hn.1 (e▸hy))).2 (hs y (fu _ hy));rw[List.length_erase_of_mem hx] at this;have hp:=List.length_pos_of_mem hx;rw[dP];omega
theorem DC{α β:Type}(I:β->Prop)(f:β->α->β):∀{l:List α}{b:β},I b->(∀ x∈l,∀ b,I b->I (f b x))->I (l.foldl f b)
 | [],b,h,_=>h
 | x::l,b,h,hf=>DC I f (l:=l) (hf x fp b h) λy hy=>hf y (fu _ hy)
theorem OS{k x:Int}:∀{l:ac},x∈mW k l->x=k∨x∈l
 | [],h=>by simp[mW] at h;exact .inl h
 | y::r,h=>by
  rw[mW] at h;split at h
  .rcases eZ.1 h with e|h
   .exact .inl e
   .exact .inr h
  .rcases eZ.1 h with e|h
   .exact .inr (e▸fp)
   .rcases OS h with e|h
    .exact .inl e
    .exact .inr (fu _ h)
theorem V0{k:Int}:∀{l:ac},l.Pairwise (· < ·)->k ∉ l->(mW k l).Pairwise (· < ·)
 | [],_,_=>by rw[mW];exact List.pairwise_singleton _ _
 | y::r,h,hk=>by
  have h:=List.pairwise_cons.1 h;rw[mW];split
  .rename_i hy;refine List.pairwise_cons.2 ⟨λz hz=>?_,List.pairwise_cons.2 h⟩;rcases eZ.1 hz with rfl|hz
   .exact hy
   .exact Int.lt_trans hy (h.1 z hz)
  .rename_i hy;have:k≠y:=λe=>hk (e▸fp);refine List.pairwise_cons.2 ⟨λz hz=>?_,V0 h.2 λe=>hk (fu _ e)⟩;rcases OS hz with rfl|hz
   .omega
   .exact h.1 z hz
theorem bE9(k:Int)(l:ac):mW k l≠[]:=by
 intro e
 have:=LU k l
 rw[e] at this;simp at this
theorem So{l:List Rt}{r x:Rt}(h:x∈iu l r):x=r∨x∈l:=by
 unfold iu at h
 rcases fC.1 h with h|h
 .exact .inr (List.mem_filter.1 h).1
 .rcases eZ.1 h with e|h
  .exact .inl e
  .exact .inr (List.mem_filter.1 h).1
def lnk(ls:List cj)(i k:Int):Prop:=0<=k/\k<ls.length/\(lA (ls.getD k.toNat default)=i∨lB (ls.getD k.toNat default)=i)
structure N2 (ls:List cj) (aa:ac) (i:Int) (r:Rt):Prop where
 len:r.1.2=32
 mem:r.1.1∈aa
 ne:r.2.1≠[]
 pw:r.2.1.Pairwise (· < ·)
 ln:∀ k∈r.2.1,lnk ls i k
 w0:1<=r.2.2
 w1:r.2.2<=3
def qB(ls:List cj)(aa:ac)(i:Int)(t:List Rt):Prop:=dS t∧∀ r∈t,N2 ls aa i r
theorem Lu{ls:List cj}{aa:ac}{i:Int}{t:List Rt}(h:qB ls aa i t):t.length<=aa.length:=by
 have hn:(t.map λr=>r.1.1).Nodup:=by
  refine List.Pairwise.map (R:=λa b:Rt=>a.1.1≠b.1.1) _ (λa b h=>h) (h.1.imp_of_mem λ{a b} ha hb k=>?_);have e1:=(h.2 a ha).len;have e2:=(h.2 b hb).len;unfold cF at k;omega
 have:=Of hn (m:=aa) λx hx=>by
  obtain⟨r,hr,rfl⟩:=List.mem_map.1 hx;exact (h.2 r hr).mem
 simpa using this
theorem NM{ls:List cj}{aa:ac}{i:Int}{r:Rt}(h:N2 ls aa i r):r.2.1.length<=ls.length:=by
 have hn:r.2.1.Nodup:=h.pw.imp λk=>ab
 have:=Of hn (m:=(range ls.length).map λ(n:Nat)=>(n:Int)) λx hx=>by
  obtain⟨k0,k1,_⟩:=h.ln x hx;exact List.mem_map.2 ⟨x.toNat,List.mem_range.2 ab,ab⟩
 simpa using this
theorem bo5{ls:List cj}{aa:ac}{i:Int}{t:List Rt}(h:qB ls aa i t){p:fD}{k way:Int}(hp:p.2=32)(ha:p.1∈aa)(hk:lnk ls i k)(h0:1<=way)(h1:way<=3) :
  qB ls aa i (zD t p k way):=by
 have put:∀ r:Rt,N2 ls aa i r->qB ls aa i (iu t r):=λr hr =>
  ⟨Ov h.1,λx hx=>by
   rcases So hx with rfl|hx
   .exact hr
   .exact h.2 x hx⟩
 unfold zD
 split
 next hf=>
  have hx:t.getD (vE t p) default∈t:=by
   have:=cA (xs:=t) (i:=(vE t p:Nat)) ab ab;simpa using this
  have hx:=h.2 _ hx;split
  .exact h
  .rename_i hn;exact put _ ⟨hp,ha,bE9 _ _,V0 hx.pw hn,λy hy=>by
    rcases OS hy with rfl|hy
    .exact hk
    .exact hx.ln y hy,hx.w0,hx.w1⟩
 .exact put _ ⟨hp,ha,aw,List.pairwise_singleton _ _,λy hy=>by rw[nz.1 hy];exact hk,h0,h1⟩
structure RI (ls:List cj) (aa:ac) (ns0 ns:List ar):Prop where
 n:ns.length=ns0.length
 e:∀ i:Nat,i<ns0.length->Do (ns.getD i default) []=Do (ns0.getD i default) []
 t:∀ i:Nat,i<ns0.length->qB ls aa i (bL (ns.getD i default))
theorem RI.ports {ls aa ns0 ns} (h:RI ls aa ns0 ns) {i:Nat} (hi:i<ns0.length):aM (ns.getD i default)=aM (ns0.getD i default):=by
 have:=fj aM (h.e i hi);exact this
theorem RI.host {ls aa ns0 ns} (h:RI ls aa ns0 ns) {i:Nat} (hi:i<ns0.length):pv (ns.getD i default)=pv (ns0.getD i default):=by
 have:=fj pv (h.e i hi);exact this
theorem RI.route {ls aa ns0 ns} (h:RI ls aa ns0 ns) {a:Int} {p:fD} {k way:Int} (a0:0<=a) (a1:a<ns0.length) (hp:p.2=32) (ha:p.1∈aa) (hk:lnk ls a k) (h0:1<=way) (h1:way<=3) :
  RI ls aa ns0 (vB ns a p k way):=by
 have hl:a.toNat<ns.length:=by have:=h.n;omega
 unfold vB
 refine⟨by rw[fF];exact h.n,λi hi=>?_,λi hi=>?_⟩
 .by_cases e:a.toNat=i
  .subst e;rw[lD hl];exact h.e _ hi
  .rw[o5 e];exact h.e _ hi
 .by_cases e:a.toNat=i
  .subst e;rw[lD hl];have:=bo5 (h.t _ hi) (p:=p) (k:=k) (way:=way) hp ha (by rwa [show ((a.toNat:Nat):Int)=a by omega]) h0 h1;exact this
  .rw[o5 e];exact h.t _ hi
theorem RI.step {ls aa ns0 ns} (h:RI ls aa ns0 ns) {d:ac} {to:Int} {p:fD} {plain:Bool} {k way a b:Int} (a0:0<=a) (a1:a<ns0.length) (hp:p.2=32) (ha:p.1∈aa) (hk:lnk ls a k) (h0:1<=way) (h1:way<=3) :
  RI ls aa ns0 (uK d to p plain k way ns a b):=by
 unfold uK
 split
 .exact h
 .split
  .exact h
  .exact h.route a0 a1 hp ha hk h0 h1
def jO(n:Nat)(ls:List cj):Prop:=∀ l∈ls,0<=l.1/\l.1<n/\0<=l.2.1/\l.2.1<n
theorem jO.at'{n:Nat}{ls:List cj}(hg:jO n ls){k:Nat}(hk:k<ls.length):(0<=lA (ls.getD k default)/\lA (ls.getD k default)<n)/\0<=lB (ls.getD k default)/\lB (ls.getD k default)<n:=by
 have hx:ls.getD k default∈ls:=by
  have:=cA (xs:=ls) (i:=(k:Nat)) ab ab;simpa using this
 obtain⟨q1,q2,q3,q4⟩:=hg _ hx
 exact⟨⟨q1,q2⟩,q3,q4⟩
theorem XQ{ls:List cj}{k:Nat}(hk:k<ls.length):lnk ls (lA (ls.getD k default)) k:=⟨by omega,by omega,.inl (by simp)⟩
theorem Si{ls:List cj}{k:Nat}(hk:k<ls.length):lnk ls (lB (ls.getD k default)) k:=⟨by omega,by omega,.inr (by simp)⟩
theorem RI.stepK {ls aa ns0 ns} (h:RI ls aa ns0 ns) (hg:jO ns0.length ls) {d:ac} {to:Int} {p:fD} {plain:Bool} {way:Int} {k:Nat} (hk:k<ls.length) (hp:p.2=32) (ha:p.1∈aa) (h0:1<=way) (h1:way<=3) :
  RI ls aa ns0 (stepK ls d to p plain way ns k):=by
 have hh:=hg.at' hk
 unfold Go.RS.stepK
 exact (h.step hh.1.1 hh.1.2 hp ha (XQ hk) h0 h1).step hh.2.1 hh.2.2 hp ha (Si hk) h0 h1
theorem RI.stepKs {ls aa ns0 ns} (h:RI ls aa ns0 ns) (hg:jO ns0.length ls) {d:ac} {to:Int} {p:fD} {plain:Bool} {way:Int} (hp:p.2=32) (ha:p.1∈aa) (h0:1<=way) (h1:way<=3) {n:Nat} (hn:n<=ls.length) :
  RI ls aa ns0 ((range n).foldl (Go.RS.stepK ls d to p plain way) ns) :=
 DC _ _ h λk hk b hb=>hb.stepK hg (by have:=List.mem_range.1 hk;omega) hp ha h0 h1
theorem RI.stepP {ls aa ns0 ns} (h:RI ls aa ns0 ns) (hg:jO ns0.length ls) {d:ac} {to:Int} {plain:Bool} {way:Int} {q:rC} (ha:q.1∈aa) (h0:1<=way) (h1:way<=3) :
  RI ls aa ns0 (stepP ls d to plain way ns q) :=
 h.stepKs (p:=(q.1,32)) hg rfl ha h0 h1 (eT _)
def kq(ns:List ar):ac:=ns.flatMap λx=>(aM x).map (·.1)
theorem Uj{ns:List ar}{i:Nat}(hi:i<ns.length){q:rC}(hq:q∈aM (ns.getD i default)):q.1∈kq ns:=by
 have hx:ns.getD i default∈ns:=by
  have:=cA (xs:=ns) (i:=(i:Nat)) ab ab;simpa using this
 exact List.mem_flatMap.2 ⟨_,hx,List.mem_map.2 ⟨q,hq,rfl⟩⟩
theorem RI.stepPs {ls ns0 ns} (h:RI ls (kq ns0) ns0 ns) (hg:jO ns0.length ls) {d:ac} {to:Int} {plain:Bool} {way:Int} (h0:1<=way) (h1:way<=3) {l:List rC} (hl:∀ q∈l,q.1∈kq ns0) :
  RI ls (kq ns0) ns0 (l.foldl (Go.RS.stepP ls d to plain way) ns) :=
 DC _ _ h λq hq b hb=>hb.stepP hg (hl q hq) h0 h1
theorem TN{c:bm}(h:dF c):dF (qS c).2/\1<=(qS c).1/\(qS c).1<=3:=by
 have k:=dV h 3
 have k2:=dV k.1 3
 have:=f5 h (n:=3) ab
 unfold qS
 split
 .refine⟨k2.1,?_⟩;dsimp only;split <;> omega
 .exact⟨k.1,by dsimp only;omega,by dsimp only;omega⟩
theorem RI.stepT {ls ns0} {s:List ar×bm} (h:RI ls (kq ns0) ns0 s.1/\dF s.2) (hg:jO ns0.length ls) {plain:Bool} {to:Nat} (ht:to<ns0.length) :
  RI ls (kq ns0) ns0 (stepT ls plain s to).1/\dF (stepT ls plain s to).2:=by
 have w:=TN h.2
 unfold Go.RS.stepT
 refine⟨h.1.stepPs hg w.2.1 w.2.2 λq hq=>?_,w.1⟩
 rw[h.1.ports ht] at hq
 exact Uj ht hq
theorem RI.stepTs {ls ns0} {s:List ar×bm} (h:RI ls (kq ns0) ns0 s.1/\dF s.2) (hg:jO ns0.length ls) {plain:Bool} {n:Nat} (hn:n<=ns0.length) :
  RI ls (kq ns0) ns0 ((range n).foldl (Go.RS.stepT ls plain) s).1/\dF ((range n).foldl (Go.RS.stepT ls plain) s).2 :=
 DC (λs:List ar×bm=>RI ls (kq ns0) ns0 s.1/\dF s.2) _ h λk hk b hb=>RI.stepT hb hg (by have:=List.mem_range.1 hk;omega)
theorem RI.start{ls:List cj}{ns0:List ar}(h:∀ x∈ns0,bL x=[]):RI ls (kq ns0) ns0 ns0:=by
 refine⟨rfl,λ_ _=>rfl,λi hi=>?_⟩
 have hx:ns0.getD i default∈ns0:=by
  have:=cA (xs:=ns0) (i:=(i:Nat)) ab ab;simpa using this
 rw[h _ hx]
 exact⟨List.Pairwise.nil,λr hr=>by cases hr⟩
def sP(i:Int)(k:Nat)(l:cj):List rC:=(if lA l=i then [(ip k+1,(k:Int))] else [])++(if lB l=i then [(ip k+2,(k:Int))] else [])
def portsF(i:Int):Nat->List cj->List rC
 | _,[]=>[]
 | k,l::r=>sP i k l++portsF i (k+1) r
theorem RY(i:Int)(l:cj):∀(k:Nat)(ls:List cj),portsF i k (ls++[l])=portsF i k ls++sP i (k+ls.length) l
 | k,[]=>by simp[portsF]
 | k,x::r=>by
  rw[nO,portsF,RY i l (k+1) r,portsF,je,dP,show k+1+r.length=k+(r.length+1) by omega]
theorem bu2(i:Int)(k:Nat)(l:cj):(sP i k l).length<=2:=by
 unfold sP
 split <;> split <;> simp
theorem FJ(i:Int):∀(k:Nat)(ls:List cj),(portsF i k ls).length<=2*ls.length
 | k,[]=>by simp[portsF]
 | k,x::r=>by
  have:=FJ i (k+1) r;have:=bu2 i k x;rw[portsF,cL,dP];omega
theorem VH{i:Int}:∀{k:Nat}{ls:List cj},(∀ x∈ls,lA x≠i/\lB x≠i)->portsF i k ls=[]
 | k,[],_=>rfl
 | k,x::r,h=>by
  have hx:=h x fp;rw[portsF,VH λy hy=>h y (fu _ hy),sP,ah hx.1,ah hx.2];rfl
theorem Gl{i:Int}{q:rC}:∀{k:Nat}{ls:List cj},q∈portsF i k ls↔∃ j,j<ls.length/\((lA (ls.getD j default)=i/\q=(ip (k+j:Nat)+1,((k+j:Nat):Int)))∨(lB (ls.getD j default)=i/\q=(ip (k+j:Nat)+2,((k+j:Nat):Int))))
 | k,[]=>by simp[portsF]
 | k,x::r=>by
  rw[portsF,fC,Gl (k:=k+1) (ls:=r)];constructor
  .rintro (h|⟨j,hj,h⟩)
   .refine⟨0,aw,?_⟩;unfold sP at h;rcases fC.1 h with h|h
    .split at h
     next e=>exact .inl ⟨e,by simpa using h⟩
     .cases h
    .split at h
     next e=>exact .inr ⟨e,by simpa using h⟩
     .cases h
   .refine⟨j+1,by rw[dP];omega,?_⟩;rw[List.getD_cons_succ,show k+(j+1)=k+1+j by omega];exact h
  .rintro⟨j,hj,h⟩;cases j with
   | zero =>
    refine .inl ?_;rw[List.getD_cons_zero] at h;unfold sP;rcases h with⟨e,h⟩|⟨e,h⟩
    .rw[aj e];exact fC.2 (.inl (by simpa using h))
    .rw[aj e];exact fC.2 (.inr (by simpa using h))
   | succ j =>
    refine .inr ⟨j,by rw[dP] at hj;omega,?_⟩;rw[List.getD_cons_succ,show k+(j+1)=k+1+j by omega] at h;exact h
theorem XP{α:Type} [Inhabited α] {l m:List α} {i:Nat} (h:i<l.length):(l++m).getD i default=l.getD i default:=by
 rw[ct,nV h,ct]
theorem Ti{α:Type} [Inhabited α] {l:List α} {x:α}:(l++[x]).getD l.length default=x:=by
 rw[ct];simp
theorem Iu{ns:List ar}{x:Int}{p:rC}(x0:0<=x){i:Nat}(hi:i<ns.length) :
  (mB ns x p).getD i default=((ns.getD i default).1++(if x=i then [p] else []),(ns.getD i default).2):=by
 unfold mB
 by_cases e:x=i
 .have:x.toNat=i:=ab;rw[this,lD hi,aj e]
 .have:x.toNat≠i:=ab;rw[o5 this,ah e,kY]
theorem PZ(ns:List ar)(x:Int)(p:rC):(mB ns x p).length=ns.length:=by unfold mB;exact fF
structure GI (s:bU) (nn nl:Nat):Prop where
 n:s.1.1.length=nn
 l:s.1.2.1.length=nl
 h:s.1.2.2=[]
 c:dF s.2
 g:∀ x∈s.1.2.1,(0<=lA x/\lA x<nn)/\(0<=lB x/\lB x<nn)/\lA x≠lB x/\(1<=qi x/\qi x<=20)/\me x=0/\wn x=0/\0<=zg x/\zg x<=255
 p:∀ i:Nat,i<nn->aM (s.1.1.getD i default)=portsF i 0 s.1.2.1
 d:∀ i:Nat,i<nn→∃ host f sd,(s.1.1.getD i default).2=(vF i host f sd).2/\(f=64∨f=255∨f=128)/\0<=sd/\sd<=255
theorem GI.node{s:bU}{nn nl:Nat}(h:GI s nn nl)(host:Bool):GI (mv s host) (nn+1) nl:=by
 have k3:=f5 h.c (n:=3) ab
 have c3:=(dV h.c 3).1
 have k4:=f5 c3 (n:=256) ab
 have c4:=(dV c3 256).1
 refine⟨by simp only[mv,cL,dP,List.length_nil,h.n],h.l,h.h,c4,λx hx=>?_,λi hi=>?_,λi hi=>?_⟩
 .have:=h.g x hx;omega
 .by_cases e:i<nn
  .rw[show (mv s host).1.1.getD i default=s.1.1.getD i default from XP (by rw[h.n];exact e)];exact h.p i e
  .have e:i=s.1.1.length:=by rw[h.n];omega
   subst e;rw[show (mv s host).1.1.getD s.1.1.length default=vF s.1.1.length host _ _ from Ti];refine (VH λx hx=>?_).symm;have:=h.g x hx;have:=h.n;omega
 .by_cases e:i<nn
  .rw[show (mv s host).1.1.getD i default=s.1.1.getD i default from XP (by rw[h.n];exact e)];exact h.d i e
  .have e:i=s.1.1.length:=by rw[h.n];omega
   subst e;rw[show (mv s host).1.1.getD s.1.1.length default=vF s.1.1.length host _ _ from Ti];refine⟨host,_,_,rfl,?_,k4.1,ab⟩;rcases (show (ax s.2 3).1=0∨(ax s.2 3).1=1∨(ax s.2 3).1=2 by omega) with e|e|e <;> rw[e] <;> simp
theorem GI.link{s:bU}{nn nl:Nat}(h:GI s nn nl){a b:Int}(a0:0<=a)(a1:a<nn)(b0:0<=b)(b1:b<nn)(ne:a≠b):GI (kU s a b) nn (nl+1):=by
 have k3:=f5 h.c (n:=20) ab
 have c3:=(dV h.c 20).1
 have k4:=f5 c3 (n:=256) ab
 have c4:=(dV c3 256).1
 refine⟨by simp only[kU,PZ,h.n],by simp only[kU,cL,dP,List.length_nil,h.l],h.h,c4,λx hx=>?_,λi hi=>?_,λi hi=>?_⟩
 .rcases fC.1 hx with hx|hx
  .exact h.g x hx
  .rw[nz.1 hx];refine⟨⟨a0,a1⟩,⟨b0,b1⟩,ne,?_,rfl,rfl,k4.1,?_⟩
   .show 1<=1+(ax s.2 20).1/\1+(ax s.2 20).1<=20;omega
   .show (ax (ax s.2 20).2 256).1<=255;omega
 .have hp:=h.p i hi;unfold kU;dsimp only;rw[Iu b0 (by rw[PZ,h.n];exact hi),Iu a0 (by rw[h.n];exact hi),RY,← hp,gI];simp only[aM,sP,lA,lB,je];rfl
 .unfold kU;dsimp only;rw[Iu b0 (by rw[PZ,h.n];exact hi),Iu a0 (by rw[h.n];exact hi)];exact h.d i hi
theorem GI.codes{s:bU}{nn nl:Nat}(h:GI s nn nl){c:bm}(hc:dF c):GI (s.1,c) nn nl:=⟨h.n,h.l,h.h,hc,h.g,h.p,h.d⟩
theorem GI.start{c:bm}(hc:dF c):GI (([],[],[]),c) 0 0 :=
 ⟨rfl,rfl,rfl,hc,λx hx=>(by cases hx),λi hi=>ab,λi hi=>ab⟩
theorem GI.routes{s:bU}{nn nl:Nat}(h:GI s nn nl):∀ x∈s.1.1,bL x=[]:=λx hx=>by
 obtain⟨i,hi,e⟩:=List.mem_iff_getElem.1 hx
 obtain⟨host,f,sd,hd,-⟩:=h.d i (by rw[← h.n];exact hi)
 have:s.1.1.getD i default=x:=by rw[ct,cM hi,e];rfl
 rw[this] at hd
 show x.2.2.2.2.1=[]
 rw[hd];rfl
theorem GI.plen{s:bU}{nn nl:Nat}(h:GI s nn nl):∀ x∈s.1.1,x.1.length<=2*nl:=λx hx=>by
 obtain⟨i,hi,e⟩:=List.mem_iff_getElem.1 hx
 have hp:=h.p i (by rw[← h.n];exact hi)
 have:s.1.1.getD i default=x:=by rw[ct,cM hi,e];rfl
 rw[this] at hp
 have:=FJ i 0 s.1.2.1
 rw[← hp,h.l] at this;exact this
theorem Jq:∀{ns:List ar}{m:Nat},(∀ x∈ns,x.1.length<=m)->(kq ns).length<=ns.length*m
 | [],m,_=>by simp[kq]
 | x::r,m,h=>by
  have k:=Jq (ns:=r) (m:=m) λy hy=>h y (fu _ hy);have hx:=h x fp;unfold kq at k ⊢;rw[List.flatMap_cons,cL,mg,dP,Nat.succ_mul];show (aM x).length+_<=_;have:(aM x).length<=m:=hx;omega
theorem GI.ends{s:bU}{nn nl:Nat}(h:GI s nn nl):jO s.1.1.length s.1.2.1:=λx hx=>by
 have:=h.g x hx
 rw[h.n]
 exact⟨this.1.1,this.1.2,this.2.1.1,this.2.1.2⟩
theorem GI.chain{s:bU}(h:GI s 1 0):∀ k:Nat,GI ((range k).foldl uN s) (k+1) k
 | 0=>h
 | k+1=>by
  rw[lP,ld];exact ((GI.chain h k).node false).link ab ab ab ab ab
def cJ(c:bm):Int:=1+(ax (mv (([],[],[]),c) true).2 5).1
def zk(c:bm):bU:=((mv (([],[],[]),c) true).1,(ax (mv (([],[],[]),c) true).2 5).2)
theorem RH{c:bm}(h:dF c):GI (zk c) 1 0:=((GI.start h).node true).codes (dV ((GI.start h).node true).c 5).1
theorem zH{c:bm}(h:dF c):1<=cJ c/\cJ c<=5:=by
 have:=f5 ((GI.start h).node true).c (n:=5) ab
 unfold cJ;omega
theorem PP(c:bm):qq c=(cJ c,kU (mv ((range (cJ c).toNat).foldl uN (zk c)) true) (cJ c) (cJ c+1)):=rfl
theorem Jm{c:bm}(h:dF c):GI (qq c).2 ((cJ c).toNat+2) ((cJ c).toNat+1):=by
 have:=zH h
 rw[PP]
 exact (((RH h).chain _).node true).link ab ab ab ab ab
theorem GI.short{s:bU}{nn nl:Nat}(h:GI s nn nl){n:Int}(n1:1<=n)(hn:n+2<=nn):∃ m,nl<=m/\m<=nl+1/\GI (wp n s) nn m:=by
 have ka:=f5 h.c (n:=n) ab
 have ca:=(dV h.c n).1
 have kb:=f5 ca (n:=n) ab
 have cb:=(dV ca n).1
 unfold wp
 dsimp only
 split
 .exact⟨nl,ab,ab,h.codes cb⟩
 next e=>exact⟨nl+1,ab,ab,(h.codes cb).link ab ab ab ab ab⟩
theorem GI.shorts{s:bU}{nn nl:Nat}(h:GI s nn nl){n:Int}(n1:1<=n)(hn:n+2<=nn):∀ k:Nat,∃ m,nl<=m/\m<=nl+k/\GI ((range k).foldl (λs _=>wp n s) s) nn m
 | 0=>⟨nl,ab,ab,h⟩
 | k+1=>by
  obtain⟨m,m0,m1,hm⟩:=GI.shorts h n1 hn k;obtain⟨m',q0,q1,hq⟩:=hm.short n1 hn;refine⟨m',ab,ab,?_⟩;rw[lP,ld];exact hq
def ur(plain:Bool)(n:Int)(s:bU)(k:Nat):bU:=if 1<n/\plain=false then (range k).foldl (λs _=>wp n s) (s.1,(ax s.2 4).2) else (s.1,(ax s.2 4).2)
theorem Se{s:bU}{nn nl:Nat}(h:GI s nn nl){plain:Bool}{n:Int}(n1:1<=n)(hn:n+2<=nn)(k:Nat):∃ m,nl<=m/\m<=nl+k/\GI (ur plain n s k) nn m:=by
 have hc:=h.codes (dV h.c 4).1
 unfold ur
 split
 .exact hc.shorts n1 hn k
 .exact⟨nl,ab,ab,hc⟩
theorem NA(plain:Bool)(n:Int)(s:bU):Di plain n s=(let s1:=ur plain n s (ax s.2 4).1.toNat
  if plain=true/\2<n then
   if (ax s1.2 2).1=1 then kU (s1.1,(ax (ax s1.2 2).2 (n-1)).2) (1+(ax (ax s1.2 2).2 (n-1)).1) n else (s1.1,(ax s1.2 2).2)
  else s1):=rfl
theorem aa2{s:bU}{nn nl:Nat}(h:GI s nn nl){plain:Bool}{n:Int}(n1:1<=n)(hn:n+2<=nn):∃ m,nl<=m/\m<=nl+4/\GI (Di plain n s) nn m:=by
 have k4:=f5 h.c (n:=4) ab
 obtain⟨m,m0,m1,hm⟩:=Se h (plain:=plain) n1 hn (ax s.2 4).1.toNat
 rw[NA]
 dsimp only
 generalize ur plain n s (ax s.2 4).1.toNat=t at hm ⊢
 have c2:=(dV hm.c 2).1
 have c3:=(dV c2 (n-1)).1
 split
 next e=>
  split
  .have k5:=f5 c2 (n:=n-1) ab;exact⟨m+1,ab,ab,(hm.codes c3).link ab ab ab ab ab⟩
  .exact⟨m,ab,ab,hm.codes c2⟩
 .exact⟨m,ab,ab,hm⟩
theorem JX{c:bm}(h:dF c)(plain:Bool):∃ m,2<=m/\m<=10/\GI (Di plain (qq c).1 (qq c).2) ((cJ c).toNat+2) m:=by
 have hn:=zH h
 obtain⟨m,m0,m1,hm⟩:=aa2 (Jm h) (plain:=plain) (n:=cJ c) hn.1 ab
 exact⟨m,ab,ab,hm⟩
end Go.RS
