/- Node1: what a node does with a packet: the program. -/
import Derived.Test.YthmcfealplfaaaaGreatDoorNodek
import Derived.Test.YthmcfealplfaaaaGreatDoorIdent
import Derived.Test.YthmcfealplfaaaaGreatDoorReply
namespace Go.RS
open Go.SX Go.Proofs
set_option maxRecDepth 100000
set_option linter.unusedVariables false
abbrev Tt:OT := .pair (.dat (.sl cB)) (.pair cI (.pair (.row 3 cI) (.pair rK cI)))
abbrev mE:OT := .pair bw (.pair Tt (.pair cI (.pair cI (.pair (.dat (.sl bj)) jX))))
abbrev sX:CT := .pair cI (.sl bj)
abbrev cy:Type:=ac×bp×Int×Int×List Int×bS
abbrev lu:Type:=bp×(Int×List Int)×Int
def j8(h:bS):Int:=h.2.2.2.2.2.1
def gU(h:bS):Int:=h.2.2.2.2.2.2
def oD(h:bS):Int:=h.2.1
def wC(h:bS):Int:=h.2.2.1
def xQ(h:bS):Int:=h.2.2.2.1
def bi(x:ac)(link:Int):Int:=max (cF x link) 0
def adr(x:ac)(i:Int):Int:=if i<0∨(aA x).length<=i then 0 else ((aA x).getD i.toNat default).1
def d7(s:bp)(a:Int):Bool:=mV (bh s) a&&decide (0<(bd (bh s) a).2.1.length)
def jK(x:ac)(s:bp)(r:Rt)(k:mO):Int:=(iU r.2.2 (z6 x) k (kI s) r.2.1.length).1
def gZ(x:ac)(s:bp)(r:Rt)(k:mO):Int:=if r.2.1.length=1 then r.2.1.getD 0 default else r.2.1.getD (jK x s r k).toNat default
def Ps(s:bp)(b:Int):bp:=(s.1,s.2.1,s.2.2.1,s.2.2.2.1,b)
def fx(s:bp)(r:Rt):bp:=if r.2.1.length=1 then s else Ps s (IntKind.i64.wrap (kI s+1))
def yj(s:bp)(t:Int×Int):bp:=(s.1,s.2.1,s.2.2.1,t,s.2.2.2.2)
def nK(l:List Int)(i:Int):List Int:=if i<l.length then l.set i.toNat (IntKind.i64.wrap (l.getD i.toNat default+1)) else l
def Hl(s:bp)(i:Int):bp:=(s.1,IntKind.i64.wrap (s.2.1+1),nK s.2.2.1 i,s.2.2.2)
def jg(x:ac)(i link:Int):Int:=if jG x=2 then adr x (cF x link) else if jG x=3 then ga x else if jG x=4 then ng x else adr x i
def f6(w:cy)(s:bp):cy:=(w.1,s,w.2.2)
def ry(w:cy)(h:bS):cy:=(w.1,w.2.1,w.2.2.1,w.2.2.2.1,w.2.2.2.2.1,h)
def gh:Int×List Int:=(0,[])
def jr(w:cy):(Int×Int)×Bool:=ik (io w.1) (pD w.2.1) w.2.2.2.1
def gO(w:cy):bp:=Hl (yj w.2.1 (jr w).1) (bi w.1 w.2.2.1)
def hT(w:cy):Rt:=bd (bh w.2.1) (j8 w.2.2.2.2.2)
def iH(B:Int->Int->List Int)(w:cy):Int:=gZ w.1 (gO w) (hT w) (fp (B (adr w.1 (bi w.1 w.2.2.1)) 0))
def fI(w:cy):Int:=jx w.1 (yj w.2.1 (jr w).1) (bi w.1 w.2.2.1) w.2.2.2.1 (oD w.2.2.2.2.2) (j8 w.2.2.2.2.2)
def g9(B:Int->Int->List Int)(w:cy)(own:Int):Int:=if own=0 then jg w.1 (bi w.1 w.2.2.1) (iH B w) else own
def cq(B:Int->Int->List Int)(E:Int->Int)(w:cy)(own:Int):lu :=
 if own=0/\jH w.1=true then (w.2.1,gh,4)
 else if E 0≠0 then (w.2.1,gh,6)
 else if d7 w.2.1 (j8 w.2.2.2.2.2)=false then (w.2.1,gh,8)
 else if (jr w).2=false then (yj w.2.1 (jr w).1,gh,5)
 else (fx (gO w) (hT w),(iH B w,B (g9 B w own) (fI w)),2)
def dk(w:cy)(f i:Int):List Int:=f7 w.2.2.2.2.1 f i (gH w.1)
def iL(w:cy)(i:Int):Int:=eT w.2.2.2.2.1 i (gH w.1)
def cT(w:cy)(kind code f i:Int):List Int:=gv w.2.2.2.2.1 f kind code i (gH w.1)
def iE(w:cy)(kind code i:Int):Int:=fh w.2.2.2.2.1 kind code i (gH w.1)
def gc(w:cy):lu :=
 if w.2.2.1 = -1∨iL w 0≠0 then (w.2.1,gh,1)
 else cq (dk w) (iL w) w (if xQ w.2.2.2.2.2=17 then 0 else gU w.2.2.2.2.2)
def dR(w:cy):lu :=
 if w.2.2.1 ≠ -1/\dw w.1=false/\wC w.2.2.2.2.2<2 then cq (cT w 11 0) (iE w 11 0) w 0
 else if d7 w.2.1 (gU w.2.2.2.2.2)=false then (if w.2.2.1 = -1 then (w.2.1,gh,8) else cq (cT w 3 0) (iE w 3 0) w 0)
 else (fx w.2.1 (bd (bh w.2.1) (gU w.2.2.2.2.2)),(gZ w.1 w.2.1 (bd (bh w.2.1) (gU w.2.2.2.2.2)) (fp w.2.2.2.2.1),if w.2.2.1 ≠ -1/\dw w.1=false then gE w.2.2.2.2.1 else w.2.2.2.2.1),0)
def dS(w:cy):lu :=
 if bU w.2.2.2.2.1≠0 then (w.2.1,gh,6)
 else if j5 w.1 (gU (aS w.2.2.2.2.1).1)=true then gc (ry w (aS w.2.2.2.2.1).1)
 else if lq w.1=true/\w.2.2.1 ≠ -1 then (w.2.1,gh,6)
 else dR (ry w (aS w.2.2.2.2.1).1)
def dD(x:ac)(s:bp)(link at':Int)(b:List Int):lu:=dS (x,s,link,at',b,mI)
def lZ(w:cy):Prop:=bI (bh w.2.1)/\okL (bh w.2.1)/\(w.2.2.2.2.1.length:Int)<=1000000
theorem NR{way seed:Int}{k:mO}{count n:Int}(h:1<=n):0<=(iU way seed k count n).1/\(iU way seed k count n).1<n:=by
 have h1:=xI seed k
 have h2:=xI seed (k.1,k.2.1,0,0,0)
 unfold iU
 split
 ·exact⟨Int.le_refl _,by show (0:Int)<n;omega⟩
 ·rename_i hn
  dsimp only
  split
  ·exact⟨Int.tmod_nonneg _ h1.1,Int.tmod_lt_of_pos _ (by omega)⟩
  ·split
   ·exact⟨Int.tmod_nonneg _ h2.1,Int.tmod_lt_of_pos _ (by omega)⟩
   ·exact⟨Int.tmod_nonneg _ (by omega),Int.tmod_lt_of_pos _ (by omega)⟩
theorem Bq{r:lu}{s:bp}{o:Int×List Int}{y:Int}(w:cy)(e:r=(s,o,y)):o=r.2.1/\y=r.2.2/\f6 w s=f6 w r.1:=by subst e;exact⟨rfl,rfl,rfl⟩
theorem tM{B:Int->Int->List Int}{E:Int->Int}{w:cy}{own:Int}(h:own=0/\jH w.1=true):cq B E w own=(w.2.1,gh,4):=by unfold cq;rw[if_pos h]
theorem ue{B:Int->Int->List Int}{E:Int->Int}{w:cy}{own:Int}(h:¬ (own=0/\jH w.1=true))(h1:E 0≠0):cq B E w own=(w.2.1,gh,6):=by unfold cq;rw[if_neg h,if_pos h1]
theorem ww{B:Int->Int->List Int}{E:Int->Int}{w:cy}{own:Int}(h:¬ (own=0/\jH w.1=true))(h1:¬ E 0≠0)(h2:d7 w.2.1 (j8 w.2.2.2.2.2)=false):cq B E w own=(w.2.1,gh,8):=by
 unfold cq;rw[if_neg h,if_neg h1,if_pos h2]
theorem u3{B:Int->Int->List Int}{E:Int->Int}{w:cy}{own:Int}(h:¬ (own=0/\jH w.1=true))(h1:¬ E 0≠0)(h2:¬ d7 w.2.1 (j8 w.2.2.2.2.2)=false)(h3:(jr w).2=false):cq B E w own=(yj w.2.1 (jr w).1,gh,5):=by
 unfold cq;rw[if_neg h,if_neg h1,if_neg h2,if_pos h3]
theorem vU{B:Int->Int->List Int}{E:Int->Int}{w:cy}{own:Int}(h:¬ (own=0/\jH w.1=true))(h1:¬ E 0≠0)(h2:¬ d7 w.2.1 (j8 w.2.2.2.2.2)=false)(h3:¬ (jr w).2=false) :
  cq B E w own=(fx (gO w) (hT w),(iH B w,B (g9 B w own) (fI w)),2):=by
 unfold cq;rw[if_neg h,if_neg h1,if_neg h2,if_neg h3]
theorem yD{s:bp}{a:Int}(h:¬ d7 s a=false):(bd (bh s) a).2.1≠[]:=by
 intro e;apply h;unfold d7;rw[e];simp
theorem Cp(p:nF):((cN p).length:Int)<=1500:=by
 unfold cN
 split
 ·rename_i h
  unfold c8 at h
  split at h
  ·cases h
  ·split at h
   ·cases h
   ·rw[List.length_append,pc];omega
 ·simp
theorem KM(b:List Int)(src kind code id ttl:Int):((gv b src kind code id ttl).length:Int)<=1500:=by
 unfold gv;split
 ·exact Cp _
 ·simp
theorem al9(b:List Int)(src id ttl:Int):((f7 b src id ttl).length:Int)<=1500:=by
 unfold f7;split
 ·split
  ·exact Cp _
  ·split
   ·exact KM ..
   ·exact Cp _
 ·simp
theorem LY(w:cy)(f i:Int):((dk w f i).length:Int)<=1500:=al9 ..
theorem BR(w:cy)(k c f i:Int):((cT w k c f i).length:Int)<=1500:=KM ..
theorem An(x:ac)(k:Int):0<=bi x k:=by unfold bi;omega
theorem DP{l:List Int}{i:Int}(h:i<l.length):nK l i=l.set i.toNat (IntKind.i64.wrap (l.getD i.toNat default+1)):=if_pos h
theorem Nh{l:List Int}{i:Int}(h:¬ i<l.length):nK l i=l:=if_neg h
def O8:Ct:=⟨[.box 243 mE],[.val cI],fun d=>[],fun d=>((bi d.1.1 d.1.2.2.1,()),(d.1,()))⟩
def S7:ao O8.ps->az:=(fun _=>{})
def rG(a:ac)(b:List aF)(c:Int)(d:List Int)(e f g h i:Int)(j:List Int)(k:bS) :=
 CT.wf bw a/\((b.length<=maxLen/\ ∀(l:aF),l∈b->((0<=l.1.1/\l.1.1<=4294967295)/\ab l.1.2)/\(l.2.1.length<=maxLen/\ ∀(m:Int),m∈l.2.1->ab m)/\ab l.2.2)/\ab c/\(d.length<=maxLen/\ ∀(l:Int),l∈d->ab l)/\(ab e/\ab f)/\ab g)/\ab h/\ab i/\(j.length<=maxLen/\ ∀(l:Int),l∈j->0<=l/\l<=255)/\CT.wf jX k
def lQ(a:ac)(b:List aF)(c:Int)(d:List Int)(e f g h i:Int)(j:List Int)(k:bS) :=
 (a,(b,c,d,(e,f),g),h,i,j,k)=(a,(b,c,d,(e,f),g),h,i,j,k)
theorem UZ :
 ∀(a:ac)(b:List aF)(c:Int)(d:List Int)(e f g h i:Int)(j:List Int)(k:bS),(rG a b c d e f g h i j k)/\True->True->max (cF a h) (0:Int)=bi a h/\(lQ a b c d e f g h i j k):=by
  delta rG lQ
  intros
  exact⟨rfl,rfl⟩
theorem NC:av Tryz.prog GL 272 O8.spec:=Ct.okH _ Tryz.func272 (by kernel_rfl) (ai aC yY) ar S7 (aD (by kernel_rfl) UZ)
def KF:Ct:=⟨[.box 243 mE,.val cI],[.val ce],fun d=>[],fun d=>((adr d.1.1 d.2.1,()),(d.1,()))⟩
def X6:ao KF.ps->az:=(fun _=>{})
def wN(a:ac)(b:List aF)(c:Int)(d:List Int)(e f g h i:Int)(j:List Int)(k:bS) :=
 CT.wf bw a/\((b.length<=maxLen/\ ∀(m:aF),m∈b->((0<=m.1.1/\m.1.1<=4294967295)/\ab m.1.2)/\(m.2.1.length<=maxLen/\ ∀(n:Int),n∈m.2.1->ab n)/\ab m.2.2)/\ab c/\(d.length<=maxLen/\ ∀(m:Int),m∈d->ab m)/\(ab e/\ab f)/\ab g)/\ab h/\ab i/\(j.length<=maxLen/\ ∀(m:Int),m∈j->0<=m/\m<=255)/\CT.wf jX k
def wt(m:Bool) :=
 (! m)->((! m)->(! m))/\True
theorem Q7 :
 ∀(a:ac)(b:List aF)(c:Int)(d:List Int)(e f g h i:Int)(j:List Int)(k:bS)(l:Int),(wN a b c d e f g h i j k)/\ab l/\True->True-> ∀(m:Bool),m=decide (l<0)->(wt m)/\(wt m)/\(wt m)/\(wt m)/\(wt m)/\((! m)->((! m)->(! m))/\((! m)->(! m))/\True)/\(m=false->(! m))/\ad (bif m then true else decide ((a.1.length:Int)<=l)) ((0:Int)=adr a l/\(lQ a b c d e f g h i j k)) (0<=l/\l<(a.1.length:Int)/\(List.getD a.1 l.toNat default).1=adr a l/\(lQ a b c d e f g h i j k)):=by
  delta wN wt lQ
  rintro d x x1 x2 x3 x4 x5 x6 x7 x8 h i - -
  (repeat (intro (b_:Bool) (hb_:b_=_);(repeat refine⟨(by first|(simp;done)|(rw[hb_];simp;done)|(rw[hb_];simp;omega)|(rw[hb_];simp;intros;omega)|(rw[hb_];simp +contextual;done)),?_⟩);subst hb_))
  refine pe (fun ho=>?_) (fun h1 h2=>?_)
  ·unfold adr
   rw[if_pos (by rcases ho with q|q <;> have:=of_decide_eq_true q <;> first|exact .inl this|exact .inr this)]
   exact⟨rfl,rfl⟩
  ·have h1:=of_decide_eq_false h1
   have h2:=of_decide_eq_false h2
   refine⟨by omega,by omega,?_,rfl⟩
   unfold adr
   rw[if_neg (by rintro (q|q);exact h1 q;exact h2 q)]
   rfl
theorem Gd:av Tryz.prog GL 273 KF.spec:=Ct.okH _ Tryz.func273 (by kernel_rfl) aC ar X6 (aD (by kernel_rfl) Q7)
def Py:Ct:=⟨[.box 243 mE,.agg cB,.val (.sl bj)],[.val cI],fun d=>[d.2.1.2.1≠[],(d.2.2.1.length:Int)<=1000000],fun d=>((gZ d.1.1 d.1.2.1 d.2.1 (fp d.2.2.1),()),(f6 d.1 (fx d.1.2.1 d.2.1),()))⟩
def Qb:ao Py.ps->az:=(fun _=>{})
theorem QQ :
 ∀(a:ac)(b:List aF)(c:Int)(d:List Int)(e f g h i:Int)(j:List Int)(k:bS)(l m:Int)(n:List Int)(o:Int)(p:List Int),(CT.wf bw a/\((b.length<=maxLen/\ ∀(q:aF),q∈b->((0<=q.1.1/\q.1.1<=4294967295)/\ab q.1.2)/\(q.2.1.length<=maxLen/\ ∀(r:Int),r∈q.2.1->ab r)/\ab q.2.2)/\ab c/\(d.length<=maxLen/\ ∀(q:Int),q∈d->ab q)/\(ab e/\ab f)/\ab g)/\ab h/\ab i/\(j.length<=maxLen/\ ∀(q:Int),q∈j->0<=q/\q<=255)/\CT.wf jX k)/\(((0<=l/\l<=4294967295)/\ab m)/\(n.length<=maxLen/\ ∀(q:Int),q∈n->ab q)/\ab o)/\(p.length<=maxLen/\ ∀(q:Int),q∈p->0<=q/\q<=255)/\True->n≠([]:List Int)/\(p.length:Int)<=1000000->ad (decide ((n.length:Int)=1)) ((0:Int)<=0/\0<(n.length:Int)/\n.getD (Int.toNat (0:Int)) default=gZ a (b,c,d,(e,f),g) ((l,m),n,o) (fp p)/\(a,(b,c,d,(e,f),g),h,i,j,k)=f6 (a,(b,c,d,(e,f),g),h,i,j,k) (fx (b,c,d,(e,f),g) ((l,m),n,o)))
 ((p.length:Int)<=1099511627776/\0<=(iU o a.2.2.2.2.2.2.2.2.2.2.2.2.2.2 (fp p) g (n.length:Int)).1/\(iU o a.2.2.2.2.2.2.2.2.2.2.2.2.2.2 (fp p) g (n.length:Int)).1<(n.length:Int)/\n.getD (Int.toNat (iU o a.2.2.2.2.2.2.2.2.2.2.2.2.2.2 (fp p) g (n.length:Int)).1) default=gZ a (b,c,d,(e,f),g) ((l,m),n,o) (fp p)/\(a,(b,c,d,(e,f),IntKind.wrap .i64 (g+(1:Int))),h,i,j,k)=f6 (a,(b,c,d,(e,f),g),h,i,j,k) (fx (b,c,d,(e,f),g) ((l,m),n,o))):=by
  rintro d x x1 x2 x3 x4 x5 x6 x7 x8 h r1 r2 nx bl b-⟨hn,hb⟩
  have hpos:1<=(nx.length:Int):=by cases nx with
   | nil=>exact absurd rfl hn
   | cons a l=>simp;omega
  refine ae (fun h1=>?_) (fun h1=>?_)
  ·have h1:=of_decide_eq_true h1
   have h1':nx.length=1:=by omega
   refine⟨by omega,by omega,?_,?_⟩
   ·unfold gZ;rw[if_pos h1'];rfl
   ·unfold fx;rw[if_pos h1'];rfl
  ·have h1:=of_decide_eq_false h1
   have h1':¬ nx.length=1:=by omega
   have hc:=NR (way:=bl) (seed:=d.2.2.2.2.2.2.2.2.2.2.2.2.2.2) (k:=fp b) (count:=x5) hpos
   refine⟨by omega,hc.1,hc.2,?_,?_⟩
   ·unfold gZ;rw[if_neg h1'];rfl
   ·unfold fx;rw[if_neg h1'];rfl
theorem Da:av Tryz.prog GL 248 Py.spec:=Ct.okH _ Tryz.func248 (by kernel_rfl) (ai (ai aC aa1) ai1) ar Qb (aD (by kernel_rfl) QQ)
def Jc:Ct:=⟨[.box 243 mE,.val ce],[.agg cB,.val .bool],fun d=>[bI (bh d.1.2.1),okL (bh d.1.2.1)],fun d=>((bd (bh d.1.2.1) d.2.1,d7 d.1.2.1 d.2.1,()),(d.1,()))⟩
def Um:ao Jc.ps->az:=(fun _=>{})
theorem ac5 :
 ∀(a:ac)(b:List aF)(c:Int)(d:List Int)(e f g h i:Int)(j:List Int)(k:bS)(l:Int),(wN a b c d e f g h i j k)/\(0<=l/\l<=4294967295)/\True->(bI (bh (b,c,d,(e,f),g))/\((List.length (bh (b,c,d,(e,f),g))):Int)<=134217728/\ ∀(m:Rt),m∈bh (b,c,d,(e,f),g)->(m.2.1.length:Int)<=1099511627776)->bI b/\okL b/\ ∀(m:Bool),m=mV b l->(m->(m->m)/\True)/\(m->(m->m)/\True)/\(m->(m->m)/\True)/\(m->m)/\bd b l=bd (bh (b,c,d,(e,f),g)) l/\(bif m then decide (0<((List.length (bd b l).2.1):Int)) else false)=d7 (b,c,d,(e,f),g) l/\(lQ a b c d e f g h i j k):=by
  delta wN lQ
  rintro d x x1 x2 x3 x4 x5 x6 x7 x8 h a-⟨h1,h2⟩
  refine⟨h1,h2,?_⟩
  (repeat (intro (b_:Bool) (hb_:b_=_);(repeat refine⟨(by first|(simp;done)|(rw[hb_];simp;done)|(rw[hb_];simp;omega)|(rw[hb_];simp;intros;omega)|(rw[hb_];simp +contextual;done)),?_⟩);subst hb_))
  refine⟨rfl,?_,rfl⟩
  show (bif mV x a then decide (0<((bd x a).2.1.length:Int)) else false)=(mV x a&&decide (0<(bd x a).2.1.length))
  cases mV x a <;> simp
theorem Ey:av Tryz.prog GL 247 Jc.spec:=Ct.okH _ Tryz.func247 (by kernel_rfl) (ai aC WO) ar Um (aD (by kernel_rfl) ac5)
def LJ:Ct:=⟨[.val ce,.val cI,.box 241 (.ref 243 mE),.box 3 cI,.box 3 cI],[.own 5 bj,.val cI],fun d=>[(d.2.2.1.2.2.2.2.1.length:Int)<=1000000],fun d=>((cT d.2.2.1 d.2.2.2.1 d.2.2.2.2.1 d.1 d.2.1,iE d.2.2.1 d.2.2.2.1 d.2.2.2.2.1 d.2.1,()),(d.2.2.1,d.2.2.2.1,d.2.2.2.2.1,()))⟩
def ae3:ao LJ.ps->az:=(fun _=>{})
theorem Yn :
 ∀(a b:Int)(c:ac)(d:List aF)(e:Int)(f:List Int)(g h i j k:Int)(l:List Int)(m:bS)(n o:Int),(0<=a/\a<=4294967295)/\ab b/\(CT.wf bw c/\((d.length<=maxLen/\ ∀(p:aF),p∈d->((0<=p.1.1/\p.1.1<=4294967295)/\ab p.1.2)/\(p.2.1.length<=maxLen/\ ∀(q:Int),q∈p.2.1->ab q)/\ab p.2.2)/\ab e/\(f.length<=maxLen/\ ∀(p:Int),p∈f->ab p)/\(ab g/\ab h)/\ab i)/\ab j/\ab k/\(l.length<=maxLen/\ ∀(p:Int),p∈l->0<=p/\p<=255)/\CT.wf jX m)/\ab n/\ab o/\True->(l.length:Int)<=1000000->(l.length:Int)<=1099511627776/\gv l a n o b c.2.2.2.2.2.2.2.2.2.2.2.2.2.1=cT (c,(d,e,f,(g,h),i),j,k,l,m) n o a b/\fh l n o b c.2.2.2.2.2.2.2.2.2.2.2.2.2.1=iE (c,(d,e,f,(g,h),i),j,k,l,m) n o b/\(c,(d,e,f,(g,h),i),j,k,l,m)=(c,(d,e,f,(g,h),i),j,k,l,m)/\n=n/\o=o:=by
  rintro x x1 d y y1 y2 y3 y4 y5 y6 y7 b h k c-hb
  exact⟨by omega,rfl,rfl,rfl,rfl,rfl⟩
theorem UG:av Tryz.prog GL 277 LJ.spec:=Ct.okH _ Tryz.func277 (by kernel_rfl) (ai aC Kb) ar ae3 (aD (by kernel_rfl) Yn)
def IX:Ct:=⟨[.box 243 mE,.val cI,.val cI],[.fn 277 3,.box 241 .ali,.box 3 cI,.box 3 cI],fun d=>[],fun d=>(((),(),d.2.1,d.2.2.1,()),(d.1,()))⟩
def TC:ao IX.ps->az:=(fun _=>{})
def yq(n:aF) :=
 ((0<=n.1.1/\n.1.1<=4294967295)/\ab n.1.2)/\(n.2.1.length<=maxLen/\ ∀(o:Int),o∈n.2.1->ab o)/\ab n.2.2
def zI(a:ac)(b:List aF)(c:Int)(d:List Int)(e f g h i:Int)(j:List Int)(k:bS) :=
 CT.wf bw a/\((b.length<=maxLen/\ ∀(n:aF),n∈b->(yq n))/\ab c/\(d.length<=maxLen/\ ∀(n:Int),n∈d->ab n)/\(ab e/\ab f)/\ab g)/\ab h/\ab i/\(j.length<=maxLen/\ ∀(n:Int),n∈j->0<=n/\n<=255)/\CT.wf jX k
theorem ae6 :
 ∀(a:ac)(b:List aF)(c:Int)(d:List Int)(e f g h i:Int)(j:List Int)(k:bS)(l m:Int),(zI a b c d e f g h i j k)/\ab l/\ab m/\True->True->()=()/\()=()/\l=l/\m=m/\(lQ a b c d e f g h i j k):=by
  delta zI yq lQ
  intros
  exact⟨rfl,rfl,rfl,rfl,rfl⟩
theorem Ys:av Tryz.prog GL 246 IX.spec:=Ct.okH _ Tryz.func246 (by kernel_rfl) aC ar TC (aD (by kernel_rfl) ae6)
def No:Ct:=⟨[.val ce,.val cI,.box 241 (.ref 243 mE)],[.own 5 bj,.val cI],fun d=>[(d.2.2.1.2.2.2.2.1.length:Int)<=1000000],fun d=>((dk d.2.2.1 d.1 d.2.1,iL d.2.2.1 d.2.1,()),(d.2.2.1,()))⟩
def XB:ao No.ps->az:=(fun _=>{})
theorem ab9 :
 ∀(a b:Int)(c:ac)(d:List aF)(e:Int)(f:List Int)(g h i j k:Int)(l:List Int)(m:bS),(0<=a/\a<=4294967295)/\ab b/\(CT.wf bw c/\((d.length<=maxLen/\ ∀(n:aF),n∈d->(yq n))/\ab e/\(f.length<=maxLen/\ ∀(n:Int),n∈f->ab n)/\(ab g/\ab h)/\ab i)/\ab j/\ab k/\(l.length<=maxLen/\ ∀(n:Int),n∈l->0<=n/\n<=255)/\CT.wf jX m)/\True->(l.length:Int)<=1000000->(l.length:Int)<=1099511627776/\f7 l a b c.2.2.2.2.2.2.2.2.2.2.2.2.2.1=dk (c,(d,e,f,(g,h),i),j,k,l,m) a b/\eT l b c.2.2.2.2.2.2.2.2.2.2.2.2.2.1=iL (c,(d,e,f,(g,h),i),j,k,l,m) b/\(c,(d,e,f,(g,h),i),j,k,l,m)=(c,(d,e,f,(g,h),i),j,k,l,m):=by
  delta yq
  rintro x x1 d y y1 y2 y3 y4 y5 y6 y7 b h-hb
  exact⟨by omega,rfl,rfl,rfl⟩
theorem Mk:av Tryz.prog GL 243 No.spec:=Ct.okH _ Tryz.func243 (by kernel_rfl) (ai aC RB) ar XB (aD (by kernel_rfl) ab9)
def I4:Ct:=⟨[.box 243 mE,.val cI,.val cI],[.val ce],fun d=>[],fun d=>((jg d.1.1 d.2.1 d.2.2.1,()),(d.1,()))⟩
def ak7:ao I4.ps->az:=(fun _=>{})
theorem Xr :
 ∀(a:ac)(b:List aF)(c:Int)(d:List Int)(e f g h i:Int)(j:List Int)(k:bS)(l m:Int),(zI a b c d e f g h i j k)/\ab l/\ab m/\True->True->ad (decide (a.2.2.2.2.2.1=2)) (adr a (cF a m)=jg a l m/\(lQ a b c d e f g h i j k)) (ad (decide (a.2.2.2.2.2.1=3)) (a.2.1=jg a l m/\(lQ a b c d e f g h i j k)) (ad (decide (a.2.2.2.2.2.1=4)) (a.2.2.2.2.2.2.1=jg a l m/\(lQ a b c d e f g h i j k)) (adr a l=jg a l m/\(lQ a b c d e f g h i j k)))):=by
  delta zI yq lQ
  rintro d x x1 x2 x3 x4 x5 x6 x7 x8 h i l - -
  unfold jg jG ga ng
  refine ae (fun h1=>?_) (fun h1=>?_)
  ·rw[if_pos (of_decide_eq_true h1)];exact⟨rfl,rfl⟩
  rw[if_neg (of_decide_eq_false h1)]
  refine ae (fun h2=>?_) (fun h2=>?_)
  ·rw[if_pos (of_decide_eq_true h2)];exact⟨rfl,rfl⟩
  rw[if_neg (of_decide_eq_false h2)]
  refine ae (fun h3=>?_) (fun h3=>?_)
  ·rw[if_pos (of_decide_eq_true h3)];exact⟨rfl,rfl⟩
  rw[if_neg (of_decide_eq_false h3)]
  exact⟨rfl,rfl⟩
theorem OD:av Tryz.prog GL 276 I4.spec:=Ct.okH _ Tryz.func276 (by kernel_rfl) (ai (ai aC yY) Gd) ar ak7 (aD (by kernel_rfl) Xr)
def Pn:Ct:=⟨[.box 243 mE,.fn 243 1,.box 241 .ali,.val ce],[.agg sX,.val cI],fun d=>[lZ d.1],fun d=>(((cq (dk d.1) (iL d.1) d.1 d.2.2.2.1).2.1,(cq (dk d.1) (iL d.1) d.1 d.2.2.2.1).2.2,()),(f6 d.1 (cq (dk d.1) (iL d.1) d.1 d.2.2.2.1).1,(),()))⟩
def YJ:ao Pn.ps->az:=(fun d=>{cuts:=(fun n=>match n with|17=>some (fun S=>{ι:=Int×(List Int)×(Int×Int),qn:=⟨fun k_=>∀(k:Int)(l:(List Int))(t:(Int×Int)),k_ (k,l,t),fun k_ h_ i=>h_ i.1 i.2.1 i.2.2,fun k_=>∃ (k:Int) (l:(List Int)) (t:(Int×Int)),k_ (k,l,t),fun k_ ⟨k,l,t,h_⟩=>⟨_,h_⟩⟩,inv:=fun i=>cq (dk d.1) (iL d.1) d.1 d.2.2.2.1=(fx (gO d.1) (hT d.1),(iH (dk d.1) d.1,(dk d.1) (g9 (dk d.1) d.1 d.2.2.2.1) (fI d.1)),2)/\(hT d.1).2.1≠[]/\(bh d.1.2.1,i.1,i.2.1,i.2.2,kI d.1.2.1)=gO d.1,keep:=[0,1,2,6,9,11],slots:=fun i=>[(8,.int .i64 (bi d.1.1 d.1.2.2.1)),(13,.int .i64 (fI d.1))],keepN:=[112,192,560,1048577],names:=fun i=>[(1048576,.live (.cells 243 (cj bw d.1.1++([.dsl cB (bh d.1.2.1),.int .i64 i.1,.own 524288 1]++(cj rK i.2.2++([.int .i64 (kI d.1.2.1),.int .i64 d.1.2.2.1,.int .i64 d.1.2.2.2.1,.dsl bj d.1.2.2.2.2.1]++cj jX d.1.2.2.2.2.2)))))),(524288,.live (.row 3 cI i.2.1))]})|_=>none)})
def jJ(a:ac)(b:List aF)(c:Int)(d:List Int)(e f g h i:Int)(j:List Int)(k:bS)(l:Int) :=
 cq (dk (a,(b,c,d,(e,f),g),h,i,j,k)) (iL (a,(b,c,d,(e,f),g),h,i,j,k)) (a,(b,c,d,(e,f),g),h,i,j,k) l
def cC(b:List aF)(c:Int)(d:List Int)(e f g:Int)(k:bS) :=
 bd (bh (b,c,d,(e,f),g)) k.2.2.2.2.2.1
def Ez(a:ac)(b:List aF)(c:Int)(d:List Int)(e f g h i:Int)(j:List Int)(k:bS)(l:Int) :=
 (fx (gO (a,(b,c,d,(e,f),g),h,i,j,k)) (hT (a,(b,c,d,(e,f),g),h,i,j,k)),(iH (dk (a,(b,c,d,(e,f),g),h,i,j,k)) (a,(b,c,d,(e,f),g),h,i,j,k),dk (a,(b,c,d,(e,f),g),h,i,j,k) (g9 (dk (a,(b,c,d,(e,f),g),h,i,j,k)) (a,(b,c,d,(e,f),g),h,i,j,k) l) (fI (a,(b,c,d,(e,f),g),h,i,j,k))),(2:Int))
def jT(a:ac)(e f i:Int) :=
 ik a.2.2.2.2.2.2.2.2.2.2.1 (e,f) i
def qu(b:List aF)(c:Int)(d:List Int)(e f g:Int)(j:List Int) :=
 bI (bh (b,c,d,(e,f),g))/\okL (bh (b,c,d,(e,f),g))/\(j.length:Int)<=1000000
def kg :=
 ((0:Int),([]:List Int))
def DX(a:ac)(b:List aF)(c:Int)(d:List Int)(e f g h i:Int)(j:List Int)(k:bS)(l n:Int)(o:List Int)(p:Int×Int) :=
 cq (dk (a,(b,c,d,(e,f),g),h,i,j,k)) (iL (a,(b,c,d,(e,f),g),h,i,j,k)) (a,(b,c,d,(e,f),g),h,i,j,k) l=(Ez a b c d e f g h i j k l)/\(hT (a,(b,c,d,(e,f),g),h,i,j,k)).2.1≠([]:List Int)/\(bh (b,c,d,(e,f),g),n,o,p,kI (b,c,d,(e,f),g))=gO (a,(b,c,d,(e,f),g),h,i,j,k)
theorem Xx :
 ∀(a:ac)(b:List aF)(c:Int)(d:List Int)(e f g h i:Int)(j:List Int)(k:bS)(l:Int),(wN a b c d e f g h i j k)/\True/\True/\(0<=l/\l<=4294967295)/\True->(qu b c d e f g j)-> ∀(m:Bool),m=decide (l=0)->(m->(m->m)/\True)/\(m->(m->m)/\True)/\(m->(m->m)/\True)/\(m->(m->m)/\True)/\(m->m)/\ad (bif m then a.2.2.2.2.2.2.2.2.2.2.2.1 else false) ((kg)=(jJ a b c d e f g h i j k l).2.1/\(4:Int)=(jJ a b c d e f g h i j k l).2.2/\(a,(b,c,d,(e,f),g),h,i,j,k)=f6 (a,(b,c,d,(e,f),g),h,i,j,k) (jJ a b c d e f g h i j k l).1/\()=()) ((j.length:Int)<=1000000/\ad (! decide (iL (a,(b,c,d,(e,f),g),h,i,j,k) (0:Int)=0)) ((kg)=(jJ a b c d e f g h i j k l).2.1/\(6:Int)=(jJ a b c d e f g h i j k l).2.2/\(a,(b,c,d,(e,f),g),h,i,j,k)=f6 (a,(b,c,d,(e,f),g),h,i,j,k) (jJ a b c d e f g h i j k l).1/\()=()) (bI (bh (b,c,d,(e,f),g))/\okL (bh (b,c,d,(e,f),g))/\ad (! d7
 (b,c,d,(e,f),g) k.2.2.2.2.2.1) ((kg)=(jJ a b c d e f g h i j k l).2.1/\(8:Int)=(jJ a b c d e f g h i j k l).2.2/\(a,(b,c,d,(e,f),g),h,i,j,k)=f6 (a,(b,c,d,(e,f),g),h,i,j,k) (jJ a b c d e f g h i j k l).1/\()=()) (ad (! (jT a e f i).2) ((kg)=(jJ a b c d e f g h i j k l).2.1/\(5:Int)=(jJ a b c d e f g h i j k l).2.2/\(a,(b,c,d,(jT a e f i).1,g),h,i,j,k)=f6 (a,(b,c,d,(e,f),g),h,i,j,k) (jJ a b c d e f g h i j k l).1/\()=()) (ad (decide (bi a h<(d.length:Int))) (0<=bi a h/\bi a h<(d.length:Int)/\0<=bi a h/\bi a h<(d.length:Int)/\ ∃(n:Int) (o:List Int),∃(p:Int×Int),(DX a b c d e f g h i j k l n o p)/\l=l/\bi a h=bi a h/\jx a (b,c,d,(jT a e f i).1,g) (bi a h) i k.2.1 k.2.2.2.2.2.1=fI (a,(b,c,d,(e,f),g),h,i,j,k)/\(0:Int)=0/\(cC b c d e f g k).1.1=(cC b c d e f g k).1.1/\(cC b c d e f g k).1.2=(cC b c d e f g k).1.2/\(cC b c d e f g
 k).2.1=(cC b c d e f g k).2.1/\(cC b c d e f g k).2.2=(cC b c d e f g k).2.2/\dk (a,(b,c,d,(e,f),g),h,i,j,k) (adr a (bi a h)) (0:Int)=dk (a,(b,c,d,(e,f),g),h,i,j,k) (adr a (bi a h)) (0:Int)/\a.1=a.1/\a.2.1=a.2.1/\a.2.2.1=a.2.2.1/\a.2.2.2.1=a.2.2.2.1/\a.2.2.2.2.1=a.2.2.2.2.1/\a.2.2.2.2.2.1=a.2.2.2.2.2.1/\a.2.2.2.2.2.2.1=a.2.2.2.2.2.2.1/\a.2.2.2.2.2.2.2.1=a.2.2.2.2.2.2.2.1/\a.2.2.2.2.2.2.2.2.1=a.2.2.2.2.2.2.2.2.1/\a.2.2.2.2.2.2.2.2.2.1=a.2.2.2.2.2.2.2.2.2.1/\a.2.2.2.2.2.2.2.2.2.2.1.1=a.2.2.2.2.2.2.2.2.2.2.1.1/\a.2.2.2.2.2.2.2.2.2.2.1.2=a.2.2.2.2.2.2.2.2.2.2.1.2/\a.2.2.2.2.2.2.2.2.2.2.2.1=a.2.2.2.2.2.2.2.2.2.2.2.1/\a.2.2.2.2.2.2.2.2.2.2.2.2.1=a.2.2.2.2.2.2.2.2.2.2.2.2.1/\a.2.2.2.2.2.2.2.2.2.2.2.2.2.1=a.2.2.2.2.2.2.2.2.2.2.2.2.2.1/\a.2.2.2.2.2.2.2.2.2.2.2.2.2.2=a.2.2.2.2.2.2.2.2.2.2.2.2.2.2/\b=bh (b,c,d,(e,f),g)/\IntKind.wrap .i64 (c+(1:Int))=n/\(jT a e f
 i).1.1=p.1/\(jT a e f i).1.2=p.2/\g=kI (b,c,d,(e,f),g)/\h=h/\i=i/\j=j/\k.1=k.1/\k.2.1=k.2.1/\k.2.2.1=k.2.2.1/\k.2.2.2.1=k.2.2.2.1/\k.2.2.2.2.1=k.2.2.2.2.1/\k.2.2.2.2.2.1=k.2.2.2.2.2.1/\k.2.2.2.2.2.2=k.2.2.2.2.2.2/\List.set d (Int.toNat (bi a h)) (IntKind.wrap .i64 (d.getD (Int.toNat (bi a h)) default+(1:Int)))=o/\True) (∃(n:Int) (o:List Int),∃(p:Int×Int),(DX a b c d e f g h i j k l n o p)/\l=l/\bi a h=bi a h/\jx a (b,c,d,(jT a e f i).1,g) (bi a h) i k.2.1 k.2.2.2.2.2.1=fI (a,(b,c,d,(e,f),g),h,i,j,k)/\(0:Int)=0/\(cC b c d e f g k).1.1=(cC b c d e f g k).1.1/\(cC b c d e f g k).1.2=(cC b c d e f g k).1.2/\(cC b c d e f g k).2.1=(cC b c d e f g k).2.1/\(cC b c d e f g k).2.2=(cC b c d e f g k).2.2/\dk (a,(b,c,d,(e,f),g),h,i,j,k) (adr a (bi a h)) (0:Int)=dk (a,(b,c,d,(e,f),g),h,i,j,k) (adr a (bi a h))
 (0:Int)/\a.1=a.1/\a.2.1=a.2.1/\a.2.2.1=a.2.2.1/\a.2.2.2.1=a.2.2.2.1/\a.2.2.2.2.1=a.2.2.2.2.1/\a.2.2.2.2.2.1=a.2.2.2.2.2.1/\a.2.2.2.2.2.2.1=a.2.2.2.2.2.2.1/\a.2.2.2.2.2.2.2.1=a.2.2.2.2.2.2.2.1/\a.2.2.2.2.2.2.2.2.1=a.2.2.2.2.2.2.2.2.1/\a.2.2.2.2.2.2.2.2.2.1=a.2.2.2.2.2.2.2.2.2.1/\a.2.2.2.2.2.2.2.2.2.2.1.1=a.2.2.2.2.2.2.2.2.2.2.1.1/\a.2.2.2.2.2.2.2.2.2.2.1.2=a.2.2.2.2.2.2.2.2.2.2.1.2/\a.2.2.2.2.2.2.2.2.2.2.2.1=a.2.2.2.2.2.2.2.2.2.2.2.1/\a.2.2.2.2.2.2.2.2.2.2.2.2.1=a.2.2.2.2.2.2.2.2.2.2.2.2.1/\a.2.2.2.2.2.2.2.2.2.2.2.2.2.1=a.2.2.2.2.2.2.2.2.2.2.2.2.2.1/\a.2.2.2.2.2.2.2.2.2.2.2.2.2.2=a.2.2.2.2.2.2.2.2.2.2.2.2.2.2/\b=bh (b,c,d,(e,f),g)/\IntKind.wrap .i64 (c+(1:Int))=n/\(jT a e f i).1.1=p.1/\(jT a e f i).1.2=p.2/\g=kI
 (b,c,d,(e,f),g)/\h=h/\i=i/\j=j/\k.1=k.1/\k.2.1=k.2.1/\k.2.2.1=k.2.2.1/\k.2.2.2.1=k.2.2.2.1/\k.2.2.2.2.1=k.2.2.2.2.1/\k.2.2.2.2.2.1=k.2.2.2.2.2.1/\k.2.2.2.2.2.2=k.2.2.2.2.2.2/\d=o/\True)/\ ∀(n:Int)(o:List Int)(p:Int×Int),cq (dk (a,(b,c,d,(e,f),g),h,i,j,k)) (iL (a,(b,c,d,(e,f),g),h,i,j,k)) (a,(b,c,d,(e,f),g),h,i,j,k) l=(Ez a b c d e f g h i j k l)/\(hT (a,(b,c,d,(e,f),g),h,i,j,k)).2.1≠([]:List Int)/\(bh (b,c,d,(e,f),g),n,o,p,kI (b,c,d,(e,f),g))=gO (a,(b,c,d,(e,f),g),h,i,j,k)->(cC b c d e f g k).2.1≠([]:List Int)/\((List.length (dk (a,(b,c,d,(e,f),g),h,i,j,k) (adr a (bi a h)) (0:Int))):Int)<=1000000/\ad (decide (l=0)) ((j.length:Int)<=1000000/\(gZ a (b,n,o,p,g) (cC b c d e f g k) (fp (dk (a,(b,c,d,(e,f),g),h,i,j,k) (adr a (bi a h)) (0:Int))),dk (a,fx (b,n,o,p,g) (cC b c d e f g k),h,i,j,k) (jg a (bi a h) (gZ a (b,n,o,p,g)
 (cC b c d e f g k) (fp (dk (a,(b,c,d,(e,f),g),h,i,j,k) (adr a (bi a h)) (0:Int))))) (fI (a,(b,c,d,(e,f),g),h,i,j,k)))=(jJ a b c d e f g h i j k l).2.1/\(2:Int)=(jJ a b c d e f g h i j k l).2.2/\(a,fx (b,n,o,p,g) (cC b c d e f g k),h,i,j,k)=f6 (a,(b,c,d,(e,f),g),h,i,j,k) (jJ a b c d e f g h i j k l).1/\()=()) ((j.length:Int)<=1000000/\(gZ a (b,n,o,p,g) (cC b c d e f g k) (fp (dk (a,(b,c,d,(e,f),g),h,i,j,k) (adr a (bi a h)) (0:Int))),dk (a,fx (b,n,o,p,g) (cC b c d e f g k),h,i,j,k) l (fI (a,(b,c,d,(e,f),g),h,i,j,k)))=(jJ a b c d e f g h i j k l).2.1/\(2:Int)=(jJ a b c d e f g h i j k l).2.2/\(a,fx (b,n,o,p,g) (cC b c d e f g k),h,i,j,k)=f6 (a,(b,c,d,(e,f),g),h,i,j,k) (jJ a b c d e f g h i j k l).1/\()=()))))):=by
  delta jJ cC wN Ez jT qu kg DX
  rintro d x x1 x2 x3 x4 x5 x6 x7 x8 h own-⟨hs,hl,hb⟩
  obtain⟨w,hw⟩:∃ w:cy,w=(d,(x,x1,x2,(x3,x4),x5),x6,x7,x8,h):=⟨_,rfl⟩
  have e0:d.2.2.2.2.2.2.2.2.2.2.2.1=jH w.1:=by rw[hw];rfl
  have e2:d7 (x,x1,x2,(x3,x4),x5) h.2.2.2.2.2.1=d7 w.2.1 (j8 w.2.2.2.2.2):=by rw[hw];rfl
  have e3:ik d.2.2.2.2.2.2.2.2.2.2.1 (x3,x4) x7=jr w:=by rw[hw];rfl
  rw[e0,e2,e3,← hw]
  have fin:=fun {s o y}=>Bq (r:=cq (dk w) (iL w) w own) (s:=s) (o:=o) (y:=y) w
  intro b hb0
  (repeat refine⟨(by first|(simp;done)|(rw[hb0];simp;done)|(cases b <;> simp)),?_⟩)
  have hq:(bif b then jH w.1 else false)=true↔own=0/\jH w.1=true:=by rw[hb0];by_cases k:own=0 <;> simp[k]
  refine ae (fun h0=>?_) (fun h0=>?_)
  ·obtain⟨f1,f2,f3⟩:=fin (tM (hq.1 h0))
   exact⟨f1,f2,by rw[← f3,hw];rfl,rfl⟩
  have h0:¬ (own=0/\jH w.1=true):=fun k=>by rw[hq.2 k] at h0;cases h0
  refine⟨hb,ae (fun h1=>?_) (fun h1=>?_)⟩
  ·obtain⟨f1,f2,f3⟩:=fin (ue h0 (by simpa using h1))
   exact⟨f1,f2,by rw[← f3,hw];rfl,rfl⟩
  have h1:¬ (iL w) 0≠0:=by simpa using h1
  refine⟨hs,hl,ae (fun h2=>?_) (fun h2=>?_)⟩
  ·obtain⟨f1,f2,f3⟩:=fin (ww h0 h1 (by simpa using h2))
   exact⟨f1,f2,by rw[← f3,hw];rfl,rfl⟩
  have h2:¬ d7 w.2.1 (j8 w.2.2.2.2.2)=false:=by simpa using h2
  refine ae (fun h3=>?_) (fun h3=>⟨?_,?_⟩)
  ·obtain⟨f1,f2,f3⟩:=fin (u3 h0 h1 h2 (by simpa using h3))
   exact⟨f1,f2,by rw[← f3,hw];rfl,rfl⟩
  ·have h3:¬ (jr w).2=false:=by simpa using h3
   have eg:=vU (B:=dk w) h0 h1 h2 h3
   have hne:(hT w).2.1≠[]:=yD h2
   have hin:=An d x6
   have oD:jx d (x,x1,x2,(jr w).1,x5) (bi d x6) x7 h.2.1 h.2.2.2.2.2.1=fI w:=by rw[← e3,hw];rfl
   have hS:gO w=(x,IntKind.i64.wrap (x1+1),nK x2 (bi d x6),(jr w).1,x5):=by rw[← e3,hw];rfl
   refine ae (fun h4=>?_) (fun h4=>?_)
   ·have h4:=of_decide_eq_true h4
    refine⟨hin,h4,hin,h4,_,_,_,⟨eg,hne,?_⟩,rfl,rfl,oD,(by repeat' first|exact trivial|refine⟨trivial,?_⟩|refine⟨(by with_reducible rfl),?_⟩|refine⟨af (by omega) (by omega),?_⟩|refine⟨rfl,?_⟩)⟩
    rw[hS,DP h4];rfl
   ·have h4:=of_decide_eq_false h4
    refine⟨_,_,_,⟨eg,hne,?_⟩,rfl,rfl,oD,(by repeat' first|exact trivial|refine⟨trivial,?_⟩|refine⟨(by with_reducible rfl),?_⟩|refine⟨af (by omega) (by omega),?_⟩|refine⟨rfl,?_⟩)⟩
    rw[hS,Nh h4];rfl
  ·rintro k l t ⟨eg,hne,hS⟩
   have e4:bd (bh (x,x1,x2,(x3,x4),x5)) h.2.2.2.2.2.1=hT w:=by rw[hw];rfl
   have e5:(x,k,l,t,x5)=gO w:=hS
   have e6:gZ d (gO w) (hT w) (fp ((dk w) (adr d (bi d x6)) 0))=iH (dk w) w:=by rw[hw];rfl
   rw[e4,e5,e6]
   obtain⟨f1,f2,f3⟩:=fin eg
   have hlen:=LY w (adr d (bi d x6)) 0
   refine⟨hne,by omega,ae (fun h4=>?_) (fun h4=>?_)⟩
   ·have h4:=of_decide_eq_true h4
    refine⟨hb,?_,f2,by rw[← f3,hw];rfl,rfl⟩
    rw[← f1];unfold g9;rw[if_pos h4,hw];rfl
   ·have h4:=of_decide_eq_false h4
    refine⟨hb,?_,f2,by rw[← f3,hw];rfl,rfl⟩
    rw[← f1];unfold g9;rw[if_neg h4,hw];rfl
theorem Vf:av Tryz.prog GL 245 Pn.spec:=Ct.okH _ Tryz.func245 (by kernel_rfl) (ai (ai (ai (ai (ai (ai (ai (ai aC NC) Gd) Mk) Ey) HW) Ih) Da) OD) ar YJ (aD (by kernel_rfl) Xx)
def It:Ct:=⟨[.box 243 mE,.fn 277 3,.box 241 .ali,.box 3 cI,.box 3 cI,.val ce],[.agg sX,.val cI],fun d=>[lZ d.1],fun d=>(((cq (cT d.1 d.2.2.2.1 d.2.2.2.2.1) (iE d.1 d.2.2.2.1 d.2.2.2.2.1) d.1 d.2.2.2.2.2.1).2.1,(cq (cT d.1 d.2.2.2.1 d.2.2.2.2.1) (iE d.1 d.2.2.2.1 d.2.2.2.2.1) d.1 d.2.2.2.2.2.1).2.2,()),(f6 d.1 (cq (cT d.1 d.2.2.2.1 d.2.2.2.2.1) (iE d.1 d.2.2.2.1 d.2.2.2.2.1) d.1 d.2.2.2.2.2.1).1,(),d.2.2.2.1,d.2.2.2.2.1,()))⟩
def SI:ao It.ps->az:=(fun d=>{cuts:=(fun n=>match n with|17=>some (fun S=>{ι:=Int×(List Int)×(Int×Int),qn:=⟨fun k_=>∀(k:Int)(l:(List Int))(t:(Int×Int)),k_ (k,l,t),fun k_ h_ i=>h_ i.1 i.2.1 i.2.2,fun k_=>∃ (k:Int) (l:(List Int)) (t:(Int×Int)),k_ (k,l,t),fun k_ ⟨k,l,t,h_⟩=>⟨_,h_⟩⟩,inv:=fun i=>cq (cT d.1 d.2.2.2.1 d.2.2.2.2.1) (iE d.1 d.2.2.2.1 d.2.2.2.2.1) d.1 d.2.2.2.2.2.1=(fx (gO d.1) (hT d.1),(iH (cT d.1 d.2.2.2.1 d.2.2.2.2.1) d.1,(cT d.1 d.2.2.2.1 d.2.2.2.2.1) (g9 (cT d.1 d.2.2.2.1 d.2.2.2.2.1) d.1 d.2.2.2.2.2.1) (fI d.1)),2)/\(hT d.1).2.1≠[]/\(bh d.1.2.1,i.1,i.2.1,i.2.2,kI d.1.2.1)=gO d.1,keep:=[0,1,2,6,9,11],slots:=fun i=>[(8,.int .i64 (bi d.1.1 d.1.2.2.1)),(13,.int .i64 (fI d.1))],keepN:=[112,192,560,1048577,1048578,1048579],names:=fun i=>[(1048576,.live (.cells 243 (cj bw d.1.1++([.dsl cB (bh d.1.2.1),.int .i64 i.1,.own 524288 1]++(cj rK i.2.2++([.int .i64 (kI d.1.2.1),.int .i64 d.1.2.2.1,.int .i64 d.1.2.2.2.1,.dsl bj d.1.2.2.2.2.1]++cj jX d.1.2.2.2.2.2)))))),(524288,.live (.row 3 cI i.2.1))]})|_=>none)})
def jL(a:ac)(b:List aF)(c:Int)(d:List Int)(e f g h i:Int)(j:List Int)(k:bS)(l m n:Int) :=
 cq (cT (a,(b,c,d,(e,f),g),h,i,j,k) l m) (iE (a,(b,c,d,(e,f),g),h,i,j,k) l m) (a,(b,c,d,(e,f),g),h,i,j,k) n
def CY(a:ac)(b:List aF)(c:Int)(d:List Int)(e f g h i:Int)(j:List Int)(k:bS)(l m n:Int) :=
 (fx (gO (a,(b,c,d,(e,f),g),h,i,j,k)) (hT (a,(b,c,d,(e,f),g),h,i,j,k)),(iH (cT (a,(b,c,d,(e,f),g),h,i,j,k) l m) (a,(b,c,d,(e,f),g),h,i,j,k),cT (a,(b,c,d,(e,f),g),h,i,j,k) l m (g9 (cT (a,(b,c,d,(e,f),g),h,i,j,k) l m) (a,(b,c,d,(e,f),g),h,i,j,k) n) (fI (a,(b,c,d,(e,f),g),h,i,j,k))),(2:Int))
def EP(a:ac)(b:List aF)(c:Int)(d:List Int)(e f g h i:Int)(j:List Int)(k:bS)(l m n p:Int)(q:List Int)(r:Int×Int) :=
 cq (cT (a,(b,c,d,(e,f),g),h,i,j,k) l m) (iE (a,(b,c,d,(e,f),g),h,i,j,k) l m) (a,(b,c,d,(e,f),g),h,i,j,k) n=(CY a b c d e f g h i j k l m n)/\(hT (a,(b,c,d,(e,f),g),h,i,j,k)).2.1≠([]:List Int)/\(bh (b,c,d,(e,f),g),p,q,r,kI (b,c,d,(e,f),g))=gO (a,(b,c,d,(e,f),g),h,i,j,k)
theorem Qg :
 ∀(a:ac)(b:List aF)(c:Int)(d:List Int)(e f g h i:Int)(j:List Int)(k:bS)(l m n:Int),(CT.wf bw a/\((b.length<=maxLen/\ ∀(o:aF),o∈b->((0<=o.1.1/\o.1.1<=4294967295)/\ab o.1.2)/\(o.2.1.length<=maxLen/\ ∀(p:Int),p∈o.2.1->ab p)/\ab o.2.2)/\ab c/\(d.length<=maxLen/\ ∀(o:Int),o∈d->ab o)/\(ab e/\ab f)/\ab g)/\ab h/\ab i/\(j.length<=maxLen/\ ∀(o:Int),o∈j->0<=o/\o<=255)/\CT.wf jX k)/\True/\True/\ab l/\ab m/\(0<=n/\n<=4294967295)/\True->(qu b c d e f g j)-> ∀(o:Bool),o=decide (n=0)->(o->(o->o)/\True)/\(o->(o->o)/\True)/\(o->(o->o)/\True)/\(o->(o->o)/\True)/\(o->o)/\ad (bif o then a.2.2.2.2.2.2.2.2.2.2.2.1 else false) ((kg)=(jL a b c d e f g h i j k l m n).2.1/\(4:Int)=(jL a b c d e f g h i j k l m n).2.2/\(a,(b,c,d,(e,f),g),h,i,j,k)=f6 (a,(b,c,d,(e,f),g),h,i,j,k) (jL a b c d e f g h i j k l m n).1/\()=()/\l=l/\m=m) ((j.length:Int)<=1000000/\ad (!
 decide (iE (a,(b,c,d,(e,f),g),h,i,j,k) l m (0:Int)=0)) ((kg)=(jL a b c d e f g h i j k l m n).2.1/\(6:Int)=(jL a b c d e f g h i j k l m n).2.2/\(a,(b,c,d,(e,f),g),h,i,j,k)=f6 (a,(b,c,d,(e,f),g),h,i,j,k) (jL a b c d e f g h i j k l m n).1/\()=()/\l=l/\m=m) (bI (bh (b,c,d,(e,f),g))/\okL (bh (b,c,d,(e,f),g))/\ad (! d7 (b,c,d,(e,f),g) k.2.2.2.2.2.1) ((kg)=(jL a b c d e f g h i j k l m n).2.1/\(8:Int)=(jL a b c d e f g h i j k l m n).2.2/\(a,(b,c,d,(e,f),g),h,i,j,k)=f6 (a,(b,c,d,(e,f),g),h,i,j,k) (jL a b c d e f g h i j k l m n).1/\()=()/\l=l/\m=m) (ad (! (jT a e f i).2) ((kg)=(jL a b c d e f g h i j k l m n).2.1/\(5:Int)=(jL a b c d e f g h i j k l m n).2.2/\(a,(b,c,d,(jT a e f i).1,g),h,i,j,k)=f6 (a,(b,c,d,(e,f),g),h,i,j,k) (jL a b c d e f g h i j k l m n).1/\()=()/\l=l/\m=m) (ad (decide (bi a h<(d.length:Int))) (0<=bi a h/\bi
 a h<(d.length:Int)/\0<=bi a h/\bi a h<(d.length:Int)/\ ∃(p:Int) (q:List Int),∃(r:Int×Int),(EP a b c d e f g h i j k l m n p q r)/\n=n/\bi a h=bi a h/\jx a (b,c,d,(jT a e f i).1,g) (bi a h) i k.2.1 k.2.2.2.2.2.1=fI (a,(b,c,d,(e,f),g),h,i,j,k)/\(0:Int)=0/\(cC b c d e f g k).1.1=(cC b c d e f g k).1.1/\(cC b c d e f g k).1.2=(cC b c d e f g k).1.2/\(cC b c d e f g k).2.1=(cC b c d e f g k).2.1/\(cC b c d e f g k).2.2=(cC b c d e f g k).2.2/\cT (a,(b,c,d,(e,f),g),h,i,j,k) l m (adr a (bi a h)) (0:Int)=cT (a,(b,c,d,(e,f),g),h,i,j,k) l m (adr a (bi a h))
 (0:Int)/\l=l/\m=m/\a.1=a.1/\a.2.1=a.2.1/\a.2.2.1=a.2.2.1/\a.2.2.2.1=a.2.2.2.1/\a.2.2.2.2.1=a.2.2.2.2.1/\a.2.2.2.2.2.1=a.2.2.2.2.2.1/\a.2.2.2.2.2.2.1=a.2.2.2.2.2.2.1/\a.2.2.2.2.2.2.2.1=a.2.2.2.2.2.2.2.1/\a.2.2.2.2.2.2.2.2.1=a.2.2.2.2.2.2.2.2.1/\a.2.2.2.2.2.2.2.2.2.1=a.2.2.2.2.2.2.2.2.2.1/\a.2.2.2.2.2.2.2.2.2.2.1.1=a.2.2.2.2.2.2.2.2.2.2.1.1/\a.2.2.2.2.2.2.2.2.2.2.1.2=a.2.2.2.2.2.2.2.2.2.2.1.2/\a.2.2.2.2.2.2.2.2.2.2.2.1=a.2.2.2.2.2.2.2.2.2.2.2.1/\a.2.2.2.2.2.2.2.2.2.2.2.2.1=a.2.2.2.2.2.2.2.2.2.2.2.2.1/\a.2.2.2.2.2.2.2.2.2.2.2.2.2.1=a.2.2.2.2.2.2.2.2.2.2.2.2.2.1/\a.2.2.2.2.2.2.2.2.2.2.2.2.2.2=a.2.2.2.2.2.2.2.2.2.2.2.2.2.2/\b=bh (b,c,d,(e,f),g)/\IntKind.wrap .i64 (c+(1:Int))=p/\(jT a e f i).1.1=r.1/\(jT a e f i).1.2=r.2/\g=kI
 (b,c,d,(e,f),g)/\h=h/\i=i/\j=j/\k.1=k.1/\k.2.1=k.2.1/\k.2.2.1=k.2.2.1/\k.2.2.2.1=k.2.2.2.1/\k.2.2.2.2.1=k.2.2.2.2.1/\k.2.2.2.2.2.1=k.2.2.2.2.2.1/\k.2.2.2.2.2.2=k.2.2.2.2.2.2/\List.set d (Int.toNat (bi a h)) (IntKind.wrap .i64 (d.getD (Int.toNat (bi a h)) default+(1:Int)))=q/\True) (∃(p:Int) (q:List Int),∃(r:Int×Int),(EP a b c d e f g h i j k l m n p q r)/\n=n/\bi a h=bi a h/\jx a (b,c,d,(jT a e f i).1,g) (bi a h) i k.2.1 k.2.2.2.2.2.1=fI (a,(b,c,d,(e,f),g),h,i,j,k)/\(0:Int)=0/\(cC b c d e f g k).1.1=(cC b c d e f g k).1.1/\(cC b c d e f g k).1.2=(cC b c d e f g k).1.2/\(cC b c d e f g k).2.1=(cC b c d e f g k).2.1/\(cC b c d e f g k).2.2=(cC b c d e f g k).2.2/\cT (a,(b,c,d,(e,f),g),h,i,j,k) l m (adr a (bi a h)) (0:Int)=cT (a,(b,c,d,(e,f),g),h,i,j,k) l m (adr a (bi a h))
 (0:Int)/\l=l/\m=m/\a.1=a.1/\a.2.1=a.2.1/\a.2.2.1=a.2.2.1/\a.2.2.2.1=a.2.2.2.1/\a.2.2.2.2.1=a.2.2.2.2.1/\a.2.2.2.2.2.1=a.2.2.2.2.2.1/\a.2.2.2.2.2.2.1=a.2.2.2.2.2.2.1/\a.2.2.2.2.2.2.2.1=a.2.2.2.2.2.2.2.1/\a.2.2.2.2.2.2.2.2.1=a.2.2.2.2.2.2.2.2.1/\a.2.2.2.2.2.2.2.2.2.1=a.2.2.2.2.2.2.2.2.2.1/\a.2.2.2.2.2.2.2.2.2.2.1.1=a.2.2.2.2.2.2.2.2.2.2.1.1/\a.2.2.2.2.2.2.2.2.2.2.1.2=a.2.2.2.2.2.2.2.2.2.2.1.2/\a.2.2.2.2.2.2.2.2.2.2.2.1=a.2.2.2.2.2.2.2.2.2.2.2.1/\a.2.2.2.2.2.2.2.2.2.2.2.2.1=a.2.2.2.2.2.2.2.2.2.2.2.2.1/\a.2.2.2.2.2.2.2.2.2.2.2.2.2.1=a.2.2.2.2.2.2.2.2.2.2.2.2.2.1/\a.2.2.2.2.2.2.2.2.2.2.2.2.2.2=a.2.2.2.2.2.2.2.2.2.2.2.2.2.2/\b=bh (b,c,d,(e,f),g)/\IntKind.wrap .i64 (c+(1:Int))=p/\(jT a e f i).1.1=r.1/\(jT a e f i).1.2=r.2/\g=kI
 (b,c,d,(e,f),g)/\h=h/\i=i/\j=j/\k.1=k.1/\k.2.1=k.2.1/\k.2.2.1=k.2.2.1/\k.2.2.2.1=k.2.2.2.1/\k.2.2.2.2.1=k.2.2.2.2.1/\k.2.2.2.2.2.1=k.2.2.2.2.2.1/\k.2.2.2.2.2.2=k.2.2.2.2.2.2/\d=q/\True)/\ ∀(p:Int)(q:List Int)(r:Int×Int),cq (cT (a,(b,c,d,(e,f),g),h,i,j,k) l m) (iE (a,(b,c,d,(e,f),g),h,i,j,k) l m) (a,(b,c,d,(e,f),g),h,i,j,k) n=(CY a b c d e f g h i j k l m n)/\(hT (a,(b,c,d,(e,f),g),h,i,j,k)).2.1≠([]:List Int)/\(bh (b,c,d,(e,f),g),p,q,r,kI (b,c,d,(e,f),g))=gO (a,(b,c,d,(e,f),g),h,i,j,k)->(cC b c d e f g k).2.1≠([]:List Int)/\((List.length (cT (a,(b,c,d,(e,f),g),h,i,j,k) l m (adr a (bi a h)) (0:Int))):Int)<=1000000/\ad (decide (n=0)) ((j.length:Int)<=1000000/\(gZ a (b,p,q,r,g) (cC b c d e f g k) (fp (cT (a,(b,c,d,(e,f),g),h,i,j,k) l m (adr a (bi a h)) (0:Int))),cT (a,fx (b,p,q,r,g) (cC b c d e f g k),h,i,j,k) l m (jg a (bi a h)
 (gZ a (b,p,q,r,g) (cC b c d e f g k) (fp (cT (a,(b,c,d,(e,f),g),h,i,j,k) l m (adr a (bi a h)) (0:Int))))) (fI (a,(b,c,d,(e,f),g),h,i,j,k)))=(jL a b c d e f g h i j k l m n).2.1/\(2:Int)=(jL a b c d e f g h i j k l m n).2.2/\(a,fx (b,p,q,r,g) (cC b c d e f g k),h,i,j,k)=f6 (a,(b,c,d,(e,f),g),h,i,j,k) (jL a b c d e f g h i j k l m n).1/\()=()/\l=l/\m=m) ((j.length:Int)<=1000000/\(gZ a (b,p,q,r,g) (cC b c d e f g k) (fp (cT (a,(b,c,d,(e,f),g),h,i,j,k) l m (adr a (bi a h)) (0:Int))),cT (a,fx (b,p,q,r,g) (cC b c d e f g k),h,i,j,k) l m n (fI (a,(b,c,d,(e,f),g),h,i,j,k)))=(jL a b c d e f g h i j k l m n).2.1/\(2:Int)=(jL a b c d e f g h i j k l m n).2.2/\(a,fx (b,p,q,r,g) (cC b c d e f g k),h,i,j,k)=f6 (a,(b,c,d,(e,f),g),h,i,j,k) (jL a b c d e f g h i j k l m n).1/\()=()/\l=l/\m=m))))):=by
  delta jL cC CY jT qu kg EP
  rintro d x x1 x2 x3 x4 x5 x6 x7 x8 h ki co own-⟨hs,hl,hb⟩
  obtain⟨w,hw⟩:∃ w:cy,w=(d,(x,x1,x2,(x3,x4),x5),x6,x7,x8,h):=⟨_,rfl⟩
  have e0:d.2.2.2.2.2.2.2.2.2.2.2.1=jH w.1:=by rw[hw];rfl
  have e2:d7 (x,x1,x2,(x3,x4),x5) h.2.2.2.2.2.1=d7 w.2.1 (j8 w.2.2.2.2.2):=by rw[hw];rfl
  have e3:ik d.2.2.2.2.2.2.2.2.2.2.1 (x3,x4) x7=jr w:=by rw[hw];rfl
  rw[e0,e2,e3,← hw]
  have fin:=fun {s o y}=>Bq (r:=cq (cT w ki co) (iE w ki co) w own) (s:=s) (o:=o) (y:=y) w
  intro b hb0
  (repeat refine⟨(by first|(simp;done)|(rw[hb0];simp;done)|(cases b <;> simp)),?_⟩)
  have hq:(bif b then jH w.1 else false)=true↔own=0/\jH w.1=true:=by rw[hb0];by_cases k:own=0 <;> simp[k]
  refine ae (fun h0=>?_) (fun h0=>?_)
  ·obtain⟨f1,f2,f3⟩:=fin (tM (hq.1 h0))
   exact⟨f1,f2,by rw[← f3,hw];rfl,rfl,rfl,rfl⟩
  have h0:¬ (own=0/\jH w.1=true):=fun k=>by rw[hq.2 k] at h0;cases h0
  refine⟨hb,ae (fun h1=>?_) (fun h1=>?_)⟩
  ·obtain⟨f1,f2,f3⟩:=fin (ue h0 (by simpa using h1))
   exact⟨f1,f2,by rw[← f3,hw];rfl,rfl,rfl,rfl⟩
  have h1:¬ (iE w ki co) 0≠0:=by simpa using h1
  refine⟨hs,hl,ae (fun h2=>?_) (fun h2=>?_)⟩
  ·obtain⟨f1,f2,f3⟩:=fin (ww h0 h1 (by simpa using h2))
   exact⟨f1,f2,by rw[← f3,hw];rfl,rfl,rfl,rfl⟩
  have h2:¬ d7 w.2.1 (j8 w.2.2.2.2.2)=false:=by simpa using h2
  refine ae (fun h3=>?_) (fun h3=>⟨?_,?_⟩)
  ·obtain⟨f1,f2,f3⟩:=fin (u3 h0 h1 h2 (by simpa using h3))
   exact⟨f1,f2,by rw[← f3,hw];rfl,rfl,rfl,rfl⟩
  ·have h3:¬ (jr w).2=false:=by simpa using h3
   have eg:=vU (B:=cT w ki co) h0 h1 h2 h3
   have hne:(hT w).2.1≠[]:=yD h2
   have hin:=An d x6
   have oD:jx d (x,x1,x2,(jr w).1,x5) (bi d x6) x7 h.2.1 h.2.2.2.2.2.1=fI w:=by rw[← e3,hw];rfl
   have hS:gO w=(x,IntKind.i64.wrap (x1+1),nK x2 (bi d x6),(jr w).1,x5):=by rw[← e3,hw];rfl
   refine ae (fun h4=>?_) (fun h4=>?_)
   ·have h4:=of_decide_eq_true h4
    refine⟨hin,h4,hin,h4,_,_,_,⟨eg,hne,?_⟩,rfl,rfl,oD,(by repeat' first|exact trivial|refine⟨trivial,?_⟩|refine⟨(by with_reducible rfl),?_⟩|refine⟨af (by omega) (by omega),?_⟩|refine⟨rfl,?_⟩)⟩
    rw[hS,DP h4];rfl
   ·have h4:=of_decide_eq_false h4
    refine⟨_,_,_,⟨eg,hne,?_⟩,rfl,rfl,oD,(by repeat' first|exact trivial|refine⟨trivial,?_⟩|refine⟨(by with_reducible rfl),?_⟩|refine⟨af (by omega) (by omega),?_⟩|refine⟨rfl,?_⟩)⟩
    rw[hS,Nh h4];rfl
  ·rintro k l t ⟨eg,hne,hS⟩
   have e4:bd (bh (x,x1,x2,(x3,x4),x5)) h.2.2.2.2.2.1=hT w:=by rw[hw];rfl
   have e5:(x,k,l,t,x5)=gO w:=hS
   have e6:gZ d (gO w) (hT w) (fp ((cT w ki co) (adr d (bi d x6)) 0))=iH (cT w ki co) w:=by rw[hw];rfl
   rw[e4,e5,e6]
   obtain⟨f1,f2,f3⟩:=fin eg
   have hlen:=BR w ki co (adr d (bi d x6)) 0
   refine⟨hne,by omega,ae (fun h4=>?_) (fun h4=>?_)⟩
   ·have h4:=of_decide_eq_true h4
    refine⟨hb,?_,f2,by rw[← f3,hw];rfl,rfl,rfl,rfl⟩
    rw[← f1];unfold g9;rw[if_pos h4,hw];rfl
   ·have h4:=of_decide_eq_false h4
    refine⟨hb,?_,f2,by rw[← f3,hw];rfl,rfl,rfl,rfl⟩
    rw[← f1];unfold g9;rw[if_neg h4,hw];rfl
theorem SW:av Tryz.prog GL 245 It.spec:=Ct.okH _ Tryz.func245 (by kernel_rfl) (ai (ai (ai (ai (ai (ai (ai (ai aC NC) Gd) UG) Ey) HW) Ih) Da) OD) ar SI (aD (by kernel_rfl) Qg)
def Px:Ct:=⟨[.box 243 mE],[.agg sX,.val cI],fun d=>[lZ d.1],fun d=>(((gc d.1).2.1,(gc d.1).2.2,()),(f6 d.1 (gc d.1).1,()))⟩
def Tm:ao Px.ps->az:=(fun _=>{})
def AR(a:ac)(b:List aF)(c:Int)(d:List Int)(e f g h i:Int)(j:List Int)(k:bS) :=
 cq (dk (a,(b,c,d,(e,f),g),h,i,j,k)) (iL (a,(b,c,d,(e,f),g),h,i,j,k)) (a,(b,c,d,(e,f),g),h,i,j,k) k.2.2.2.2.2.2
def yZ(a:ac)(b:List aF)(c:Int)(d:List Int)(e f g h i:Int)(j:List Int)(k:bS) :=
 cq (dk (a,(b,c,d,(e,f),g),h,i,j,k)) (iL (a,(b,c,d,(e,f),g),h,i,j,k)) (a,(b,c,d,(e,f),g),h,i,j,k) (0:Int)
theorem aj9 :
 ∀(a:ac)(b:List aF)(c:Int)(d:List Int)(e f g h i:Int)(j:List Int)(k:bS),(rG a b c d e f g h i j k)/\True->(qu b c d e f g j)->(j.length:Int)<=1000000/\ ∀(l:Bool),l=decide (h= -1)->((! l)->((! l)->(! l))/\True)/\(l=false->(! l))/\ad (bif l then true else ! decide (iL (a,(b,c,d,(e,f),g),h,i,j,k) (0:Int)=0)) ((kg)=(gc (a,(b,c,d,(e,f),g),h,i,j,k)).2.1/\(1:Int)=(gc (a,(b,c,d,(e,f),g),h,i,j,k)).2.2/\(a,(b,c,d,(e,f),g),h,i,j,k)=f6 (a,(b,c,d,(e,f),g),h,i,j,k) (gc (a,(b,c,d,(e,f),g),h,i,j,k)).1) (ad (decide (k.2.2.2.1=17)) (lZ (a,(b,c,d,(e,f),g),h,i,j,k)/\(yZ a b c d e f g h i j k).2.1=(gc (a,(b,c,d,(e,f),g),h,i,j,k)).2.1/\(yZ a b c d e f g h i j k).2.2=(gc (a,(b,c,d,(e,f),g),h,i,j,k)).2.2/\(a,(yZ a b c d e f g h i j k).1,h,i,j,k)=f6 (a,(b,c,d,(e,f),g),h,i,j,k) (gc (a,(b,c,d,(e,f),g),h,i,j,k)).1) (lZ (a,(b,c,d,(e,f),g),h,i,j,k)/\(AR a
 b c d e f g h i j k).2.1=(gc (a,(b,c,d,(e,f),g),h,i,j,k)).2.1/\(AR a b c d e f g h i j k).2.2=(gc (a,(b,c,d,(e,f),g),h,i,j,k)).2.2/\(a,(AR a b c d e f g h i j k).1,h,i,j,k)=f6 (a,(b,c,d,(e,f),g),h,i,j,k) (gc (a,(b,c,d,(e,f),g),h,i,j,k)).1)):=by
  delta rG qu kg AR yZ
  rintro d x x1 x2 x3 x4 x5 x6 x7 x8 h-⟨hs,hl,hb⟩
  obtain⟨w,hw⟩:∃ w:cy,w=(d,(x,x1,x2,(x3,x4),x5),x6,x7,x8,h):=⟨_,rfl⟩
  rw[← hw]
  have fin:=fun {s o y}=>Bq (r:=gc w) (s:=s) (o:=o) (y:=y) w
  have e0:w.2.2.1=x6:=by rw[hw]
  have e1:h=w.2.2.2.2.2:=by rw[hw]
  have okw:lZ w:=by rw[hw];exact⟨hs,hl,hb⟩
  refine⟨hb,?_⟩
  (repeat (intro (b_:Bool) (hb_:b_=_);(repeat refine⟨(by first|(simp;done)|(rw[hb_];simp;done)|(rw[hb_];simp;omega)|(rw[hb_];simp;intros;omega)|(rw[hb_];simp +contextual;done)),?_⟩);subst hb_))
  refine pe (fun ho=>?_) (fun h1 h2=>?_)
  ·obtain⟨f1,f2,f3⟩:=fin (s:=w.2.1) (o:=gh) (y:=1) (by unfold gc;rw[if_pos];rcases ho with q|q;left;rw[e0];exact of_decide_eq_true q;right;simpa using q)
   exact⟨f1,f2,by rw[← f3,hw];rfl⟩
  have hn:¬ (w.2.2.1 = -1∨iL w 0≠0):=by
   rintro (q|q)
   ·rw[e0] at q;exact of_decide_eq_false h1 q
   ·apply q;simpa using h2
  have er:gc w=cq (dk w) (iL w) w (if h.2.2.2.1=17 then 0 else h.2.2.2.2.2.2):=by unfold gc;rw[if_neg hn,e1];rfl
  rw[er]
  refine ae (fun h3=>?_) (fun h3=>?_)
  ·rw[if_pos (of_decide_eq_true h3)]
   exact⟨okw,rfl,rfl,by rw[hw];rfl⟩
  ·rw[if_neg (of_decide_eq_false h3)]
   exact⟨okw,rfl,rfl,by rw[hw];rfl⟩
theorem Rj:av Tryz.prog GL 213 Px.spec:=Ct.okH _ Tryz.func213 (by kernel_rfl) (ai (ai aC Mk) Vf) ar Tm (aD (by kernel_rfl) aj9)
def LB:Ct:=⟨[.box 243 mE],[.agg sX,.val cI],fun d=>[lZ d.1],fun d=>(((dR d.1).2.1,(dR d.1).2.2,()),(f6 d.1 (dR d.1).1,()))⟩
def TS:ao LB.ps->az:=(fun _=>{})
def AY(a:ac)(b:List aF)(c:Int)(d:List Int)(e f g h i:Int)(j:List Int)(k:bS) :=
 cq (cT (a,(b,c,d,(e,f),g),h,i,j,k) (11:Int) (0:Int)) (iE (a,(b,c,d,(e,f),g),h,i,j,k) (11:Int) (0:Int)) (a,(b,c,d,(e,f),g),h,i,j,k) (0:Int)
def yX(a:ac)(b:List aF)(c:Int)(d:List Int)(e f g h i:Int)(j:List Int)(k:bS) :=
 cq (cT (a,(b,c,d,(e,f),g),h,i,j,k) (3:Int) (0:Int)) (iE (a,(b,c,d,(e,f),g),h,i,j,k) (3:Int) (0:Int)) (a,(b,c,d,(e,f),g),h,i,j,k) (0:Int)
def CF(a:ac)(b:List aF)(c:Int)(d:List Int)(e f g h i:Int)(j:List Int)(k:bS) :=
 (0:Int)=(dR (a,(b,c,d,(e,f),g),h,i,j,k)).2.2/\(a,fx (b,c,d,(e,f),g) (bd (bh (b,c,d,(e,f),g)) k.2.2.2.2.2.2),h,i,j,k)=f6 (a,(b,c,d,(e,f),g),h,i,j,k) (dR (a,(b,c,d,(e,f),g),h,i,j,k)).1
theorem TO :
 ∀(a:ac)(b:List aF)(c:Int)(d:List Int)(e f g h i:Int)(j:List Int)(k:bS),(rG a b c d e f g h i j k)/\True->(qu b c d e f g j)-> ∀(l:Bool),l= ! decide (h= -1)->(l->(l->l)/\True)/\(l->(l->l)/\True)/\(l->(l->l)/\True)/\(l->(l->l)/\True)/\(l->(l->l)/\True)/\(l->l)/\ ∀(m:Bool),(m=bif l then ! a.2.2.2.2.2.2.2.2.2.2.2.2.1 else false)->(m->(m->m)/\True)/\(m->(m->m)/\True)/\(m->(m->m)/\True)/\(m->(m->m)/\True)/\(m->(m->m)/\True)/\(m->m)/\ad (bif m then decide (k.2.2.1<2) else false) (lZ (a,(b,c,d,(e,f),g),h,i,j,k)/\(AY a b c d e f g h i j k).2.1=(dR (a,(b,c,d,(e,f),g),h,i,j,k)).2.1/\(AY a b c d e f g h i j k).2.2=(dR (a,(b,c,d,(e,f),g),h,i,j,k)).2.2/\(a,(AY a b c d e f g h i j k).1,h,i,j,k)=f6 (a,(b,c,d,(e,f),g),h,i,j,k) (dR (a,(b,c,d,(e,f),g),h,i,j,k)).1) (bI (bh (b,c,d,(e,f),g))/\okL (bh (b,c,d,(e,f),g))/\ ∀(n:Bool),n= ! d7 (b,c,d,(e,f),g)
 k.2.2.2.2.2.2->(n->n)/\ad (bif n then decide (h= -1) else false) ((kg)=(dR (a,(b,c,d,(e,f),g),h,i,j,k)).2.1/\(8:Int)=(dR (a,(b,c,d,(e,f),g),h,i,j,k)).2.2/\(a,(b,c,d,(e,f),g),h,i,j,k)=f6 (a,(b,c,d,(e,f),g),h,i,j,k) (dR (a,(b,c,d,(e,f),g),h,i,j,k)).1) (ad (! d7 (b,c,d,(e,f),g) k.2.2.2.2.2.2) (lZ (a,(b,c,d,(e,f),g),h,i,j,k)/\(yX a b c d e f g h i j k).2.1=(dR (a,(b,c,d,(e,f),g),h,i,j,k)).2.1/\(yX a b c d e f g h i j k).2.2=(dR (a,(b,c,d,(e,f),g),h,i,j,k)).2.2/\(a,(yX a b c d e f g h i j k).1,h,i,j,k)=f6 (a,(b,c,d,(e,f),g),h,i,j,k) (dR (a,(b,c,d,(e,f),g),h,i,j,k)).1) ((bd (bh (b,c,d,(e,f),g)) k.2.2.2.2.2.2).2.1≠([]:List Int)/\(j.length:Int)<=1000000/\j=j/\j=j/\(j.length:Int)<=1099511627776/\ ∀(o:Bool),o= ! decide (h= -1)->(o->(o->o)/\True)/\(o->(o->o)/\True)/\(o->(o->o)/\True)/\(o->(o->o)/\True)/\(o->(o->o)/\True)/\(o->o)/\ad (bif o then !
 a.2.2.2.2.2.2.2.2.2.2.2.2.1 else false) ((j.length:Int)<=1099511627776/\(gZ a (b,c,d,(e,f),g) (bd (bh (b,c,d,(e,f),g)) k.2.2.2.2.2.2) (fp j),gE j)=(dR (a,(b,c,d,(e,f),g),h,i,j,k)).2.1/\(CF a b c d e f g h i j k)) ((gZ a (b,c,d,(e,f),g) (bd (bh (b,c,d,(e,f),g)) k.2.2.2.2.2.2) (fp j),j)=(dR (a,(b,c,d,(e,f),g),h,i,j,k)).2.1/\(CF a b c d e f g h i j k))))):=by
  delta rG qu kg AY yX CF
  rintro d x x1 x2 x3 x4 x5 x6 x7 x8 h-⟨hs,hl,hb⟩
  obtain⟨w,hw⟩:∃ w:cy,w=(d,(x,x1,x2,(x3,x4),x5),x6,x7,x8,h):=⟨_,rfl⟩
  have e0:d.2.2.2.2.2.2.2.2.2.2.2.2.1=dw w.1:=by rw[hw];rfl
  have e2:d7 (x,x1,x2,(x3,x4),x5) h.2.2.2.2.2.2=d7 w.2.1 (gU w.2.2.2.2.2):=by rw[hw];rfl
  have e3:x6=w.2.2.1:=by rw[hw]
  have e4:h.2.2.1=wC w.2.2.2.2.2:=by rw[hw];rfl
  have e5:bd (bh (x,x1,x2,(x3,x4),x5)) h.2.2.2.2.2.2=bd (bh w.2.1) (gU w.2.2.2.2.2):=by rw[hw];rfl
  have okw:lZ w:=by rw[hw];exact⟨hs,hl,hb⟩
  have fin:=fun {s o y}=>Bq (r:=dR w) (s:=s) (o:=o) (y:=y) w
  rw[← hw,e0,e2,e4,e5]
  intro b hb0
  (repeat refine⟨(by first|(simp;done)|(rw[hb0];simp;done)|(cases b <;> simp)),?_⟩)
  intro b1 hb1
  (repeat refine⟨(by first|(simp;done)|(rw[hb1];simp;done)|(cases b1 <;> simp)|(cases b <;> cases b1 <;> simp)),?_⟩)
  have h1b:b1=true↔w.2.2.1 ≠ -1/\dw w.1=false:=by rw[hb1,hb0,e3];by_cases k:w.2.2.1 = -1 <;> cases dw w.1 <;> simp[k]
  have hq:(bif b1 then decide (wC w.2.2.2.2.2<2) else false)=true↔w.2.2.1 ≠ -1/\dw w.1=false/\wC w.2.2.2.2.2<2:=by
   rw[← and_assoc,← h1b];cases b1 <;> simp
  refine ae (fun k1=>?_) (fun k1=>?_)
  ·have e:dR w=cq (cT w 11 0) (iE w 11 0) w 0:=by unfold dR;rw[if_pos (hq.1 k1)]
   rw[e]
   exact⟨okw,rfl,rfl,by rw[hw];rfl⟩
  have k1:¬ (w.2.2.1 ≠ -1/\dw w.1=false/\wC w.2.2.2.2.2<2):=fun k=>by rw[hq.2 k] at k1;cases k1
  refine⟨hs,hl,?_⟩
  intro c hc
  (repeat refine⟨(by first|(simp;done)|(rw[hc];simp;done)|(cases c <;> simp)),?_⟩)
  refine ae (fun k2=>?_) (fun k2=>?_)
  ·have q:d7 w.2.1 (gU w.2.2.2.2.2)=false/\w.2.2.1 = -1:=by
    rw[hc,e3] at k2
    cases hh:d7 w.2.1 (gU w.2.2.2.2.2) with
    | true=>rw[hh] at k2;simp at k2
    | false=>rw[hh] at k2;exact⟨rfl,by simpa using k2⟩
   obtain⟨f1,f2,f3⟩:=fin (s:=w.2.1) (o:=gh) (y:=8) (by unfold dR;rw[if_neg k1,if_pos q.1,if_pos q.2])
   exact⟨f1,f2,by rw[← f3,hw];rfl⟩
  refine ae (fun k3=>?_) (fun k3=>?_)
  ·have k3:d7 w.2.1 (gU w.2.2.2.2.2)=false:=by simpa using k3
   have q:¬ w.2.2.1 = -1:=fun q=>by rw[hc,k3,e3,q] at k2;simp at k2
   have e:dR w=cq (cT w 3 0) (iE w 3 0) w 0:=by unfold dR;rw[if_neg k1,if_pos k3,if_neg q]
   rw[e]
   exact⟨okw,rfl,rfl,by rw[hw];rfl⟩
  have k3:¬ d7 w.2.1 (gU w.2.2.2.2.2)=false:=by simpa using k3
  refine⟨yD k3,hb,?_⟩
  clear h1b hq
  (repeat refine⟨(by first|(with_reducible rfl)|trivial|omega),?_⟩)
  intro b' hb0'
  (repeat refine⟨(by first|(simp;done)|(rw[hb0'];simp;done)|(cases b' <;> simp)),?_⟩)
  have hq:(bif b' then !dw w.1 else false)=true↔w.2.2.1 ≠ -1/\dw w.1=false:=by rw[hb0',e3];by_cases k:w.2.2.1 = -1 <;> cases dw w.1 <;> simp[k]
  have e:dR w=(fx w.2.1 (bd (bh w.2.1) (gU w.2.2.2.2.2)),(gZ w.1 w.2.1 (bd (bh w.2.1) (gU w.2.2.2.2.2)) (fp w.2.2.2.2.1),if w.2.2.1 ≠ -1/\dw w.1=false then gE w.2.2.2.2.1 else w.2.2.2.2.1),0):=by unfold dR;rw[if_neg k1,if_neg k3]
  obtain⟨f1,f2,f3⟩:=fin e
  refine ae (fun k4=>?_) (fun k4=>?_)
  ·refine⟨by omega,?_,f2,by rw[← f3,hw];rfl⟩
   rw[← f1,if_pos (hq.1 k4),hw]
  ·refine⟨?_,f2,by rw[← f3,hw];rfl⟩
   rw[← f1,if_neg (fun k=>by rw[hq.2 k] at k4;cases k4),hw]
theorem Zc:av Tryz.prog GL 214 LB.spec:=Ct.okH _ Tryz.func214 (by kernel_rfl) (ai (ai (ai (ai (ai (ai aC Ys) SW) Ey) Da) YP) pE) ar TS (aD (by kernel_rfl) TO)
def J4:Ct:=⟨[.box 243 mE],[.agg sX,.val cI],fun d=>[lZ d.1],fun d=>(((dS d.1).2.1,(dS d.1).2.2,()),((d.1.1,(dS d.1).1,d.1.2.2.1,d.1.2.2.2.1,d.1.2.2.2.2.1,(aS d.1.2.2.2.2.1).1),()))⟩
def Qj:ao J4.ps->az:=(fun _=>{})
theorem YT :
 ∀(a:ac)(b:List aF)(c:Int)(d:List Int)(e f g h i:Int)(j:List Int)(k:bS),(rG a b c d e f g h i j k)/\True->(qu b c d e f g j)->(j.length:Int)<=1099511627776/\ad (! decide (bU j=0)) ((kg)=(dS (a,(b,c,d,(e,f),g),h,i,j,k)).2.1/\(6:Int)=(dS (a,(b,c,d,(e,f),g),h,i,j,k)).2.2/\(a,(b,c,d,(e,f),g),h,i,j,(aS j).1)=(a,(dS (a,(b,c,d,(e,f),g),h,i,j,k)).1,h,i,j,(aS j).1)) (ad (j5 a (aS j).1.2.2.2.2.2.2) (lZ (a,(b,c,d,(e,f),g),h,i,j,(aS j).1)/\(gc (a,(b,c,d,(e,f),g),h,i,j,(aS j).1)).2.1=(dS (a,(b,c,d,(e,f),g),h,i,j,k)).2.1/\(gc (a,(b,c,d,(e,f),g),h,i,j,(aS j).1)).2.2=(dS (a,(b,c,d,(e,f),g),h,i,j,k)).2.2/\(a,(gc (a,(b,c,d,(e,f),g),h,i,j,(aS j).1)).1,h,i,j,(aS j).1)=(a,(dS (a,(b,c,d,(e,f),g),h,i,j,k)).1,h,i,j,(aS j).1))
 (∀(l:Bool),l=a.2.2.2.1->(l->(l->l)/\True)/\(l->(l->l)/\True)/\(l->(l->l)/\True)/\(l->(l->l)/\True)/\(l->l)/\ad (bif l then ! decide (h= -1) else false) ((kg)=(dS (a,(b,c,d,(e,f),g),h,i,j,k)).2.1/\(6:Int)=(dS (a,(b,c,d,(e,f),g),h,i,j,k)).2.2/\(a,(b,c,d,(e,f),g),h,i,j,(aS j).1)=(a,(dS (a,(b,c,d,(e,f),g),h,i,j,k)).1,h,i,j,(aS j).1)) (lZ (a,(b,c,d,(e,f),g),h,i,j,(aS j).1)/\(dR (a,(b,c,d,(e,f),g),h,i,j,(aS j).1)).2.1=(dS (a,(b,c,d,(e,f),g),h,i,j,k)).2.1/\(dR (a,(b,c,d,(e,f),g),h,i,j,(aS j).1)).2.2=(dS (a,(b,c,d,(e,f),g),h,i,j,k)).2.2/\(a,(dR (a,(b,c,d,(e,f),g),h,i,j,(aS j).1)).1,h,i,j,(aS j).1)=(a,(dS (a,(b,c,d,(e,f),g),h,i,j,k)).1,h,i,j,(aS j).1)))):=by
  delta rG qu kg
  rintro d x x1 x2 x3 x4 x5 x6 x7 x8 h-⟨hs,hl,hb⟩
  refine⟨by omega,ae (fun h1=>?_) (fun h1=>?_)⟩
  ·have e:dS (d,(x,x1,x2,(x3,x4),x5),x6,x7,x8,h)=((x,x1,x2,(x3,x4),x5),gh,6):=by unfold dS;rw[if_pos (by simpa using h1)]
   rw[e];exact⟨rfl,rfl,rfl⟩
  have h1:¬ bU x8≠0:=by simpa using h1
  refine ae (fun h2=>?_) (fun h2=>?_)
  ·have e:dS (d,(x,x1,x2,(x3,x4),x5),x6,x7,x8,h)=gc (d,(x,x1,x2,(x3,x4),x5),x6,x7,x8,(aS x8).1):=by unfold dS;rw[if_neg h1];exact if_pos h2
   rw[e];exact⟨⟨hs,hl,hb⟩,rfl,rfl,rfl⟩
  have h2:¬ j5 d (gU (aS x8).1)=true:=by show ¬ j5 d (aS x8).1.2.2.2.2.2.2=true;rw[h2];simp
  intro b hb0
  (repeat refine⟨(by first|(simp;done)|(rw[hb0];simp;done)|(cases b <;> simp)),?_⟩)
  have hq:(bif b then !decide (x6 = -1) else false)=true↔lq d=true/\x6 ≠ -1:=by rw[hb0];show (bif d.2.2.2.1 then _ else _)=true↔d.2.2.2.1=true/\_;cases d.2.2.2.1 <;> simp
  refine ae (fun h3=>?_) (fun h3=>?_)
  ·have e:dS (d,(x,x1,x2,(x3,x4),x5),x6,x7,x8,h)=((x,x1,x2,(x3,x4),x5),gh,6):=by unfold dS;rw[if_neg h1,if_neg h2];exact if_pos (hq.1 h3)
   rw[e];exact⟨rfl,rfl,rfl⟩
  ·have e:dS (d,(x,x1,x2,(x3,x4),x5),x6,x7,x8,h)=dR (d,(x,x1,x2,(x3,x4),x5),x6,x7,x8,(aS x8).1):=by unfold dS;rw[if_neg h1,if_neg h2];exact if_neg (fun k=>by rw[hq.2 k] at h3;cases h3)
   rw[e];exact⟨⟨hs,hl,hb⟩,rfl,rfl,rfl⟩
theorem Yv:av Tryz.prog GL 167 J4.spec:=Ct.okH _ Tryz.func167 (by kernel_rfl) (ai (ai (ai (ai aC Bd) PT) Rj) Zc) ar Qj (aD (by kernel_rfl) YT)
def JE:Ct:=⟨[.val (.sl cB)],[.own 97 cB],fun d=>[(d.1.length:Int)<=134217728],fun d=>((d.1,()),())⟩
def WU:ao JE.ps->az:=(fun _=>{})
theorem af8 :
 ∀(a:List aF),(a.length<=maxLen/\ ∀(b:aF),b∈a->((0<=b.1.1/\b.1.1<=4294967295)/\ab b.1.2)/\(b.2.1.length<=maxLen/\ ∀(c:Int),c∈b.2.1->ab c)/\ab b.2.2)/\True->(a.length:Int)<=134217728-> ∀(b:Bool),(b=true->a.length=(0:Nat))->ad b (([]:List aF)=a) (((0:Nat)+a.length)*(48:Nat)<=(140737488355328:Nat)/\a=a):=by
  rintro x ⟨⟨hl,-⟩,-⟩ h b hb
  refine ae (fun h1=>?_) (fun h1=>⟨by omega,by simp⟩)
  have:=hb h1
  exact (List.eq_nil_of_length_eq_zero this).symm
theorem Jl:av Tryz.prog GL 155 JE.spec:=Ct.okH _ Tryz.func155 (by kernel_rfl) aC ar WU (aD (by kernel_rfl) af8)
end Go.RS

/- Netd: networks as the laws draw them: exact. -/
namespace Go.RS
open Go.SX Go.Proofs
set_option maxRecDepth 100000
set_option linter.unusedVariables false
abbrev ft:CT := .pair cI (.pair cI (.pair cI (.pair cI (.pair cI cI))))
abbrev dX:CT := .pair cI (.pair cI (.pair .bool cB))
abbrev iq:CT := .pair (.sl bw) (.pair (.sl ft) (.sl dX))
abbrev aE:Type:=Int×Int×Int×Int×Int×Int
abbrev aM:Type:=Int×Int×Bool×Rt
abbrev bt:Type:=List ac×List aE×List aM
abbrev aH:Type:=List Int×Int
abbrev lO:Type:=Int×Int
def lA(l:aE):Int:=l.1
def lB(l:aE):Int:=l.2.1
def kR(l:aE):Int:=l.2.2.1
def gX(l:aE):Int:=l.2.2.2.1
def oR(l:aE):Int:=l.2.2.2.2.1
def r4(l:aE):Int:=l.2.2.2.2.2
theorem j9{α:Type} [Inhabited α] {l:List α} {i j:Nat} {a:α} (h:i≠j):(l.set i a).getD j default=l.getD j default:=by
 rw[List.getD_eq_getElem?_getD,List.getD_eq_getElem?_getD,List.getElem?_set_ne h]
def xg(c:aH):Int:=c.1.getD c.2.toNat default
def ke(c:aH)(n:Int):Int×aH:=if (c.1.length:Int)<=c.2∨n<1 then (0,c) else ((xg c).tmod n,(c.1,c.2+1))
def aj(c:aH)(n:Int):Int×aH :=
 if (c.1.length:Int)<=c.2∨n<1 then (0,c)
 else if 256<n then ((256*xg c+(ke (c.1,c.2+1) 256).1).tmod n,(ke (c.1,c.2+1) 256).2)
 else ((xg c).tmod n,(c.1,c.2+1))
structure bM (c:aH):Prop where
 at':ay c
 b:∀ x∈c.1,0<=x/\x<=255
theorem bM.code{c:aH}(h:bM c)(hb:¬ (c.1.length:Int)<=c.2):0<=xg c/\xg c<=255:=h.b _ (bH h.at'.1 (by omega))
theorem Nd{c:aH}(h:bM c)(n:Int):bM (ke c n).2/\0<=(ke c n).1/\((ke c n).1<n∨(ke c n).1=0):=by
 unfold ke
 split
 ·exact⟨h,by simp,.inr rfl⟩
 ·rename_i hb
  have hc:=h.code (by omega)
  have ha:=h.at'
  exact⟨⟨⟨by have:=ha.1;show 0<=c.2+1;omega,by show c.2+1<=(c.1.length:Int);omega⟩,h.b⟩,sm hc.1,.inl (sH hc.1 (by omega))⟩
theorem bX{c:aH}(h:bM c)(n:Int):bM (aj c n).2/\0<=(aj c n).1/\((aj c n).1<n∨(aj c n).1=0):=by
 unfold aj
 split
 ·exact⟨h,by simp,.inr rfl⟩
 ·rename_i hb
  have hc:=h.code (by omega)
  have ha:=h.at'
  have h1:bM (c.1,c.2+1):=⟨⟨by have:=ha.1;show 0<=c.2+1;omega,by show c.2+1<=(c.1.length:Int);omega⟩,h.b⟩
  split
  ·have k:=Nd h1 256
   exact⟨k.1,sm (by omega),.inl (sH (by omega) (by omega))⟩
  ·exact⟨h1,sm hc.1,.inl (sH hc.1 (by omega))⟩
theorem cQ{c:aH}(h:bM c){n:Int}(hn:0<n):0<=(aj c n).1/\(aj c n).1<n:=by
 have:=bX h n;omega
def oY(i:Int)(host:Bool)(f sd:Int):ac:=([],0,1+i/3,host,[],1,0,0,0,0,(0,0),false,false,f,sd)
abbrev aO:Type:=bt×aH
def ib(s:aO)(host:Bool):aO :=
 ((s.1.1++[oY s.1.1.length host (([64,255,128]:List Int).getD (aj s.2 3).1.toNat default) (aj (aj s.2 3).2 256).1],s.1.2),(aj (aj s.2 3).2 256).2)
def ij(ns:List ac)(x:Int)(p:lO):List ac:=ns.set x.toNat ((ns.getD x.toNat default).1++[p],(ns.getD x.toNat default).2)
def dQ(l:Int):Int:=167837696+4*l
def gf(s:aO)(a b:Int):aO :=
 ((ij (ij s.1.1 a (dQ s.1.2.1.length+1,s.1.2.1.length)) b (dQ s.1.2.1.length+2,s.1.2.1.length),
   s.1.2.1++[(a,b,1+(aj s.2 20).1,0,0,(aj (aj s.2 20).2 256).1)],s.1.2.2),(aj (aj s.2 20).2 256).2)
def iN(k:Int):List Int->List Int
 | []=>[k]
 | x::r=>if k<x then k::x::r else x::iN k r
theorem Nk{k:Int}:∀{l:List Int},(∀ x∈l,¬ k<x)->iN k l=l++[k]
 | [],_=>rfl
 | x::r,h=>by rw[iN,if_neg (h x List.mem_cons_self),Nk fun y hy=>h y (List.mem_cons_of_mem _ hy)];rfl
theorem Jk{k:Int}{m:List Int}:∀{l:List Int},(∃ x∈l,k<x)->iN k (l++m)=iN k l++m
 | [],h=>by obtain⟨x,hx,-⟩:=h;cases hx
 | y::r,h=>by
  rw[List.cons_append,iN,iN]
  by_cases hy:k<y
  ·rw[if_pos hy,if_pos hy];rfl
  ·rw[if_neg hy,if_neg hy,Jk (l:=r)];rfl
   obtain⟨x,hx,hk⟩:=h
   rcases List.mem_cons.1 hx with rfl|hx
   ·exact absurd hk hy
   ·exact⟨x,hx,hk⟩
theorem J3{k x:Int}:∀{l:List Int},(∀ y∈l,¬ k<y)->k<x->iN k (l++[x])=l++[k]++[x]
 | [],_,h=>by rw[List.nil_append,iN,if_pos h];rfl
 | y::r,h,hk=>by rw[List.cons_append,iN,if_neg (h y List.mem_cons_self),J3 (fun z hz=>h z (List.mem_cons_of_mem _ hz)) hk];rfl
theorem CU(k:Int):∀ l:List Int,(iN k l).length=l.length+1
 | []=>rfl
 | x::r=>by rw[iN];split <;> simp[CU k r]
def o6(l:List Rt)(p:cJ):Nat:=l.findIdx fun r=>decide (r.1=p)
def wJ(x:ac)(l:List Rt):ac:=(x.1,x.2.1,x.2.2.1,x.2.2.2.1,l,x.2.2.2.2.2)
def rL(l:List Rt)(p:cJ)(k way:Int):List Rt :=
 if o6 l p<l.length then
  if k∈(l.getD (o6 l p) default).2.1 then l else dJ l (p,iN k (l.getD (o6 l p) default).2.1,(l.getD (o6 l p) default).2.2)
 else dJ l (p,[k],way)
def oo(ns:List ac)(n:Int)(p:cJ)(k way:Int):List ac:=ns.set n.toNat (wJ (ns.getD n.toNat default) (rL (aQ (ns.getD n.toNat default)) p k way))
def nZ(d:List Int)(l:aE):List Int :=
 (d.set (lA l).toNat (min (d.getD (lA l).toNat default) (d.getD (lB l).toNat default+1))).set (lB l).toNat (min (d.getD (lB l).toNat default) (d.getD (lA l).toNat default+1))
def cM(nn:Nat)(ls:List aE)(to:Int):List Int:=(List.range nn).foldl (fun d _=>ls.foldl nZ d) ((List.replicate nn (1000:Int)).set to.toNat 0)
def o9(d:List Int)(to:Int)(p:cJ)(plain:Bool)(k way:Int)(ns:List ac)(a b:Int):List ac :=
 if d.getD a.toNat default≠d.getD b.toNat default+1∨(b≠to/\lq (ns.getD b.toNat default)=true) then ns
 else if plain=true/\mj (aQ (ns.getD a.toNat default)) p=true then ns else oo ns a p k way
def stepK(ls:List aE)(d:List Int)(to:Int)(p:cJ)(plain:Bool)(way:Int)(ns:List ac)(k:Nat):List ac :=
 o9 d to p plain k way (o9 d to p plain k way ns (lA (ls.getD k default)) (lB (ls.getD k default))) (lB (ls.getD k default)) (lA (ls.getD k default))
def stepP(ls:List aE)(d:List Int)(to:Int)(plain:Bool)(way:Int)(ns:List ac)(q:lO):List ac :=
 (List.range ls.length).foldl (stepK ls d to (q.1,32) plain way) ns
def lx(c:aH):Int×aH:=if 1+(aj c 3).1=3 then (if 0<(aj (aj c 3).2 3).1 then 1 else 3,(aj (aj c 3).2 3).2) else (1+(aj c 3).1,(aj c 3).2)
def stepT(ls:List aE)(plain:Bool)(s:List ac×aH)(to:Nat):List ac×aH :=
 ((aA (s.1.getD to default)).foldl (stepP ls (cM s.1.length ls to) to plain (lx s.2).1) s.1,(lx s.2).2)
def wP(s:aO)(plain:Bool):aO :=
 let r:=(List.range s.1.1.length).foldl (stepT s.1.2.1 plain) (s.1.1,s.2)
 ((r.1,s.1.2),r.2)
def al8(x:ac):ac:=(x.1,x.2.1,x.2.2.1,x.2.2.2.1,x.2.2.2.2.1,x.2.2.2.2.2.1,x.2.2.2.2.2.2.1,x.2.2.2.2.2.2.2.1,x.2.2.2.2.2.2.2.2.1,x.2.2.2.2.2.2.2.2.2.1,x.2.2.2.2.2.2.2.2.2.2.1,true,x.2.2.2.2.2.2.2.2.2.2.2.2)
def as3(x:ac)(b:Int×Int):ac:=(x.1,x.2.1,x.2.2.1,x.2.2.2.1,x.2.2.2.2.1,x.2.2.2.2.2.1,x.2.2.2.2.2.2.1,x.2.2.2.2.2.2.2.1,x.2.2.2.2.2.2.2.2.1,x.2.2.2.2.2.2.2.2.2.1,b,x.2.2.2.2.2.2.2.2.2.2.2)
def AU(x:ac)(b:Bool):ac:=(x.1,x.2.1,x.2.2.1,x.2.2.2.1,x.2.2.2.2.1,x.2.2.2.2.2.1,x.2.2.2.2.2.2.1,x.2.2.2.2.2.2.2.1,x.2.2.2.2.2.2.2.2.1,x.2.2.2.2.2.2.2.2.2.1,x.2.2.2.2.2.2.2.2.2.2.1,x.2.2.2.2.2.2.2.2.2.2.2.1,b,x.2.2.2.2.2.2.2.2.2.2.2.2.2)
def Ym(x:ac)(s:Int):ac:=(x.1,x.2.1,x.2.2.1,x.2.2.2.1,x.2.2.2.2.1,s,x.2.2.2.2.2.2)
def Vb(x:ac)(a s:Int):ac:=(x.1,a,x.2.2.1,x.2.2.2.1,x.2.2.2.2.1,s,x.2.2.2.2.2.2)
def Q5(x:ac)(a s:Int):ac:=(x.1,x.2.1,x.2.2.1,x.2.2.2.1,x.2.2.2.2.1,s,a,x.2.2.2.2.2.2.2)
def at4(x:ac)(i b s:Int):ac:=(x.1,x.2.1,x.2.2.1,x.2.2.2.1,x.2.2.2.2.1,x.2.2.2.2.2.1,x.2.2.2.2.2.2.1,i,b,s,x.2.2.2.2.2.2.2.2.2.2)
def fD(x:ac)(i:Int)(c:aH):ac×aH :=
 let a:=aj c 10
 if a.1=1 then (al8 x,a.2)
 else if a.1=2 then (as3 x (1+(aj a.2 3).1,1+(aj (aj a.2 3).2 200).1),(aj (aj a.2 3).2 200).2)
 else if a.1=3 then (AU x (!lq x&&decide (i%2=1)),a.2)
 else if a.1=4 then (Ym x 2,a.2)
 else if a.1=5 then (Vb x (167903232+i) 3,a.2)
 else if a.1=6 then (Q5 x (167837696+(aj a.2 40).1) 4,(aj a.2 40).2)
 else (x,a.2)
def th(x:ac)(i:Int)(c:aH):ac×aH :=
 let y:=fD x i c
 (at4 y.1 (aj y.2 6).1 (aj (aj y.2 6).2 65536).1 (aj (aj (aj y.2 6).2 65536).2 1000).1,(aj (aj (aj y.2 6).2 65536).2 1000).2)
def sW(s:List ac×aH)(i:Nat):List ac×aH:=(s.1.set i (th (s.1.getD i default) i s.2).1,(th (s.1.getD i default) i s.2).2)
def odLink(l:aE)(c:aH):aE×aH :=
 let a:=aj c 6
 if a.1=1 then ((l.1,l.2.1,l.2.2.1,(aj a.2 10).1,l.2.2.2.2),(aj a.2 10).2)
 else if a.1=2 then ((l.1,l.2.1,l.2.2.1,l.2.2.2.1,([65536,20000,3]:List Int).getD (aj a.2 3).1.toNat default,l.2.2.2.2.2),(aj a.2 3).2)
 else (l,a.2)
def oO(ns:List ac)(l:aE):List ac :=
 if dw (ns.getD (lA l).toNat default)=true/\dw (ns.getD (lB l).toNat default)=true then ns.set (lB l).toNat (AU (ns.getD (lB l).toNat default) false) else ns
def pJ(s:(List ac×List aE)×aH)(i:Nat):(List ac×List aE)×aH :=
 let r:=odLink (s.1.2.getD i default) s.2
 ((oO s.1.1 r.1,s.1.2.set i r.1),r.2)
def m3(ns:List ac)(s:List aM×Int×aH):List aM×Int×aH :=
 let a:=aj s.2.2 60
 let at':=s.2.1+a.1
 let w:=aj a.2 ns.length
 let x:=ns.getD w.1.toNat default
 if (aQ x).length=0 then (s.1,at',w.2)
 else
  let r:=aj w.2 (aQ x).length
  let p:=aj r.2 (aA x).length
  let z:=aj p.2 4
  let rt:=(aQ x).getD r.1.toNat default
  (s.1++[(at',w.1,false,(rt.1,if z.1=3 then [] else [((aA x).getD p.1.toNat default).2],rt.2.2))],at',z.2)
def lV(s:aO):aO :=
 let n:=(List.range s.1.1.length).foldl sW (s.1.1,s.2)
 let l:=(List.range s.1.2.1.length).foldl pJ ((n.1,s.1.2.1),n.2)
 let k:=aj l.2 4
 let h:=(List.range k.1.toNat).foldl (fun s _=>m3 l.1.1 s) ([],0,k.2)
 ((l.1.1,l.1.2,h.1),h.2.2)
def oI(s:aO)(k:Nat):aO:=gf (ib s false) k (k+1)
def pI(n:Int)(s:aO):aO :=
 let a:=aj s.2 n
 let b:=aj a.2 n
 if a.1=b.1 then (s.1,b.2) else gf (s.1,b.2) (1+a.1) (1+b.1)
def kW(c:aH):Int×aO :=
 let a:=ib (([],[],[]),c) true
 let m:=aj a.2 5
 let s:=(List.range (1+m.1).toNat).foldl oI (a.1,m.2)
 (1+m.1,gf (ib s true) (1+m.1) (1+m.1+1))
def vp(plain:Bool)(n:Int)(s:aO):aO :=
 let k:=aj s.2 4
 let s1:=if 1<n/\plain=false then (List.range k.1.toNat).foldl (fun s _=>pI n s) (s.1,k.2) else (s.1,k.2)
 if plain=true/\2<n then
  if (aj s1.2 2).1=1 then gf (s1.1,(aj (aj s1.2 2).2 (n-1)).2) (1+(aj (aj s1.2 2).2 (n-1)).1) n else (s1.1,(aj s1.2 2).2)
 else s1
def yr(plain:Bool)(c:aH):aO :=
 let s:=wP (vp plain (kW c).1 (kW c).2) plain
 if plain then s else lV s
def oz(plain:Bool)(c:aH):bt:=(yr plain c).1
def uN(plain:Bool)(c:aH):aH:=(yr plain c).2
end Go.RS

/- Topo: networks: their errors and their parts. -/
namespace Go.RS
open Go.SX Go.Proofs
set_option maxRecDepth 100000
set_option linter.unusedVariables false
def eZ(x:ac):List Int:=nR x++(if ga x=0 then [] else [ga x])
def Ie:Ct:=⟨[.val cI,.val cI,.val cI],[.val .bool],fun _=>[],fun d=>((decide (d.2.1<=d.1/\d.1<=d.2.2.1),()),())⟩
def ak2:ao Ie.ps->az:=(fun _=>{})
theorem ae9 :
 ∀(a b c:Int),ab a/\ab b/\ab c/\True->True-> ∀(d:Bool),d=decide (b<=a)->(d->(d->d)/\(d->d)/\True)/\(d->d)/\(bif d then decide (a<=c) else false)=decide (b<=a/\a<=c):=by
  rintro a b c - -
  (repeat (intro (b_:Bool) (hb_:b_=_);(repeat refine⟨(by first|(simp;done)|(rw[hb_];simp;done)|(rw[hb_];simp;omega)|(rw[hb_];simp;intros;omega)|(rw[hb_];simp +contextual;done)),?_⟩);subst hb_))
  by_cases h1:b<=a <;> by_cases h2:a<=c <;> simp[h1,h2]
theorem FE:av Tryz.prog GL 154 Ie.spec:=Ct.okH _ Tryz.func154 (by kernel_rfl) aC ar ak2 (aD (by kernel_rfl) ae9)
def N7:Ct:=⟨[.agg bw],[.own 65 ce],fun d=>[(aA d.1).length<=100000],fun d=>((eZ d.1,()),())⟩
def R8:ao N7.ps->az:=(fun d=>{loops:=(fun n=>match n with|3=>some (fun S=>{ι:=Int×(List Int),qn:=⟨fun k_=>∀(j:Int)(l:(List Int)),k_ (j,l),fun k_ h_ i=>h_ i.1 i.2,fun k_=>∃ (j:Int) (l:(List Int)),k_ (j,l),fun k_ ⟨j,l,h_⟩=>⟨_,h_⟩⟩,μ:=fun i=>((aA d.1).length-i.1).toNat,inv:=fun i=>0<=i.1/\i.1<=(aA d.1).length/\i.2=(nR d.1).take i.1.toNat,keep:=[1,7,8],slots:=fun i=>[(3,.own 524288 1),(9,.int .i64 i.1)],keepN:=[32],names:=fun i=>[(524288,.live (.row 65 ce i.2))]})|_=>none)})
def yV(a:ac)(b:Int)(c:List Int) :=
 a.1=a.1/\(a.1.length:Int)=(a.1.length:Int)/\(0:Int)=b/\a.1=a.1/\a.2.1=a.2.1/\a.2.2.1=a.2.2.1/\a.2.2.2.1=a.2.2.2.1/\a.2.2.2.2.1=a.2.2.2.2.1/\a.2.2.2.2.2.1=a.2.2.2.2.2.1/\a.2.2.2.2.2.2.1=a.2.2.2.2.2.2.1/\a.2.2.2.2.2.2.2.1=a.2.2.2.2.2.2.2.1/\a.2.2.2.2.2.2.2.2.1=a.2.2.2.2.2.2.2.2.1/\a.2.2.2.2.2.2.2.2.2.1=a.2.2.2.2.2.2.2.2.2.1/\a.2.2.2.2.2.2.2.2.2.2.1.1=a.2.2.2.2.2.2.2.2.2.2.1.1/\a.2.2.2.2.2.2.2.2.2.2.1.2=a.2.2.2.2.2.2.2.2.2.2.1.2/\a.2.2.2.2.2.2.2.2.2.2.2.1=a.2.2.2.2.2.2.2.2.2.2.2.1/\a.2.2.2.2.2.2.2.2.2.2.2.2.1=a.2.2.2.2.2.2.2.2.2.2.2.2.1/\a.2.2.2.2.2.2.2.2.2.2.2.2.2.1=a.2.2.2.2.2.2.2.2.2.2.2.2.2.1/\a.2.2.2.2.2.2.2.2.2.2.2.2.2.2=a.2.2.2.2.2.2.2.2.2.2.2.2.2.2/\c=([]:List Int)/\True
def nM(a:ac) :=
 ((List.length (aA a)):Int)
theorem al0 :
 ∀(a:ac),CT.wf bw a/\True->List.length (aA a)<=(100000:Nat)->(∃(b:Int) (c:List Int),(0<=b/\b<=(nM a)/\c=List.take b.toNat (nR a))/\(yV a b c))/\ ∀(b:Int)(c:List Int),0<=b/\b<=(nM a)/\c=List.take b.toNat (nR a)->ad (decide (b<(a.1.length:Int))) (0<=b/\b<(a.1.length:Int)/\(c.length+List.length [(List.getD a.1 b.toNat default).1])*(4:Nat)<=(140737488355328:Nat)/\ ∃(d:Int) (e:List Int),(0<=d/\d<=(nM a)/\e=List.take d.toNat (nR a))/\Int.toNat ((nM a) -d)<Int.toNat ((nM a) -b)/\a.1=a.1/\(a.1.length:Int)=(a.1.length:Int)/\IntKind.wrap .i64
 (b+(1:Int))=d/\a.1=a.1/\a.2.1=a.2.1/\a.2.2.1=a.2.2.1/\a.2.2.2.1=a.2.2.2.1/\a.2.2.2.2.1=a.2.2.2.2.1/\a.2.2.2.2.2.1=a.2.2.2.2.2.1/\a.2.2.2.2.2.2.1=a.2.2.2.2.2.2.1/\a.2.2.2.2.2.2.2.1=a.2.2.2.2.2.2.2.1/\a.2.2.2.2.2.2.2.2.1=a.2.2.2.2.2.2.2.2.1/\a.2.2.2.2.2.2.2.2.2.1=a.2.2.2.2.2.2.2.2.2.1/\a.2.2.2.2.2.2.2.2.2.2.1.1=a.2.2.2.2.2.2.2.2.2.2.1.1/\a.2.2.2.2.2.2.2.2.2.2.1.2=a.2.2.2.2.2.2.2.2.2.2.1.2/\a.2.2.2.2.2.2.2.2.2.2.2.1=a.2.2.2.2.2.2.2.2.2.2.2.1/\a.2.2.2.2.2.2.2.2.2.2.2.2.1=a.2.2.2.2.2.2.2.2.2.2.2.2.1/\a.2.2.2.2.2.2.2.2.2.2.2.2.2.1=a.2.2.2.2.2.2.2.2.2.2.2.2.2.1/\a.2.2.2.2.2.2.2.2.2.2.2.2.2.2=a.2.2.2.2.2.2.2.2.2.2.2.2.2.2/\c++[(List.getD a.1 b.toNat default).1]=e/\True) (ad (! decide (a.2.1=0)) ((c.length+List.length [a.2.1])*(4:Nat)<=(140737488355328:Nat)/\c++[a.2.1]=eZ a) (c=eZ a)):=by
  delta yV nM
  rintro d-hl
  have hlen:(nR d).length=(aA d).length:=by simp[nR]
  have hd:d.1=aA d:=rfl
  have hz:d.2.1=ga d:=rfl
  rw[hd,hz]
  refine⟨⟨0,[],⟨by omega,by omega,rfl⟩,(by repeat' first|exact trivial|refine⟨trivial,?_⟩|refine⟨(by with_reducible rfl),?_⟩|refine⟨af (by omega) (by omega),?_⟩|refine⟨rfl,?_⟩)⟩,?_⟩
  rintro j l ⟨j0,j1,rfl⟩
  refine ae (fun hk=>?_) (fun hk=>?_)
  ·have hk:=of_decide_eq_true hk
   refine⟨j0,hk,by simp only[List.length_take,List.length_cons,List.length_nil];omega,j+1,_,⟨by omega,by omega,rfl⟩,by omega,?_⟩
   (repeat first|refine⟨trivial,?_⟩|refine⟨(by with_reducible rfl),?_⟩|refine⟨af (by omega) (by omega),?_⟩)
   refine⟨?_,trivial⟩
   rw[AM j0 (by rw[hlen];exact hk)]
   unfold nR
   rw[List.getD_eq_getElem?_getD,List.getD_eq_getElem?_getD,List.getElem?_map,List.getElem?_eq_getElem (by omega)]
   rfl
  ·have hk:=of_decide_eq_false hk
   rw[List.take_of_length_le (by omega)]
   unfold eZ
   refine ae (fun h=>?_) (fun h=>?_)
   ·rw[if_neg (gn h)]
    exact⟨by simp only[List.length_cons,List.length_nil];omega,rfl⟩
   ·rw[if_pos (gQ h),List.append_nil]
theorem Zp:av Tryz.prog GL 176 N7.spec:=Ct.okH _ Tryz.func176 (by kernel_rfl) aC ar R8 (aD (by kernel_rfl) al0)
def jV(i:Int)(l:List Int)(m:List (Int×Int)):List (Int×Int):=l.foldl (fun m a=>ip a i m) m
def dZ(ns:List ac)(k:Nat):List (Int×Int):=(List.range k).foldl (fun m (i:Nat)=>jV (i:Int) (eZ (ns.getD i default)) m) []
def LO(ns:List ac):Bool:=(List.range ns.length).any fun (i:Nat)=>(eZ (ns.getD i default)).any fun a=>dM a (dZ ns i)
def pd(n:bt):Int:=if LO n.1 then 10 else 0
theorem Oc{a b v:Int}:∀{m:List (Int×Int)},dM a (ip b v m)=(decide (a=b)||dM a m)
 | []=>by simp only[ip,dM];cases decide (a=b) <;> rfl
 | p::m=>by
  simp only[ip]
  by_cases hb:b=p.1
  ·rw[decide_eq_true hb,cond_true,dM,dM,← hb]
   cases decide (a=b) <;> rfl
  ·rw[decide_eq_false hb,cond_false,dM,dM,Oc]
   cases decide (a=p.1) <;> cases decide (a=b) <;> rfl
theorem Lj{a b v:Int}:∀{m:List (Int×Int)},iV a (ip b v m)=if a=b then v else iV a m
 | []=>by
  simp only[ip,iV]
  by_cases h:a=b
  ·rw[decide_eq_true h,if_pos h];rfl
  ·rw[decide_eq_false h,if_neg h];rfl
 | p::m=>by
  simp only[ip]
  by_cases hb:b=p.1
  ·rw[decide_eq_true hb,cond_true,iV,iV,← hb]
   by_cases h:a=b
   ·rw[decide_eq_true h,if_pos h];rfl
   ·rw[decide_eq_false h,if_neg h];rfl
  ·rw[decide_eq_false hb,cond_false,iV,iV,Lj]
   by_cases h:a=p.1
   ·have hab:¬ a=b:=fun e=>hb (e.symm.trans h)
    simp only[if_neg hab]
   ·rw[decide_eq_false h];rfl
theorem ao4(i a:Int)(l:List Int)(m:List (Int×Int)):jV i (l++[a]) m=ip a i (jV i l m):=by
 unfold jV;rw[List.foldl_append];rfl
theorem BP{i a:Int}{m:List (Int×Int)}:∀{l:List Int},dM a (jV i l m)=(decide (a∈l)||dM a m)/\iV a (jV i l m)=if a∈l then i else iV a m:=by
 intro l
 induction l generalizing m with
 | nil=>simp[jV]
 | cons b l ih =>
  have k:=ih (m:=ip b i m)
  unfold jV at k ⊢
  rw[List.foldl_cons,k.1,k.2,Oc,Lj]
  by_cases h1:a=b <;> by_cases h2:a∈l <;> simp[h1,h2]
theorem Mr(ns:List ac):∀(k:Nat)(a:Int),dM a (dZ ns k)=true->iV a (dZ ns k)<k
 | 0,a,h=>by cases h
 | k+1,a,h=>by
  have e:dZ ns (k+1)=jV k (eZ (ns.getD k default)) (dZ ns k):=by unfold dZ;rw[List.range_succ,List.foldl_append];rfl
  rw[e] at h ⊢
  have q:=BP (i:=(k:Int)) (a:=a) (m:=dZ ns k) (l:=eZ (ns.getD k default))
  rw[q.1] at h
  rw[q.2]
  split
  ·omega
  ·rename_i hn
   rw[decide_eq_false hn,Bool.false_or] at h
   have:=Mr ns k a h
   omega
def Ja:Ct:=⟨[.agg iq],[.val cI],fun d=>[∀ x∈d.1.1,(aA x).length<=100000],fun d=>((pd d.1,()),())⟩
def X2:ao Ja.ps->az:=(fun d=>{loops:=(fun n=>match n with|3=>some (fun S=>{ι:=Int,μ:=fun i=>(d.1.1.length-i).toNat,inv:=fun i=>0<=i/\i<=d.1.1.length∧∀ k:Nat,(k:Int)<i→∀ a∈eZ (d.1.1.getD k default),dM a (dZ d.1.1 k)=false,keep:=[1,12,13],slots:=fun i=>[(14,.int .i64 i),(3,.mapp 524288)],keepN:=[32],names:=fun i=>[(524288,.live (.mp .u32 .i64 (dZ d.1.1 i.toNat)))]})|6=>some (fun S=>{ι:=Int,μ:=fun i=>((eZ (d.1.1.getD (S.i 14).toNat default)).length-i).toNat,inv:=fun i=>0<=i/\i<=(eZ (d.1.1.getD (S.i 14).toNat default)).length∧∀ a∈(eZ (d.1.1.getD (S.i 14).toNat default)).take i.toNat,dM a (dZ d.1.1 (S.i 14).toNat)=false,keep:=[1,4,12,13,14,20,21],slots:=fun i=>[(22,.int .i64 i),(3,.mapp 524288)],keepN:=[32,336],names:=fun i=>[(524288,.live (.mp .u32 .i64 (jV (S.i 14) ((eZ (d.1.1.getD (S.i 14).toNat default)).take i.toNat) (dZ d.1.1 (S.i 14).toNat))))]})|_=>none)})
def p8(a:List ac)(b:List aE)(c:List aM) :=
 (a.length<=maxLen/\ ∀(d:ac),d∈a->CT.wf bw d)/\(b.length<=maxLen/\ ∀(d:aE),d∈b->CT.wf ft d)/\c.length<=maxLen/\ ∀(d:aM),d∈c->CT.wf dX d
def ml(a:List ac)(d:Int) :=
 eZ (a.getD d.toNat default)
def nw(a:List ac)(d:Int) :=
 ((List.length (ml a d)):Int)
def d9(a:List ac) :=
 (a.length:Int)
def DV(a:List ac)(d:Int) :=
 0<=d/\d<=(d9 a)/\ ∀(e:Nat),(↑e:Int)<d-> ∀(f:Int),f∈eZ (a.getD e default)->dM f (dZ a e)=false
theorem SS :
 ∀(a:List ac)(b:List aE)(c:List aM),(p8 a b c)/\True->(∀(d:ac),d∈a->List.length (aA d)<=(100000:Nat))->(∃(d:Int),(DV a d)/\a=a/\(d9 a)=(d9 a)/\(0:Int)=d/\a=a/\b=b/\c=c/\([]:List (Int×Int))=dZ a d.toNat/\True)/\ ∀(d:Int),(DV a d)->ad (decide (d<(d9 a))) (0<=d/\d<(d9 a)/\List.length (aA (a.getD d.toNat default))<=(100000:Nat)/\(∃(e:Int),(0<=e/\e<=(nw a d)/\ ∀(f:Int),f∈List.take e.toNat (ml a d)->dM f (dZ a d.toNat)=false)/\d=d/\a=a/\(d9 a)=(d9 a)/\d=d/\(nw a d)=(nw a d)/\(0:Int)=e/\a=a/\b=b/\c=c/\eZ (a.getD d.toNat default)=eZ (a.getD d.toNat default)/\dZ a d.toNat=jV d (List.take e.toNat (ml a d)) (dZ a d.toNat)/\True)/\ ∀(e:Int),(0<=e/\e<=(nw a d)/\ ∀(f:Int),f∈List.take e.toNat (ml a d)->dM f (dZ a d.toNat)=false)->ad (decide (e<(nw a d))) (0<=e/\e<(nw a d)/\ ∀(f:Bool),f=dM (List.getD (ml a d) e.toNat
 default) (jV d (List.take e.toNat (ml a d)) (dZ a d.toNat))->(f->(f->f)/\(f->f)/\True)/\(f->f)/\ad (bif f then ! decide (iV (List.getD (ml a d) e.toNat default) (jV d (List.take e.toNat (ml a d)) (dZ a d.toNat))=d) else false) ((10:Int)=pd (a,b,c)) (∃(g:Int),(0<=g/\g<=(nw a d)/\ ∀(h:Int),h∈List.take g.toNat (ml a d)->dM h (dZ a d.toNat)=false)/\Int.toNat ((nw a d) -g)<Int.toNat ((nw a d) -e)/\d=d/\a=a/\(d9 a)=(d9 a)/\d=d/\(nw a d)=(nw a d)/\IntKind.wrap .i64 (e+(1:Int))=g/\a=a/\b=b/\c=c/\eZ (a.getD d.toNat default)=eZ (a.getD d.toNat default)/\ip (List.getD (ml a d) e.toNat default) d (jV d (List.take e.toNat (ml a d)) (dZ a d.toNat))=jV d (List.take g.toNat (ml a d)) (dZ a d.toNat)/\True)) (∃(f:Int),(0<=f/\f<=(d9 a)/\ ∀(g:Nat),(↑g:Int)<f-> ∀(h:Int),h∈eZ (a.getD g default)->dM h (dZ a g)=false)/\Int.toNat
 ((d9 a) -f)<Int.toNat ((d9 a) -d)/\a=a/\(d9 a)=(d9 a)/\IntKind.wrap .i64 (d+(1:Int))=f/\a=a/\b=b/\c=c/\jV d (List.take e.toNat (ml a d)) (dZ a d.toNat)=dZ a f.toNat/\True)) ((0:Int)=pd (a,b,c)):=by
  delta p8 ml nw d9 DV
  rintro ns ls hs ⟨⟨⟨hnl,-⟩,-⟩,-⟩ hp
  simp only[maxLen] at hnl
  have hlen:∀ x∈ns,(eZ x).length<=100001:=fun x hx=>by
   have:=hp x hx
   unfold eZ nR
   rw[List.length_append,List.length_map]
   split <;> simp <;> omega
  refine⟨⟨0,⟨by omega,by omega,fun k hk=>by omega⟩,(by repeat' first|exact trivial|refine⟨trivial,?_⟩|refine⟨(by with_reducible rfl),?_⟩|refine⟨af (by omega) (by omega),?_⟩|refine⟨rfl,?_⟩)⟩,?_⟩
  rintro i ⟨i0,i1,hI⟩
  refine ae (fun hi=>?_) (fun hi=>?_)
  rotate_left
  ·have hi:=of_decide_eq_false hi
   unfold pd
   rw[if_neg]
   intro h
   obtain⟨k,hk,h2⟩:=List.any_eq_true.1 h
   obtain⟨a,ha,h3⟩:=List.any_eq_true.1 h2
   have hk:k<ns.length:=List.mem_range.1 hk
   rw[hI k (by omega) a ha] at h3
   cases h3
  have hi:=of_decide_eq_true hi
  have hm:=bH i0 hi
  have hl:=hlen _ hm
  refine⟨i0,hi,hp _ hm,⟨0,⟨by omega,by omega,by simp⟩,(by repeat' first|exact trivial|refine⟨trivial,?_⟩|refine⟨(by with_reducible rfl),?_⟩|refine⟨af (by omega) (by omega),?_⟩|refine⟨rfl,?_⟩)⟩,?_⟩
  rintro j ⟨j0,j1,hJ⟩
  have ei:((i.toNat:Nat):Int)=i:=by omega
  refine ae (fun hj=>?_) (fun hj=>?_)
  rotate_left
  ·have hj:=of_decide_eq_false hj
   rw[List.take_of_length_le (by omega)] at hJ ⊢
   refine⟨i+1,⟨by omega,by omega,fun k hk a ha=>?_⟩,by omega,?_⟩
   ·by_cases e:(k:Int)<i
    ·exact hI k e a ha
    ·have:k=i.toNat:=by omega
     subst this
     exact hJ a ha
   ·have e:jV i (eZ (ns.getD i.toNat default)) (dZ ns i.toNat)=dZ ns (i+1).toNat:=by
     rw[show (i+1).toNat=i.toNat+1 by omega]
     unfold dZ
     rw[List.range_succ,List.foldl_append,List.foldl_cons,List.foldl_nil,ei]
    rw[e]
    exact (by repeat' first|exact trivial|refine⟨trivial,?_⟩|refine⟨(by with_reducible rfl),?_⟩|refine⟨af (by omega) (by omega),?_⟩|refine⟨rfl,?_⟩)
  have hj:=of_decide_eq_true hj
  have ha:=bH j0 hj
  have st:=AM j0 hj
  refine⟨j0,hj,?_⟩
  have q:=BP (i:=i) (a:=(eZ (ns.getD i.toNat default)).getD j.toNat default) (m:=dZ ns i.toNat) (l:=(eZ (ns.getD i.toNat default)).take j.toNat)
  generalize (eZ (ns.getD i.toNat default)).getD j.toNat default=a at ha st q ⊢
  have lt:=Mr ns i.toNat a
  rw[ei] at lt
  intro b hb
  (repeat refine⟨by simp,?_⟩)
  refine rQ (fun x1 x2=>?_) (fun hno=>?_)
  ·have x2:=gn x2
   rw[hb,q.1] at x1
   rw[q.2] at x2
   have hn:a ∉ (eZ (ns.getD i.toNat default)).take j.toNat:=fun h=>by rw[if_pos h] at x2;exact x2 rfl
   rw[decide_eq_false hn,Bool.false_or] at x1
   unfold pd
   rw[if_pos]
   exact List.any_eq_true.2 ⟨i.toNat,List.mem_range.2 (show i.toNat<ns.length by omega),List.any_eq_true.2 ⟨a,ha,x1⟩⟩
  ·have hz:dM a (dZ ns i.toNat)=false:=by
    by_cases hn:a∈(eZ (ns.getD i.toNat default)).take j.toNat
    ·exact hJ a hn
    ·rw[decide_eq_false hn,Bool.false_or] at q
     rw[if_neg hn] at q
     rcases hno with h|h
     ·rw[hb,q.1] at h;exact h
     ·have h:=gQ h
      rw[q.2] at h
      cases hq:dM a (dZ ns i.toNat) with
      | false=>rfl
      | true=>have:=lt hq;omega
   refine⟨j+1,⟨by omega,by omega,fun y hy=>?_⟩,by omega,?_⟩
   ·rw[st] at hy
    rcases List.mem_append.1 hy with hy|hy
    ·exact hJ y hy
    ·rw[List.mem_singleton.1 hy];exact hz
   ·rw[st,ao4]
    exact (by repeat' first|exact trivial|refine⟨trivial,?_⟩|refine⟨(by with_reducible rfl),?_⟩|refine⟨af (by omega) (by omega),?_⟩|refine⟨rfl,?_⟩)
theorem PP:av Tryz.prog GL 118 Ja.spec:=Ct.okH _ Tryz.func118 (by kernel_rfl) (ai aC Zp) ar X2 (aD (by kernel_rfl) SS)
def fy(ls:List aE)(k x:Int):Int:=if k<0∨(ls.length:Int)<=k then -1 else if x=lA (ls.getD k.toNat default) then lB (ls.getD k.toNat default) else if x=lB (ls.getD k.toNat default) then lA (ls.getD k.toNat default) else -1
def nE(n:bt):Int:=if n.1.length<1∨64<n.1.length∨128<n.2.1.length∨64<n.2.2.length then 5 else 0
def K7:Ct:=⟨[.agg iq],[.val cI],fun _=>[],fun d=>((nE d.1,()),())⟩
def am9:ao K7.ps->az:=(fun _=>{})
def dq(b:List aE) :=
 (b.length:Int)
def nC(e:Bool) :=
 (! e)->((! e)->(! e))/\True
theorem ac3 :
 ∀(a:List ac)(b:List aE)(c:List aM),(p8 a b c)/\True->True-> ∀(d:Bool),d=decide ((d9 a)<1)->((! d)->((! d)->(! d))/\True)/\((! d)->((! d)->(! d))/\True)/\((! d)->((! d)->(! d))/\True)/\(d=false->(! d))/\ ∀(e:Bool),(e=bif d then true else decide (64<(d9 a)))->(nC e)/\(nC e)/\(nC e)/\(e=false->(! e))/\ ∀(f:Bool),(f=bif e then true else decide (128<(dq b)))->((! f)->((! f)->(! f))/\True)/\((! f)->((! f)->(! f))/\True)/\((! f)->((! f)->(! f))/\True)/\(f=false->(! f))/\ad (bif f then true else decide (64<(c.length:Int))) ((5:Int)=nE (a,b,c)) ((0:Int)=nE (a,b,c)):=by
  delta p8 dq nC d9
  rintro ns ls hs - -
  (repeat (intro (b_:Bool) (hb_:b_=_);(repeat refine⟨(by first|(simp;done)|(rw[hb_];simp;done)|(rw[hb_];simp;omega)|(rw[hb_];simp;intros;omega)|(rw[hb_];simp +contextual;done)),?_⟩);subst hb_))
  unfold nE
  refine ae (fun h=>?_) (fun h=>?_)
  ·simp[Bool.cond_eq_ite] at h
   rw[if_pos (by dsimp only;omega)]
  ·simp[Bool.cond_eq_ite] at h
   rw[if_neg (by dsimp only;omega)]
theorem Qv:av Tryz.prog GL 114 K7.spec:=Ct.okH _ Tryz.func114 (by kernel_rfl) aC ar am9 (aD (by kernel_rfl) ac3)
def NJ:Ct:=⟨[.agg bw],[.own 3 cI],fun d=>[(aA d.1).length<=100000],fun d=>((br d.1,()),())⟩
def Sf:ao NJ.ps->az:=(fun d=>{loops:=(fun n=>match n with|3=>some (fun S=>{ι:=Int×(List Int),qn:=⟨fun k_=>∀(j:Int)(l:(List Int)),k_ (j,l),fun k_ h_ i=>h_ i.1 i.2,fun k_=>∃ (j:Int) (l:(List Int)),k_ (j,l),fun k_ ⟨j,l,h_⟩=>⟨_,h_⟩⟩,μ:=fun i=>((aA d.1).length-i.1).toNat,inv:=fun i=>0<=i.1/\i.1<=(aA d.1).length/\i.2=(br d.1).take i.1.toNat,keep:=[1,7,8],slots:=fun i=>[(3,.own 524288 1),(9,.int .i64 i.1)],keepN:=[32],names:=fun i=>[(524288,.live (.row 3 cI i.2))]})|_=>none)})
theorem Qs :
 ∀(a:ac),CT.wf bw a/\True->List.length (aA a)<=(100000:Nat)->(∃(b:Int) (c:List Int),(0<=b/\b<=(nM a)/\c=List.take b.toNat (br a))/\(yV a b c))/\ ∀(b:Int)(c:List Int),0<=b/\b<=(nM a)/\c=List.take b.toNat (br a)->ad (decide (b<(a.1.length:Int))) (0<=b/\b<(a.1.length:Int)/\(c.length+List.length [(List.getD a.1 b.toNat default).2])*(8:Nat)<=(140737488355328:Nat)/\ ∃(d:Int) (e:List Int),(0<=d/\d<=(nM a)/\e=List.take d.toNat (br a))/\Int.toNat ((nM a) -d)<Int.toNat ((nM a) -b)/\a.1=a.1/\(a.1.length:Int)=(a.1.length:Int)/\IntKind.wrap .i64
 (b+(1:Int))=d/\a.1=a.1/\a.2.1=a.2.1/\a.2.2.1=a.2.2.1/\a.2.2.2.1=a.2.2.2.1/\a.2.2.2.2.1=a.2.2.2.2.1/\a.2.2.2.2.2.1=a.2.2.2.2.2.1/\a.2.2.2.2.2.2.1=a.2.2.2.2.2.2.1/\a.2.2.2.2.2.2.2.1=a.2.2.2.2.2.2.2.1/\a.2.2.2.2.2.2.2.2.1=a.2.2.2.2.2.2.2.2.1/\a.2.2.2.2.2.2.2.2.2.1=a.2.2.2.2.2.2.2.2.2.1/\a.2.2.2.2.2.2.2.2.2.2.1.1=a.2.2.2.2.2.2.2.2.2.2.1.1/\a.2.2.2.2.2.2.2.2.2.2.1.2=a.2.2.2.2.2.2.2.2.2.2.1.2/\a.2.2.2.2.2.2.2.2.2.2.2.1=a.2.2.2.2.2.2.2.2.2.2.2.1/\a.2.2.2.2.2.2.2.2.2.2.2.2.1=a.2.2.2.2.2.2.2.2.2.2.2.2.1/\a.2.2.2.2.2.2.2.2.2.2.2.2.2.1=a.2.2.2.2.2.2.2.2.2.2.2.2.2.1/\a.2.2.2.2.2.2.2.2.2.2.2.2.2.2=a.2.2.2.2.2.2.2.2.2.2.2.2.2.2/\c++[(List.getD a.1 b.toNat default).2]=e/\True) (c=br a):=by
  delta yV nM
  rintro d-hl
  have hlen:(br d).length=(aA d).length:=by simp[br]
  refine⟨⟨0,[],⟨by omega,by omega,rfl⟩,(by repeat' first|exact trivial|refine⟨trivial,?_⟩|refine⟨(by with_reducible rfl),?_⟩|refine⟨af (by omega) (by omega),?_⟩|refine⟨rfl,?_⟩)⟩,?_⟩
  rintro j l ⟨j0,j1,rfl⟩
  have hd:d.1=aA d:=rfl
  rw[hd]
  refine ae (fun hk=>?_) (fun hk=>?_)
  ·have hk:=of_decide_eq_true hk
   refine⟨j0,hk,by simp only[List.length_take,List.length_cons,List.length_nil];omega,j+1,_,⟨by omega,by omega,rfl⟩,by omega,?_⟩
   (repeat first|refine⟨trivial,?_⟩|refine⟨(by with_reducible rfl),?_⟩|refine⟨af (by omega) (by omega),?_⟩)
   refine⟨?_,trivial⟩
   rw[AM j0 (by rw[hlen];exact hk)]
   unfold br
   rw[List.getD_eq_getElem?_getD,List.getD_eq_getElem?_getD,List.getElem?_map,List.getElem?_eq_getElem (by omega)]
   rfl
  ·have hk:=of_decide_eq_false hk
   rw[List.take_of_length_le (by omega)]
theorem G2:av Tryz.prog GL 175 NJ.spec:=Ct.okH _ Tryz.func175 (by kernel_rfl) aC ar Sf (aD (by kernel_rfl) Qs)
def KI:Ct:=⟨[.agg iq,.val cI,.val cI],[.val cI],fun _=>[],fun d=>((fy d.1.2.1 d.2.1 d.2.2.1,()),())⟩
def Sn:ao KI.ps->az:=(fun _=>{})
def fj(b:List aE)(d:Int) :=
 b.getD d.toNat default
theorem Zu :
 ∀(a:List ac)(b:List aE)(c:List aM)(d e:Int),((a.length<=maxLen/\ ∀(f:ac),f∈a->CT.wf bw f)/\(b.length<=maxLen/\ ∀(f:aE),f∈b->CT.wf ft f)/\c.length<=maxLen/\ ∀(f:aM),f∈c->CT.wf dX f)/\ab d/\ab e/\True->True->ad (! decide (0<=d/\d<=IntKind.wrap .i64 ((dq b) -(1:Int)))) ((-1:Int)=fy b d e) (0<=d/\d<(dq b)/\ad (decide (e=(fj b d).1)) ((fj b d).2.1=fy b d e) (ad (decide (e=(fj b d).2.1)) ((fj b d).1=fy b d e) ((-1:Int)=fy b d e))):=by
  delta fj dq
  rintro ns ls hs k x ⟨⟨-,⟨hl,-⟩,-⟩,-⟩ -
  simp only[maxLen] at hl
  rw[af (n:=(ls.length:Int)-1) (by omega) (by omega)]
  unfold fy lA lB
  refine ae (fun h=>?_) (fun h=>?_)
  ·have h:=gn h
   rw[if_pos (by omega)]
  have h:=gQ h
  rw[if_neg (by omega)]
  refine⟨h.1,by omega,ae (fun h1=>?_) (fun h1=>?_)⟩
  ·rw[if_pos (of_decide_eq_true h1)]
  rw[if_neg (of_decide_eq_false h1)]
  refine ae (fun h2=>?_) (fun h2=>?_)
  ·rw[if_pos (of_decide_eq_true h2)]
  ·rw[if_neg (of_decide_eq_false h2)]
theorem SH:av Tryz.prog GL 85 KI.spec:=Ct.okH _ Tryz.func85 (by kernel_rfl) (ai aC FE) ar Sn (aD (by kernel_rfl) Zu)
def iP(ns:List ac)(l:aE):Bool:=dw (ns.getD (lA l).toNat default)&&dw (ns.getD (lB l).toNat default)
def oG(n:bt):Int:=if n.2.1.any (iP n.1) then 13 else 0
def xC(n:bt):Prop:=∀ l∈n.2.1,0<=lA l/\lA l<n.1.length/\0<=lB l/\lB l<n.1.length
def HP:Ct:=⟨[.agg iq],[.val cI],fun d=>[xC d.1],fun d=>((oG d.1,()),())⟩
def UY:ao HP.ps->az:=(fun d=>{loops:=(fun n=>match n with|2=>some (fun S=>{ι:=Int,μ:=fun i=>(d.1.2.1.length-i).toNat,inv:=fun i=>0<=i/\i<=d.1.2.1.length∧∀ x∈d.1.2.1.take i.toNat,iP d.1.1 x=false,keep:=[1,6,7],slots:=fun i=>[(8,.int .i64 i)],keepN:=[32],names:=fun i=>[]})|_=>none)})
theorem YL :
 ∀(a:List ac)(b:List aE)(c:List aM),(p8 a b c)/\True->(∀(d:aE),d∈b->0<=lA d/\lA d<(d9 a)/\0<=lB d/\lB d<(d9 a))->(∃(d:Int),(0<=d/\d<=(dq b)/\ ∀(e:Int×Int×Int×Int×Int×Int),e∈List.take d.toNat b->iP a e=false)/\b=b/\(dq b)=(dq b)/\(0:Int)=d/\a=a/\b=b/\c=c/\True)/\ ∀(d:Int),(0<=d/\d<=(dq b)/\ ∀(e:Int×Int×Int×Int×Int×Int),e∈List.take d.toNat b->iP a e=false)->ad (decide (d<(dq b))) (0<=d/\d<(dq b)/\0<=(fj b d).1/\(fj b d).1<(d9 a)/\ ∀(e:Bool),e=(a.getD (Int.toNat (fj b d).1) default).2.2.2.2.2.2.2.2.2.2.2.2.1->(e->(e->e)/\True)/\(e->(e->e)/\True)/\(e->(e->e)/\(e->e)/\0<=(fj b d).2.1/\(fj b d).2.1<(d9 a)/\True)/\(e->(e->e)/\True)/\(e->(e->e)/\True)/\(e->e)/\ad (bif e then (a.getD (Int.toNat (fj b d).2.1) default).2.2.2.2.2.2.2.2.2.2.2.2.1 else false) ((13:Int)=oG (a,b,c)) (∃(f:Int),(0<=f/\f<=(dq b)/\
 ∀(g:Int×Int×Int×Int×Int×Int),g∈List.take f.toNat b->iP a g=false)/\Int.toNat ((dq b) -f)<Int.toNat ((dq b) -d)/\b=b/\(dq b)=(dq b)/\IntKind.wrap .i64 (d+(1:Int))=f/\a=a/\b=b/\c=c/\True)) ((0:Int)=oG (a,b,c)):=by
  delta p8 fj dq d9
  rintro ns ls hs ⟨⟨-,⟨hl,-⟩,-⟩,-⟩ he
  simp only[maxLen] at hl
  refine⟨⟨0,⟨by omega,by omega,by simp⟩,(by repeat' first|exact trivial|refine⟨trivial,?_⟩|refine⟨(by with_reducible rfl),?_⟩|refine⟨af (by omega) (by omega),?_⟩|refine⟨rfl,?_⟩)⟩,?_⟩
  rintro i ⟨i0,i1,hI⟩
  refine ae (fun hi=>?_) (fun hi=>?_)
  rotate_left
  ·have hi:=of_decide_eq_false hi
   rw[List.take_of_length_le (by omega)] at hI
   unfold oG
   rw[if_neg]
   intro h
   obtain⟨l,h1,h2⟩:=List.any_eq_true.1 h
   rw[hI l h1] at h2;cases h2
  have hi:=of_decide_eq_true hi
  have hm:=bH i0 hi
  have e:=he _ hm
  refine⟨i0,hi,e.1,e.2.1,?_⟩
  intro b hb
  (repeat first|refine⟨fun h=>⟨fun _=>h,fun _=>h,e.2.2.1,e.2.2.2,trivial⟩,?_⟩|refine⟨fun h=>⟨fun _=>h,e.2.2.1,e.2.2.2,trivial⟩,?_⟩|refine⟨by simp,?_⟩)
  refine rQ (fun x1 x2=>?_) (fun hno=>?_)
  ·unfold oG
   rw[if_pos]
   refine List.any_eq_true.2 ⟨_,hm,?_⟩
   unfold iP
   rw[Bool.and_eq_true]
   exact⟨hb.symm.trans x1,x2⟩
  ·refine⟨i+1,⟨by omega,by omega,r5 i0 hi hI ?_⟩,by omega,(by repeat' first|exact trivial|refine⟨trivial,?_⟩|refine⟨(by with_reducible rfl),?_⟩|refine⟨af (by omega) (by omega),?_⟩|refine⟨rfl,?_⟩)⟩
   unfold iP
   rw[Bool.and_eq_false_iff]
   rcases hno with h|h
   ·exact .inl (hb.symm.trans h)
   ·exact .inr h
theorem ab2:av Tryz.prog GL 119 HP.spec:=Ct.okH _ Tryz.func119 (by kernel_rfl) aC ar UY (aD (by kernel_rfl) YL)
def nQ(n:bt)(k:Nat):Bool:=decide (cF (n.1.getD (lA (n.2.1.getD k default)).toNat default) k<0)||decide (cF (n.1.getD (lB (n.2.1.getD k default)).toNat default) k<0)
def nX(n:bt):Int:=if (List.range n.2.1.length).any (nQ n) then 11 else 0
def Mm:Ct:=⟨[.agg iq],[.val cI],fun d=>[xC d.1],fun d=>((nX d.1,()),())⟩
def V8:ao Mm.ps->az:=(fun d=>{loops:=(fun n=>match n with|2=>some (fun S=>{ι:=Int,μ:=fun i=>(d.1.2.1.length-i).toNat,inv:=fun i=>0<=i/\i<=d.1.2.1.length∧∀ k:Nat,(k:Int)<i->nQ d.1 k=false,keep:=[1,6,7],slots:=fun i=>[(8,.int .i64 i)],keepN:=[32],names:=fun i=>[]})|_=>none)})
theorem Wh :
 ∀(a:List ac)(b:List aE)(c:List aM),(p8 a b c)/\True->(∀(d:aE),d∈b->0<=lA d/\lA d<(d9 a)/\0<=lB d/\lB d<(d9 a))->(∃(d:Int),(0<=d/\d<=(dq b)/\ ∀(e:Nat),(↑e:Int)<d->nQ (a,b,c) e=false)/\b=b/\(dq b)=(dq b)/\(0:Int)=d/\a=a/\b=b/\c=c/\True)/\ ∀(d:Int),(0<=d/\d<=(dq b)/\ ∀(e:Nat),(↑e:Int)<d->nQ (a,b,c) e=false)->ad (decide (d<(dq b))) (0<=d/\d<(dq b)/\0<=(fj b d).1/\(fj b d).1<(d9 a)/\ ∀(e:Bool),e=decide (cF (a.getD (Int.toNat (fj b d).1) default) d<0)->(nC e)/\(nC e)/\((! e)->((! e)->(! e))/\((! e)->(! e))/\0<=(fj b d).2.1/\(fj b d).2.1<(d9 a)/\True)/\(nC e)/\((! e)->((! e)->(! e))/\((! e)->(! e))/\True)/\(nC e)/\(e=false->(! e))/\ad (bif e then true else decide (cF (a.getD (Int.toNat (fj b d).2.1) default) d<0)) ((11:Int)=nX (a,b,c)) (∃(f:Int),(0<=f/\f<=(dq b)/\ ∀(g:Nat),(↑g:Int)<f->nQ (a,b,c) g=false)/\Int.toNat
 ((dq b) -f)<Int.toNat ((dq b) -d)/\b=b/\(dq b)=(dq b)/\IntKind.wrap .i64 (d+(1:Int))=f/\a=a/\b=b/\c=c/\True)) ((0:Int)=nX (a,b,c)):=by
  delta p8 fj dq nC d9
  rintro ns ls hs ⟨⟨-,⟨hl,-⟩,-⟩,-⟩ he
  simp only[maxLen] at hl
  refine⟨⟨0,⟨by omega,by omega,fun k hk=>by omega⟩,(by repeat' first|exact trivial|refine⟨trivial,?_⟩|refine⟨(by with_reducible rfl),?_⟩|refine⟨af (by omega) (by omega),?_⟩|refine⟨rfl,?_⟩)⟩,?_⟩
  rintro i ⟨i0,i1,hI⟩
  refine ae (fun hi=>?_) (fun hi=>?_)
  rotate_left
  ·have hi:=of_decide_eq_false hi
   unfold nX
   rw[if_neg]
   intro h
   obtain⟨k,h1,h2⟩:=List.any_eq_true.1 h
   have h1:k<ls.length:=List.mem_range.1 h1
   rw[hI k (by omega)] at h2;cases h2
  have hi:=of_decide_eq_true hi
  have hm:=bH i0 hi
  have e:=he _ hm
  have ei:((i.toNat:Nat):Int)=i:=by omega
  refine⟨i0,hi,e.1,e.2.1,?_⟩
  intro b hb
  (repeat first|refine⟨fun h=>⟨fun _=>h,fun _=>h,e.2.2.1,e.2.2.2,trivial⟩,?_⟩|refine⟨fun h=>⟨fun _=>h,e.2.2.1,e.2.2.2,trivial⟩,?_⟩|refine⟨by simp,?_⟩)
  refine pe (fun ho=>?_) (fun x1 x2=>?_)
  ·unfold nX
   rw[if_pos]
   refine List.any_eq_true.2 ⟨i.toNat,List.mem_range.2 (show i.toNat<ls.length by omega),?_⟩
   unfold nQ
   rw[Bool.or_eq_true,ei]
   rcases ho with h|h
   ·exact .inl (hb.symm.trans h)
   ·exact .inr h
  ·refine⟨i+1,⟨by omega,by omega,fun k hk=>?_⟩,by omega,(by repeat' first|exact trivial|refine⟨trivial,?_⟩|refine⟨(by with_reducible rfl),?_⟩|refine⟨af (by omega) (by omega),?_⟩|refine⟨rfl,?_⟩)⟩
   by_cases e2:(k:Int)<i
   ·exact hI k e2
   ·have:k=i.toNat:=by omega
    subst this
    unfold nQ
    rw[Bool.or_eq_false_iff,ei]
    exact⟨hb.symm.trans x1,x2⟩
theorem Vw:av Tryz.prog GL 117 Mm.spec:=Ct.okH _ Tryz.func117 (by kernel_rfl) (ai aC yY) ar V8 (aD (by kernel_rfl) Wh)
def iB(nn:Nat)(l:aE):Prop:=0<=lA l/\lA l<nn/\0<=lB l/\lB l<nn/\lA l≠lB l/\1<=kR l/\kR l<=1073741824/\0<=gX l/\gX l<=1073741824/\0<=oR l/\oR l<=65536
instance (nn:Nat) (l:aE):Decidable (iB nn l):=by unfold iB;infer_instance
def lw(n:bt):Int:=if n.2.1.all (fun l=>decide (iB n.1.length l)) then 0 else 11
def NM:Ct:=⟨[.agg iq],[.val cI],fun d=>[],fun d=>((lw d.1,()),())⟩
def Rv:ao NM.ps->az:=(fun d=>{loops:=(fun n=>match n with|3=>some (fun S=>{ι:=Int,μ:=fun i=>(d.1.2.1.length-i).toNat,inv:=fun i=>0<=i/\i<=d.1.2.1.length∧∀ x∈d.1.2.1.take i.toNat,iB d.1.1.length x,keep:=[1,3,11,12],slots:=fun i=>[(13,.int .i64 i)],keepN:=[32],names:=fun i=>[]})|_=>none)})
theorem Xe :
 ∀(a:List ac)(b:List aE)(c:List aM),(p8 a b c)/\True->True->(∃(d:Int),(0<=d/\d<=(dq b)/\ ∀(e:Int×Int×Int×Int×Int×Int),e∈List.take d.toNat b->iB a.length e)/\IntKind.wrap .i64 ((d9 a) -(1:Int))=IntKind.wrap .i64 ((d9 a) -(1:Int))/\b=b/\(dq b)=(dq b)/\(0:Int)=d/\a=a/\b=b/\c=c/\True)/\ ∀(d:Int),(0<=d/\d<=(dq b)/\ ∀(e:Int×Int×Int×Int×Int×Int),e∈List.take d.toNat b->iB a.length e)->ad (decide (d<(dq b))) (0<=d/\d<(dq b)/\ ∀(e:Bool),e= ! decide (0<=(fj b d).1/\(fj b d).1<=IntKind.wrap .i64 ((d9 a) -(1:Int)))->(nC e)/\((! e)->((! e)->(! e))/\((! e)->(! e))/\True)/\(nC e)/\(e=false->(! e))/\ ∀(f:Bool),(f=bif e then true else ! decide (0<=(fj b d).2.1/\(fj b d).2.1<=IntKind.wrap .i64 ((d9 a) -(1:Int))))->((! f)->((! f)->(! f))/\True)/\((! f)->((! f)->(! f))/\True)/\((! f)->((! f)->(! f))/\((! f)->(! f))/\True)/\(f=false->(! f))/\ ∀(g:Bool),(g=bif
 f then true else decide ((fj b d).1=(fj b d).2.1))->((! g)->((! g)->(! g))/\True)/\((! g)->((! g)->(! g))/\True)/\((! g)->((! g)->(! g))/\True)/\(g=false->(! g))/\ ∀(h:Bool),(h=bif g then true else ! decide (1<=(fj b d).2.2.1/\(fj b d).2.2.1<=1073741824))->((! h)->((! h)->(! h))/\True)/\((! h)->((! h)->(! h))/\True)/\((! h)->((! h)->(! h))/\True)/\(h=false->(! h))/\ ∀(i:Bool),(i=bif h then true else ! decide (0<=(fj b d).2.2.2.1/\(fj b d).2.2.2.1<=1073741824))->((! i)->((! i)->(! i))/\True)/\((! i)->((! i)->(! i))/\True)/\((! i)->((! i)->(! i))/\True)/\(i=false->(! i))/\ad (bif i then true else ! decide (0<=(fj b d).2.2.2.2.1/\(fj b d).2.2.2.2.1<=65536)) ((11:Int)=lw (a,b,c)) (∃(j:Int),(0<=j/\j<=(dq b)/\ ∀(k:Int×Int×Int×Int×Int×Int),k∈List.take j.toNat b->iB a.length k)/\Int.toNat ((dq b) -j)<Int.toNat ((dq b) -d)/\IntKind.wrap .i64 ((d9 a)
 -(1:Int))=IntKind.wrap .i64 ((d9 a) -(1:Int))/\b=b/\(dq b)=(dq b)/\IntKind.wrap .i64 (d+(1:Int))=j/\a=a/\b=b/\c=c/\True)) ((0:Int)=lw (a,b,c)):=by
  delta p8 fj dq nC d9
  rintro ns ls hs ⟨⟨⟨hnl,-⟩,⟨hl,-⟩,-⟩,-⟩ -
  simp only[maxLen] at hl hnl
  rw[af (n:=(ns.length:Int)-1) (by omega) (by omega)]
  refine⟨⟨0,⟨by omega,by omega,by simp⟩,(by repeat' first|exact trivial|refine⟨trivial,?_⟩|refine⟨(by with_reducible rfl),?_⟩|refine⟨af (by omega) (by omega),?_⟩|refine⟨rfl,?_⟩)⟩,?_⟩
  rintro i ⟨i0,i1,hI⟩
  refine ae (fun hi=>?_) (fun hi=>?_)
  rotate_left
  ·have hi:=of_decide_eq_false hi
   rw[List.take_of_length_le (by omega)] at hI
   unfold lw
   rw[if_pos]
   exact List.all_eq_true.2 fun l hl=>decide_eq_true (hI l hl)
  have hi:=of_decide_eq_true hi
  have hm:=bH i0 hi
  refine⟨i0,hi,?_⟩
  have key:iB ns.length (ls.getD i.toNat default)↔((0<=(ls.getD i.toNat default).1/\(ls.getD i.toNat default).1<=(ns.length:Int)-1)/\(0<=(ls.getD i.toNat default).2.1/\(ls.getD i.toNat default).2.1<=(ns.length:Int)-1)∧¬ (ls.getD i.toNat default).1=(ls.getD i.toNat default).2.1/\(1<=(ls.getD i.toNat default).2.2.1/\(ls.getD i.toNat default).2.2.1<=1073741824)/\(0<=(ls.getD i.toNat default).2.2.2.1/\(ls.getD i.toNat default).2.2.2.1<=1073741824)/\(0<=(ls.getD i.toNat default).2.2.2.2.1/\(ls.getD i.toNat default).2.2.2.2.1<=65536)):=by
   unfold iB lA lB kR gX oR
   omega
  have cE:=fun h=>r5 i0 hi hI (P:=iB ns.length) h
  generalize ls.getD i.toNat default=l at hm key cE ⊢
  generalize hA:decide (0<=l.1/\l.1<=(ns.length:Int)-1)=bA
  generalize hB:decide (0<=l.2.1/\l.2.1<=(ns.length:Int)-1)=bB
  generalize hC:decide (l.1=l.2.1)=bC
  generalize hD:decide (1<=l.2.2.1/\l.2.2.1<=1073741824)=bD
  generalize hE:decide (0<=l.2.2.2.1/\l.2.2.2.1<=1073741824)=bE
  generalize hF:decide (0<=l.2.2.2.2.1/\l.2.2.2.2.1<=65536)=bF
  have key2:iB ns.length l↔(bA=true/\bB=true/\bC=false/\bD=true/\bE=true/\bF=true):=by
   rw[key,← hA,← hB,← hC,← hD,← hE,← hF]
   simp only[decide_eq_true_eq,decide_eq_false_iff_not]
  have bad:¬ iB ns.length l->(11:Int)=lw (ns,ls,hs):=fun h=>by
   unfold lw
   rw[if_neg]
   intro k
   exact h (of_decide_eq_true (List.all_eq_true.1 k l hm))
  intro b1 hb1
  (repeat refine⟨by simp,?_⟩)
  intro b2 hb2
  (repeat refine⟨by simp,?_⟩)
  intro b3 hb3
  (repeat refine⟨by simp,?_⟩)
  intro b4 hb4
  (repeat refine⟨by simp,?_⟩)
  intro b5 hb5
  (repeat refine⟨by simp,?_⟩)
  have tot:(bif b5 then true else !bF) = !(bA&&bB && !bC&&bD&&bE&&bF):=by
   rw[hb5,hb4,hb3,hb2,hb1]
   cases bA <;> cases bB <;> cases bC <;> cases bD <;> cases bE <;> cases bF <;> rfl
  rw[tot]
  refine ae (fun h=>bad fun k=>?_) (fun h=>?_)
  ·obtain⟨a1,a2,a3,a4,a5,a6⟩:=key2.1 k
   rw[a1,a2,a3,a4,a5,a6] at h;cases h
  ·have h2:iB ns.length l:=key2.2 (by
    clear tot hb1 hb2 hb3 hb4 hb5 key2 hA hB hC hD hE hF
    revert h
    cases bA <;> cases bB <;> cases bC <;> cases bD <;> cases bE <;> cases bF <;> decide)
   exact⟨i+1,⟨by omega,by omega,cE h2⟩,by omega,(by repeat' first|exact trivial|refine⟨trivial,?_⟩|refine⟨(by with_reducible rfl),?_⟩|refine⟨af (by omega) (by omega),?_⟩|refine⟨rfl,?_⟩)⟩
theorem Xn:av Tryz.prog GL 115 NM.spec:=Ct.okH _ Tryz.func115 (by kernel_rfl) (ai aC FE) ar Rv (aD (by kernel_rfl) Xe)
end Go.RS

/- Topod: what the errors of networks, their parts and their routes at a time are: plain. -/
namespace Go.RS
open Go.SX Go.Proofs
set_option maxRecDepth 100000
set_option linter.unusedVariables false
theorem Ot{links:List Int}:∀{l:List Rt}{q:Option cJ},chk links q l=0->bI l/\(∀ p,q=some p→∀ r∈l,aW p r.1)∧∀ r∈l,jb r.1=true/\jS r links
 | [],q,_=>⟨List.Pairwise.nil,fun _ _ r hr=>(by cases hr),fun r hr=>(by cases hr)⟩
 | r::l,q,h=>by
  rw[chk] at h
  split at h
  ·cases h
  rename_i h1
  split at h
  ·cases h
  rename_i h2
  split at h
  ·cases h
  rename_i h3
  obtain⟨i1,i2,i3⟩:=Ot h
  have hv:jb r.1=true:=by cases hh:jb r.1 <;> simp_all
  have hp:∀ p,q=some p->aW p r.1:=fun p hp=>by
   subst hp
   rw[Option.any_some] at h2
   have:¬ (0<=fa p r.1):=by simpa using h2
   exact yC.1 (by omega)
  refine⟨List.pairwise_cons.2 ⟨i2 _ rfl,i1⟩,fun p e z hz=>?_,fun z hz=>?_⟩
  ·rcases List.mem_cons.1 hz with rfl|hz
   ·exact hp p e
   ·exact w7 (hp p e) (i2 _ rfl z hz)
  ·rcases List.mem_cons.1 hz with rfl|hz
   ·exact⟨hv,Classical.byContradiction h3⟩
   ·exact i3 z hz
theorem wE{l:List Rt}{links:List Int}(h:dj l links=0):bI l/\l.length<=64∧∀ r∈l,jb r.1=true/\jS r links:=by
 unfold dj at h
 split at h
 ·cases h
 ·rename_i hl
  have k:=Ot h
  exact⟨k.1,by omega,k.2.2⟩
theorem tm{l:List Rt}{links:List Int}(h:dj l links=0):bI l/\okL l:=by
 obtain⟨h1,h2,h3⟩:=wE h
 exact⟨h1,by omega,fun r hr=>by have:=(h3 r hr).2.1.1;omega⟩
def fW(c:aM):Int:=c.1
def bq(c:aM):Int:=c.2.1
def rb(c:aM):Bool:=c.2.2.1
def cX(c:aM):Rt:=c.2.2.2
def mH(a b:Int):Int:=if a≠0 then a else b
theorem nh{a b:Int}(h:mH a b=0):a=0/\b=0:=by
 unfold mH at h
 split at h
 ·rename_i k;exact absurd h k
 ·rename_i k;exact⟨by omega,h⟩
def nL(n:bt)(i:Nat)(k:Int):Bool:=decide ((n.2.1.length:Int)<=k) || !(decide (lA (n.2.1.getD k.toNat default)=i)||decide (lB (n.2.1.getD k.toNat default)=i))
def lX(n:bt)(i:Nat):Int :=
 if eh (n.1.getD i default)≠0 then eh (n.1.getD i default)
 else if (br (n.1.getD i default)).any (nL n i) then 11 else 0
def lp(n:bt):Int:=first (lX n) n.1.length
def fF(l:List Rt)(c:aM):List Rt:=if rb c=true then gB l (cX c).1 else dJ l (cX c)
def cU(n:bt):Nat->List (List Rt)
 | 0=>n.1.map aQ
 | i+1=>(cU n i).set (bq (n.2.2.getD i default)).toNat (fF ((cU n i).getD (bq (n.2.2.getD i default)).toNat default) (n.2.2.getD i default))
def mw(n:bt)(i:Nat)(c p:aM)(l:List Rt):Int :=
 if fW c<0∨1125899906842624<fW c then 1
 else if 0<i/\fW c<fW p then 6
 else if bq c<0∨(n.1.length:Int)<=bq c then 8
 else if rb c=true/\mj l (cX c).1=false then 8
 else dj (fF l c) (br (n.1.getD (bq c).toNat default))
def ig(n:bt)(i:Nat):Int:=mw n i (n.2.2.getD i default) (n.2.2.getD (i-1) default) ((cU n i).getD (bq (n.2.2.getD i default)).toNat default)
def m4(n:bt):Int:=first (ig n) n.2.2.length
def dV(n:bt):Int:=mH (nE n) (mH (lw n) (mH (lp n) (mH (nX n) (mH (pd n) (mH (oG n) (m4 n))))))
theorem GY{n:bt}(h:lw n=0):xC n:=fun l hl=>by
 unfold lw at h
 split at h
 ·rename_i k
  have k:=of_decide_eq_true (List.all_eq_true.1 k l hl)
  exact⟨k.1,k.2.1,k.2.2.1,k.2.2.2.1⟩
 ·cases h
theorem mq{α:Type} [Inhabited α] {xs:List α} {i:Nat} (h:i<xs.length):xs.getD i default∈xs:=by
 have:=bH (xs:=xs) (i:=(i:Nat)) (by omega) (by omega)
 simpa using this
theorem SU{x:ac}(h:first (fN x) (aA x).length=0):∀ k∈br x,0<=k:=fun k hk=>by
 obtain⟨q,hq,rfl⟩:=List.mem_map.1 hk
 obtain⟨i,hi,e⟩:=List.mem_iff_getElem.1 hq
 have k1:=rz h i hi
 unfold fN at k1
 rw[List.getD_eq_getElem?_getD,List.getElem?_eq_getElem hi,Option.getD_some,e] at k1
 split at k1
 ·cases k1
 split at k1
 ·cases k1
 rename_i h2
 show 0<=q.2
 omega
structure NV (x:ac):Prop where
 len:(aA x).length<=32
 pos:0<(aA x).length
 bad:first (fN x) (aA x).length=0
 loop:¬ mb x
 form:¬ kL x
 tab:dj (aQ x) (br x)=0
theorem Lo{x:ac}(h:eh x=0):NV x:=by
 unfold eh at h
 split at h
 ·cases h
 rename_i h1
 split at h
 ·rename_i k;exact absurd h k
 rename_i h2
 split at h
 ·cases h
 rename_i h3
 split at h
 ·cases h
 rename_i h4
 split at h
 ·rename_i k;exact absurd h k
 split at h
 ·rename_i k;exact absurd h k
 refine⟨by omega,?_,by omega,h3,h4,h⟩
 unfold kL at h4
 omega
theorem AA{n:bt}(h:lp n=0){i:Nat}(hi:i<n.1.length):NV (n.1.getD i default):=by
 have k:=rz h i hi
 unfold lX at k
 split at k
 ·rename_i e;exact absurd k e
 ·rename_i e;exact Lo (by omega)
theorem RW{n:bt}(h:lp n=0):∀ x∈n.1,NV x:=fun x hx=>by
 obtain⟨i,hi,e⟩:=List.mem_iff_getElem.1 hx
 have:=AA h hi
 rw[List.getD_eq_getElem?_getD,List.getElem?_eq_getElem hi,e] at this;exact this
structure TB (n:bt) (t:List (List Rt)):Prop where
 len:t.length=n.1.length
 r:∀ i:Nat,i<n.1.length->bI (t.getD i default)/\okL (t.getD i default)
theorem xK{α β:Type} [Inhabited α] [Inhabited β] {f:α->β} {l:List α} {i:Nat} (h:i<l.length):(l.map f).getD i default=f (l.getD i default):=by
 rw[List.getD_eq_getElem?_getD,List.getD_eq_getElem?_getD,List.getElem?_map,List.getElem?_eq_getElem h];rfl
theorem oa(n:bt):∀ i:Nat,(cU n i).length=n.1.length
 | 0=>by simp[cU]
 | i+1=>by rw[cU,List.length_set,oa n i]
theorem NI{n:bt}(hb:lp n=0):∀{i:Nat},first (ig n) i=0->TB n (cU n i)
 | 0,_=>⟨oa n 0,fun i hi=>by
  rw[cU,xK hi]
  exact tm (AA hb hi).tab⟩
 | i+1,h=>by
  have h0:first (ig n) i=0:=by
   by_cases e:first (ig n) i=0
   ·exact e
   ·rw[first,if_pos e] at h;exact h
  have k:=NI hb h0
  have hz:ig n i=0:=rz h i (by omega)
  refine⟨oa n _,fun j hj=>?_⟩
  rw[cU]
  unfold ig mw at hz
  generalize n.2.2.getD i default=c at hz ⊢
  split at hz
  ·cases hz
  split at hz
  ·cases hz
  split at hz
  ·cases hz
  rename_i hw
  split at hz
  ·cases hz
  by_cases e:(bq c).toNat=j
  ·subst e
   rw[ic (by rw[k.len];exact hj)]
   exact tm hz
  ·rw[j9 e];exact k.r j hj
def D3(who at':Int)(l:List Rt)(c:aM):List Rt:=if bq c=who/\fW c<=at' then fF l c else l
def Kx(n:bt)(who at':Int)(k:Int):List Rt:=(n.2.2.take k.toNat).foldl (D3 who at') (aQ (n.1.getD who.toNat default))
def BV(n:bt)(who at':Int):List Rt:=if who<0∨(n.1.length:Int)<=who then [] else Kx n who at' n.2.2.length
structure xG (m:Nat) (l:List Rt):Prop where
 s:bI l
 n:l.length<=m
 x:∀ r∈l,(r.2.1.length:Int)<=1099511627776
theorem xG.okL{m:Nat}{l:List Rt}(h:xG m l)(hm:m<=100000):okL l:=⟨by have:=h.n;omega,h.x⟩
theorem xG.ch{m:Nat}{l:List Rt}(h:xG m l){c:aM}(hc:((cX c).2.1.length:Int)<=1099511627776):xG (m+1) (fF l c):=by
 unfold fF
 split
 ·refine⟨List.Pairwise.filter _ h.s,?_,fun r hr=>h.x r (List.mem_filter.1 hr).1⟩
  have:=H4 l (cX c).1
  have:=h.n
  omega
 ·refine⟨FC h.s,?_,fun r hr=>?_⟩
  ·have:=Mt l (cX c)
   have:=h.n
   omega
  ·rcases Mc.1 hr with rfl|⟨hr,-⟩
   ·exact hc
   ·exact h.x r hr
def av1(s t:Int)(c:aM):Bool:=decide (s<fW c/\fW c<=t)
theorem Rw{x:ac}{a:Int}:0<=jQ x a↔a∈nR x:=by
 unfold jQ fM
 constructor
 ·intro h
  split at h
  ·rename_i k
   have:=List.findIdx_getElem (w:=k)
   exact List.mem_map.2 ⟨_,List.getElem_mem k,of_decide_eq_true this⟩
  ·omega
 ·intro h
  obtain⟨q,hq,rfl⟩:=List.mem_map.1 h
  have:(aA x).findIdx (iX q.1)<(aA x).length:=List.findIdx_lt_length_of_exists ⟨q,hq,by unfold iX;simp⟩
  rw[if_pos this];omega
end Go.RS

/- Node2: a node's state; what a node does, in the program and in the reference. -/
namespace Go.RS
open Go.SX Go.Proofs
set_option maxRecDepth 100000
set_option linter.unusedVariables false
def lz(x:ac):bp:=(aQ x,0,List.replicate (aA x).length 0,yy (io x) 0,0)
def vN(b t:Int×Int):Prop:=(0<=t.2/\t.2<=1125899906842624)/\(b=(0,0)->t.1=0)/\(b≠(0,0)->0<=t.1/\t.1<=b.1*b.2)
structure fR (x:ac) (s:bp) (K:Int):Prop where
 srt:bI (bh s)
 okl:okL (bh s)
 rt:∀ r∈bh s,jS r (br x)
 ps:(jc s).length=(aA x).length
 tk:vN (io x) (pD s)
 cn:0<=mG s/\mG s<=K
 cp:∀ y∈jc s,0<=y/\y<=K
def zA(x:ac)(s:bp)(link at':Int)(b:List Int):cy:=(x,s,link,at',b,(aS b).1)
def kB(kind:Int)(w:cy)(f i:Int):List Int:=if kind=2 then cT w 11 0 f i else if kind=3 then cT w 3 0 f i else dk w f i
def kE(kind:Int)(w:cy)(i:Int):Int:=if kind=2 then iE w 11 0 i else if kind=3 then iE w 3 0 i else iL w i
def lS(kind:Int)(w:cy):Int:=if kind=0 then gU w.2.2.2.2.2 else 0
def pk(w:cy)(kind:Int):lu:=cq (kB kind w) (kE kind w) w (lS kind w)
theorem zQ{b:Int×Int}(h:gD b=0):b=(0,0)∨(1<=b.1/\b.1<=65536/\1<=b.2/\b.2<=1073741824/\b.2<=b.1*b.2/\b.1*b.2<=70368744177664):=by
 unfold gD at h
 split at h
 ·rename_i hh
  rcases hh with hh|⟨h1,h2,h3,h4⟩
  ·exact .inl hh
  ·refine .inr ⟨h1,h2,h3,h4,?_,?_⟩
   ·have:=Int.mul_le_mul_of_nonneg_right (a:=1) (b:=b.1) (c:=b.2) h1 (by omega);omega
   ·have:=Int.mul_le_mul (a:=b.1) (b:=b.2) (c:=65536) (d:=1073741824) h2 h4 (by omega) (by omega);omega
 ·cases h
theorem VH{b:Int×Int}(h:gD b=0)(x:Int):yy b x=(b.1*b.2,x):=by
 rcases zQ h with rfl|hh
 ·rfl
 ·unfold yy w;rw[af (by omega) (by omega)]
theorem Ru{b t:Int×Int}{x:Int}(h:gD b=0)(hb:b≠(0,0))(ht:vN b t)(hx:0<=x/\x<=1125899906842624) :
  ik b t x=if min (t.1+(max x t.2-t.2)) (b.1*b.2)<b.2 then ((min (t.1+(max x t.2-t.2)) (b.1*b.2),max x t.2),false) else ((min (t.1+(max x t.2-t.2)) (b.1*b.2)-b.2,max x t.2),true):=by
 obtain⟨h1,-,h3⟩:=ht
 have h3:=h3 hb
 have hc:=(zQ h).resolve_left hb
 have e:pL b t (max x t.2)=min (t.1+(max x t.2-t.2)) (b.1*b.2):=by
  unfold pL w
  rw[af (n:=max x t.2-t.2) (by omega) (by omega),af (by omega) (by omega),af (by omega) (by omega)]
 unfold ik w
 rw[if_neg hb,e]
 split
 ·rfl
 ·rw[af (by omega) (by omega)]
theorem ad0{b t:Int×Int}{x:Int}(h:gD b=0)(ht:vN b t)(hx:0<=x/\x<=1125899906842624):vN b (ik b t x).1/\(ik b t x).1.2=max x t.2:=by
 have h1:=ht.1
 by_cases hb:b=(0,0)
 ·subst hb
  rw[show ik (0,0) t x=((0,max x t.2),true) by simp[ik]]
  exact⟨⟨⟨by show 0<=max x t.2;omega,by show max x t.2<=_;omega⟩,fun _=>rfl,fun k=>absurd rfl k⟩,rfl⟩
 ·have hc:=(zQ h).resolve_left hb
  have h3:=ht.2.2 hb
  rw[Ru h hb ht hx]
  split
  ·exact⟨⟨⟨by show 0<=max x t.2;omega,by show max x t.2<=_;omega⟩,fun k=>absurd k hb,fun _=>⟨by show 0<=min _ _;omega,by show min _ _<=_;omega⟩⟩,rfl⟩
  ·exact⟨⟨⟨by show 0<=max x t.2;omega,by show max x t.2<=_;omega⟩,fun k=>absurd k hb,fun _=>⟨by show 0<=min _ _-_;omega,by show min _ _-_<=_;omega⟩⟩,rfl⟩
structure mL (x:ac):Prop where
 n1:1<=(aA x).length
 n32:(aA x).length<=32
 id:iw x=0
 bk:gD (io x)=0
 rt:dj (aQ x) (br x)=0
 loop:¬ mb x
 ports:∀ i,i<(aA x).length->fN x i=0
 form:¬ kL x
theorem Pk{x:ac}(h:eh x=0):mL x:=by
 unfold eh at h
 split at h
 ·cases h
 rename_i a1
 split at h
 ·rename_i k;exact absurd h k
 rename_i a2
 split at h
 ·cases h
 rename_i a3
 split at h
 ·cases h
 rename_i a4
 split at h
 ·rename_i k;exact absurd h k
 rename_i a5
 split at h
 ·rename_i k;exact absurd h k
 rename_i a6
 refine⟨?_,by omega,by simpa using a5,by simpa using a6,h,a3,rz (by simpa using a2),a4⟩
 by_cases k:(aA x).length=0
 ·exact absurd (.inr (.inr (.inr (.inr (.inr (.inr k)))))) a4
 ·omega
theorem ah8{a:Int}(h:fg a):a≠0:=by
 rintro rfl
 revert h
 unfold fg
 decide
theorem qY{q:Int×Int->Bool}{l:List (Int×Int)}(h:0<=fM q l):fM q l<l.length/\q (l.getD (fM q l).toNat default)=true:=by
 unfold fM at h ⊢
 split at h
 ·rename_i hlt
  rw[if_pos hlt]
  refine⟨by omega,?_⟩
  rw[Int.toNat_natCast,List.getD_eq_getElem?_getD,List.getElem?_eq_getElem hlt,Option.getD_some]
  exact List.findIdx_getElem (w:=hlt)
 ·omega
theorem I8{q:Int×Int->Bool}{l:List (Int×Int)}{y:Int×Int}(hy:y∈l)(hq:q y=true):0<=fM q l:=by
 have hlt:l.findIdx q<l.length:=List.findIdx_lt_length_of_exists ⟨y,hy,hq⟩
 unfold fM;rw[if_pos hlt];omega
theorem KQ{x:ac}{i:Nat}(h:fN x i=0):fg ((aA x).getD i default).1∧¬ ((aA x).getD i default).2<0:=by
 unfold fN at h
 split at h
 ·cases h
 ·rename_i k
  split at h
  ·cases h
  ·rename_i k2
   exact⟨Decidable.not_not.1 fun q=>k (.inl q),fun q=>k2 (.inl q)⟩
theorem YZ{x:ac}(h:mL x){a:Int}(ha:j5 x a=true):a≠0:=by
 rintro rfl
 unfold j5 at ha
 simp only[Bool.or_eq_true,decide_eq_true_eq,Bool.and_eq_true,Bool.not_eq_true',decide_eq_false_iff_not] at ha
 rcases ha with ha|⟨h1,h2⟩
 ·have ha:0<=fM (iX 0) (aA x):=ha
  obtain⟨k1,k2⟩:=qY (q:=iX 0) (l:=aA x) ha
  have:=(KQ (h.ports (fM (iX 0) (aA x)).toNat (by omega))).1
  have e:((aA x).getD (fM (iX 0) (aA x)).toNat default).1=0:=of_decide_eq_true k2
  rw[e] at this
  exact ah8 this rfl
 ·exact h1 h2
theorem Vd{x:ac}(h:mL x)(k:Int):bi x k<(aA x).length:=by
 have:=h.n1
 unfold bi
 by_cases hk:0<=cF x k
 ·have:=(qY hk).1
  have e:cF x k=fM (gG k) (aA x):=rfl
  omega
 ·omega
theorem NY{x:ac}{i:Int}(h0:0<=i)(h1:i<(aA x).length):adr x i=((aA x).getD i.toNat default).1:=by
 unfold adr;rw[if_neg (by omega)]
theorem Xc{l:List Rt}{a:Int}(h:mV l a=true):bd l a∈l:=by
 have key:∀(l:List Rt)(b:Option Rt)(r:Rt),l.foldl (rE a) b=some r->r∈l∨b=some r:=by
  intro l
  induction l with
  | nil=>intro b r e;exact .inr e
  | cons y l ih =>
   intro b r e
   rcases ih _ _ e with h1|h1
   ·exact .inl (List.mem_cons_of_mem _ h1)
   ·unfold rE at h1
    split at h1
    ·split at h1
     ·cases h1;exact .inl List.mem_cons_self
     ·split at h1
      ·cases h1;exact .inl List.mem_cons_self
      ·exact .inr h1
    ·exact .inr h1
 unfold mV at h
 unfold bd
 cases hl:ku l a with
 | none=>rw[hl] at h;cases h
 | some r =>
  rcases key l none r hl with k|k
  ·exact k
  ·cases k
theorem MM{s:bp}{a:Int}(h:¬ d7 s a=false):bd (bh s) a∈bh s:=by
 refine Xc ?_
 unfold d7 at h
 cases hb:mV (bh s) a with
 | true=>rfl
 | false=>rw[hb] at h;simp at h
theorem Ke{x:ac}{s:bp}{r:Rt}{k:mO}(h:r.2.1≠[]):gZ x s r k∈r.2.1:=by
 have hpos:1<=(r.2.1.length:Int):=by cases hh:r.2.1 with
  | nil=>exact absurd hh h
  | cons a l=>simp;omega
 unfold gZ
 split
 ·exact bH (i:=0) (by omega) (by omega)
 ·have hc:=NR (way:=r.2.2) (seed:=z6 x) (k:=k) (count:=kI s) hpos
  exact bH hc.1 hc.2
theorem Ni{r:Rt}{links:List Int}(h:jS r links):∀ y∈r.2.1,y∈links:=by
 intro y hy
 obtain⟨i,hi,rfl⟩:=List.mem_iff_getElem.1 hy
 have:=(h.1.2 i hi).2
 rwa [List.getD_eq_getElem?_getD,List.getElem?_eq_getElem hi,Option.getD_some] at this
theorem Co{x:ac}{k:Int}(h:k∈br x):0<=cF x k:=by
 obtain⟨y,hy,rfl⟩:=List.mem_map.1 h
 exact I8 hy (by simp[gG])
theorem Yb{x:ac}{s:bp}{K:Int}(hs:fR x s K){a:Int}(hw:¬ d7 s a=false)(s':bp)(k:mO):0<=cF x (gZ x s' (bd (bh s) a) k) :=
 Co (Ni (hs.rt _ (MM hw)) _ (Ke (yD hw)))
theorem ai3{l:List Int}{K i:Int}(h:∀ y∈l,0<=y/\y<=K)(hK:0<=K/\K<=2199023255552)(h0:0<=i):(nK l i).length=l.length∧∀ y∈nK l i,0<=y/\y<=K+1:=by
 unfold nK
 split
 ·rename_i hi
  refine⟨List.length_set,fun y hy=>?_⟩
  rcases List.mem_or_eq_of_mem_set hy with hy|rfl
  ·have:=h y hy;omega
  ·have:=h _ (bH h0 hi)
   rw[af (by omega) (by omega)];omega
 ·exact⟨rfl,fun y hy=>by have:=h y hy;omega⟩
theorem fR.more{x:ac}{s:bp}{K K':Int}(h:fR x s K)(hk:K<=K'):fR x s K' :=
 ⟨h.srt,h.okl,h.rt,h.ps,h.tk,by have:=h.cn;omega,fun y hy=>by have:=h.cp y hy;omega⟩
theorem fR.tok{x:ac}{s:bp}{K:Int}(h:fR x s K){t:Int×Int}(ht:vN (io x) t):fR x (yj s t) K:=⟨h.srt,h.okl,h.rt,h.ps,ht,h.cn,h.cp⟩
theorem fR.bal{x:ac}{s:bp}{K:Int}(h:fR x s K)(b:Int):fR x (Ps s b) K:=⟨h.srt,h.okl,h.rt,h.ps,h.tk,h.cn,h.cp⟩
theorem fR.pick{x:ac}{s:bp}{K:Int}(h:fR x s K)(r:Rt):fR x (fx s r) K:=by
 unfold fx;split
 ·exact h
 ·exact h.bal _
theorem fR.sent{x:ac}{s:bp}{K i:Int}(h:fR x s K)(hK:0<=K/\K<=2199023255552)(h0:0<=i):fR x (Hl s i) (K+1):=by
 obtain⟨b1,b2⟩:=ai3 h.cp hK h0
 refine⟨h.srt,h.okl,h.rt,b1.trans h.ps,h.tk,?_,b2⟩
 have:=h.cn
 show 0<=IntKind.i64.wrap (mG s+1)/\IntKind.i64.wrap (mG s+1)<=K+1
 rw[af (by omega) (by omega)];omega
theorem CQ{B:Int->Int->List Int}{E:Int->Int}{w:cy}{own:Int}{K:Int}(hx:mL w.1)(hs:fR w.1 w.2.1 K)(hK:0<=K/\K<=2199023255552)(ha:0<=w.2.2.2.1/\w.2.2.2.1<=1125899906842624) :
  fR w.1 (cq B E w own).1 (K+1):=by
 have ht:=ad0 hx.bk hs.tk ha
 unfold cq
 split
 ·exact hs.more (by omega)
 split
 ·exact hs.more (by omega)
 split
 ·exact hs.more (by omega)
 split
 ·exact (hs.tok ht.1).more (by omega)
 ·exact ((hs.tok ht.1).sent hK (An _ _)).pick _
theorem RV{x:ac}{s:bp}{link at':Int}{b:List Int}{K:Int}(hx:mL x)(hs:fR x s K)(hK:0<=K/\K<=2199023255552)(ha:0<=at'∧at'<=1125899906842624):fR x (dD x s link at' b).1 (K+1):=by
 have m:fR x s (K+1):=hs.more (by omega)
 unfold dD dS
 split
 ·exact m
 split
 ·unfold gc
  split
  ·exact m
  ·exact CQ (w:=ry (x,s,link,at',b,mI) (aS b).1) hx hs hK ha
 split
 ·exact m
 ·unfold dR
  split
  ·exact CQ (w:=ry (x,s,link,at',b,mI) (aS b).1) hx hs hK ha
  split
  ·split
   ·exact m
   ·exact CQ (w:=ry (x,s,link,at',b,mI) (aS b).1) hx hs hK ha
  ·exact m.pick _
theorem J7{x:ac}(hx:mL x):fR x (lz x) 0:=by
 obtain⟨h1,h2⟩:=tm hx.rt
 obtain⟨-,-,h3⟩:=wE hx.rt
 refine⟨h1,h2,fun r hr=>(h3 r hr).2,List.length_replicate,?_,⟨Int.le_refl _,Int.le_refl _⟩,fun y hy=>by rw[List.eq_of_mem_replicate hy];exact⟨Int.le_refl _,Int.le_refl _⟩⟩
 show vN (io x) (yy (io x) 0)
 rw[VH hx.bk]
 refine⟨⟨by simp,by simp⟩,fun k=>by rw[k];rfl,fun k=>?_⟩
 have:=(zQ hx.bk).resolve_left k
 exact⟨by show 0<=_*_;omega,Int.le_refl _⟩
def GU:Ct:=⟨[.val (.sl cB)],[.own 97 cB],fun d=>[okL d.1],fun d=>((d.1,()),())⟩
def QI:ao GU.ps->az:=(fun d=>{loops:=(fun n=>match n with|3=>some (fun S=>{ι:=Int,μ:=fun i=>(d.1.length-i).toNat,inv:=fun i=>0<=i/\i<=d.1.length,keep:=[3,8,9],slots:=fun i=>[(10,.int .i64 i)],keepN:=[128],names:=fun i=>[]})|_=>none)})
theorem VP :
 ∀(a:List aF),(a.length<=maxLen/\ ∀(b:aF),b∈a->((0<=b.1.1/\b.1.1<=4294967295)/\ab b.1.2)/\(b.2.1.length<=maxLen/\ ∀(c:Int),c∈b.2.1->ab c)/\ab b.2.2)/\True->((a.length:Int)<=134217728/\ ∀(b:Rt),b∈a->(b.2.1.length:Int)<=1099511627776)->(a.length:Int)<=134217728/\(∃(b:Int),(0<=b/\b<=(a.length:Int))/\(a.length:Int)=(a.length:Int)/\(0:Int)=b/\a=a/\True)/\ ∀(b:Int),0<=b/\b<=(a.length:Int)->ad (decide (b<(a.length:Int))) (0<=b/\b<(a.length:Int)/\((List.length (a.getD b.toNat default).2.1):Int)<=1099511627776/\0<=b/\b<(a.length:Int)/\ ∃(c:Int),(0<=c/\c<=(a.length:Int))/\Int.toNat ((a.length:Int) -c)<Int.toNat ((a.length:Int) -b)/\(a.length:Int)=(a.length:Int)/\IntKind.wrap .i64 (b+(1:Int))=c/\List.set a b.toNat (a.getD b.toNat default)=a/\True) (a=a):=by
  rintro l ⟨⟨hl,-⟩,-⟩⟨h1,h2⟩
  simp only[maxLen] at hl
  refine⟨h1,⟨0,⟨by omega,by omega⟩,(by repeat' first|exact trivial|refine⟨trivial,?_⟩|refine⟨(by with_reducible rfl),?_⟩|refine⟨af (by omega) (by omega),?_⟩|refine⟨rfl,?_⟩)⟩,?_⟩
  rintro j ⟨j0,j1⟩
  refine ae (fun hj=>?_) (fun hj=>?_)
  ·have hj:=of_decide_eq_true hj
   refine⟨j0,hj,h2 _ (bH j0 hj),j0,hj,j+1,⟨by omega,by omega⟩,by omega,?_⟩
   (repeat first|refine⟨trivial,?_⟩|refine⟨(by with_reducible rfl),?_⟩|refine⟨af (by omega) (by omega),?_⟩)
   exact⟨py j0 hj,trivial⟩
  ·rfl
theorem Hf:av Tryz.prog GL 126 GU.spec:=Ct.okH _ Tryz.func126 (by kernel_rfl) (ai (ai aC Jl) uy) ar QI (aD (by kernel_rfl) VP)
def OB:Ct:=⟨[.agg bw],[.agg mr],fun d=>[okL (aQ d.1),((aA d.1).length:Int)<=1000000],fun d=>((lz d.1,()),())⟩
def ZF:ao OB.ps->az:=(fun _=>{})
theorem ad5 :
 ∀(a:ac),CT.wf bw a/\True->okL (aQ a)/\((List.length (aA a)):Int)<=1000000->0<=(a.1.length:Int)/\(a.1.length:Int)<=(a.1.length:Int)/\(↑(8:Nat):Int)*(a.1.length:Int)<=281474976710656/\okL a.2.2.2.2.1/\(a.2.2.2.2.1,(0:Int),List.replicate (Int.toNat (a.1.length:Int)) (0:Int),(w (a.2.2.2.2.2.2.2.2.2.2.1.1*a.2.2.2.2.2.2.2.2.2.2.1.2),(0:Int)),(0:Int))=lz a:=by
  rintro d-⟨h,hl⟩
  have hl:(d.1.length:Int)<=1000000:=hl
  exact⟨by omega,by omega,by omega,h,rfl⟩
theorem at0:av Tryz.prog GL 58 OB.spec:=Ct.okH _ Tryz.func58 (by kernel_rfl) (ai (ai aC ZH) Hf) ar ZF (aD (by kernel_rfl) ad5)
def HE:Ct:=⟨[.agg bw,.agg mr,.val cI,.val cI,.val (.sl bj)],[.agg mr,.agg sX,.val cI],fun d=>[bI (bh d.2.1),okL (bh d.2.1),((jc d.2.1).length:Int)<=1000000,(d.2.2.2.2.1.length:Int)<=1000000],fun d=>(((dD d.1 d.2.1 d.2.2.1 d.2.2.2.1 d.2.2.2.2.1).1,(dD d.1 d.2.1 d.2.2.1 d.2.2.2.1 d.2.2.2.2.1).2.1,(dD d.1 d.2.1 d.2.2.1 d.2.2.2.1 d.2.2.2.2.1).2.2,()),())⟩
def ac7:ao HE.ps->az:=(fun _=>{})
def wQ(a:ac)(b:List aF)(c:Int)(d:List Int)(e f g h i:Int)(j:List Int) :=
 (a,(b,c,d,(e,f),g),h,i,j,(0:Int),(0:Int),(0:Int),(0:Int),false,(0:Int),(0:Int))
theorem PY :
 ∀(a:ac)(b:List aF)(c:Int)(d:List Int)(e f g h i:Int)(j:List Int),CT.wf bw a/\((b.length<=maxLen/\ ∀(k:aF),k∈b->((0<=k.1.1/\k.1.1<=4294967295)/\ab k.1.2)/\(k.2.1.length<=maxLen/\ ∀(l:Int),l∈k.2.1->ab l)/\ab k.2.2)/\ab c/\(d.length<=maxLen/\ ∀(k:Int),k∈d->ab k)/\(ab e/\ab f)/\ab g)/\ab h/\ab i/\(j.length<=maxLen/\ ∀(k:Int),k∈j->0<=k/\k<=255)/\True->bI (bh (b,c,d,(e,f),g))/\okL (bh (b,c,d,(e,f),g))/\((List.length (jc (b,c,d,(e,f),g))):Int)<=1000000/\(j.length:Int)<=1000000->(d.length:Int)<=1099511627776/\okL b/\lZ (wQ a b c d e f g h i j)/\(dS (wQ a b c d e f g h i j)).1=(dD a (b,c,d,(e,f),g) h i j).1/\(dS (wQ a b c d e f g h i j)).2.1=(dD a (b,c,d,(e,f),g) h i j).2.1/\(dS (wQ a b c d e f g h i j)).2.2=(dD a (b,c,d,(e,f),g) h i j).2.2:=by
  delta wQ
  rintro d x x1 x2 x3 x4 x5 x6 x7 x8-⟨hs,hl,hp,hb⟩
  have e2:jc (x,x1,x2,(x3,x4),x5)=x2:=rfl
  rw[e2] at hp
  exact⟨by omega,hl,⟨hs,hl,hb⟩,rfl,rfl,rfl⟩
theorem aa7:av Tryz.prog GL 99 HE.spec:=Ct.okH _ Tryz.func99 (by kernel_rfl) (ai (ai (ai aC uy) Hf) Yv) ar ac7 (aD (by kernel_rfl) PY)
theorem uW(s:bp)(r:Rt):fx s r=(s.1,s.2.1,s.2.2.1,s.2.2.2.1,kI (fx s r)):=by unfold fx;split <;> rfl
theorem YU(k:Int)(w:cy)(f i:Int):((kB k w f i).length:Int)<=1500:=by
 unfold kB;split
 ·exact BR ..
 ·split
  ·exact BR ..
  ·exact LY ..
theorem ag5(w:cy):pk w 0=cq (dk w) (iL w) w (gU w.2.2.2.2.2):=rfl
theorem Xi(w:cy):pk w 1=cq (dk w) (iL w) w 0:=rfl
theorem Y4(w:cy):pk w 2=cq (cT w 11 0) (iE w 11 0) w 0:=rfl
theorem WG(w:cy):pk w 3=cq (cT w 3 0) (iE w 3 0) w 0:=rfl
end Go.RS

/- Law08: the laws of answers. -/
namespace Go.RS
open Go.SX Go.Proofs
set_option maxRecDepth 100000
set_option linter.unusedVariables false
theorem ad1{n:mA}(h0:gw n=0)(hb:bytes n.2.2):wZ (fL n)=0/\qJ (fL n)=n:=by
 have h1:(n.1=3∨n.1=11)/\0<=n.2.1/\n.2.1<=255:=Classical.byContradiction fun k=>by rw[gw,if_pos k] at h0;cases h0
 have h2:¬ (n.2.2.length:Int)<28:=fun k=>by rw[gw,if_neg (fun q=>q h1),if_pos k] at h0;cases h0
 have h3:¬ (1472:Int)<n.2.2.length:=fun k=>by rw[gw,if_neg (fun q=>q h1),if_neg h2,if_pos k] at h0;cases h0
 have hc:=mQ (Dr (e:=n) h1 hb)
 obtain⟨t,k,l⟩:=n
 simp only at h1 h3 hb hc h2
 generalize hB:fL (t,k,l)=B
 have hs:B=t::k::(bV (jZ (t,k,l))/256%256)::(bV (jZ (t,k,l))%256)::0::0::0::0::l:=by rw[← hB,fL,if_pos h0];rfl
 have i2:aG B (Int.toNat 2)=bV (jZ (t,k,l))/256%256*256+bV (jZ (t,k,l))%256:=by rw[hs];exact fB _ _ _
 have i4:aG B (Int.toNat 4)=0:=by rw[hs];exact (fB 0 0 _)
 have i6:aG B (Int.toNat 6)=0:=by rw[hs];exact (fB 0 0 _)
 have hset:bz B (Int.toNat 2) 0=jZ (t,k,l):=by rw[hs];rfl
 have hlen:(B.length:Int)=8+l.length:=by rw[hs];simp only[List.length_cons];omega
 have g0:B.getD (Int.toNat 0) default=t:=by rw[hs];rfl
 have g1:B.getD (Int.toNat 1) default=k:=by rw[hs];rfl
 have g8:B.drop 8=l:=by rw[hs];rfl
 have he:wZ B=0:=by
  rw[wZ,if_neg (by omega),if_neg (fun q=>q ⟨by rw[g0];exact h1.1,i4,i6⟩),if_neg (by omega),if_neg]
  rw[hset,i2,jw hc.1 hc.2];exact fun q=>q rfl
 refine⟨he,?_⟩
 rw[qJ,if_pos he,g0,g1,g8]
theorem Kt{n:mA}(h0:gw n=0):(fL n).getD 0 default=n.1/\(fL n).length=8+n.2.2.length:=by
 rw[fL,if_pos h0];exact⟨rfl,by rw[jU,Fo]⟩
theorem CM{n:mA}(h0:gw n=0)(hb:bytes n.2.2):bytes (fL n):=by
 have h1:(n.1=3∨n.1=11)/\0<=n.2.1/\n.2.1<=255:=Classical.byContradiction fun k=>by rw[gw,if_pos k] at h0;cases h0
 rw[fL,if_pos h0];exact qh (Dr h1 hb)
structure cH (p:bL):Prop where
 ok:dI p=0
 s:u32 p.1
 d:u32 p.2.1
theorem cH.dec{p:bL}(g:cH p):bN (build p)=qm p/\bU (build p)=0/\(build p).drop 20=dA p:=OL g.ok g.s g.d
theorem cH.len{p:bL}(g:cH p):((p.2.2.1≠6/\(build p).length=30)∨(p.2.2.1=6/\(build p).length=40)):=by
 rw[zD g.ok,List.length_append,pc]
 rcases xW g.ok with h|h
 ·exact .inl ⟨h.1,by rw[h.2]⟩
 ·exact .inr ⟨h.1,by rw[h.2]⟩
theorem Mn{p:bL}(g:cH p):(p.2.2.1=1->(dA p).getD 0 default=8)/\(p.2.2.1=6->(dA p).getD 13 default=2):=by
 have hr:=(lH.1 g.ok).2
 constructor
 ·intro h;rw[ux hr h];rfl
 ·intro h;rw[uJ hr h];rfl
theorem EQ{p:bL}(g:cH p):cf (build p)↔fg p.1:=by
 obtain⟨e1,e2,e3⟩:=g.dec
 have hs:bO (build p)=p.1:=by rw[bO,e1];rfl
 constructor
 ·intro h;rw[← hs];exact (m7 h).2.2.2.2
 ·intro hu
  refine XV e2 (by rcases g.len with h|h <;> omega) ?_ ?_ (by rw[hs];exact hu)
  ·rw[e3];intro h;exact (Mn g).1 (by rw[cR,e1] at h;exact h)
  ·rw[e3];intro h _;rw[(Mn g).2 (by rw[cR,e1] at h;exact h)];decide
theorem W8{p:bL}(g:cH p):(p.2.2.1=1->aG (dA p) 4=21075/\aG (dA p) 6=p.2.2.2.2.1)/\(p.2.2.1=17->aG (dA p) 4=10/\aG (dA p) 6=p.2.2.2.2.1+1)/\(p.2.2.1=6->dG (((dA p).drop 4).take 4)=p.2.2.2.2.1):=by
 have hr:=(lH.1 g.ok).2
 obtain⟨hf,ht,-⟩:=id hr
 refine⟨fun h=>?_,fun h=>?_,fun h=>?_⟩
 ·rw[ux hr h,rW (by show 4+2<=10;omega) (by omega),rW (by show 6+2<=10;omega) (by omega)]
  refine⟨rfl,?_⟩
  show aG (_::_::_) 0=_
  rw[fB];exact jw (n:=p.2.2.2.2.1) (by omega) (by omega)
 ·have hs:=YW hr
  rw[xX hr h,rW (by show 4+2<=10;omega) (by omega),Bn (by show 6+2<=10;omega) (by omega) (by omega)]
  refine⟨?_,hs⟩
  show aG (_::_::_) 0=10
  rw[fB]
  have:((oF p).2.2.length:Int)=2:=rfl
  rw[this];decide
 ·rw[uJ hr h]
  show dG [_,_,_,_]=_
  rw[yw];exact F0 (n:=p.2.2.2.2.1) ⟨by omega,by omega⟩
theorem am2{p:bL}(g:cH p):((build p).take 28).length=28/\bytes ((build p).take 28)/\vO ((build p).take 28)=(p,true):=by
 obtain⟨e1,e2,e3⟩:=g.dec
 have hl28:((build p).take 28).length=28:=by rw[List.length_take];rcases g.len with h|h <;> omega
 refine⟨hl28,z9 (DG p),?_⟩
 have hF:bN ((build p).take 28)=qm p:=by
  rw[← e1];unfold bN
  rw[rB (by omega),rB (by omega),rB (by omega),n9 (by omega),n9 (by omega),vl (by omega),vl (by omega)]
 have hpk:fC ((build p).take 28)=0:=by
  have h0:=AL e2
  have hlen:20<=(build p).length:=by rcases g.len with h|h <;> omega
  rw[fC,if_neg (by omega)] at h0 ⊢
  rw[rB (by omega),n9 (by omega),n9 (by omega),n9 (by omega),List.take_take]
  exact h0
 have wq:∀ i,i+2<=8->aG ((build p).take 28) (20+i)=aG (dA p) i:=fun i hi=>by
  rw[n9 (by omega),← e3];unfold aG;rw[List.drop_drop]
 have w0:=wq 0 (by omega)
 have w2:=wq 2 (by omega)
 have w4:=wq 4 (by omega)
 have w6:=wq 6 (by omega)
 have n4:dG ((((build p).take 28).drop 24).take 4)=dG (((dA p).drop 4).take 4):=by rw[vl (by omega),← e3,List.drop_drop]
 have cw:=QM g.ok
 have cm:=W8 g
 have hlw:aG ((build p).take 28) 2=(build p).length:=by rw[n9 (by omega),(wn e2).2]
 have hq:yS ((build p).take 28):=⟨hpk,hl28,by rw[hF];rfl,by rw[hF];rfl⟩
 have hpr:cR ((build p).take 28)=p.2.2.1:=by rw[cR,hF];rfl
 have hfl:Ef ((build p).take 28)=p.2.2.2.1:=by
  rw[Ef,hpr]
  have w0:aG ((build p).take 28) 20=aG (dA p) 0:=w0
  rw[w2,w0,cw.1,cw.2]
  rcases (lH.1 g.ok).1 with h|h|h <;> simp[h,wy,td] <;> omega
 have hP:A4 ((build p).take 28)=p:=by
  rw[A4,hfl,hpr,bO,eV,hF];rfl
 rw[vO,if_pos hq,hP]
 have hR:xp ((build p).take 28):=by
  unfold xp
  rw[hpr,hF]
  have w0:aG ((build p).take 28) 20=aG (dA p) 0:=w0
  rw[w0,w2,w4,w6,n4,cw.1,cw.2,hlw]
  rcases (lH.1 g.ok).1 with h|h|h
  ·refine .inl ⟨h,?_,by rw[wy,if_pos h],(cm.1 h).1,(cm.1 h).2⟩
   rcases g.len with k|k <;> omega
  ·refine .inr (.inr ⟨h,?_,by rw[td,if_neg (by omega),if_neg (by omega)],cm.2.2 h⟩)
   rcases g.len with k|k <;> omega
  ·refine .inr (.inl ⟨h,?_,by rw[td,if_neg (by omega),if_pos h],?_,(cm.2.1 h).2⟩)
   ·rcases g.len with k|k <;> omega
   ·rw[(cm.2.1 h).1];rcases g.len with k|k <;> omega
 rw[decide_eq_true ⟨hR,g.ok⟩]
theorem vh{src dst proto id ttl:Int}{data:List Int}(hn:f5 id ttl)(hp:0<=proto/\proto<=255)(hs:u32 src)(hd:u32 dst)(hl:(data.length:Int)<=1480)(hb:bytes data) :
  bU (cN (fS src dst proto id ttl data))=0/\bN (cN (fS src dst proto id ttl data))=(0,id,ttl,proto,false,src,dst)/\(cN (fS src dst proto id ttl data)).drop 20=data/\(cN (fS src dst proto id ttl data)).length=20+data.length:=by
 have h0:=vy (src:=src) (dst:=dst) hn hp hl
 obtain⟨⟨a,b⟩,c,d⟩:=hn
 rw[cN,if_pos h0]
 have:=Cg (h:=(0,id,ttl,proto,false,src,dst)) (X:=data) ⟨⟨Int.le_refl _,by simp only;omega⟩,⟨c,d⟩,hp,a,b⟩ hs hd hl hb
 refine⟨this.2.1,this.1,this.2.2,?_⟩
 show (gk _ _++data).length=_
 rw[List.length_append,pc]
structure yJ (p:bL) (a:rN) (x:List Int):Prop where
 no:¬ cf x
 rd:I6 x=(rC p 0,a)
 re:LD x=0
 len:x.length<=1500
theorem cH.t1{p:bL}(g:cH p)(t:Int)(h:1<=t/\t<=255):dI (rC p t)=0:=by
 obtain⟨h1,h2,h3,-⟩:=lH.1 g.ok
 exact lH.2 ⟨h1,h2,h3,h⟩
theorem DH{p:bL}{a:rN}{x:List Int}(g:cH p)(hd:bU x=0)(hr:pB x=(rC p 0,(0,a.2.1,a.2.2.1,0,0,a.2.2.2.2.2),true))(ha:a.1=bO x)(hl:a.2.2.2.1=(bN x).2.2.1)(hi:a.2.2.2.2.1=(bN x).2.1)(hn:¬ cf x):yJ p a x:=by
 have hg:xM x:=⟨hd,by rw[hr],by rw[hr];exact g.t1 1 (by omega)⟩
 have:=wn hd
 refine⟨hn,?_,by rw[LD,if_pos hg],by omega⟩
 rw[I6,if_pos hg,hr,← ha,← hl,← hi]
theorem zL{p:bL}(g:cH p)(hu:fg p.1){from' kind code id ttl:Int}(hf:u32 from')(hg:oT kind code id ttl) :
  fh (build p) kind code id ttl=0/\yJ p (from',tV kind code,code,ttl,id,p.2.2.2.2.2) (gv (build p) from' kind code id ttl)/\(gv (build p) from' kind code id ttl).length=56:=by
 have ha:=(EQ g).2 hu
 obtain⟨e0,eB,en,-⟩:=z5 (src:=from') hg ha
 obtain⟨e1,-,-⟩:=g.dec
 obtain⟨ql,qb,qv⟩:=am2 g
 have hs:bO (build p)=p.1:=by rw[bO,e1];rfl
 have hk:=hg.1
 refine⟨e0,?_⟩
 rw[eB,hs]
 generalize hD:fL (kind,code,(build p).take 28)=D
 have un:=ad1 en qb
 have nf:=Kt en
 have nb:=CM en qb
 rw[hD] at un nf nb
 rw[ql] at nf
 have sb:=vh (src:=from') (dst:=p.1) (proto:=1) (data:=D) hg.2.2 (by omega) hf g.s (by omega) nb
 generalize cN (fS from' p.1 1 id ttl D)=x at sb
 obtain⟨s1,s2,s3,s4⟩:=sb
 have hp1:cR x=1:=by rw[cR,s2]
 have hns:¬ D.getD 0 default=8:=by rw[nf.1];simp only;omega
 refine⟨DH g s1 ?_ (by rw[bO,s2]) (by rw[s2]) (by rw[s2]) (fun k=>?_),by rw[s4,nf.2]⟩
 ·rw[pB,if_neg,if_pos hp1,s3,HB,if_pos un.1,un.2]
  ·simp only
   rw[qv]
   simp[eV,s2,rC]
  ·rw[s3]
   rintro⟨-,-,k⟩
   rw[nf.1] at k;simp only at k;omega
 ·exact hns (by have:=(m7 k).2.2.1 hp1;rw[s3] at this;exact this)
theorem WP(t n:Int):aZ true (bG (true,21075,t,w2 n))=aZ true (bG (false,21075,t,w2 n))-2048:=by
 simp[bG,w2,aZ];omega
theorem TW(t n:Int):23000<=aZ true (bG (false,21075,t,w2 n)):=by
 simp[bG,w2,aZ];omega
def qa(p:bL)(id ttl:Int):rN:=if p.2.2.1=6 then (p.2.1,4,0,ttl,id,0) else if p.2.2.1=17 then (p.2.1,3,3,ttl,id,p.2.2.2.2.2) else (p.2.1,2,0,ttl,id,0)
theorem K6{p:bL}(g:cH p)(hu:fg p.1){id ttl:Int}(hn:f5 id ttl) :
  eT (build p) id ttl=0/\yJ p (qa p id ttl) (f7 (build p) p.2.1 id ttl):=by
 have ha:=(EQ g).2 hu
 obtain⟨e1,e2,e3⟩:=g.dec
 have hs:bO (build p)=p.1:=by rw[bO,e1];rfl
 have hd:eV (build p)=p.2.1:=by rw[eV,e1];rfl
 have hpr:cR (build p)=p.2.2.1:=by rw[cR,e1];rfl
 have hr:=(lH.1 g.ok).2
 have hr':=hr
 obtain⟨hf,ht,-⟩:=hr'
 rcases (lH.1 g.ok).1 with h|h|h
 ·have eE:dA p=dh (jm p):=by rw[ux hr h,dh,if_pos (Pg hr)]
  have u:=H0 (Gl hr) (jy _) (by rw[uD];omega)
  have hh:=zK (src:=p.2.1) hn ha (by rw[hpr];exact h) (by rw[e3,eE];exact u.1)
  refine⟨hh.2,?_⟩
  rw[hh.1,hs,e3,eE,u.2]
  have ok2:Am (w2 (nV p)) (true,(jm p).2):=⟨(Gl hr).1,rfl⟩
  have u2:=H0 ok2 (jy _) (by rw[uD];omega)
  have eg:=BH ok2 (by rw[uD];omega)
  have esh:dh (true,(jm p).2)=bz (bG (true,(jm p).2)) 2 (bV (bG (true,(jm p).2))):=by rw[dh,if_pos eg]
  have bb:bytes (bG (true,(jm p).2)):=sO (jy _)
  have hcs:=mQ bb
  have ecs:bV (bG (true,(jm p).2))=18432+p.2.2.2.1:=by
   have h1:=MY hr
   have h2:=WP p.2.2.2.2.1 (nV p)
   have h3:=TW p.2.2.2.2.1 (nV p)
   unfold bV at h1 ⊢
   have k1:jm p=(false,21075,p.2.2.2.2.1,w2 (nV p)):=rfl
   rw[k1] at h1 ⊢
   simp only
   rw[h2]
   generalize aZ true (bG (false,21075,p.2.2.2.2.1,w2 (nV p)))=S at h1 h3 ⊢
   unfold oc at h1 ⊢
   rw[if_neg (by omega)] at h1 ⊢
   omega
  have w2c:aG (dh (true,(jm p).2)) 2=18432+p.2.2.2.1:=by
   rw[esh,Bn (by show 2+2<=10;omega) hcs.1 hcs.2,ecs]
  have hl10:(dh (true,(jm p).2)).length=10:=by rw[esh,jU];rfl
  have hb:bytes (dh (true,(jm p).2)):=by rw[esh];exact qh bb
  have h0:(dh (true,(jm p).2)).getD 0 default=0:=by rw[esh];rfl
  generalize hD:dh (true,(jm p).2)=D at *
  have sb:=vh (src:=p.2.1) (dst:=p.1) (proto:=1) (data:=D) hn (by omega) g.d g.s (by omega) hb
  generalize cN (fS p.2.1 p.1 1 id ttl D)=x at sb
  obtain⟨s1,s2,s3,s4⟩:=sb
  have hp1:cR x=1:=by rw[cR,s2]
  have hx:eV x=p.1:=by rw[eV,s2]
  have hy:bO x=p.2.1:=by rw[bO,s2]
  rw[qa,if_neg (by omega),if_neg (by omega)]
  refine DH g s1 ?_ hy.symm (by rw[s2]) (by rw[s2]) (fun k=>?_)
  ·have eg2:A9 D:=⟨u2.1,by rw[u2.2],by rw[u2.2];rfl,by rw[u2.2];rfl⟩
   rw[pB,if_pos ⟨hp1,by rw[s3];omega,by rw[s3];exact h0⟩,s3,Hy,if_pos eg2,hx,hy,w2c,u2.2]
   have e9:18432+p.2.2.2.1-18432=p.2.2.2.1:=by omega
   rw[e9,rC,h];rfl
  ·have:=(m7 k).2.2.1 hp1
   rw[s3,h0] at this;cases this
 ·have eE:dA p=de p.1 p.2.1 (kG p):=by rw[uJ hr h,de,if_pos (KY hr)]
  have u:=Pd (s:=p.1) (d:=p.2.1) (C9 hr) kM (by simp)
  have hun:dE (bO (build p)) (eV (build p)) ((build p).drop 20)=kG p:=by rw[hs,hd,e3,eE];exact u.2
  have hh:=zT (src:=p.2.1) hn ha (by rw[hpr];exact h) (by rw[hs,hd,e3,eE];exact u.1) (by rw[hun];show bits .and .i64 2 2≠0;decide) (by rw[hun];show bits .and .i64 2 4=0;decide)
  refine⟨hh.2,?_⟩
  rw[hh.1,hun,hs]
  have eY:jn (kG p)=(80,20000+p.2.2.2.1,0,p.2.2.2.2.1+1,20,0,[]):=by
   have:(p.2.2.2.2.1+1)%4294967296=p.2.2.2.2.1+1:=by omega
   show (80,20000+p.2.2.2.1,0,(p.2.2.2.2.1+1)%4294967296,20,0,[])=_
   rw[this]
  have okY:zq [] (jn (kG p)):=by
   rw[eY]
   refine⟨⟨(gm _).2 ⟨?_,?_⟩,(gm _).2 ⟨?_,?_⟩,⟨?_,?_⟩,⟨?_,?_⟩,⟨?_,?_⟩,(gm _).2 ⟨?_,?_⟩⟩,rfl⟩ <;> simp only <;> omega
  have u2:=Pd (s:=p.2.1) (d:=p.1) okY kM (by simp)
  have eg:=Fw okY (by simp)
  have esh:de p.2.1 p.1 (jn (kG p))=bz (iy (jn (kG p))) 16 (dr p.2.1 p.1 6 (iy (jn (kG p)))):=by rw[de,if_pos eg]
  have hb:bytes (de p.2.1 p.1 (jn (kG p))):=by rw[esh];exact qh (vz okY.1 kM)
  have hl20:(de p.2.1 p.1 (jn (kG p))).length=20:=by rw[esh,jU];rfl
  have h13:(de p.2.1 p.1 (jn (kG p))).getD 13 default=20:=by rw[esh];rfl
  rw[eY] at u2
  generalize hD:de p.2.1 p.1 (jn (kG p))=D at *
  rw[← eY,hD] at u2
  have sb:=vh (src:=p.2.1) (dst:=p.1) (proto:=6) (data:=D) hn (by omega) g.d g.s (by omega) hb
  generalize cN (fS p.2.1 p.1 6 id ttl D)=x at sb
  obtain⟨s1,s2,s3,s4⟩:=sb
  have hp1:cR x=6:=by rw[cR,s2]
  have hx:eV x=p.1:=by rw[eV,s2]
  have hy:bO x=p.2.1:=by rw[bO,s2]
  rw[eY] at u2
  rw[qa,if_pos h]
  refine DH g s1 ?_ hy.symm (by rw[s2]) (by rw[s2]) (fun k=>?_)
  ·have eg2:zo p.2.1 p.1 D:=⟨u2.1,by rw[u2.2],by rw[u2.2],by rw[u2.2],by rw[u2.2],by rw[u2.2]⟩
   rw[pB,if_neg (by rw[hp1];omega),if_neg (by omega),if_pos hp1,s3,hx,hy,MT,if_pos eg2,u2.2]
   have e9:20000+p.2.2.2.1-20000=p.2.2.2.1:=by omega
   have e8:p.2.2.2.2.1+1-1=p.2.2.2.2.1:=by omega
   simp only
   rw[e9,e8,rC,h]
  ·have:=(m7 k).2.2.2.1 hp1 (by rw[s3];omega)
   rw[s3,h13] at this;exact absurd this (by decide)
 ·have eE:dA p=jN p.1 p.2.1 (oF p):=by rw[xX hr h,jN,if_pos (LU hr)]
  have u:=an5 (s:=p.1) (d:=p.2.1) (MW hr) (jy _) (by rw[uD];omega)
  have hh:=zi (src:=p.2.1) hn ha (by rw[hpr];exact h) (by rw[hs,hd,e3,eE];exact u.1)
  refine⟨hh.2,?_⟩
  rw[hh.1,qa,if_neg (by omega),if_pos h]
  exact (zL g hu g.d (kind:=3) (code:=3) ⟨.inr rfl,by omega,hn⟩).2.1
def HQ(p:bL)(x:List Int):Prop:=(¬ fg p.1->x=[])/\(fg p.1→∃ a:rN,0<a.2.1/\yJ p a x)
end Go.RS

/- Drawsome: an address of a network, drawn. -/
namespace Go.RS
open Go.SX Go.Proofs
set_option maxRecDepth 100000
set_option linter.unusedVariables false
def I3:Cn:=⟨[.box 109 fT,.agg iq],[.val ce],fun d=>[ay d.1],fun d y=>ay y.2.1/\0<=y.1.1/\y.1.1<=4294967295,fun d h=>⟨((0,()),(d.1,())),h.1,by simp,by simp⟩⟩
def XJ:ao I3.ps->az:=(fun _=>{})
def vm(c:List ac)(f:Int) :=
 ((List.length (c.getD f.toNat default).1):Int)
theorem Yo :
 ∀(a:List Int)(b:Int)(c:List ac)(d:List aE)(e:List aM),((a.length<=maxLen/\ ∀(f:Int),f∈a->0<=f/\f<=255)/\ab b)/\((c.length<=maxLen/\ ∀(f:ac),f∈c->CT.wf bw f)/\(d.length<=maxLen/\ ∀(f:aE),f∈d->CT.wf ft f)/\e.length<=maxLen/\ ∀(f:aM),f∈e->CT.wf dX f)/\True->0<=b/\b<=(a.length:Int)->ad (decide ((c.length:Int)=0)) (ay (a,b)/\ ∀(f:Int)(g:List Int)(h:Int),ay (g,h)/\0<=f/\f<=4294967295->ay (g,h)/\0<=f/\f<=4294967295) (ay (a,b)/\ ∀(f:Int)(g:List Int)(h:Int),0<=f/\(f<(c.length:Int)∨f=0)/\ay (g,h)->0<=f/\f<(c.length:Int)/\ ∀(i:Bool),i=decide ((vm c f)=0)->ad (! i) (((! i)->(! i))/\ay (g,h)/\ ∀(j:Int)(k:List Int)(l:Int),0<=j/\(j<12∨j=0)/\ay (k,l)->(i=false->(! i))/\ad (bif i then true else decide (j=11)) (ay (k,l)/\ ∀(m:Int)(n:List Int)(o:Int),ay (n,o)/\0<=m/\m<=4294967295->ay (n,o)/\0<=m/\m<=4294967295) (ay (k,l)/\ ∀(m:Int)(n:List Int)
 (o:Int),0<=m/\(m<(vm c f)∨m=0)/\ay (n,o)->0<=m/\m<(vm c f)/\ay (n,o)/\0<=(List.getD (c.getD f.toNat default).1 m.toNat default).1/\(List.getD (c.getD f.toNat default).1 m.toNat default).1<=4294967295)) ((! i)=false/\(i=false->false=true)/\ad (bif i then true else false) (ay (g,h)/\ ∀(j:Int)(k:List Int)(l:Int),ay (k,l)/\0<=j/\j<=4294967295->ay (k,l)/\0<=j/\j<=4294967295) (ay (g,h)/\ ∀(j:Int)(k:List Int)(l:Int),0<=j/\(j<(vm c f)∨j=0)/\ay (k,l)->0<=j/\j<(vm c f)/\ay (k,l)/\0<=(List.getD (c.getD f.toNat default).1 j.toNat default).1/\(List.getD (c.getD f.toNat default).1 j.toNat default).1<=4294967295))):=by
  delta vm
  rintro l p ns ls hs ⟨-,⟨⟨hnl,hnw⟩,-⟩,-⟩ hc
  refine ae (fun h=>?_) (fun h=>?_)
  ·exact⟨hc,fun x l2 p2 h=>h⟩
  have h:=of_decide_eq_false h
  refine⟨hc,?_⟩
  rintro x l2 p2 ⟨x0,x1,hc2⟩
  have x1:x<(ns.length:Int):=by omega
  have hX:=hnw _ (bH x0 x1)
  generalize ns.getD x.toNat default=X at hX ⊢
  have hp:=hX.1.2
  refine⟨x0,x1,?_⟩
  intro b hb
  refine ae (fun q=>?_) (fun q=>?_)
  ·have hb0:b=false:=by simpa using q
   subst hb0
   have hne:=of_decide_eq_false hb.symm
   refine⟨by simp,hc2,?_⟩
   rintro y l3 p3 ⟨y0,y1,hc3⟩
   rw[cond_false]
   (repeat refine⟨by simp,?_⟩)
   refine ae (fun q=>?_) (fun q=>?_)
   ·exact⟨hc3,fun x l2 p2 h=>h⟩
   ·refine⟨hc3,?_⟩
    rintro z l4 p4 ⟨z0,z1,hc4⟩
    have z1:z<(X.1.length:Int):=by omega
    have:=hp _ (bH z0 z1)
    exact⟨z0,z1,hc4,this.1⟩
  ·have hb0:b=true:=by simpa using q
   subst hb0
   refine⟨rfl,by simp,?_⟩
   rw[cond_true]
   exact⟨hc2,fun x l2 p2 h=>h⟩
theorem QX:av Tryz.prog GL 33 I3.spec:=Cn.okH _ Tryz.func33 (by kernel_rfl) (ai (ai aC qO) O9) ar XJ (aD (by kernel_rfl) Yo)
end Go.RS
