/- Node1: what a node does with a packet: the program. -/
import Derived.Test.YthmcfealplfaaaaGreatDoorNodek
import Derived.Test.YthmcfealplfaaaaGreatDoorIdent
import Derived.Test.YthmcfealplfaaaaGreatDoorReply
namespace Go.RS
open Go.SX Go.Proofs
set_option maxRecDepth 100000
set_option linter.unusedVariables false
abbrev Qx:OT := .pair (.dat (.sl cu)) (.pair cI (.pair (.row 3 cI) (.pair r6 cI)))
abbrev ng:OT := .pair bH (.pair Qx (.pair cI (.pair cI (.pair (.dat (.sl bm)) j8))))
abbrev tL:CT := .pair cI (.sl bm)
abbrev cE:Type:=ac×bt×Int×Int×List Int×bY
abbrev lw:Type:=bt×(Int×List Int)×Int
def j7(h:bY):Int:=h.2.2.2.2.2.1
def ik(h:bY):Int:=h.2.2.2.2.2.2
def pi(h:bY):Int:=h.2.1
def vJ(h:bY):Int:=h.2.2.1
def xj(h:bY):Int:=h.2.2.2.1
def bp(x:ac)(link:Int):Int:=max (cL x link) 0
def adr(x:ac)(i:Int):Int:=if i<0∨(aC x).length<=i then 0 else ((aC x).getD i.toNat default).1
def eI(s:bt)(a:Int):Bool:=mO (bn s) a&&decide (0<(bh (bn s) a).2.1.length)
def jU(x:ac)(s:bt)(r:Rt)(k:mL):Int:=(jh r.2.2 (zW x) k (kV s) r.2.1.length).1
def g9(x:ac)(s:bt)(r:Rt)(k:mL):Int:=if r.2.1.length=1 then r.2.1.getD 0 default else r.2.1.getD (jU x s r k).toNat default
def HB(s:bt)(b:Int):bt:=(s.1,s.2.1,s.2.2.1,s.2.2.2.1,b)
def fC(s:bt)(r:Rt):bt:=if r.2.1.length=1 then s else HB s (IntKind.i64.wrap (kV s+1))
def yu(s:bt)(t:Int×Int):bt:=(s.1,s.2.1,s.2.2.1,t,s.2.2.2.2)
def nw(l:List Int)(i:Int):List Int:=if i<l.length then l.set i.toNat (IntKind.i64.wrap (l.getD i.toNat default+1)) else l
def PP(s:bt)(i:Int):bt:=(s.1,IntKind.i64.wrap (s.2.1+1),nw s.2.2.1 i,s.2.2.2)
def jn(x:ac)(i link:Int):Int:=if jG x=2 then adr x (cL x link) else if jG x=3 then gw x else if jG x=4 then oe x else adr x i
def gb(w:cE)(s:bt):cE:=(w.1,s,w.2.2)
def sG(w:cE)(h:bY):cE:=(w.1,w.2.1,w.2.2.1,w.2.2.2.1,w.2.2.2.2.1,h)
def gq:Int×List Int:=(0,[])
def jw(w:cE):(Int×Int)×Bool:=iF (iG w.1) (px w.2.1) w.2.2.2.1
def ij(w:cE):bt:=PP (yu w.2.1 (jw w).1) (bp w.1 w.2.2.1)
def gV(w:cE):Rt:=bh (bn w.2.1) (j7 w.2.2.2.2.2)
def iK(B:Int->Int->List Int)(w:cE):Int:=g9 w.1 (ij w) (gV w) (fw (B (adr w.1 (bp w.1 w.2.2.1)) 0))
def fI(w:cE):Int:=jK w.1 (yu w.2.1 (jw w).1) (bp w.1 w.2.2.1) w.2.2.2.1 (pi w.2.2.2.2.2) (j7 w.2.2.2.2.2)
def ib(B:Int->Int->List Int)(w:cE)(own:Int):Int:=if own=0 then jn w.1 (bp w.1 w.2.2.1) (iK B w) else own
def cz(B:Int->Int->List Int)(E:Int->Int)(w:cE)(own:Int):lw :=
 if own=0/\jN w.1=true then (w.2.1,gq,4)
 else if E 0≠0 then (w.2.1,gq,6)
 else if eI w.2.1 (j7 w.2.2.2.2.2)=false then (w.2.1,gq,8)
 else if (jw w).2=false then (yu w.2.1 (jw w).1,gq,5)
 else (fC (ij w) (gV w),(iK B w,B (ib B w own) (fI w)),2)
def dH(w:cE)(f i:Int):List Int:=gk w.2.2.2.2.1 f i (gJ w.1)
def iJ(w:cE)(i:Int):Int:=fc w.2.2.2.2.1 i (gJ w.1)
def cZ(w:cE)(kind code f i:Int):List Int:=gA w.2.2.2.2.1 f kind code i (gJ w.1)
def iO(w:cE)(kind code i:Int):Int:=fq w.2.2.2.2.1 kind code i (gJ w.1)
def gv(w:cE):lw :=
 if w.2.2.1 = -1∨iJ w 0≠0 then (w.2.1,gq,1)
 else cz (dH w) (iJ w) w (if xj w.2.2.2.2.2=17 then 0 else ik w.2.2.2.2.2)
def dV(w:cE):lw :=
 if w.2.2.1 ≠ -1/\dC w.1=false/\vJ w.2.2.2.2.2<2 then cz (cZ w 11 0) (iO w 11 0) w 0
 else if eI w.2.1 (ik w.2.2.2.2.2)=false then (if w.2.2.1 = -1 then (w.2.1,gq,8) else cz (cZ w 3 0) (iO w 3 0) w 0)
 else (fC w.2.1 (bh (bn w.2.1) (ik w.2.2.2.2.2)),(g9 w.1 w.2.1 (bh (bn w.2.1) (ik w.2.2.2.2.2)) (fw w.2.2.2.2.1),if w.2.2.1 ≠ -1/\dC w.1=false then gQ w.2.2.2.2.1 else w.2.2.2.2.1),0)
def dY(w:cE):lw :=
 if bV w.2.2.2.2.1≠0 then (w.2.1,gq,6)
 else if jW w.1 (ik (aW w.2.2.2.2.1).1)=true then gv (sG w (aW w.2.2.2.2.1).1)
 else if lE w.1=true/\w.2.2.1 ≠ -1 then (w.2.1,gq,6)
 else dV (sG w (aW w.2.2.2.2.1).1)
def dK(x:ac)(s:bt)(link at':Int)(b:List Int):lw:=dY (x,s,link,at',b,nh)
def me(w:cE):Prop:=bM (bn w.2.1)/\okL (bn w.2.1)/\(w.2.2.2.2.1.length:Int)<=1000000
theorem OF{way seed:Int}{k:mL}{count n:Int}(h:1<=n):0<=(jh way seed k count n).1/\(jh way seed k count n).1<n:=by
 have h1:=xX seed k
 have h2:=xX seed (k.1,k.2.1,0,0,0)
 unfold jh
 split
 ·exact⟨Int.le_refl _,by show (0:Int)<n;omega⟩
 ·rename_i hn
  dsimp only
  split
  ·exact⟨Int.tmod_nonneg _ h1.1,Int.tmod_lt_of_pos _ (by omega)⟩
  ·split
   ·exact⟨Int.tmod_nonneg _ h2.1,Int.tmod_lt_of_pos _ (by omega)⟩
   ·exact⟨Int.tmod_nonneg _ (by omega),Int.tmod_lt_of_pos _ (by omega)⟩
theorem Af{r:lw}{s:bt}{o:Int×List Int}{y:Int}(w:cE)(e:r=(s,o,y)):o=r.2.1/\y=r.2.2/\gb w s=gb w r.1:=by subst e;exact⟨rfl,rfl,rfl⟩
theorem tT{B:Int->Int->List Int}{E:Int->Int}{w:cE}{own:Int}(h:own=0/\jN w.1=true):cz B E w own=(w.2.1,gq,4):=by unfold cz;rw[if_pos h]
theorem ur{B:Int->Int->List Int}{E:Int->Int}{w:cE}{own:Int}(h:¬ (own=0/\jN w.1=true))(h1:E 0≠0):cz B E w own=(w.2.1,gq,6):=by unfold cz;rw[if_neg h,if_pos h1]
theorem uv{B:Int->Int->List Int}{E:Int->Int}{w:cE}{own:Int}(h:¬ (own=0/\jN w.1=true))(h1:¬ E 0≠0)(h2:eI w.2.1 (j7 w.2.2.2.2.2)=false):cz B E w own=(w.2.1,gq,8):=by
 unfold cz;rw[if_neg h,if_neg h1,if_pos h2]
theorem uG{B:Int->Int->List Int}{E:Int->Int}{w:cE}{own:Int}(h:¬ (own=0/\jN w.1=true))(h1:¬ E 0≠0)(h2:¬ eI w.2.1 (j7 w.2.2.2.2.2)=false)(h3:(jw w).2=false):cz B E w own=(yu w.2.1 (jw w).1,gq,5):=by
 unfold cz;rw[if_neg h,if_neg h1,if_neg h2,if_pos h3]
theorem uR{B:Int->Int->List Int}{E:Int->Int}{w:cE}{own:Int}(h:¬ (own=0/\jN w.1=true))(h1:¬ E 0≠0)(h2:¬ eI w.2.1 (j7 w.2.2.2.2.2)=false)(h3:¬ (jw w).2=false) :
  cz B E w own=(fC (ij w) (gV w),(iK B w,B (ib B w own) (fI w)),2):=by
 unfold cz;rw[if_neg h,if_neg h1,if_neg h2,if_neg h3]
theorem xC{s:bt}{a:Int}(h:¬ eI s a=false):(bh (bn s) a).2.1≠[]:=by
 intro e;apply h;unfold eI;rw[e];simp
theorem D6(p:nX):((cS p).length:Int)<=1500:=by
 unfold cS
 split
 ·rename_i h
  unfold de at h
  split at h
  ·cases h
  ·split at h
   ·cases h
   ·rw[List.length_append,oR];omega
 ·simp
theorem Ic(b:List Int)(src kind code id ttl:Int):((gA b src kind code id ttl).length:Int)<=1500:=by
 unfold gA;split
 ·exact D6 _
 ·simp
theorem au4(b:List Int)(src id ttl:Int):((gk b src id ttl).length:Int)<=1500:=by
 unfold gk;split
 ·split
  ·exact D6 _
  ·split
   ·exact Ic ..
   ·exact D6 _
 ·simp
theorem Ms(w:cE)(f i:Int):((dH w f i).length:Int)<=1500:=au4 ..
theorem Cc(w:cE)(k c f i:Int):((cZ w k c f i).length:Int)<=1500:=Ic ..
theorem Bk(x:ac)(k:Int):0<=bp x k:=by unfold bp;omega
theorem FV{l:List Int}{i:Int}(h:i<l.length):nw l i=l.set i.toNat (IntKind.i64.wrap (l.getD i.toNat default+1)):=if_pos h
theorem G4{l:List Int}{i:Int}(h:¬ i<l.length):nw l i=l:=if_neg h
def MR:Ct:=⟨[.box 243 ng],[.val cI],fun d=>[],fun d=>((bp d.1.1 d.1.2.2.1,()),(d.1,()))⟩
def Wo:ar MR.ps->ay:=(fun _=>{})
def sn(a:ac)(b:List aD)(c:Int)(d:List Int)(e f g h i:Int)(j:List Int)(k:bY) :=
 CT.wf bH a/\((b.length<=maxLen/\ ∀(l:aD),l∈b->((0<=l.1.1/\l.1.1<=4294967295)/\ab l.1.2)/\(l.2.1.length<=maxLen/\ ∀(m:Int),m∈l.2.1->ab m)/\ab l.2.2)/\ab c/\(d.length<=maxLen/\ ∀(l:Int),l∈d->ab l)/\(ab e/\ab f)/\ab g)/\ab h/\ab i/\(j.length<=maxLen/\ ∀(l:Int),l∈j->0<=l/\l<=255)/\CT.wf j8 k
def lV(a:ac)(b:List aD)(c:Int)(d:List Int)(e f g h i:Int)(j:List Int)(k:bY) :=
 (a,(b,c,d,(e,f),g),h,i,j,k)=(a,(b,c,d,(e,f),g),h,i,j,k)
theorem Vu :
 ∀(a:ac)(b:List aD)(c:Int)(d:List Int)(e f g h i:Int)(j:List Int)(k:bY),(sn a b c d e f g h i j k)/\True->True->max (cL a h) (0:Int)=bp a h/\(lV a b c d e f g h i j k):=by
  delta sn lV
  intros
  exact⟨rfl,rfl⟩
theorem M8:av Tryz.prog GL 272 MR.spec:=Ct.okH _ Tryz.func272 (by kernel_rfl) (ah aA Ak) au Wo (aB (by kernel_rfl) Vu)
def Hy:Ct:=⟨[.box 243 ng,.val cI],[.val ck],fun d=>[],fun d=>((adr d.1.1 d.2.1,()),(d.1,()))⟩
def Tn:ar Hy.ps->ay:=(fun _=>{})
def vF(a:ac)(b:List aD)(c:Int)(d:List Int)(e f g h i:Int)(j:List Int)(k:bY) :=
 CT.wf bH a/\((b.length<=maxLen/\ ∀(m:aD),m∈b->((0<=m.1.1/\m.1.1<=4294967295)/\ab m.1.2)/\(m.2.1.length<=maxLen/\ ∀(n:Int),n∈m.2.1->ab n)/\ab m.2.2)/\ab c/\(d.length<=maxLen/\ ∀(m:Int),m∈d->ab m)/\(ab e/\ab f)/\ab g)/\ab h/\ab i/\(j.length<=maxLen/\ ∀(m:Int),m∈j->0<=m/\m<=255)/\CT.wf j8 k
def ux(m:Bool) :=
 (! m)->((! m)->(! m))/\True
theorem XN :
 ∀(a:ac)(b:List aD)(c:Int)(d:List Int)(e f g h i:Int)(j:List Int)(k:bY)(l:Int),(vF a b c d e f g h i j k)/\ab l/\True->True-> ∀(m:Bool),m=decide (l<0)->(ux m)/\(ux m)/\(ux m)/\(ux m)/\(ux m)/\((! m)->((! m)->(! m))/\((! m)->(! m))/\True)/\(m=false->(! m))/\ad (bif m then true else decide ((a.1.length:Int)<=l)) ((0:Int)=adr a l/\(lV a b c d e f g h i j k)) (0<=l/\l<(a.1.length:Int)/\(List.getD a.1 l.toNat default).1=adr a l/\(lV a b c d e f g h i j k)):=by
  delta vF ux lV
  rintro d x x1 x2 x3 x4 x5 x6 x7 x8 h i - -
  (repeat (intro (b_:Bool) (hb_:b_=_);(repeat refine⟨(by first|(simp;done)|(rw[hb_];simp;done)|(rw[hb_];simp;omega)|(rw[hb_];simp;intros;omega)|(rw[hb_];simp +contextual;done)),?_⟩);subst hb_))
  refine p8 (fun ho=>?_) (fun h1 h2=>?_)
  ·unfold adr
   rw[if_pos (by rcases ho with q|q <;> have:=of_decide_eq_true q <;> first|exact .inl this|exact .inr this)]
   exact⟨rfl,rfl⟩
  ·have h1:=of_decide_eq_false h1
   have h2:=of_decide_eq_false h2
   refine⟨by omega,by omega,?_,rfl⟩
   unfold adr
   rw[if_neg (by rintro (q|q);exact h1 q;exact h2 q)]
   rfl
theorem Du:av Tryz.prog GL 273 Hy.spec:=Ct.okH _ Tryz.func273 (by kernel_rfl) aA au Tn (aB (by kernel_rfl) XN)
def I8:Ct:=⟨[.box 243 ng,.agg cu,.val (.sl bm)],[.val cI],fun d=>[d.2.1.2.1≠[],(d.2.2.1.length:Int)<=1000000],fun d=>((g9 d.1.1 d.1.2.1 d.2.1 (fw d.2.2.1),()),(gb d.1 (fC d.1.2.1 d.2.1),()))⟩
def QA:ar I8.ps->ay:=(fun _=>{})
theorem TV :
 ∀(a:ac)(b:List aD)(c:Int)(d:List Int)(e f g h i:Int)(j:List Int)(k:bY)(l m:Int)(n:List Int)(o:Int)(p:List Int),(CT.wf bH a/\((b.length<=maxLen/\ ∀(q:aD),q∈b->((0<=q.1.1/\q.1.1<=4294967295)/\ab q.1.2)/\(q.2.1.length<=maxLen/\ ∀(r:Int),r∈q.2.1->ab r)/\ab q.2.2)/\ab c/\(d.length<=maxLen/\ ∀(q:Int),q∈d->ab q)/\(ab e/\ab f)/\ab g)/\ab h/\ab i/\(j.length<=maxLen/\ ∀(q:Int),q∈j->0<=q/\q<=255)/\CT.wf j8 k)/\(((0<=l/\l<=4294967295)/\ab m)/\(n.length<=maxLen/\ ∀(q:Int),q∈n->ab q)/\ab o)/\(p.length<=maxLen/\ ∀(q:Int),q∈p->0<=q/\q<=255)/\True->n≠([]:List Int)/\(p.length:Int)<=1000000->ad (decide ((n.length:Int)=1)) ((0:Int)<=0/\0<(n.length:Int)/\n.getD (Int.toNat (0:Int)) default=g9 a (b,c,d,(e,f),g) ((l,m),n,o) (fw p)/\(a,(b,c,d,(e,f),g),h,i,j,k)=gb (a,(b,c,d,(e,f),g),h,i,j,k) (fC (b,c,d,(e,f),g) ((l,m),n,o)))
 ((p.length:Int)<=1099511627776/\0<=(jh o a.2.2.2.2.2.2.2.2.2.2.2.2.2.2 (fw p) g (n.length:Int)).1/\(jh o a.2.2.2.2.2.2.2.2.2.2.2.2.2.2 (fw p) g (n.length:Int)).1<(n.length:Int)/\n.getD (Int.toNat (jh o a.2.2.2.2.2.2.2.2.2.2.2.2.2.2 (fw p) g (n.length:Int)).1) default=g9 a (b,c,d,(e,f),g) ((l,m),n,o) (fw p)/\(a,(b,c,d,(e,f),IntKind.wrap .i64 (g+(1:Int))),h,i,j,k)=gb (a,(b,c,d,(e,f),g),h,i,j,k) (fC (b,c,d,(e,f),g) ((l,m),n,o))):=by
  rintro d x x1 x2 x3 x4 x5 x6 x7 x8 h r1 r2 nx bl b-⟨hn,hb⟩
  have hpos:1<=(nx.length:Int):=by cases nx with
   | nil=>exact absurd rfl hn
   | cons a l=>simp;omega
  refine ae (fun h1=>?_) (fun h1=>?_)
  ·have h1:=of_decide_eq_true h1
   have h1':nx.length=1:=by omega
   refine⟨by omega,by omega,?_,?_⟩
   ·unfold g9;rw[if_pos h1'];rfl
   ·unfold fC;rw[if_pos h1'];rfl
  ·have h1:=of_decide_eq_false h1
   have h1':¬ nx.length=1:=by omega
   have hc:=OF (way:=bl) (seed:=d.2.2.2.2.2.2.2.2.2.2.2.2.2.2) (k:=fw b) (count:=x5) hpos
   refine⟨by omega,hc.1,hc.2,?_,?_⟩
   ·unfold g9;rw[if_neg h1'];rfl
   ·unfold fC;rw[if_neg h1'];rfl
theorem Cm:av Tryz.prog GL 248 I8.spec:=Ct.okH _ Tryz.func248 (by kernel_rfl) (ah (ah aA Rx) ZB) au QA (aB (by kernel_rfl) TV)
def Ok:Ct:=⟨[.box 243 ng,.val ck],[.agg cu,.val .bool],fun d=>[bM (bn d.1.2.1),okL (bn d.1.2.1)],fun d=>((bh (bn d.1.2.1) d.2.1,eI d.1.2.1 d.2.1,()),(d.1,()))⟩
def W8:ar Ok.ps->ay:=(fun _=>{})
theorem VC :
 ∀(a:ac)(b:List aD)(c:Int)(d:List Int)(e f g h i:Int)(j:List Int)(k:bY)(l:Int),(vF a b c d e f g h i j k)/\(0<=l/\l<=4294967295)/\True->(bM (bn (b,c,d,(e,f),g))/\((List.length (bn (b,c,d,(e,f),g))):Int)<=134217728/\ ∀(m:Rt),m∈bn (b,c,d,(e,f),g)->(m.2.1.length:Int)<=1099511627776)->bM b/\okL b/\ ∀(m:Bool),m=mO b l->(m->(m->m)/\True)/\(m->(m->m)/\True)/\(m->(m->m)/\True)/\(m->m)/\bh b l=bh (bn (b,c,d,(e,f),g)) l/\(bif m then decide (0<((List.length (bh b l).2.1):Int)) else false)=eI (b,c,d,(e,f),g) l/\(lV a b c d e f g h i j k):=by
  delta vF lV
  rintro d x x1 x2 x3 x4 x5 x6 x7 x8 h a-⟨h1,h2⟩
  refine⟨h1,h2,?_⟩
  (repeat (intro (b_:Bool) (hb_:b_=_);(repeat refine⟨(by first|(simp;done)|(rw[hb_];simp;done)|(rw[hb_];simp;omega)|(rw[hb_];simp;intros;omega)|(rw[hb_];simp +contextual;done)),?_⟩);subst hb_))
  refine⟨rfl,?_,rfl⟩
  show (bif mO x a then decide (0<((bh x a).2.1.length:Int)) else false)=(mO x a&&decide (0<(bh x a).2.1.length))
  cases mO x a <;> simp
theorem Fv:av Tryz.prog GL 247 Ok.spec:=Ct.okH _ Tryz.func247 (by kernel_rfl) (ah aA ai5) au W8 (aB (by kernel_rfl) VC)
def Hw:Ct:=⟨[.val ck,.val cI,.box 241 (.ref 243 ng),.box 3 cI,.box 3 cI],[.own 5 bm,.val cI],fun d=>[(d.2.2.1.2.2.2.2.1.length:Int)<=1000000],fun d=>((cZ d.2.2.1 d.2.2.2.1 d.2.2.2.2.1 d.1 d.2.1,iO d.2.2.1 d.2.2.2.1 d.2.2.2.2.1 d.2.1,()),(d.2.2.1,d.2.2.2.1,d.2.2.2.2.1,()))⟩
def UD:ar Hw.ps->ay:=(fun _=>{})
theorem ao7 :
 ∀(a b:Int)(c:ac)(d:List aD)(e:Int)(f:List Int)(g h i j k:Int)(l:List Int)(m:bY)(n o:Int),(0<=a/\a<=4294967295)/\ab b/\(CT.wf bH c/\((d.length<=maxLen/\ ∀(p:aD),p∈d->((0<=p.1.1/\p.1.1<=4294967295)/\ab p.1.2)/\(p.2.1.length<=maxLen/\ ∀(q:Int),q∈p.2.1->ab q)/\ab p.2.2)/\ab e/\(f.length<=maxLen/\ ∀(p:Int),p∈f->ab p)/\(ab g/\ab h)/\ab i)/\ab j/\ab k/\(l.length<=maxLen/\ ∀(p:Int),p∈l->0<=p/\p<=255)/\CT.wf j8 m)/\ab n/\ab o/\True->(l.length:Int)<=1000000->(l.length:Int)<=1099511627776/\gA l a n o b c.2.2.2.2.2.2.2.2.2.2.2.2.2.1=cZ (c,(d,e,f,(g,h),i),j,k,l,m) n o a b/\fq l n o b c.2.2.2.2.2.2.2.2.2.2.2.2.2.1=iO (c,(d,e,f,(g,h),i),j,k,l,m) n o b/\(c,(d,e,f,(g,h),i),j,k,l,m)=(c,(d,e,f,(g,h),i),j,k,l,m)/\n=n/\o=o:=by
  rintro x x1 d y y1 y2 y3 y4 y5 y6 y7 b h k c-hb
  exact⟨by omega,rfl,rfl,rfl,rfl,rfl⟩
theorem SM:av Tryz.prog GL 277 Hw.spec:=Ct.okH _ Tryz.func277 (by kernel_rfl) (ah aA II) au UD (aB (by kernel_rfl) ao7)
def NT:Ct:=⟨[.box 243 ng,.val cI,.val cI],[.fn 277 3,.box 241 .ali,.box 3 cI,.box 3 cI],fun d=>[],fun d=>(((),(),d.2.1,d.2.2.1,()),(d.1,()))⟩
def Sa:ar NT.ps->ay:=(fun _=>{})
def yR(n:aD) :=
 ((0<=n.1.1/\n.1.1<=4294967295)/\ab n.1.2)/\(n.2.1.length<=maxLen/\ ∀(o:Int),o∈n.2.1->ab o)/\ab n.2.2
def BB(a:ac)(b:List aD)(c:Int)(d:List Int)(e f g h i:Int)(j:List Int)(k:bY) :=
 CT.wf bH a/\((b.length<=maxLen/\ ∀(n:aD),n∈b->(yR n))/\ab c/\(d.length<=maxLen/\ ∀(n:Int),n∈d->ab n)/\(ab e/\ab f)/\ab g)/\ab h/\ab i/\(j.length<=maxLen/\ ∀(n:Int),n∈j->0<=n/\n<=255)/\CT.wf j8 k
theorem TY :
 ∀(a:ac)(b:List aD)(c:Int)(d:List Int)(e f g h i:Int)(j:List Int)(k:bY)(l m:Int),(BB a b c d e f g h i j k)/\ab l/\ab m/\True->True->()=()/\()=()/\l=l/\m=m/\(lV a b c d e f g h i j k):=by
  delta BB yR lV
  intros
  exact⟨rfl,rfl,rfl,rfl,rfl⟩
theorem Xz:av Tryz.prog GL 246 NT.spec:=Ct.okH _ Tryz.func246 (by kernel_rfl) aA au Sa (aB (by kernel_rfl) TY)
def HX:Ct:=⟨[.val ck,.val cI,.box 241 (.ref 243 ng)],[.own 5 bm,.val cI],fun d=>[(d.2.2.1.2.2.2.2.1.length:Int)<=1000000],fun d=>((dH d.2.2.1 d.1 d.2.1,iJ d.2.2.1 d.2.1,()),(d.2.2.1,()))⟩
def U0:ar HX.ps->ay:=(fun _=>{})
theorem TN :
 ∀(a b:Int)(c:ac)(d:List aD)(e:Int)(f:List Int)(g h i j k:Int)(l:List Int)(m:bY),(0<=a/\a<=4294967295)/\ab b/\(CT.wf bH c/\((d.length<=maxLen/\ ∀(n:aD),n∈d->(yR n))/\ab e/\(f.length<=maxLen/\ ∀(n:Int),n∈f->ab n)/\(ab g/\ab h)/\ab i)/\ab j/\ab k/\(l.length<=maxLen/\ ∀(n:Int),n∈l->0<=n/\n<=255)/\CT.wf j8 m)/\True->(l.length:Int)<=1000000->(l.length:Int)<=1099511627776/\gk l a b c.2.2.2.2.2.2.2.2.2.2.2.2.2.1=dH (c,(d,e,f,(g,h),i),j,k,l,m) a b/\fc l b c.2.2.2.2.2.2.2.2.2.2.2.2.2.1=iJ (c,(d,e,f,(g,h),i),j,k,l,m) b/\(c,(d,e,f,(g,h),i),j,k,l,m)=(c,(d,e,f,(g,h),i),j,k,l,m):=by
  delta yR
  rintro x x1 d y y1 y2 y3 y4 y5 y6 y7 b h-hb
  exact⟨by omega,rfl,rfl,rfl⟩
theorem Oy:av Tryz.prog GL 243 HX.spec:=Ct.okH _ Tryz.func243 (by kernel_rfl) (ah aA au5) au U0 (aB (by kernel_rfl) TN)
def K8:Ct:=⟨[.box 243 ng,.val cI,.val cI],[.val ck],fun d=>[],fun d=>((jn d.1.1 d.2.1 d.2.2.1,()),(d.1,()))⟩
def ZD:ar K8.ps->ay:=(fun _=>{})
theorem XU :
 ∀(a:ac)(b:List aD)(c:Int)(d:List Int)(e f g h i:Int)(j:List Int)(k:bY)(l m:Int),(BB a b c d e f g h i j k)/\ab l/\ab m/\True->True->ad (decide (a.2.2.2.2.2.1=2)) (adr a (cL a m)=jn a l m/\(lV a b c d e f g h i j k)) (ad (decide (a.2.2.2.2.2.1=3)) (a.2.1=jn a l m/\(lV a b c d e f g h i j k)) (ad (decide (a.2.2.2.2.2.1=4)) (a.2.2.2.2.2.2.1=jn a l m/\(lV a b c d e f g h i j k)) (adr a l=jn a l m/\(lV a b c d e f g h i j k)))):=by
  delta BB yR lV
  rintro d x x1 x2 x3 x4 x5 x6 x7 x8 h i l - -
  unfold jn jG gw oe
  refine ae (fun h1=>?_) (fun h1=>?_)
  ·rw[if_pos (of_decide_eq_true h1)];exact⟨rfl,rfl⟩
  rw[if_neg (of_decide_eq_false h1)]
  refine ae (fun h2=>?_) (fun h2=>?_)
  ·rw[if_pos (of_decide_eq_true h2)];exact⟨rfl,rfl⟩
  rw[if_neg (of_decide_eq_false h2)]
  refine ae (fun h3=>?_) (fun h3=>?_)
  ·rw[if_pos (of_decide_eq_true h3)];exact⟨rfl,rfl⟩
  rw[if_neg (of_decide_eq_false h3)]
  exact⟨rfl,rfl⟩
theorem HY:av Tryz.prog GL 276 K8.spec:=Ct.okH _ Tryz.func276 (by kernel_rfl) (ah (ah aA Ak) Du) au ZD (aB (by kernel_rfl) XU)
def LC:Ct:=⟨[.box 243 ng,.fn 243 1,.box 241 .ali,.val ck],[.agg tL,.val cI],fun d=>[me d.1],fun d=>(((cz (dH d.1) (iJ d.1) d.1 d.2.2.2.1).2.1,(cz (dH d.1) (iJ d.1) d.1 d.2.2.2.1).2.2,()),(gb d.1 (cz (dH d.1) (iJ d.1) d.1 d.2.2.2.1).1,(),()))⟩
def aq8:ar LC.ps->ay:=(fun d=>{cuts:=(fun n=>match n with|17=>some (fun S=>{ι:=Int×(List Int)×(Int×Int),qn:=⟨fun k_=>∀(k:Int)(l:(List Int))(t:(Int×Int)),k_ (k,l,t),fun k_ h_ i=>h_ i.1 i.2.1 i.2.2,fun k_=>∃ (k:Int) (l:(List Int)) (t:(Int×Int)),k_ (k,l,t),fun k_ ⟨k,l,t,h_⟩=>⟨_,h_⟩⟩,inv:=fun i=>cz (dH d.1) (iJ d.1) d.1 d.2.2.2.1=(fC (ij d.1) (gV d.1),(iK (dH d.1) d.1,(dH d.1) (ib (dH d.1) d.1 d.2.2.2.1) (fI d.1)),2)/\(gV d.1).2.1≠[]/\(bn d.1.2.1,i.1,i.2.1,i.2.2,kV d.1.2.1)=ij d.1,keep:=[0,1,2,6,9,11],slots:=fun i=>[(8,.int .i64 (bp d.1.1 d.1.2.2.1)),(13,.int .i64 (fI d.1))],keepN:=[112,192,560,1048577],names:=fun i=>[(1048576,.live (.cells 243 (cy bH d.1.1++([.dsl cu (bn d.1.2.1),.int .i64 i.1,.own 524288 1]++(cy r6 i.2.2++([.int .i64 (kV d.1.2.1),.int .i64 d.1.2.2.1,.int .i64 d.1.2.2.2.1,.dsl bm d.1.2.2.2.2.1]++cy j8 d.1.2.2.2.2.2)))))),(524288,.live (.row 3 cI i.2.1))]})|_=>none)})
def jP(a:ac)(b:List aD)(c:Int)(d:List Int)(e f g h i:Int)(j:List Int)(k:bY)(l:Int) :=
 cz (dH (a,(b,c,d,(e,f),g),h,i,j,k)) (iJ (a,(b,c,d,(e,f),g),h,i,j,k)) (a,(b,c,d,(e,f),g),h,i,j,k) l
def cG(b:List aD)(c:Int)(d:List Int)(e f g:Int)(k:bY) :=
 bh (bn (b,c,d,(e,f),g)) k.2.2.2.2.2.1
def DQ(a:ac)(b:List aD)(c:Int)(d:List Int)(e f g h i:Int)(j:List Int)(k:bY)(l:Int) :=
 (fC (ij (a,(b,c,d,(e,f),g),h,i,j,k)) (gV (a,(b,c,d,(e,f),g),h,i,j,k)),(iK (dH (a,(b,c,d,(e,f),g),h,i,j,k)) (a,(b,c,d,(e,f),g),h,i,j,k),dH (a,(b,c,d,(e,f),g),h,i,j,k) (ib (dH (a,(b,c,d,(e,f),g),h,i,j,k)) (a,(b,c,d,(e,f),g),h,i,j,k) l) (fI (a,(b,c,d,(e,f),g),h,i,j,k))),(2:Int))
def ku(a:ac)(e f i:Int) :=
 iF a.2.2.2.2.2.2.2.2.2.2.1 (e,f) i
def qa(b:List aD)(c:Int)(d:List Int)(e f g:Int)(j:List Int) :=
 bM (bn (b,c,d,(e,f),g))/\okL (bn (b,c,d,(e,f),g))/\(j.length:Int)<=1000000
def kJ :=
 ((0:Int),([]:List Int))
def Dd(a:ac)(b:List aD)(c:Int)(d:List Int)(e f g h i:Int)(j:List Int)(k:bY)(l n:Int)(o:List Int)(p:Int×Int) :=
 cz (dH (a,(b,c,d,(e,f),g),h,i,j,k)) (iJ (a,(b,c,d,(e,f),g),h,i,j,k)) (a,(b,c,d,(e,f),g),h,i,j,k) l=(DQ a b c d e f g h i j k l)/\(gV (a,(b,c,d,(e,f),g),h,i,j,k)).2.1≠([]:List Int)/\(bn (b,c,d,(e,f),g),n,o,p,kV (b,c,d,(e,f),g))=ij (a,(b,c,d,(e,f),g),h,i,j,k)
theorem ac5 :
 ∀(a:ac)(b:List aD)(c:Int)(d:List Int)(e f g h i:Int)(j:List Int)(k:bY)(l:Int),(vF a b c d e f g h i j k)/\True/\True/\(0<=l/\l<=4294967295)/\True->(qa b c d e f g j)-> ∀(m:Bool),m=decide (l=0)->(m->(m->m)/\True)/\(m->(m->m)/\True)/\(m->(m->m)/\True)/\(m->(m->m)/\True)/\(m->m)/\ad (bif m then a.2.2.2.2.2.2.2.2.2.2.2.1 else false) ((kJ)=(jP a b c d e f g h i j k l).2.1/\(4:Int)=(jP a b c d e f g h i j k l).2.2/\(a,(b,c,d,(e,f),g),h,i,j,k)=gb (a,(b,c,d,(e,f),g),h,i,j,k) (jP a b c d e f g h i j k l).1/\()=()) ((j.length:Int)<=1000000/\ad (! decide (iJ (a,(b,c,d,(e,f),g),h,i,j,k) (0:Int)=0)) ((kJ)=(jP a b c d e f g h i j k l).2.1/\(6:Int)=(jP a b c d e f g h i j k l).2.2/\(a,(b,c,d,(e,f),g),h,i,j,k)=gb (a,(b,c,d,(e,f),g),h,i,j,k) (jP a b c d e f g h i j k l).1/\()=()) (bM (bn (b,c,d,(e,f),g))/\okL (bn (b,c,d,(e,f),g))/\ad (! eI
 (b,c,d,(e,f),g) k.2.2.2.2.2.1) ((kJ)=(jP a b c d e f g h i j k l).2.1/\(8:Int)=(jP a b c d e f g h i j k l).2.2/\(a,(b,c,d,(e,f),g),h,i,j,k)=gb (a,(b,c,d,(e,f),g),h,i,j,k) (jP a b c d e f g h i j k l).1/\()=()) (ad (! (ku a e f i).2) ((kJ)=(jP a b c d e f g h i j k l).2.1/\(5:Int)=(jP a b c d e f g h i j k l).2.2/\(a,(b,c,d,(ku a e f i).1,g),h,i,j,k)=gb (a,(b,c,d,(e,f),g),h,i,j,k) (jP a b c d e f g h i j k l).1/\()=()) (ad (decide (bp a h<(d.length:Int))) (0<=bp a h/\bp a h<(d.length:Int)/\0<=bp a h/\bp a h<(d.length:Int)/\ ∃(n:Int) (o:List Int),∃(p:Int×Int),(Dd a b c d e f g h i j k l n o p)/\l=l/\bp a h=bp a h/\jK a (b,c,d,(ku a e f i).1,g) (bp a h) i k.2.1 k.2.2.2.2.2.1=fI (a,(b,c,d,(e,f),g),h,i,j,k)/\(0:Int)=0/\(cG b c d e f g k).1.1=(cG b c d e f g k).1.1/\(cG b c d e f g k).1.2=(cG b c d e f g k).1.2/\(cG b c d e f g
 k).2.1=(cG b c d e f g k).2.1/\(cG b c d e f g k).2.2=(cG b c d e f g k).2.2/\dH (a,(b,c,d,(e,f),g),h,i,j,k) (adr a (bp a h)) (0:Int)=dH (a,(b,c,d,(e,f),g),h,i,j,k) (adr a (bp a h)) (0:Int)/\a.1=a.1/\a.2.1=a.2.1/\a.2.2.1=a.2.2.1/\a.2.2.2.1=a.2.2.2.1/\a.2.2.2.2.1=a.2.2.2.2.1/\a.2.2.2.2.2.1=a.2.2.2.2.2.1/\a.2.2.2.2.2.2.1=a.2.2.2.2.2.2.1/\a.2.2.2.2.2.2.2.1=a.2.2.2.2.2.2.2.1/\a.2.2.2.2.2.2.2.2.1=a.2.2.2.2.2.2.2.2.1/\a.2.2.2.2.2.2.2.2.2.1=a.2.2.2.2.2.2.2.2.2.1/\a.2.2.2.2.2.2.2.2.2.2.1.1=a.2.2.2.2.2.2.2.2.2.2.1.1/\a.2.2.2.2.2.2.2.2.2.2.1.2=a.2.2.2.2.2.2.2.2.2.2.1.2/\a.2.2.2.2.2.2.2.2.2.2.2.1=a.2.2.2.2.2.2.2.2.2.2.2.1/\a.2.2.2.2.2.2.2.2.2.2.2.2.1=a.2.2.2.2.2.2.2.2.2.2.2.2.1/\a.2.2.2.2.2.2.2.2.2.2.2.2.2.1=a.2.2.2.2.2.2.2.2.2.2.2.2.2.1/\a.2.2.2.2.2.2.2.2.2.2.2.2.2.2=a.2.2.2.2.2.2.2.2.2.2.2.2.2.2/\b=bn (b,c,d,(e,f),g)/\IntKind.wrap .i64 (c+(1:Int))=n/\(ku a e f
 i).1.1=p.1/\(ku a e f i).1.2=p.2/\g=kV (b,c,d,(e,f),g)/\h=h/\i=i/\j=j/\k.1=k.1/\k.2.1=k.2.1/\k.2.2.1=k.2.2.1/\k.2.2.2.1=k.2.2.2.1/\k.2.2.2.2.1=k.2.2.2.2.1/\k.2.2.2.2.2.1=k.2.2.2.2.2.1/\k.2.2.2.2.2.2=k.2.2.2.2.2.2/\List.set d (Int.toNat (bp a h)) (IntKind.wrap .i64 (d.getD (Int.toNat (bp a h)) default+(1:Int)))=o/\True) (∃(n:Int) (o:List Int),∃(p:Int×Int),(Dd a b c d e f g h i j k l n o p)/\l=l/\bp a h=bp a h/\jK a (b,c,d,(ku a e f i).1,g) (bp a h) i k.2.1 k.2.2.2.2.2.1=fI (a,(b,c,d,(e,f),g),h,i,j,k)/\(0:Int)=0/\(cG b c d e f g k).1.1=(cG b c d e f g k).1.1/\(cG b c d e f g k).1.2=(cG b c d e f g k).1.2/\(cG b c d e f g k).2.1=(cG b c d e f g k).2.1/\(cG b c d e f g k).2.2=(cG b c d e f g k).2.2/\dH (a,(b,c,d,(e,f),g),h,i,j,k) (adr a (bp a h)) (0:Int)=dH (a,(b,c,d,(e,f),g),h,i,j,k) (adr a (bp a h))
 (0:Int)/\a.1=a.1/\a.2.1=a.2.1/\a.2.2.1=a.2.2.1/\a.2.2.2.1=a.2.2.2.1/\a.2.2.2.2.1=a.2.2.2.2.1/\a.2.2.2.2.2.1=a.2.2.2.2.2.1/\a.2.2.2.2.2.2.1=a.2.2.2.2.2.2.1/\a.2.2.2.2.2.2.2.1=a.2.2.2.2.2.2.2.1/\a.2.2.2.2.2.2.2.2.1=a.2.2.2.2.2.2.2.2.1/\a.2.2.2.2.2.2.2.2.2.1=a.2.2.2.2.2.2.2.2.2.1/\a.2.2.2.2.2.2.2.2.2.2.1.1=a.2.2.2.2.2.2.2.2.2.2.1.1/\a.2.2.2.2.2.2.2.2.2.2.1.2=a.2.2.2.2.2.2.2.2.2.2.1.2/\a.2.2.2.2.2.2.2.2.2.2.2.1=a.2.2.2.2.2.2.2.2.2.2.2.1/\a.2.2.2.2.2.2.2.2.2.2.2.2.1=a.2.2.2.2.2.2.2.2.2.2.2.2.1/\a.2.2.2.2.2.2.2.2.2.2.2.2.2.1=a.2.2.2.2.2.2.2.2.2.2.2.2.2.1/\a.2.2.2.2.2.2.2.2.2.2.2.2.2.2=a.2.2.2.2.2.2.2.2.2.2.2.2.2.2/\b=bn (b,c,d,(e,f),g)/\IntKind.wrap .i64 (c+(1:Int))=n/\(ku a e f i).1.1=p.1/\(ku a e f i).1.2=p.2/\g=kV
 (b,c,d,(e,f),g)/\h=h/\i=i/\j=j/\k.1=k.1/\k.2.1=k.2.1/\k.2.2.1=k.2.2.1/\k.2.2.2.1=k.2.2.2.1/\k.2.2.2.2.1=k.2.2.2.2.1/\k.2.2.2.2.2.1=k.2.2.2.2.2.1/\k.2.2.2.2.2.2=k.2.2.2.2.2.2/\d=o/\True)/\ ∀(n:Int)(o:List Int)(p:Int×Int),cz (dH (a,(b,c,d,(e,f),g),h,i,j,k)) (iJ (a,(b,c,d,(e,f),g),h,i,j,k)) (a,(b,c,d,(e,f),g),h,i,j,k) l=(DQ a b c d e f g h i j k l)/\(gV (a,(b,c,d,(e,f),g),h,i,j,k)).2.1≠([]:List Int)/\(bn (b,c,d,(e,f),g),n,o,p,kV (b,c,d,(e,f),g))=ij (a,(b,c,d,(e,f),g),h,i,j,k)->(cG b c d e f g k).2.1≠([]:List Int)/\((List.length (dH (a,(b,c,d,(e,f),g),h,i,j,k) (adr a (bp a h)) (0:Int))):Int)<=1000000/\ad (decide (l=0)) ((j.length:Int)<=1000000/\(g9 a (b,n,o,p,g) (cG b c d e f g k) (fw (dH (a,(b,c,d,(e,f),g),h,i,j,k) (adr a (bp a h)) (0:Int))),dH (a,fC (b,n,o,p,g) (cG b c d e f g k),h,i,j,k) (jn a (bp a h) (g9 a (b,n,o,p,g)
 (cG b c d e f g k) (fw (dH (a,(b,c,d,(e,f),g),h,i,j,k) (adr a (bp a h)) (0:Int))))) (fI (a,(b,c,d,(e,f),g),h,i,j,k)))=(jP a b c d e f g h i j k l).2.1/\(2:Int)=(jP a b c d e f g h i j k l).2.2/\(a,fC (b,n,o,p,g) (cG b c d e f g k),h,i,j,k)=gb (a,(b,c,d,(e,f),g),h,i,j,k) (jP a b c d e f g h i j k l).1/\()=()) ((j.length:Int)<=1000000/\(g9 a (b,n,o,p,g) (cG b c d e f g k) (fw (dH (a,(b,c,d,(e,f),g),h,i,j,k) (adr a (bp a h)) (0:Int))),dH (a,fC (b,n,o,p,g) (cG b c d e f g k),h,i,j,k) l (fI (a,(b,c,d,(e,f),g),h,i,j,k)))=(jP a b c d e f g h i j k l).2.1/\(2:Int)=(jP a b c d e f g h i j k l).2.2/\(a,fC (b,n,o,p,g) (cG b c d e f g k),h,i,j,k)=gb (a,(b,c,d,(e,f),g),h,i,j,k) (jP a b c d e f g h i j k l).1/\()=()))))):=by
  delta jP cG vF DQ ku qa kJ Dd
  rintro d x x1 x2 x3 x4 x5 x6 x7 x8 h own-⟨hs,hl,hb⟩
  obtain⟨w,hw⟩:∃ w:cE,w=(d,(x,x1,x2,(x3,x4),x5),x6,x7,x8,h):=⟨_,rfl⟩
  have e0:d.2.2.2.2.2.2.2.2.2.2.2.1=jN w.1:=by rw[hw];rfl
  have e2:eI (x,x1,x2,(x3,x4),x5) h.2.2.2.2.2.1=eI w.2.1 (j7 w.2.2.2.2.2):=by rw[hw];rfl
  have e3:iF d.2.2.2.2.2.2.2.2.2.2.1 (x3,x4) x7=jw w:=by rw[hw];rfl
  rw[e0,e2,e3,← hw]
  have fin:=fun {s o y}=>Af (r:=cz (dH w) (iJ w) w own) (s:=s) (o:=o) (y:=y) w
  intro b hb0
  (repeat refine⟨(by first|(simp;done)|(rw[hb0];simp;done)|(cases b <;> simp)),?_⟩)
  have hq:(bif b then jN w.1 else false)=true↔own=0/\jN w.1=true:=by rw[hb0];by_cases k:own=0 <;> simp[k]
  refine ae (fun h0=>?_) (fun h0=>?_)
  ·obtain⟨f1,f2,f3⟩:=fin (tT (hq.1 h0))
   exact⟨f1,f2,by rw[← f3,hw];rfl,rfl⟩
  have h0:¬ (own=0/\jN w.1=true):=fun k=>by rw[hq.2 k] at h0;cases h0
  refine⟨hb,ae (fun h1=>?_) (fun h1=>?_)⟩
  ·obtain⟨f1,f2,f3⟩:=fin (ur h0 (by simpa using h1))
   exact⟨f1,f2,by rw[← f3,hw];rfl,rfl⟩
  have h1:¬ (iJ w) 0≠0:=by simpa using h1
  refine⟨hs,hl,ae (fun h2=>?_) (fun h2=>?_)⟩
  ·obtain⟨f1,f2,f3⟩:=fin (uv h0 h1 (by simpa using h2))
   exact⟨f1,f2,by rw[← f3,hw];rfl,rfl⟩
  have h2:¬ eI w.2.1 (j7 w.2.2.2.2.2)=false:=by simpa using h2
  refine ae (fun h3=>?_) (fun h3=>⟨?_,?_⟩)
  ·obtain⟨f1,f2,f3⟩:=fin (uG h0 h1 h2 (by simpa using h3))
   exact⟨f1,f2,by rw[← f3,hw];rfl,rfl⟩
  ·have h3:¬ (jw w).2=false:=by simpa using h3
   have eg:=uR (B:=dH w) h0 h1 h2 h3
   have hne:(gV w).2.1≠[]:=xC h2
   have hin:=Bk d x6
   have pi:jK d (x,x1,x2,(jw w).1,x5) (bp d x6) x7 h.2.1 h.2.2.2.2.2.1=fI w:=by rw[← e3,hw];rfl
   have hS:ij w=(x,IntKind.i64.wrap (x1+1),nw x2 (bp d x6),(jw w).1,x5):=by rw[← e3,hw];rfl
   refine ae (fun h4=>?_) (fun h4=>?_)
   ·have h4:=of_decide_eq_true h4
    refine⟨hin,h4,hin,h4,_,_,_,⟨eg,hne,?_⟩,rfl,rfl,pi,(by repeat' first|exact trivial|refine⟨trivial,?_⟩|refine⟨(by with_reducible rfl),?_⟩|refine⟨af (by omega) (by omega),?_⟩|refine⟨rfl,?_⟩)⟩
    rw[hS,FV h4];rfl
   ·have h4:=of_decide_eq_false h4
    refine⟨_,_,_,⟨eg,hne,?_⟩,rfl,rfl,pi,(by repeat' first|exact trivial|refine⟨trivial,?_⟩|refine⟨(by with_reducible rfl),?_⟩|refine⟨af (by omega) (by omega),?_⟩|refine⟨rfl,?_⟩)⟩
    rw[hS,G4 h4];rfl
  ·rintro k l t ⟨eg,hne,hS⟩
   have e4:bh (bn (x,x1,x2,(x3,x4),x5)) h.2.2.2.2.2.1=gV w:=by rw[hw];rfl
   have e5:(x,k,l,t,x5)=ij w:=hS
   have e6:g9 d (ij w) (gV w) (fw ((dH w) (adr d (bp d x6)) 0))=iK (dH w) w:=by rw[hw];rfl
   rw[e4,e5,e6]
   obtain⟨f1,f2,f3⟩:=fin eg
   have hlen:=Ms w (adr d (bp d x6)) 0
   refine⟨hne,by omega,ae (fun h4=>?_) (fun h4=>?_)⟩
   ·have h4:=of_decide_eq_true h4
    refine⟨hb,?_,f2,by rw[← f3,hw];rfl,rfl⟩
    rw[← f1];unfold ib;rw[if_pos h4,hw];rfl
   ·have h4:=of_decide_eq_false h4
    refine⟨hb,?_,f2,by rw[← f3,hw];rfl,rfl⟩
    rw[← f1];unfold ib;rw[if_neg h4,hw];rfl
theorem Yq:av Tryz.prog GL 245 LC.spec:=Ct.okH _ Tryz.func245 (by kernel_rfl) (ah (ah (ah (ah (ah (ah (ah (ah aA M8) Du) Oy) Fv) Pr) MV) Cm) HY) au aq8 (aB (by kernel_rfl) ac5)
def L0:Ct:=⟨[.box 243 ng,.fn 277 3,.box 241 .ali,.box 3 cI,.box 3 cI,.val ck],[.agg tL,.val cI],fun d=>[me d.1],fun d=>(((cz (cZ d.1 d.2.2.2.1 d.2.2.2.2.1) (iO d.1 d.2.2.2.1 d.2.2.2.2.1) d.1 d.2.2.2.2.2.1).2.1,(cz (cZ d.1 d.2.2.2.1 d.2.2.2.2.1) (iO d.1 d.2.2.2.1 d.2.2.2.2.1) d.1 d.2.2.2.2.2.1).2.2,()),(gb d.1 (cz (cZ d.1 d.2.2.2.1 d.2.2.2.2.1) (iO d.1 d.2.2.2.1 d.2.2.2.2.1) d.1 d.2.2.2.2.2.1).1,(),d.2.2.2.1,d.2.2.2.2.1,()))⟩
def af4:ar L0.ps->ay:=(fun d=>{cuts:=(fun n=>match n with|17=>some (fun S=>{ι:=Int×(List Int)×(Int×Int),qn:=⟨fun k_=>∀(k:Int)(l:(List Int))(t:(Int×Int)),k_ (k,l,t),fun k_ h_ i=>h_ i.1 i.2.1 i.2.2,fun k_=>∃ (k:Int) (l:(List Int)) (t:(Int×Int)),k_ (k,l,t),fun k_ ⟨k,l,t,h_⟩=>⟨_,h_⟩⟩,inv:=fun i=>cz (cZ d.1 d.2.2.2.1 d.2.2.2.2.1) (iO d.1 d.2.2.2.1 d.2.2.2.2.1) d.1 d.2.2.2.2.2.1=(fC (ij d.1) (gV d.1),(iK (cZ d.1 d.2.2.2.1 d.2.2.2.2.1) d.1,(cZ d.1 d.2.2.2.1 d.2.2.2.2.1) (ib (cZ d.1 d.2.2.2.1 d.2.2.2.2.1) d.1 d.2.2.2.2.2.1) (fI d.1)),2)/\(gV d.1).2.1≠[]/\(bn d.1.2.1,i.1,i.2.1,i.2.2,kV d.1.2.1)=ij d.1,keep:=[0,1,2,6,9,11],slots:=fun i=>[(8,.int .i64 (bp d.1.1 d.1.2.2.1)),(13,.int .i64 (fI d.1))],keepN:=[112,192,560,1048577,1048578,1048579],names:=fun i=>[(1048576,.live (.cells 243 (cy bH d.1.1++([.dsl cu (bn d.1.2.1),.int .i64 i.1,.own 524288 1]++(cy r6 i.2.2++([.int .i64 (kV d.1.2.1),.int .i64 d.1.2.2.1,.int .i64 d.1.2.2.2.1,.dsl bm d.1.2.2.2.2.1]++cy j8 d.1.2.2.2.2.2)))))),(524288,.live (.row 3 cI i.2.1))]})|_=>none)})
def jJ(a:ac)(b:List aD)(c:Int)(d:List Int)(e f g h i:Int)(j:List Int)(k:bY)(l m n:Int) :=
 cz (cZ (a,(b,c,d,(e,f),g),h,i,j,k) l m) (iO (a,(b,c,d,(e,f),g),h,i,j,k) l m) (a,(b,c,d,(e,f),g),h,i,j,k) n
def FT(a:ac)(b:List aD)(c:Int)(d:List Int)(e f g h i:Int)(j:List Int)(k:bY)(l m n:Int) :=
 (fC (ij (a,(b,c,d,(e,f),g),h,i,j,k)) (gV (a,(b,c,d,(e,f),g),h,i,j,k)),(iK (cZ (a,(b,c,d,(e,f),g),h,i,j,k) l m) (a,(b,c,d,(e,f),g),h,i,j,k),cZ (a,(b,c,d,(e,f),g),h,i,j,k) l m (ib (cZ (a,(b,c,d,(e,f),g),h,i,j,k) l m) (a,(b,c,d,(e,f),g),h,i,j,k) n) (fI (a,(b,c,d,(e,f),g),h,i,j,k))),(2:Int))
def Cd(a:ac)(b:List aD)(c:Int)(d:List Int)(e f g h i:Int)(j:List Int)(k:bY)(l m n p:Int)(q:List Int)(r:Int×Int) :=
 cz (cZ (a,(b,c,d,(e,f),g),h,i,j,k) l m) (iO (a,(b,c,d,(e,f),g),h,i,j,k) l m) (a,(b,c,d,(e,f),g),h,i,j,k) n=(FT a b c d e f g h i j k l m n)/\(gV (a,(b,c,d,(e,f),g),h,i,j,k)).2.1≠([]:List Int)/\(bn (b,c,d,(e,f),g),p,q,r,kV (b,c,d,(e,f),g))=ij (a,(b,c,d,(e,f),g),h,i,j,k)
theorem ae6 :
 ∀(a:ac)(b:List aD)(c:Int)(d:List Int)(e f g h i:Int)(j:List Int)(k:bY)(l m n:Int),(CT.wf bH a/\((b.length<=maxLen/\ ∀(o:aD),o∈b->((0<=o.1.1/\o.1.1<=4294967295)/\ab o.1.2)/\(o.2.1.length<=maxLen/\ ∀(p:Int),p∈o.2.1->ab p)/\ab o.2.2)/\ab c/\(d.length<=maxLen/\ ∀(o:Int),o∈d->ab o)/\(ab e/\ab f)/\ab g)/\ab h/\ab i/\(j.length<=maxLen/\ ∀(o:Int),o∈j->0<=o/\o<=255)/\CT.wf j8 k)/\True/\True/\ab l/\ab m/\(0<=n/\n<=4294967295)/\True->(qa b c d e f g j)-> ∀(o:Bool),o=decide (n=0)->(o->(o->o)/\True)/\(o->(o->o)/\True)/\(o->(o->o)/\True)/\(o->(o->o)/\True)/\(o->o)/\ad (bif o then a.2.2.2.2.2.2.2.2.2.2.2.1 else false) ((kJ)=(jJ a b c d e f g h i j k l m n).2.1/\(4:Int)=(jJ a b c d e f g h i j k l m n).2.2/\(a,(b,c,d,(e,f),g),h,i,j,k)=gb (a,(b,c,d,(e,f),g),h,i,j,k) (jJ a b c d e f g h i j k l m n).1/\()=()/\l=l/\m=m) ((j.length:Int)<=1000000/\ad (!
 decide (iO (a,(b,c,d,(e,f),g),h,i,j,k) l m (0:Int)=0)) ((kJ)=(jJ a b c d e f g h i j k l m n).2.1/\(6:Int)=(jJ a b c d e f g h i j k l m n).2.2/\(a,(b,c,d,(e,f),g),h,i,j,k)=gb (a,(b,c,d,(e,f),g),h,i,j,k) (jJ a b c d e f g h i j k l m n).1/\()=()/\l=l/\m=m) (bM (bn (b,c,d,(e,f),g))/\okL (bn (b,c,d,(e,f),g))/\ad (! eI (b,c,d,(e,f),g) k.2.2.2.2.2.1) ((kJ)=(jJ a b c d e f g h i j k l m n).2.1/\(8:Int)=(jJ a b c d e f g h i j k l m n).2.2/\(a,(b,c,d,(e,f),g),h,i,j,k)=gb (a,(b,c,d,(e,f),g),h,i,j,k) (jJ a b c d e f g h i j k l m n).1/\()=()/\l=l/\m=m) (ad (! (ku a e f i).2) ((kJ)=(jJ a b c d e f g h i j k l m n).2.1/\(5:Int)=(jJ a b c d e f g h i j k l m n).2.2/\(a,(b,c,d,(ku a e f i).1,g),h,i,j,k)=gb (a,(b,c,d,(e,f),g),h,i,j,k) (jJ a b c d e f g h i j k l m n).1/\()=()/\l=l/\m=m) (ad (decide (bp a h<(d.length:Int))) (0<=bp a h/\bp
 a h<(d.length:Int)/\0<=bp a h/\bp a h<(d.length:Int)/\ ∃(p:Int) (q:List Int),∃(r:Int×Int),(Cd a b c d e f g h i j k l m n p q r)/\n=n/\bp a h=bp a h/\jK a (b,c,d,(ku a e f i).1,g) (bp a h) i k.2.1 k.2.2.2.2.2.1=fI (a,(b,c,d,(e,f),g),h,i,j,k)/\(0:Int)=0/\(cG b c d e f g k).1.1=(cG b c d e f g k).1.1/\(cG b c d e f g k).1.2=(cG b c d e f g k).1.2/\(cG b c d e f g k).2.1=(cG b c d e f g k).2.1/\(cG b c d e f g k).2.2=(cG b c d e f g k).2.2/\cZ (a,(b,c,d,(e,f),g),h,i,j,k) l m (adr a (bp a h)) (0:Int)=cZ (a,(b,c,d,(e,f),g),h,i,j,k) l m (adr a (bp a h))
 (0:Int)/\l=l/\m=m/\a.1=a.1/\a.2.1=a.2.1/\a.2.2.1=a.2.2.1/\a.2.2.2.1=a.2.2.2.1/\a.2.2.2.2.1=a.2.2.2.2.1/\a.2.2.2.2.2.1=a.2.2.2.2.2.1/\a.2.2.2.2.2.2.1=a.2.2.2.2.2.2.1/\a.2.2.2.2.2.2.2.1=a.2.2.2.2.2.2.2.1/\a.2.2.2.2.2.2.2.2.1=a.2.2.2.2.2.2.2.2.1/\a.2.2.2.2.2.2.2.2.2.1=a.2.2.2.2.2.2.2.2.2.1/\a.2.2.2.2.2.2.2.2.2.2.1.1=a.2.2.2.2.2.2.2.2.2.2.1.1/\a.2.2.2.2.2.2.2.2.2.2.1.2=a.2.2.2.2.2.2.2.2.2.2.1.2/\a.2.2.2.2.2.2.2.2.2.2.2.1=a.2.2.2.2.2.2.2.2.2.2.2.1/\a.2.2.2.2.2.2.2.2.2.2.2.2.1=a.2.2.2.2.2.2.2.2.2.2.2.2.1/\a.2.2.2.2.2.2.2.2.2.2.2.2.2.1=a.2.2.2.2.2.2.2.2.2.2.2.2.2.1/\a.2.2.2.2.2.2.2.2.2.2.2.2.2.2=a.2.2.2.2.2.2.2.2.2.2.2.2.2.2/\b=bn (b,c,d,(e,f),g)/\IntKind.wrap .i64 (c+(1:Int))=p/\(ku a e f i).1.1=r.1/\(ku a e f i).1.2=r.2/\g=kV
 (b,c,d,(e,f),g)/\h=h/\i=i/\j=j/\k.1=k.1/\k.2.1=k.2.1/\k.2.2.1=k.2.2.1/\k.2.2.2.1=k.2.2.2.1/\k.2.2.2.2.1=k.2.2.2.2.1/\k.2.2.2.2.2.1=k.2.2.2.2.2.1/\k.2.2.2.2.2.2=k.2.2.2.2.2.2/\List.set d (Int.toNat (bp a h)) (IntKind.wrap .i64 (d.getD (Int.toNat (bp a h)) default+(1:Int)))=q/\True) (∃(p:Int) (q:List Int),∃(r:Int×Int),(Cd a b c d e f g h i j k l m n p q r)/\n=n/\bp a h=bp a h/\jK a (b,c,d,(ku a e f i).1,g) (bp a h) i k.2.1 k.2.2.2.2.2.1=fI (a,(b,c,d,(e,f),g),h,i,j,k)/\(0:Int)=0/\(cG b c d e f g k).1.1=(cG b c d e f g k).1.1/\(cG b c d e f g k).1.2=(cG b c d e f g k).1.2/\(cG b c d e f g k).2.1=(cG b c d e f g k).2.1/\(cG b c d e f g k).2.2=(cG b c d e f g k).2.2/\cZ (a,(b,c,d,(e,f),g),h,i,j,k) l m (adr a (bp a h)) (0:Int)=cZ (a,(b,c,d,(e,f),g),h,i,j,k) l m (adr a (bp a h))
 (0:Int)/\l=l/\m=m/\a.1=a.1/\a.2.1=a.2.1/\a.2.2.1=a.2.2.1/\a.2.2.2.1=a.2.2.2.1/\a.2.2.2.2.1=a.2.2.2.2.1/\a.2.2.2.2.2.1=a.2.2.2.2.2.1/\a.2.2.2.2.2.2.1=a.2.2.2.2.2.2.1/\a.2.2.2.2.2.2.2.1=a.2.2.2.2.2.2.2.1/\a.2.2.2.2.2.2.2.2.1=a.2.2.2.2.2.2.2.2.1/\a.2.2.2.2.2.2.2.2.2.1=a.2.2.2.2.2.2.2.2.2.1/\a.2.2.2.2.2.2.2.2.2.2.1.1=a.2.2.2.2.2.2.2.2.2.2.1.1/\a.2.2.2.2.2.2.2.2.2.2.1.2=a.2.2.2.2.2.2.2.2.2.2.1.2/\a.2.2.2.2.2.2.2.2.2.2.2.1=a.2.2.2.2.2.2.2.2.2.2.2.1/\a.2.2.2.2.2.2.2.2.2.2.2.2.1=a.2.2.2.2.2.2.2.2.2.2.2.2.1/\a.2.2.2.2.2.2.2.2.2.2.2.2.2.1=a.2.2.2.2.2.2.2.2.2.2.2.2.2.1/\a.2.2.2.2.2.2.2.2.2.2.2.2.2.2=a.2.2.2.2.2.2.2.2.2.2.2.2.2.2/\b=bn (b,c,d,(e,f),g)/\IntKind.wrap .i64 (c+(1:Int))=p/\(ku a e f i).1.1=r.1/\(ku a e f i).1.2=r.2/\g=kV
 (b,c,d,(e,f),g)/\h=h/\i=i/\j=j/\k.1=k.1/\k.2.1=k.2.1/\k.2.2.1=k.2.2.1/\k.2.2.2.1=k.2.2.2.1/\k.2.2.2.2.1=k.2.2.2.2.1/\k.2.2.2.2.2.1=k.2.2.2.2.2.1/\k.2.2.2.2.2.2=k.2.2.2.2.2.2/\d=q/\True)/\ ∀(p:Int)(q:List Int)(r:Int×Int),cz (cZ (a,(b,c,d,(e,f),g),h,i,j,k) l m) (iO (a,(b,c,d,(e,f),g),h,i,j,k) l m) (a,(b,c,d,(e,f),g),h,i,j,k) n=(FT a b c d e f g h i j k l m n)/\(gV (a,(b,c,d,(e,f),g),h,i,j,k)).2.1≠([]:List Int)/\(bn (b,c,d,(e,f),g),p,q,r,kV (b,c,d,(e,f),g))=ij (a,(b,c,d,(e,f),g),h,i,j,k)->(cG b c d e f g k).2.1≠([]:List Int)/\((List.length (cZ (a,(b,c,d,(e,f),g),h,i,j,k) l m (adr a (bp a h)) (0:Int))):Int)<=1000000/\ad (decide (n=0)) ((j.length:Int)<=1000000/\(g9 a (b,p,q,r,g) (cG b c d e f g k) (fw (cZ (a,(b,c,d,(e,f),g),h,i,j,k) l m (adr a (bp a h)) (0:Int))),cZ (a,fC (b,p,q,r,g) (cG b c d e f g k),h,i,j,k) l m (jn a (bp a h)
 (g9 a (b,p,q,r,g) (cG b c d e f g k) (fw (cZ (a,(b,c,d,(e,f),g),h,i,j,k) l m (adr a (bp a h)) (0:Int))))) (fI (a,(b,c,d,(e,f),g),h,i,j,k)))=(jJ a b c d e f g h i j k l m n).2.1/\(2:Int)=(jJ a b c d e f g h i j k l m n).2.2/\(a,fC (b,p,q,r,g) (cG b c d e f g k),h,i,j,k)=gb (a,(b,c,d,(e,f),g),h,i,j,k) (jJ a b c d e f g h i j k l m n).1/\()=()/\l=l/\m=m) ((j.length:Int)<=1000000/\(g9 a (b,p,q,r,g) (cG b c d e f g k) (fw (cZ (a,(b,c,d,(e,f),g),h,i,j,k) l m (adr a (bp a h)) (0:Int))),cZ (a,fC (b,p,q,r,g) (cG b c d e f g k),h,i,j,k) l m n (fI (a,(b,c,d,(e,f),g),h,i,j,k)))=(jJ a b c d e f g h i j k l m n).2.1/\(2:Int)=(jJ a b c d e f g h i j k l m n).2.2/\(a,fC (b,p,q,r,g) (cG b c d e f g k),h,i,j,k)=gb (a,(b,c,d,(e,f),g),h,i,j,k) (jJ a b c d e f g h i j k l m n).1/\()=()/\l=l/\m=m))))):=by
  delta jJ cG FT ku qa kJ Cd
  rintro d x x1 x2 x3 x4 x5 x6 x7 x8 h ki co own-⟨hs,hl,hb⟩
  obtain⟨w,hw⟩:∃ w:cE,w=(d,(x,x1,x2,(x3,x4),x5),x6,x7,x8,h):=⟨_,rfl⟩
  have e0:d.2.2.2.2.2.2.2.2.2.2.2.1=jN w.1:=by rw[hw];rfl
  have e2:eI (x,x1,x2,(x3,x4),x5) h.2.2.2.2.2.1=eI w.2.1 (j7 w.2.2.2.2.2):=by rw[hw];rfl
  have e3:iF d.2.2.2.2.2.2.2.2.2.2.1 (x3,x4) x7=jw w:=by rw[hw];rfl
  rw[e0,e2,e3,← hw]
  have fin:=fun {s o y}=>Af (r:=cz (cZ w ki co) (iO w ki co) w own) (s:=s) (o:=o) (y:=y) w
  intro b hb0
  (repeat refine⟨(by first|(simp;done)|(rw[hb0];simp;done)|(cases b <;> simp)),?_⟩)
  have hq:(bif b then jN w.1 else false)=true↔own=0/\jN w.1=true:=by rw[hb0];by_cases k:own=0 <;> simp[k]
  refine ae (fun h0=>?_) (fun h0=>?_)
  ·obtain⟨f1,f2,f3⟩:=fin (tT (hq.1 h0))
   exact⟨f1,f2,by rw[← f3,hw];rfl,rfl,rfl,rfl⟩
  have h0:¬ (own=0/\jN w.1=true):=fun k=>by rw[hq.2 k] at h0;cases h0
  refine⟨hb,ae (fun h1=>?_) (fun h1=>?_)⟩
  ·obtain⟨f1,f2,f3⟩:=fin (ur h0 (by simpa using h1))
   exact⟨f1,f2,by rw[← f3,hw];rfl,rfl,rfl,rfl⟩
  have h1:¬ (iO w ki co) 0≠0:=by simpa using h1
  refine⟨hs,hl,ae (fun h2=>?_) (fun h2=>?_)⟩
  ·obtain⟨f1,f2,f3⟩:=fin (uv h0 h1 (by simpa using h2))
   exact⟨f1,f2,by rw[← f3,hw];rfl,rfl,rfl,rfl⟩
  have h2:¬ eI w.2.1 (j7 w.2.2.2.2.2)=false:=by simpa using h2
  refine ae (fun h3=>?_) (fun h3=>⟨?_,?_⟩)
  ·obtain⟨f1,f2,f3⟩:=fin (uG h0 h1 h2 (by simpa using h3))
   exact⟨f1,f2,by rw[← f3,hw];rfl,rfl,rfl,rfl⟩
  ·have h3:¬ (jw w).2=false:=by simpa using h3
   have eg:=uR (B:=cZ w ki co) h0 h1 h2 h3
   have hne:(gV w).2.1≠[]:=xC h2
   have hin:=Bk d x6
   have pi:jK d (x,x1,x2,(jw w).1,x5) (bp d x6) x7 h.2.1 h.2.2.2.2.2.1=fI w:=by rw[← e3,hw];rfl
   have hS:ij w=(x,IntKind.i64.wrap (x1+1),nw x2 (bp d x6),(jw w).1,x5):=by rw[← e3,hw];rfl
   refine ae (fun h4=>?_) (fun h4=>?_)
   ·have h4:=of_decide_eq_true h4
    refine⟨hin,h4,hin,h4,_,_,_,⟨eg,hne,?_⟩,rfl,rfl,pi,(by repeat' first|exact trivial|refine⟨trivial,?_⟩|refine⟨(by with_reducible rfl),?_⟩|refine⟨af (by omega) (by omega),?_⟩|refine⟨rfl,?_⟩)⟩
    rw[hS,FV h4];rfl
   ·have h4:=of_decide_eq_false h4
    refine⟨_,_,_,⟨eg,hne,?_⟩,rfl,rfl,pi,(by repeat' first|exact trivial|refine⟨trivial,?_⟩|refine⟨(by with_reducible rfl),?_⟩|refine⟨af (by omega) (by omega),?_⟩|refine⟨rfl,?_⟩)⟩
    rw[hS,G4 h4];rfl
  ·rintro k l t ⟨eg,hne,hS⟩
   have e4:bh (bn (x,x1,x2,(x3,x4),x5)) h.2.2.2.2.2.1=gV w:=by rw[hw];rfl
   have e5:(x,k,l,t,x5)=ij w:=hS
   have e6:g9 d (ij w) (gV w) (fw ((cZ w ki co) (adr d (bp d x6)) 0))=iK (cZ w ki co) w:=by rw[hw];rfl
   rw[e4,e5,e6]
   obtain⟨f1,f2,f3⟩:=fin eg
   have hlen:=Cc w ki co (adr d (bp d x6)) 0
   refine⟨hne,by omega,ae (fun h4=>?_) (fun h4=>?_)⟩
   ·have h4:=of_decide_eq_true h4
    refine⟨hb,?_,f2,by rw[← f3,hw];rfl,rfl,rfl,rfl⟩
    rw[← f1];unfold ib;rw[if_pos h4,hw];rfl
   ·have h4:=of_decide_eq_false h4
    refine⟨hb,?_,f2,by rw[← f3,hw];rfl,rfl,rfl,rfl⟩
    rw[← f1];unfold ib;rw[if_neg h4,hw];rfl
theorem aq0:av Tryz.prog GL 245 L0.spec:=Ct.okH _ Tryz.func245 (by kernel_rfl) (ah (ah (ah (ah (ah (ah (ah (ah aA M8) Du) SM) Fv) Pr) MV) Cm) HY) au af4 (aB (by kernel_rfl) ae6)
def OH:Ct:=⟨[.box 243 ng],[.agg tL,.val cI],fun d=>[me d.1],fun d=>(((gv d.1).2.1,(gv d.1).2.2,()),(gb d.1 (gv d.1).1,()))⟩
def YR:ar OH.ps->ay:=(fun _=>{})
def BI(a:ac)(b:List aD)(c:Int)(d:List Int)(e f g h i:Int)(j:List Int)(k:bY) :=
 cz (dH (a,(b,c,d,(e,f),g),h,i,j,k)) (iJ (a,(b,c,d,(e,f),g),h,i,j,k)) (a,(b,c,d,(e,f),g),h,i,j,k) k.2.2.2.2.2.2
def AN(a:ac)(b:List aD)(c:Int)(d:List Int)(e f g h i:Int)(j:List Int)(k:bY) :=
 cz (dH (a,(b,c,d,(e,f),g),h,i,j,k)) (iJ (a,(b,c,d,(e,f),g),h,i,j,k)) (a,(b,c,d,(e,f),g),h,i,j,k) (0:Int)
theorem Zh :
 ∀(a:ac)(b:List aD)(c:Int)(d:List Int)(e f g h i:Int)(j:List Int)(k:bY),(sn a b c d e f g h i j k)/\True->(qa b c d e f g j)->(j.length:Int)<=1000000/\ ∀(l:Bool),l=decide (h= -1)->((! l)->((! l)->(! l))/\True)/\(l=false->(! l))/\ad (bif l then true else ! decide (iJ (a,(b,c,d,(e,f),g),h,i,j,k) (0:Int)=0)) ((kJ)=(gv (a,(b,c,d,(e,f),g),h,i,j,k)).2.1/\(1:Int)=(gv (a,(b,c,d,(e,f),g),h,i,j,k)).2.2/\(a,(b,c,d,(e,f),g),h,i,j,k)=gb (a,(b,c,d,(e,f),g),h,i,j,k) (gv (a,(b,c,d,(e,f),g),h,i,j,k)).1) (ad (decide (k.2.2.2.1=17)) (me (a,(b,c,d,(e,f),g),h,i,j,k)/\(AN a b c d e f g h i j k).2.1=(gv (a,(b,c,d,(e,f),g),h,i,j,k)).2.1/\(AN a b c d e f g h i j k).2.2=(gv (a,(b,c,d,(e,f),g),h,i,j,k)).2.2/\(a,(AN a b c d e f g h i j k).1,h,i,j,k)=gb (a,(b,c,d,(e,f),g),h,i,j,k) (gv (a,(b,c,d,(e,f),g),h,i,j,k)).1) (me (a,(b,c,d,(e,f),g),h,i,j,k)/\(BI a
 b c d e f g h i j k).2.1=(gv (a,(b,c,d,(e,f),g),h,i,j,k)).2.1/\(BI a b c d e f g h i j k).2.2=(gv (a,(b,c,d,(e,f),g),h,i,j,k)).2.2/\(a,(BI a b c d e f g h i j k).1,h,i,j,k)=gb (a,(b,c,d,(e,f),g),h,i,j,k) (gv (a,(b,c,d,(e,f),g),h,i,j,k)).1)):=by
  delta sn qa kJ BI AN
  rintro d x x1 x2 x3 x4 x5 x6 x7 x8 h-⟨hs,hl,hb⟩
  obtain⟨w,hw⟩:∃ w:cE,w=(d,(x,x1,x2,(x3,x4),x5),x6,x7,x8,h):=⟨_,rfl⟩
  rw[← hw]
  have fin:=fun {s o y}=>Af (r:=gv w) (s:=s) (o:=o) (y:=y) w
  have e0:w.2.2.1=x6:=by rw[hw]
  have e1:h=w.2.2.2.2.2:=by rw[hw]
  have okw:me w:=by rw[hw];exact⟨hs,hl,hb⟩
  refine⟨hb,?_⟩
  (repeat (intro (b_:Bool) (hb_:b_=_);(repeat refine⟨(by first|(simp;done)|(rw[hb_];simp;done)|(rw[hb_];simp;omega)|(rw[hb_];simp;intros;omega)|(rw[hb_];simp +contextual;done)),?_⟩);subst hb_))
  refine p8 (fun ho=>?_) (fun h1 h2=>?_)
  ·obtain⟨f1,f2,f3⟩:=fin (s:=w.2.1) (o:=gq) (y:=1) (by unfold gv;rw[if_pos];rcases ho with q|q;left;rw[e0];exact of_decide_eq_true q;right;simpa using q)
   exact⟨f1,f2,by rw[← f3,hw];rfl⟩
  have hn:¬ (w.2.2.1 = -1∨iJ w 0≠0):=by
   rintro (q|q)
   ·rw[e0] at q;exact of_decide_eq_false h1 q
   ·apply q;simpa using h2
  have er:gv w=cz (dH w) (iJ w) w (if h.2.2.2.1=17 then 0 else h.2.2.2.2.2.2):=by unfold gv;rw[if_neg hn,e1];rfl
  rw[er]
  refine ae (fun h3=>?_) (fun h3=>?_)
  ·rw[if_pos (of_decide_eq_true h3)]
   exact⟨okw,rfl,rfl,by rw[hw];rfl⟩
  ·rw[if_neg (of_decide_eq_false h3)]
   exact⟨okw,rfl,rfl,by rw[hw];rfl⟩
theorem YW:av Tryz.prog GL 213 OH.spec:=Ct.okH _ Tryz.func213 (by kernel_rfl) (ah (ah aA Oy) Yq) au YR (aB (by kernel_rfl) Zh)
def JR:Ct:=⟨[.box 243 ng],[.agg tL,.val cI],fun d=>[me d.1],fun d=>(((dV d.1).2.1,(dV d.1).2.2,()),(gb d.1 (dV d.1).1,()))⟩
def Uc:ar JR.ps->ay:=(fun _=>{})
def zp(a:ac)(b:List aD)(c:Int)(d:List Int)(e f g h i:Int)(j:List Int)(k:bY) :=
 cz (cZ (a,(b,c,d,(e,f),g),h,i,j,k) (11:Int) (0:Int)) (iO (a,(b,c,d,(e,f),g),h,i,j,k) (11:Int) (0:Int)) (a,(b,c,d,(e,f),g),h,i,j,k) (0:Int)
def Bh(a:ac)(b:List aD)(c:Int)(d:List Int)(e f g h i:Int)(j:List Int)(k:bY) :=
 cz (cZ (a,(b,c,d,(e,f),g),h,i,j,k) (3:Int) (0:Int)) (iO (a,(b,c,d,(e,f),g),h,i,j,k) (3:Int) (0:Int)) (a,(b,c,d,(e,f),g),h,i,j,k) (0:Int)
def GP(a:ac)(b:List aD)(c:Int)(d:List Int)(e f g h i:Int)(j:List Int)(k:bY) :=
 (0:Int)=(dV (a,(b,c,d,(e,f),g),h,i,j,k)).2.2/\(a,fC (b,c,d,(e,f),g) (bh (bn (b,c,d,(e,f),g)) k.2.2.2.2.2.2),h,i,j,k)=gb (a,(b,c,d,(e,f),g),h,i,j,k) (dV (a,(b,c,d,(e,f),g),h,i,j,k)).1
theorem aq6 :
 ∀(a:ac)(b:List aD)(c:Int)(d:List Int)(e f g h i:Int)(j:List Int)(k:bY),(sn a b c d e f g h i j k)/\True->(qa b c d e f g j)-> ∀(l:Bool),l= ! decide (h= -1)->(l->(l->l)/\True)/\(l->(l->l)/\True)/\(l->(l->l)/\True)/\(l->(l->l)/\True)/\(l->(l->l)/\True)/\(l->l)/\ ∀(m:Bool),(m=bif l then ! a.2.2.2.2.2.2.2.2.2.2.2.2.1 else false)->(m->(m->m)/\True)/\(m->(m->m)/\True)/\(m->(m->m)/\True)/\(m->(m->m)/\True)/\(m->(m->m)/\True)/\(m->m)/\ad (bif m then decide (k.2.2.1<2) else false) (me (a,(b,c,d,(e,f),g),h,i,j,k)/\(zp a b c d e f g h i j k).2.1=(dV (a,(b,c,d,(e,f),g),h,i,j,k)).2.1/\(zp a b c d e f g h i j k).2.2=(dV (a,(b,c,d,(e,f),g),h,i,j,k)).2.2/\(a,(zp a b c d e f g h i j k).1,h,i,j,k)=gb (a,(b,c,d,(e,f),g),h,i,j,k) (dV (a,(b,c,d,(e,f),g),h,i,j,k)).1) (bM (bn (b,c,d,(e,f),g))/\okL (bn (b,c,d,(e,f),g))/\ ∀(n:Bool),n= ! eI (b,c,d,(e,f),g)
 k.2.2.2.2.2.2->(n->n)/\ad (bif n then decide (h= -1) else false) ((kJ)=(dV (a,(b,c,d,(e,f),g),h,i,j,k)).2.1/\(8:Int)=(dV (a,(b,c,d,(e,f),g),h,i,j,k)).2.2/\(a,(b,c,d,(e,f),g),h,i,j,k)=gb (a,(b,c,d,(e,f),g),h,i,j,k) (dV (a,(b,c,d,(e,f),g),h,i,j,k)).1) (ad (! eI (b,c,d,(e,f),g) k.2.2.2.2.2.2) (me (a,(b,c,d,(e,f),g),h,i,j,k)/\(Bh a b c d e f g h i j k).2.1=(dV (a,(b,c,d,(e,f),g),h,i,j,k)).2.1/\(Bh a b c d e f g h i j k).2.2=(dV (a,(b,c,d,(e,f),g),h,i,j,k)).2.2/\(a,(Bh a b c d e f g h i j k).1,h,i,j,k)=gb (a,(b,c,d,(e,f),g),h,i,j,k) (dV (a,(b,c,d,(e,f),g),h,i,j,k)).1) ((bh (bn (b,c,d,(e,f),g)) k.2.2.2.2.2.2).2.1≠([]:List Int)/\(j.length:Int)<=1000000/\j=j/\j=j/\(j.length:Int)<=1099511627776/\ ∀(o:Bool),o= ! decide (h= -1)->(o->(o->o)/\True)/\(o->(o->o)/\True)/\(o->(o->o)/\True)/\(o->(o->o)/\True)/\(o->(o->o)/\True)/\(o->o)/\ad (bif o then !
 a.2.2.2.2.2.2.2.2.2.2.2.2.1 else false) ((j.length:Int)<=1099511627776/\(g9 a (b,c,d,(e,f),g) (bh (bn (b,c,d,(e,f),g)) k.2.2.2.2.2.2) (fw j),gQ j)=(dV (a,(b,c,d,(e,f),g),h,i,j,k)).2.1/\(GP a b c d e f g h i j k)) ((g9 a (b,c,d,(e,f),g) (bh (bn (b,c,d,(e,f),g)) k.2.2.2.2.2.2) (fw j),j)=(dV (a,(b,c,d,(e,f),g),h,i,j,k)).2.1/\(GP a b c d e f g h i j k))))):=by
  delta sn qa kJ zp Bh GP
  rintro d x x1 x2 x3 x4 x5 x6 x7 x8 h-⟨hs,hl,hb⟩
  obtain⟨w,hw⟩:∃ w:cE,w=(d,(x,x1,x2,(x3,x4),x5),x6,x7,x8,h):=⟨_,rfl⟩
  have e0:d.2.2.2.2.2.2.2.2.2.2.2.2.1=dC w.1:=by rw[hw];rfl
  have e2:eI (x,x1,x2,(x3,x4),x5) h.2.2.2.2.2.2=eI w.2.1 (ik w.2.2.2.2.2):=by rw[hw];rfl
  have e3:x6=w.2.2.1:=by rw[hw]
  have e4:h.2.2.1=vJ w.2.2.2.2.2:=by rw[hw];rfl
  have e5:bh (bn (x,x1,x2,(x3,x4),x5)) h.2.2.2.2.2.2=bh (bn w.2.1) (ik w.2.2.2.2.2):=by rw[hw];rfl
  have okw:me w:=by rw[hw];exact⟨hs,hl,hb⟩
  have fin:=fun {s o y}=>Af (r:=dV w) (s:=s) (o:=o) (y:=y) w
  rw[← hw,e0,e2,e4,e5]
  intro b hb0
  (repeat refine⟨(by first|(simp;done)|(rw[hb0];simp;done)|(cases b <;> simp)),?_⟩)
  intro b1 hb1
  (repeat refine⟨(by first|(simp;done)|(rw[hb1];simp;done)|(cases b1 <;> simp)|(cases b <;> cases b1 <;> simp)),?_⟩)
  have h1b:b1=true↔w.2.2.1 ≠ -1/\dC w.1=false:=by rw[hb1,hb0,e3];by_cases k:w.2.2.1 = -1 <;> cases dC w.1 <;> simp[k]
  have hq:(bif b1 then decide (vJ w.2.2.2.2.2<2) else false)=true↔w.2.2.1 ≠ -1/\dC w.1=false/\vJ w.2.2.2.2.2<2:=by
   rw[← and_assoc,← h1b];cases b1 <;> simp
  refine ae (fun k1=>?_) (fun k1=>?_)
  ·have e:dV w=cz (cZ w 11 0) (iO w 11 0) w 0:=by unfold dV;rw[if_pos (hq.1 k1)]
   rw[e]
   exact⟨okw,rfl,rfl,by rw[hw];rfl⟩
  have k1:¬ (w.2.2.1 ≠ -1/\dC w.1=false/\vJ w.2.2.2.2.2<2):=fun k=>by rw[hq.2 k] at k1;cases k1
  refine⟨hs,hl,?_⟩
  intro c hc
  (repeat refine⟨(by first|(simp;done)|(rw[hc];simp;done)|(cases c <;> simp)),?_⟩)
  refine ae (fun k2=>?_) (fun k2=>?_)
  ·have q:eI w.2.1 (ik w.2.2.2.2.2)=false/\w.2.2.1 = -1:=by
    rw[hc,e3] at k2
    cases hh:eI w.2.1 (ik w.2.2.2.2.2) with
    | true=>rw[hh] at k2;simp at k2
    | false=>rw[hh] at k2;exact⟨rfl,by simpa using k2⟩
   obtain⟨f1,f2,f3⟩:=fin (s:=w.2.1) (o:=gq) (y:=8) (by unfold dV;rw[if_neg k1,if_pos q.1,if_pos q.2])
   exact⟨f1,f2,by rw[← f3,hw];rfl⟩
  refine ae (fun k3=>?_) (fun k3=>?_)
  ·have k3:eI w.2.1 (ik w.2.2.2.2.2)=false:=by simpa using k3
   have q:¬ w.2.2.1 = -1:=fun q=>by rw[hc,k3,e3,q] at k2;simp at k2
   have e:dV w=cz (cZ w 3 0) (iO w 3 0) w 0:=by unfold dV;rw[if_neg k1,if_pos k3,if_neg q]
   rw[e]
   exact⟨okw,rfl,rfl,by rw[hw];rfl⟩
  have k3:¬ eI w.2.1 (ik w.2.2.2.2.2)=false:=by simpa using k3
  refine⟨xC k3,hb,?_⟩
  clear h1b hq
  (repeat refine⟨(by first|(with_reducible rfl)|trivial|omega),?_⟩)
  intro b' hb0'
  (repeat refine⟨(by first|(simp;done)|(rw[hb0'];simp;done)|(cases b' <;> simp)),?_⟩)
  have hq:(bif b' then !dC w.1 else false)=true↔w.2.2.1 ≠ -1/\dC w.1=false:=by rw[hb0',e3];by_cases k:w.2.2.1 = -1 <;> cases dC w.1 <;> simp[k]
  have e:dV w=(fC w.2.1 (bh (bn w.2.1) (ik w.2.2.2.2.2)),(g9 w.1 w.2.1 (bh (bn w.2.1) (ik w.2.2.2.2.2)) (fw w.2.2.2.2.1),if w.2.2.1 ≠ -1/\dC w.1=false then gQ w.2.2.2.2.1 else w.2.2.2.2.1),0):=by unfold dV;rw[if_neg k1,if_neg k3]
  obtain⟨f1,f2,f3⟩:=fin e
  refine ae (fun k4=>?_) (fun k4=>?_)
  ·refine⟨by omega,?_,f2,by rw[← f3,hw];rfl⟩
   rw[← f1,if_pos (hq.1 k4),hw]
  ·refine⟨?_,f2,by rw[← f3,hw];rfl⟩
   rw[← f1,if_neg (fun k=>by rw[hq.2 k] at k4;cases k4),hw]
theorem Rh:av Tryz.prog GL 214 JR.spec:=Ct.okH _ Tryz.func214 (by kernel_rfl) (ah (ah (ah (ah (ah (ah aA Xz) aq0) Fv) Cm) UC) pU) au Uc (aB (by kernel_rfl) aq6)
def Kn:Ct:=⟨[.box 243 ng],[.agg tL,.val cI],fun d=>[me d.1],fun d=>(((dY d.1).2.1,(dY d.1).2.2,()),((d.1.1,(dY d.1).1,d.1.2.2.1,d.1.2.2.2.1,d.1.2.2.2.2.1,(aW d.1.2.2.2.2.1).1),()))⟩
def at2:ar Kn.ps->ay:=(fun _=>{})
theorem QU :
 ∀(a:ac)(b:List aD)(c:Int)(d:List Int)(e f g h i:Int)(j:List Int)(k:bY),(sn a b c d e f g h i j k)/\True->(qa b c d e f g j)->(j.length:Int)<=1099511627776/\ad (! decide (bV j=0)) ((kJ)=(dY (a,(b,c,d,(e,f),g),h,i,j,k)).2.1/\(6:Int)=(dY (a,(b,c,d,(e,f),g),h,i,j,k)).2.2/\(a,(b,c,d,(e,f),g),h,i,j,(aW j).1)=(a,(dY (a,(b,c,d,(e,f),g),h,i,j,k)).1,h,i,j,(aW j).1)) (ad (jW a (aW j).1.2.2.2.2.2.2) (me (a,(b,c,d,(e,f),g),h,i,j,(aW j).1)/\(gv (a,(b,c,d,(e,f),g),h,i,j,(aW j).1)).2.1=(dY (a,(b,c,d,(e,f),g),h,i,j,k)).2.1/\(gv (a,(b,c,d,(e,f),g),h,i,j,(aW j).1)).2.2=(dY (a,(b,c,d,(e,f),g),h,i,j,k)).2.2/\(a,(gv (a,(b,c,d,(e,f),g),h,i,j,(aW j).1)).1,h,i,j,(aW j).1)=(a,(dY (a,(b,c,d,(e,f),g),h,i,j,k)).1,h,i,j,(aW j).1))
 (∀(l:Bool),l=a.2.2.2.1->(l->(l->l)/\True)/\(l->(l->l)/\True)/\(l->(l->l)/\True)/\(l->(l->l)/\True)/\(l->l)/\ad (bif l then ! decide (h= -1) else false) ((kJ)=(dY (a,(b,c,d,(e,f),g),h,i,j,k)).2.1/\(6:Int)=(dY (a,(b,c,d,(e,f),g),h,i,j,k)).2.2/\(a,(b,c,d,(e,f),g),h,i,j,(aW j).1)=(a,(dY (a,(b,c,d,(e,f),g),h,i,j,k)).1,h,i,j,(aW j).1)) (me (a,(b,c,d,(e,f),g),h,i,j,(aW j).1)/\(dV (a,(b,c,d,(e,f),g),h,i,j,(aW j).1)).2.1=(dY (a,(b,c,d,(e,f),g),h,i,j,k)).2.1/\(dV (a,(b,c,d,(e,f),g),h,i,j,(aW j).1)).2.2=(dY (a,(b,c,d,(e,f),g),h,i,j,k)).2.2/\(a,(dV (a,(b,c,d,(e,f),g),h,i,j,(aW j).1)).1,h,i,j,(aW j).1)=(a,(dY (a,(b,c,d,(e,f),g),h,i,j,k)).1,h,i,j,(aW j).1)))):=by
  delta sn qa kJ
  rintro d x x1 x2 x3 x4 x5 x6 x7 x8 h-⟨hs,hl,hb⟩
  refine⟨by omega,ae (fun h1=>?_) (fun h1=>?_)⟩
  ·have e:dY (d,(x,x1,x2,(x3,x4),x5),x6,x7,x8,h)=((x,x1,x2,(x3,x4),x5),gq,6):=by unfold dY;rw[if_pos (by simpa using h1)]
   rw[e];exact⟨rfl,rfl,rfl⟩
  have h1:¬ bV x8≠0:=by simpa using h1
  refine ae (fun h2=>?_) (fun h2=>?_)
  ·have e:dY (d,(x,x1,x2,(x3,x4),x5),x6,x7,x8,h)=gv (d,(x,x1,x2,(x3,x4),x5),x6,x7,x8,(aW x8).1):=by unfold dY;rw[if_neg h1];exact if_pos h2
   rw[e];exact⟨⟨hs,hl,hb⟩,rfl,rfl,rfl⟩
  have h2:¬ jW d (ik (aW x8).1)=true:=by show ¬ jW d (aW x8).1.2.2.2.2.2.2=true;rw[h2];simp
  intro b hb0
  (repeat refine⟨(by first|(simp;done)|(rw[hb0];simp;done)|(cases b <;> simp)),?_⟩)
  have hq:(bif b then !decide (x6 = -1) else false)=true↔lE d=true/\x6 ≠ -1:=by rw[hb0];show (bif d.2.2.2.1 then _ else _)=true↔d.2.2.2.1=true/\_;cases d.2.2.2.1 <;> simp
  refine ae (fun h3=>?_) (fun h3=>?_)
  ·have e:dY (d,(x,x1,x2,(x3,x4),x5),x6,x7,x8,h)=((x,x1,x2,(x3,x4),x5),gq,6):=by unfold dY;rw[if_neg h1,if_neg h2];exact if_pos (hq.1 h3)
   rw[e];exact⟨rfl,rfl,rfl⟩
  ·have e:dY (d,(x,x1,x2,(x3,x4),x5),x6,x7,x8,h)=dV (d,(x,x1,x2,(x3,x4),x5),x6,x7,x8,(aW x8).1):=by unfold dY;rw[if_neg h1,if_neg h2];exact if_neg (fun k=>by rw[hq.2 k] at h3;cases h3)
   rw[e];exact⟨⟨hs,hl,hb⟩,rfl,rfl,rfl⟩
theorem UF:av Tryz.prog GL 167 Kn.spec:=Ct.okH _ Tryz.func167 (by kernel_rfl) (ah (ah (ah (ah aA zt) Tz) YW) Rh) au at2 (aB (by kernel_rfl) QU)
def Pg:Ct:=⟨[.val (.sl cu)],[.own 97 cu],fun d=>[(d.1.length:Int)<=134217728],fun d=>((d.1,()),())⟩
def Ux:ar Pg.ps->ay:=(fun _=>{})
theorem Ra :
 ∀(a:List aD),(a.length<=maxLen/\ ∀(b:aD),b∈a->((0<=b.1.1/\b.1.1<=4294967295)/\ab b.1.2)/\(b.2.1.length<=maxLen/\ ∀(c:Int),c∈b.2.1->ab c)/\ab b.2.2)/\True->(a.length:Int)<=134217728-> ∀(b:Bool),(b=true->a.length=(0:Nat))->ad b (([]:List aD)=a) (((0:Nat)+a.length)*(48:Nat)<=(140737488355328:Nat)/\a=a):=by
  rintro x ⟨⟨hl,-⟩,-⟩ h b hb
  refine ae (fun h1=>?_) (fun h1=>⟨by omega,by simp⟩)
  have:=hb h1
  exact (List.eq_nil_of_length_eq_zero this).symm
theorem MZ:av Tryz.prog GL 155 Pg.spec:=Ct.okH _ Tryz.func155 (by kernel_rfl) aA au Ux (aB (by kernel_rfl) Ra)
end Go.RS

/- Netd: networks as the laws draw them: exact. -/
namespace Go.RS
open Go.SX Go.Proofs
set_option maxRecDepth 100000
set_option linter.unusedVariables false
abbrev fy:CT := .pair cI (.pair cI (.pair cI (.pair cI (.pair cI cI))))
abbrev dZ:CT := .pair cI (.pair cI (.pair .bool cu))
abbrev iC:CT := .pair (.sl bH) (.pair (.sl fy) (.sl dZ))
abbrev aF:Type:=Int×Int×Int×Int×Int×Int
abbrev aN:Type:=Int×Int×Bool×Rt
abbrev bw:Type:=List ac×List aF×List aN
abbrev aH:Type:=List Int×Int
abbrev l8:Type:=Int×Int
def lA(l:aF):Int:=l.1
def lB(l:aF):Int:=l.2.1
def kR(l:aF):Int:=l.2.2.1
def ia(l:aF):Int:=l.2.2.2.1
def o6(l:aF):Int:=l.2.2.2.2.1
def sg(l:aF):Int:=l.2.2.2.2.2
theorem kA{α:Type} [Inhabited α] {l:List α} {i j:Nat} {a:α} (h:i≠j):(l.set i a).getD j default=l.getD j default:=by
 rw[List.getD_eq_getElem?_getD,List.getD_eq_getElem?_getD,List.getElem?_set_ne h]
def yx(c:aH):Int:=c.1.getD c.2.toNat default
def kL(c:aH)(n:Int):Int×aH:=if (c.1.length:Int)<=c.2∨n<1 then (0,c) else ((yx c).tmod n,(c.1,c.2+1))
def aj(c:aH)(n:Int):Int×aH :=
 if (c.1.length:Int)<=c.2∨n<1 then (0,c)
 else if 256<n then ((256*yx c+(kL (c.1,c.2+1) 256).1).tmod n,(kL (c.1,c.2+1) 256).2)
 else ((yx c).tmod n,(c.1,c.2+1))
structure bS (c:aH):Prop where
 at':az c
 b:∀ x∈c.1,0<=x/\x<=255
theorem bS.code{c:aH}(h:bS c)(hb:¬ (c.1.length:Int)<=c.2):0<=yx c/\yx c<=255:=h.b _ (bL h.at'.1 (by omega))
theorem NW{c:aH}(h:bS c)(n:Int):bS (kL c n).2/\0<=(kL c n).1/\((kL c n).1<n∨(kL c n).1=0):=by
 unfold kL
 split
 ·exact⟨h,by simp,.inr rfl⟩
 ·rename_i hb
  have hc:=h.code (by omega)
  have ha:=h.at'
  exact⟨⟨⟨by have:=ha.1;show 0<=c.2+1;omega,by show c.2+1<=(c.1.length:Int);omega⟩,h.b⟩,sN hc.1,.inl (sf hc.1 (by omega))⟩
theorem ci{c:aH}(h:bS c)(n:Int):bS (aj c n).2/\0<=(aj c n).1/\((aj c n).1<n∨(aj c n).1=0):=by
 unfold aj
 split
 ·exact⟨h,by simp,.inr rfl⟩
 ·rename_i hb
  have hc:=h.code (by omega)
  have ha:=h.at'
  have h1:bS (c.1,c.2+1):=⟨⟨by have:=ha.1;show 0<=c.2+1;omega,by show c.2+1<=(c.1.length:Int);omega⟩,h.b⟩
  split
  ·have k:=NW h1 256
   exact⟨k.1,sN (by omega),.inl (sf (by omega) (by omega))⟩
  ·exact⟨h1,sN hc.1,.inl (sf hc.1 (by omega))⟩
theorem cV{c:aH}(h:bS c){n:Int}(hn:0<n):0<=(aj c n).1/\(aj c n).1<n:=by
 have:=ci h n;omega
def oQ(i:Int)(host:Bool)(f sd:Int):ac:=([],0,1+i/3,host,[],1,0,0,0,0,(0,0),false,false,f,sd)
abbrev aR:Type:=bw×aH
def iu(s:aR)(host:Bool):aR :=
 ((s.1.1++[oQ s.1.1.length host (([64,255,128]:List Int).getD (aj s.2 3).1.toNat default) (aj (aj s.2 3).2 256).1],s.1.2),(aj (aj s.2 3).2 256).2)
def iA(ns:List ac)(x:Int)(p:l8):List ac:=ns.set x.toNat ((ns.getD x.toNat default).1++[p],(ns.getD x.toNat default).2)
def dX(l:Int):Int:=167837696+4*l
def gp(s:aR)(a b:Int):aR :=
 ((iA (iA s.1.1 a (dX s.1.2.1.length+1,s.1.2.1.length)) b (dX s.1.2.1.length+2,s.1.2.1.length),
   s.1.2.1++[(a,b,1+(aj s.2 20).1,0,0,(aj (aj s.2 20).2 256).1)],s.1.2.2),(aj (aj s.2 20).2 256).2)
def iS(k:Int):List Int->List Int
 | []=>[k]
 | x::r=>if k<x then k::x::r else x::iS k r
theorem Jb{k:Int}:∀{l:List Int},(∀ x∈l,¬ k<x)->iS k l=l++[k]
 | [],_=>rfl
 | x::r,h=>by rw[iS,if_neg (h x List.mem_cons_self),Jb fun y hy=>h y (List.mem_cons_of_mem _ hy)];rfl
theorem IT{k:Int}{m:List Int}:∀{l:List Int},(∃ x∈l,k<x)->iS k (l++m)=iS k l++m
 | [],h=>by obtain⟨x,hx,-⟩:=h;cases hx
 | y::r,h=>by
  rw[List.cons_append,iS,iS]
  by_cases hy:k<y
  ·rw[if_pos hy,if_pos hy];rfl
  ·rw[if_neg hy,if_neg hy,IT (l:=r)];rfl
   obtain⟨x,hx,hk⟩:=h
   rcases List.mem_cons.1 hx with rfl|hx
   ·exact absurd hk hy
   ·exact⟨x,hx,hk⟩
theorem HW{k x:Int}:∀{l:List Int},(∀ y∈l,¬ k<y)->k<x->iS k (l++[x])=l++[k]++[x]
 | [],_,h=>by rw[List.nil_append,iS,if_pos h];rfl
 | y::r,h,hk=>by rw[List.cons_append,iS,if_neg (h y List.mem_cons_self),HW (fun z hz=>h z (List.mem_cons_of_mem _ hz)) hk];rfl
theorem Fc(k:Int):∀ l:List Int,(iS k l).length=l.length+1
 | []=>rfl
 | x::r=>by rw[iS];split <;> simp[Fc k r]
def pb(l:List Rt)(p:cM):Nat:=l.findIdx fun r=>decide (r.1=p)
def u9(x:ac)(l:List Rt):ac:=(x.1,x.2.1,x.2.2.1,x.2.2.2.1,l,x.2.2.2.2.2)
def sy(l:List Rt)(p:cM)(k way:Int):List Rt :=
 if pb l p<l.length then
  if k∈(l.getD (pb l p) default).2.1 then l else dP l (p,iS k (l.getD (pb l p) default).2.1,(l.getD (pb l p) default).2.2)
 else dP l (p,[k],way)
def oS(ns:List ac)(n:Int)(p:cM)(k way:Int):List ac:=ns.set n.toNat (u9 (ns.getD n.toNat default) (sy (aV (ns.getD n.toNat default)) p k way))
def oZ(d:List Int)(l:aF):List Int :=
 (d.set (lA l).toNat (min (d.getD (lA l).toNat default) (d.getD (lB l).toNat default+1))).set (lB l).toNat (min (d.getD (lB l).toNat default) (d.getD (lA l).toNat default+1))
def cT(nn:Nat)(ls:List aF)(to:Int):List Int:=(List.range nn).foldl (fun d _=>ls.foldl oZ d) ((List.replicate nn (1000:Int)).set to.toNat 0)
def oF(d:List Int)(to:Int)(p:cM)(plain:Bool)(k way:Int)(ns:List ac)(a b:Int):List ac :=
 if d.getD a.toNat default≠d.getD b.toNat default+1∨(b≠to/\lE (ns.getD b.toNat default)=true) then ns
 else if plain=true/\lZ (aV (ns.getD a.toNat default)) p=true then ns else oS ns a p k way
def stepK(ls:List aF)(d:List Int)(to:Int)(p:cM)(plain:Bool)(way:Int)(ns:List ac)(k:Nat):List ac :=
 oF d to p plain k way (oF d to p plain k way ns (lA (ls.getD k default)) (lB (ls.getD k default))) (lB (ls.getD k default)) (lA (ls.getD k default))
def stepP(ls:List aF)(d:List Int)(to:Int)(plain:Bool)(way:Int)(ns:List ac)(q:l8):List ac :=
 (List.range ls.length).foldl (stepK ls d to (q.1,32) plain way) ns
def lO(c:aH):Int×aH:=if 1+(aj c 3).1=3 then (if 0<(aj (aj c 3).2 3).1 then 1 else 3,(aj (aj c 3).2 3).2) else (1+(aj c 3).1,(aj c 3).2)
def stepT(ls:List aF)(plain:Bool)(s:List ac×aH)(to:Nat):List ac×aH :=
 ((aC (s.1.getD to default)).foldl (stepP ls (cT s.1.length ls to) to plain (lO s.2).1) s.1,(lO s.2).2)
def xx(s:aR)(plain:Bool):aR :=
 let r:=(List.range s.1.1.length).foldl (stepT s.1.2.1 plain) (s.1.1,s.2)
 ((r.1,s.1.2),r.2)
def Wl(x:ac):ac:=(x.1,x.2.1,x.2.2.1,x.2.2.2.1,x.2.2.2.2.1,x.2.2.2.2.2.1,x.2.2.2.2.2.2.1,x.2.2.2.2.2.2.2.1,x.2.2.2.2.2.2.2.2.1,x.2.2.2.2.2.2.2.2.2.1,x.2.2.2.2.2.2.2.2.2.2.1,true,x.2.2.2.2.2.2.2.2.2.2.2.2)
def ay3(x:ac)(b:Int×Int):ac:=(x.1,x.2.1,x.2.2.1,x.2.2.2.1,x.2.2.2.2.1,x.2.2.2.2.2.1,x.2.2.2.2.2.2.1,x.2.2.2.2.2.2.2.1,x.2.2.2.2.2.2.2.2.1,x.2.2.2.2.2.2.2.2.2.1,b,x.2.2.2.2.2.2.2.2.2.2.2)
def z5(x:ac)(b:Bool):ac:=(x.1,x.2.1,x.2.2.1,x.2.2.2.1,x.2.2.2.2.1,x.2.2.2.2.2.1,x.2.2.2.2.2.2.1,x.2.2.2.2.2.2.2.1,x.2.2.2.2.2.2.2.2.1,x.2.2.2.2.2.2.2.2.2.1,x.2.2.2.2.2.2.2.2.2.2.1,x.2.2.2.2.2.2.2.2.2.2.2.1,b,x.2.2.2.2.2.2.2.2.2.2.2.2.2)
def UV(x:ac)(s:Int):ac:=(x.1,x.2.1,x.2.2.1,x.2.2.2.1,x.2.2.2.2.1,s,x.2.2.2.2.2.2)
def WC(x:ac)(a s:Int):ac:=(x.1,a,x.2.2.1,x.2.2.2.1,x.2.2.2.2.1,s,x.2.2.2.2.2.2)
def RC(x:ac)(a s:Int):ac:=(x.1,x.2.1,x.2.2.1,x.2.2.2.1,x.2.2.2.2.1,s,a,x.2.2.2.2.2.2.2)
def ay0(x:ac)(i b s:Int):ac:=(x.1,x.2.1,x.2.2.1,x.2.2.2.1,x.2.2.2.2.1,x.2.2.2.2.2.1,x.2.2.2.2.2.2.1,i,b,s,x.2.2.2.2.2.2.2.2.2.2)
def fx(x:ac)(i:Int)(c:aH):ac×aH :=
 let a:=aj c 10
 if a.1=1 then (Wl x,a.2)
 else if a.1=2 then (ay3 x (1+(aj a.2 3).1,1+(aj (aj a.2 3).2 200).1),(aj (aj a.2 3).2 200).2)
 else if a.1=3 then (z5 x (!lE x&&decide (i%2=1)),a.2)
 else if a.1=4 then (UV x 2,a.2)
 else if a.1=5 then (WC x (167903232+i) 3,a.2)
 else if a.1=6 then (RC x (167837696+(aj a.2 40).1) 4,(aj a.2 40).2)
 else (x,a.2)
def tw(x:ac)(i:Int)(c:aH):ac×aH :=
 let y:=fx x i c
 (ay0 y.1 (aj y.2 6).1 (aj (aj y.2 6).2 65536).1 (aj (aj (aj y.2 6).2 65536).2 1000).1,(aj (aj (aj y.2 6).2 65536).2 1000).2)
def tp(s:List ac×aH)(i:Nat):List ac×aH:=(s.1.set i (tw (s.1.getD i default) i s.2).1,(tw (s.1.getD i default) i s.2).2)
def odLink(l:aF)(c:aH):aF×aH :=
 let a:=aj c 6
 if a.1=1 then ((l.1,l.2.1,l.2.2.1,(aj a.2 10).1,l.2.2.2.2),(aj a.2 10).2)
 else if a.1=2 then ((l.1,l.2.1,l.2.2.1,l.2.2.2.1,([65536,20000,3]:List Int).getD (aj a.2 3).1.toNat default,l.2.2.2.2.2),(aj a.2 3).2)
 else (l,a.2)
def o7(ns:List ac)(l:aF):List ac :=
 if dC (ns.getD (lA l).toNat default)=true/\dC (ns.getD (lB l).toNat default)=true then ns.set (lB l).toNat (z5 (ns.getD (lB l).toNat default) false) else ns
def pQ(s:(List ac×List aF)×aH)(i:Nat):(List ac×List aF)×aH :=
 let r:=odLink (s.1.2.getD i default) s.2
 ((o7 s.1.1 r.1,s.1.2.set i r.1),r.2)
def mE(ns:List ac)(s:List aN×Int×aH):List aN×Int×aH :=
 let a:=aj s.2.2 60
 let at':=s.2.1+a.1
 let w:=aj a.2 ns.length
 let x:=ns.getD w.1.toNat default
 if (aV x).length=0 then (s.1,at',w.2)
 else
  let r:=aj w.2 (aV x).length
  let p:=aj r.2 (aC x).length
  let z:=aj p.2 4
  let rt:=(aV x).getD r.1.toNat default
  (s.1++[(at',w.1,false,(rt.1,if z.1=3 then [] else [((aC x).getD p.1.toNat default).2],rt.2.2))],at',z.2)
def mr(s:aR):aR :=
 let n:=(List.range s.1.1.length).foldl tp (s.1.1,s.2)
 let l:=(List.range s.1.2.1.length).foldl pQ ((n.1,s.1.2.1),n.2)
 let k:=aj l.2 4
 let h:=(List.range k.1.toNat).foldl (fun s _=>mE l.1.1 s) ([],0,k.2)
 ((l.1.1,l.1.2,h.1),h.2.2)
def oA(s:aR)(k:Nat):aR:=gp (iu s false) k (k+1)
def pL(n:Int)(s:aR):aR :=
 let a:=aj s.2 n
 let b:=aj a.2 n
 if a.1=b.1 then (s.1,b.2) else gp (s.1,b.2) (1+a.1) (1+b.1)
def kY(c:aH):Int×aR :=
 let a:=iu (([],[],[]),c) true
 let m:=aj a.2 5
 let s:=(List.range (1+m.1).toNat).foldl oA (a.1,m.2)
 (1+m.1,gp (iu s true) (1+m.1) (1+m.1+1))
def uD(plain:Bool)(n:Int)(s:aR):aR :=
 let k:=aj s.2 4
 let s1:=if 1<n/\plain=false then (List.range k.1.toNat).foldl (fun s _=>pL n s) (s.1,k.2) else (s.1,k.2)
 if plain=true/\2<n then
  if (aj s1.2 2).1=1 then gp (s1.1,(aj (aj s1.2 2).2 (n-1)).2) (1+(aj (aj s1.2 2).2 (n-1)).1) n else (s1.1,(aj s1.2 2).2)
 else s1
def yc(plain:Bool)(c:aH):aR :=
 let s:=xx (uD plain (kY c).1 (kY c).2) plain
 if plain then s else mr s
def ou(plain:Bool)(c:aH):bw:=(yc plain c).1
def u4(plain:Bool)(c:aH):aH:=(yc plain c).2
end Go.RS

/- Topo: networks: their errors and their parts. -/
namespace Go.RS
open Go.SX Go.Proofs
set_option maxRecDepth 100000
set_option linter.unusedVariables false
def fb(x:ac):List Int:=nT x++(if gw x=0 then [] else [gw x])
def I4:Ct:=⟨[.val cI,.val cI,.val cI],[.val .bool],fun _=>[],fun d=>((decide (d.2.1<=d.1/\d.1<=d.2.2.1),()),())⟩
def ab8:ar I4.ps->ay:=(fun _=>{})
theorem Yi :
 ∀(a b c:Int),ab a/\ab b/\ab c/\True->True-> ∀(d:Bool),d=decide (b<=a)->(d->(d->d)/\(d->d)/\True)/\(d->d)/\(bif d then decide (a<=c) else false)=decide (b<=a/\a<=c):=by
  rintro a b c - -
  (repeat (intro (b_:Bool) (hb_:b_=_);(repeat refine⟨(by first|(simp;done)|(rw[hb_];simp;done)|(rw[hb_];simp;omega)|(rw[hb_];simp;intros;omega)|(rw[hb_];simp +contextual;done)),?_⟩);subst hb_))
  by_cases h1:b<=a <;> by_cases h2:a<=c <;> simp[h1,h2]
theorem Fz:av Tryz.prog GL 154 I4.spec:=Ct.okH _ Tryz.func154 (by kernel_rfl) aA au ab8 (aB (by kernel_rfl) Yi)
def KL:Ct:=⟨[.agg bH],[.own 65 ck],fun d=>[(aC d.1).length<=100000],fun d=>((fb d.1,()),())⟩
def av3:ar KL.ps->ay:=(fun d=>{loops:=(fun n=>match n with|3=>some (fun S=>{ι:=Int×(List Int),qn:=⟨fun k_=>∀(j:Int)(l:(List Int)),k_ (j,l),fun k_ h_ i=>h_ i.1 i.2,fun k_=>∃ (j:Int) (l:(List Int)),k_ (j,l),fun k_ ⟨j,l,h_⟩=>⟨_,h_⟩⟩,μ:=fun i=>((aC d.1).length-i.1).toNat,inv:=fun i=>0<=i.1/\i.1<=(aC d.1).length/\i.2=(nT d.1).take i.1.toNat,keep:=[1,7,8],slots:=fun i=>[(3,.own 524288 1),(9,.int .i64 i.1)],keepN:=[32],names:=fun i=>[(524288,.live (.row 65 ck i.2))]})|_=>none)})
def AB(a:ac)(b:Int)(c:List Int) :=
 a.1=a.1/\(a.1.length:Int)=(a.1.length:Int)/\(0:Int)=b/\a.1=a.1/\a.2.1=a.2.1/\a.2.2.1=a.2.2.1/\a.2.2.2.1=a.2.2.2.1/\a.2.2.2.2.1=a.2.2.2.2.1/\a.2.2.2.2.2.1=a.2.2.2.2.2.1/\a.2.2.2.2.2.2.1=a.2.2.2.2.2.2.1/\a.2.2.2.2.2.2.2.1=a.2.2.2.2.2.2.2.1/\a.2.2.2.2.2.2.2.2.1=a.2.2.2.2.2.2.2.2.1/\a.2.2.2.2.2.2.2.2.2.1=a.2.2.2.2.2.2.2.2.2.1/\a.2.2.2.2.2.2.2.2.2.2.1.1=a.2.2.2.2.2.2.2.2.2.2.1.1/\a.2.2.2.2.2.2.2.2.2.2.1.2=a.2.2.2.2.2.2.2.2.2.2.1.2/\a.2.2.2.2.2.2.2.2.2.2.2.1=a.2.2.2.2.2.2.2.2.2.2.2.1/\a.2.2.2.2.2.2.2.2.2.2.2.2.1=a.2.2.2.2.2.2.2.2.2.2.2.2.1/\a.2.2.2.2.2.2.2.2.2.2.2.2.2.1=a.2.2.2.2.2.2.2.2.2.2.2.2.2.1/\a.2.2.2.2.2.2.2.2.2.2.2.2.2.2=a.2.2.2.2.2.2.2.2.2.2.2.2.2.2/\c=([]:List Int)/\True
def nO(a:ac) :=
 ((List.length (aC a)):Int)
theorem Zb :
 ∀(a:ac),CT.wf bH a/\True->List.length (aC a)<=(100000:Nat)->(∃(b:Int) (c:List Int),(0<=b/\b<=(nO a)/\c=List.take b.toNat (nT a))/\(AB a b c))/\ ∀(b:Int)(c:List Int),0<=b/\b<=(nO a)/\c=List.take b.toNat (nT a)->ad (decide (b<(a.1.length:Int))) (0<=b/\b<(a.1.length:Int)/\(c.length+List.length [(List.getD a.1 b.toNat default).1])*(4:Nat)<=(140737488355328:Nat)/\ ∃(d:Int) (e:List Int),(0<=d/\d<=(nO a)/\e=List.take d.toNat (nT a))/\Int.toNat ((nO a) -d)<Int.toNat ((nO a) -b)/\a.1=a.1/\(a.1.length:Int)=(a.1.length:Int)/\IntKind.wrap .i64
 (b+(1:Int))=d/\a.1=a.1/\a.2.1=a.2.1/\a.2.2.1=a.2.2.1/\a.2.2.2.1=a.2.2.2.1/\a.2.2.2.2.1=a.2.2.2.2.1/\a.2.2.2.2.2.1=a.2.2.2.2.2.1/\a.2.2.2.2.2.2.1=a.2.2.2.2.2.2.1/\a.2.2.2.2.2.2.2.1=a.2.2.2.2.2.2.2.1/\a.2.2.2.2.2.2.2.2.1=a.2.2.2.2.2.2.2.2.1/\a.2.2.2.2.2.2.2.2.2.1=a.2.2.2.2.2.2.2.2.2.1/\a.2.2.2.2.2.2.2.2.2.2.1.1=a.2.2.2.2.2.2.2.2.2.2.1.1/\a.2.2.2.2.2.2.2.2.2.2.1.2=a.2.2.2.2.2.2.2.2.2.2.1.2/\a.2.2.2.2.2.2.2.2.2.2.2.1=a.2.2.2.2.2.2.2.2.2.2.2.1/\a.2.2.2.2.2.2.2.2.2.2.2.2.1=a.2.2.2.2.2.2.2.2.2.2.2.2.1/\a.2.2.2.2.2.2.2.2.2.2.2.2.2.1=a.2.2.2.2.2.2.2.2.2.2.2.2.2.1/\a.2.2.2.2.2.2.2.2.2.2.2.2.2.2=a.2.2.2.2.2.2.2.2.2.2.2.2.2.2/\c++[(List.getD a.1 b.toNat default).1]=e/\True) (ad (! decide (a.2.1=0)) ((c.length+List.length [a.2.1])*(4:Nat)<=(140737488355328:Nat)/\c++[a.2.1]=fb a) (c=fb a)):=by
  delta AB nO
  rintro d-hl
  have hlen:(nT d).length=(aC d).length:=by simp[nT]
  have hd:d.1=aC d:=rfl
  have hz:d.2.1=gw d:=rfl
  rw[hd,hz]
  refine⟨⟨0,[],⟨by omega,by omega,rfl⟩,(by repeat' first|exact trivial|refine⟨trivial,?_⟩|refine⟨(by with_reducible rfl),?_⟩|refine⟨af (by omega) (by omega),?_⟩|refine⟨rfl,?_⟩)⟩,?_⟩
  rintro j l ⟨j0,j1,rfl⟩
  refine ae (fun hk=>?_) (fun hk=>?_)
  ·have hk:=of_decide_eq_true hk
   refine⟨j0,hk,by simp only[List.length_take,List.length_cons,List.length_nil];omega,j+1,_,⟨by omega,by omega,rfl⟩,by omega,?_⟩
   (repeat first|refine⟨trivial,?_⟩|refine⟨(by with_reducible rfl),?_⟩|refine⟨af (by omega) (by omega),?_⟩)
   refine⟨?_,trivial⟩
   rw[AL j0 (by rw[hlen];exact hk)]
   unfold nT
   rw[List.getD_eq_getElem?_getD,List.getD_eq_getElem?_getD,List.getElem?_map,List.getElem?_eq_getElem (by omega)]
   rfl
  ·have hk:=of_decide_eq_false hk
   rw[List.take_of_length_le (by omega)]
   unfold fb
   refine ae (fun h=>?_) (fun h=>?_)
   ·rw[if_neg (fY h)]
    exact⟨by simp only[List.length_cons,List.length_nil];omega,rfl⟩
   ·rw[if_pos (gz h),List.append_nil]
theorem XT:av Tryz.prog GL 176 KL.spec:=Ct.okH _ Tryz.func176 (by kernel_rfl) aA au av3 (aB (by kernel_rfl) Zb)
def kg(i:Int)(l:List Int)(m:List (Int×Int)):List (Int×Int):=l.foldl (fun m a=>ip a i m) m
def d8(ns:List ac)(k:Nat):List (Int×Int):=(List.range k).foldl (fun m (i:Nat)=>kg (i:Int) (fb (ns.getD i default)) m) []
def MT(ns:List ac):Bool:=(List.range ns.length).any fun (i:Nat)=>(fb (ns.getD i default)).any fun a=>dU a (d8 ns i)
def pT(n:bw):Int:=if MT n.1 then 10 else 0
theorem PF{a b v:Int}:∀{m:List (Int×Int)},dU a (ip b v m)=(decide (a=b)||dU a m)
 | []=>by simp only[ip,dU];cases decide (a=b) <;> rfl
 | p::m=>by
  simp only[ip]
  by_cases hb:b=p.1
  ·rw[decide_eq_true hb,cond_true,dU,dU,← hb]
   cases decide (a=b) <;> rfl
  ·rw[decide_eq_false hb,cond_false,dU,dU,PF]
   cases decide (a=p.1) <;> cases decide (a=b) <;> rfl
theorem PY{a b v:Int}:∀{m:List (Int×Int)},ja a (ip b v m)=if a=b then v else ja a m
 | []=>by
  simp only[ip,ja]
  by_cases h:a=b
  ·rw[decide_eq_true h,if_pos h];rfl
  ·rw[decide_eq_false h,if_neg h];rfl
 | p::m=>by
  simp only[ip]
  by_cases hb:b=p.1
  ·rw[decide_eq_true hb,cond_true,ja,ja,← hb]
   by_cases h:a=b
   ·rw[decide_eq_true h,if_pos h];rfl
   ·rw[decide_eq_false h,if_neg h];rfl
  ·rw[decide_eq_false hb,cond_false,ja,ja,PY]
   by_cases h:a=p.1
   ·have hab:¬ a=b:=fun e=>hb (e.symm.trans h)
    simp only[if_neg hab]
   ·rw[decide_eq_false h];rfl
theorem Q1(i a:Int)(l:List Int)(m:List (Int×Int)):kg i (l++[a]) m=ip a i (kg i l m):=by
 unfold kg;rw[List.foldl_append];rfl
theorem GJ{i a:Int}{m:List (Int×Int)}:∀{l:List Int},dU a (kg i l m)=(decide (a∈l)||dU a m)/\ja a (kg i l m)=if a∈l then i else ja a m:=by
 intro l
 induction l generalizing m with
 | nil=>simp[kg]
 | cons b l ih =>
  have k:=ih (m:=ip b i m)
  unfold kg at k ⊢
  rw[List.foldl_cons,k.1,k.2,PF,PY]
  by_cases h1:a=b <;> by_cases h2:a∈l <;> simp[h1,h2]
theorem Lh(ns:List ac):∀(k:Nat)(a:Int),dU a (d8 ns k)=true->ja a (d8 ns k)<k
 | 0,a,h=>by cases h
 | k+1,a,h=>by
  have e:d8 ns (k+1)=kg k (fb (ns.getD k default)) (d8 ns k):=by unfold d8;rw[List.range_succ,List.foldl_append];rfl
  rw[e] at h ⊢
  have q:=GJ (i:=(k:Int)) (a:=a) (m:=d8 ns k) (l:=fb (ns.getD k default))
  rw[q.1] at h
  rw[q.2]
  split
  ·omega
  ·rename_i hn
   rw[decide_eq_false hn,Bool.false_or] at h
   have:=Lh ns k a h
   omega
def Hs:Ct:=⟨[.agg iC],[.val cI],fun d=>[∀ x∈d.1.1,(aC x).length<=100000],fun d=>((pT d.1,()),())⟩
def YC:ar Hs.ps->ay:=(fun d=>{loops:=(fun n=>match n with|3=>some (fun S=>{ι:=Int,μ:=fun i=>(d.1.1.length-i).toNat,inv:=fun i=>0<=i/\i<=d.1.1.length∧∀ k:Nat,(k:Int)<i→∀ a∈fb (d.1.1.getD k default),dU a (d8 d.1.1 k)=false,keep:=[1,12,13],slots:=fun i=>[(14,.int .i64 i),(3,.mapp 524288)],keepN:=[32],names:=fun i=>[(524288,.live (.mp .u32 .i64 (d8 d.1.1 i.toNat)))]})|6=>some (fun S=>{ι:=Int,μ:=fun i=>((fb (d.1.1.getD (S.i 14).toNat default)).length-i).toNat,inv:=fun i=>0<=i/\i<=(fb (d.1.1.getD (S.i 14).toNat default)).length∧∀ a∈(fb (d.1.1.getD (S.i 14).toNat default)).take i.toNat,dU a (d8 d.1.1 (S.i 14).toNat)=false,keep:=[1,4,12,13,14,20,21],slots:=fun i=>[(22,.int .i64 i),(3,.mapp 524288)],keepN:=[32,336],names:=fun i=>[(524288,.live (.mp .u32 .i64 (kg (S.i 14) ((fb (d.1.1.getD (S.i 14).toNat default)).take i.toNat) (d8 d.1.1 (S.i 14).toNat))))]})|_=>none)})
def qg(a:List ac)(b:List aF)(c:List aN) :=
 (a.length<=maxLen/\ ∀(d:ac),d∈a->CT.wf bH d)/\(b.length<=maxLen/\ ∀(d:aF),d∈b->CT.wf fy d)/\c.length<=maxLen/\ ∀(d:aN),d∈c->CT.wf dZ d
def mj(a:List ac)(d:Int) :=
 fb (a.getD d.toNat default)
def nS(a:List ac)(d:Int) :=
 ((List.length (mj a d)):Int)
def eO(a:List ac) :=
 (a.length:Int)
def Gd(a:List ac)(d:Int) :=
 0<=d/\d<=(eO a)/\ ∀(e:Nat),(↑e:Int)<d-> ∀(f:Int),f∈fb (a.getD e default)->dU f (d8 a e)=false
theorem RT :
 ∀(a:List ac)(b:List aF)(c:List aN),(qg a b c)/\True->(∀(d:ac),d∈a->List.length (aC d)<=(100000:Nat))->(∃(d:Int),(Gd a d)/\a=a/\(eO a)=(eO a)/\(0:Int)=d/\a=a/\b=b/\c=c/\([]:List (Int×Int))=d8 a d.toNat/\True)/\ ∀(d:Int),(Gd a d)->ad (decide (d<(eO a))) (0<=d/\d<(eO a)/\List.length (aC (a.getD d.toNat default))<=(100000:Nat)/\(∃(e:Int),(0<=e/\e<=(nS a d)/\ ∀(f:Int),f∈List.take e.toNat (mj a d)->dU f (d8 a d.toNat)=false)/\d=d/\a=a/\(eO a)=(eO a)/\d=d/\(nS a d)=(nS a d)/\(0:Int)=e/\a=a/\b=b/\c=c/\fb (a.getD d.toNat default)=fb (a.getD d.toNat default)/\d8 a d.toNat=kg d (List.take e.toNat (mj a d)) (d8 a d.toNat)/\True)/\ ∀(e:Int),(0<=e/\e<=(nS a d)/\ ∀(f:Int),f∈List.take e.toNat (mj a d)->dU f (d8 a d.toNat)=false)->ad (decide (e<(nS a d))) (0<=e/\e<(nS a d)/\ ∀(f:Bool),f=dU (List.getD (mj a d) e.toNat
 default) (kg d (List.take e.toNat (mj a d)) (d8 a d.toNat))->(f->(f->f)/\(f->f)/\True)/\(f->f)/\ad (bif f then ! decide (ja (List.getD (mj a d) e.toNat default) (kg d (List.take e.toNat (mj a d)) (d8 a d.toNat))=d) else false) ((10:Int)=pT (a,b,c)) (∃(g:Int),(0<=g/\g<=(nS a d)/\ ∀(h:Int),h∈List.take g.toNat (mj a d)->dU h (d8 a d.toNat)=false)/\Int.toNat ((nS a d) -g)<Int.toNat ((nS a d) -e)/\d=d/\a=a/\(eO a)=(eO a)/\d=d/\(nS a d)=(nS a d)/\IntKind.wrap .i64 (e+(1:Int))=g/\a=a/\b=b/\c=c/\fb (a.getD d.toNat default)=fb (a.getD d.toNat default)/\ip (List.getD (mj a d) e.toNat default) d (kg d (List.take e.toNat (mj a d)) (d8 a d.toNat))=kg d (List.take g.toNat (mj a d)) (d8 a d.toNat)/\True)) (∃(f:Int),(0<=f/\f<=(eO a)/\ ∀(g:Nat),(↑g:Int)<f-> ∀(h:Int),h∈fb (a.getD g default)->dU h (d8 a g)=false)/\Int.toNat
 ((eO a) -f)<Int.toNat ((eO a) -d)/\a=a/\(eO a)=(eO a)/\IntKind.wrap .i64 (d+(1:Int))=f/\a=a/\b=b/\c=c/\kg d (List.take e.toNat (mj a d)) (d8 a d.toNat)=d8 a f.toNat/\True)) ((0:Int)=pT (a,b,c)):=by
  delta qg mj nS eO Gd
  rintro ns ls hs ⟨⟨⟨hnl,-⟩,-⟩,-⟩ hp
  simp only[maxLen] at hnl
  have hlen:∀ x∈ns,(fb x).length<=100001:=fun x hx=>by
   have:=hp x hx
   unfold fb nT
   rw[List.length_append,List.length_map]
   split <;> simp <;> omega
  refine⟨⟨0,⟨by omega,by omega,fun k hk=>by omega⟩,(by repeat' first|exact trivial|refine⟨trivial,?_⟩|refine⟨(by with_reducible rfl),?_⟩|refine⟨af (by omega) (by omega),?_⟩|refine⟨rfl,?_⟩)⟩,?_⟩
  rintro i ⟨i0,i1,hI⟩
  refine ae (fun hi=>?_) (fun hi=>?_)
  rotate_left
  ·have hi:=of_decide_eq_false hi
   unfold pT
   rw[if_neg]
   intro h
   obtain⟨k,hk,h2⟩:=List.any_eq_true.1 h
   obtain⟨a,ha,h3⟩:=List.any_eq_true.1 h2
   have hk:k<ns.length:=List.mem_range.1 hk
   rw[hI k (by omega) a ha] at h3
   cases h3
  have hi:=of_decide_eq_true hi
  have hm:=bL i0 hi
  have hl:=hlen _ hm
  refine⟨i0,hi,hp _ hm,⟨0,⟨by omega,by omega,by simp⟩,(by repeat' first|exact trivial|refine⟨trivial,?_⟩|refine⟨(by with_reducible rfl),?_⟩|refine⟨af (by omega) (by omega),?_⟩|refine⟨rfl,?_⟩)⟩,?_⟩
  rintro j ⟨j0,j1,hJ⟩
  have ei:((i.toNat:Nat):Int)=i:=by omega
  refine ae (fun hj=>?_) (fun hj=>?_)
  rotate_left
  ·have hj:=of_decide_eq_false hj
   rw[List.take_of_length_le (by omega)] at hJ ⊢
   refine⟨i+1,⟨by omega,by omega,fun k hk a ha=>?_⟩,by omega,?_⟩
   ·by_cases e:(k:Int)<i
    ·exact hI k e a ha
    ·have:k=i.toNat:=by omega
     subst this
     exact hJ a ha
   ·have e:kg i (fb (ns.getD i.toNat default)) (d8 ns i.toNat)=d8 ns (i+1).toNat:=by
     rw[show (i+1).toNat=i.toNat+1 by omega]
     unfold d8
     rw[List.range_succ,List.foldl_append,List.foldl_cons,List.foldl_nil,ei]
    rw[e]
    exact (by repeat' first|exact trivial|refine⟨trivial,?_⟩|refine⟨(by with_reducible rfl),?_⟩|refine⟨af (by omega) (by omega),?_⟩|refine⟨rfl,?_⟩)
  have hj:=of_decide_eq_true hj
  have ha:=bL j0 hj
  have st:=AL j0 hj
  refine⟨j0,hj,?_⟩
  have q:=GJ (i:=i) (a:=(fb (ns.getD i.toNat default)).getD j.toNat default) (m:=d8 ns i.toNat) (l:=(fb (ns.getD i.toNat default)).take j.toNat)
  generalize (fb (ns.getD i.toNat default)).getD j.toNat default=a at ha st q ⊢
  have lt:=Lh ns i.toNat a
  rw[ei] at lt
  intro b hb
  (repeat refine⟨by simp,?_⟩)
  refine su (fun x1 x2=>?_) (fun hno=>?_)
  ·have x2:=fY x2
   rw[hb,q.1] at x1
   rw[q.2] at x2
   have hn:a ∉ (fb (ns.getD i.toNat default)).take j.toNat:=fun h=>by rw[if_pos h] at x2;exact x2 rfl
   rw[decide_eq_false hn,Bool.false_or] at x1
   unfold pT
   rw[if_pos]
   exact List.any_eq_true.2 ⟨i.toNat,List.mem_range.2 (show i.toNat<ns.length by omega),List.any_eq_true.2 ⟨a,ha,x1⟩⟩
  ·have hz:dU a (d8 ns i.toNat)=false:=by
    by_cases hn:a∈(fb (ns.getD i.toNat default)).take j.toNat
    ·exact hJ a hn
    ·rw[decide_eq_false hn,Bool.false_or] at q
     rw[if_neg hn] at q
     rcases hno with h|h
     ·rw[hb,q.1] at h;exact h
     ·have h:=gz h
      rw[q.2] at h
      cases hq:dU a (d8 ns i.toNat) with
      | false=>rfl
      | true=>have:=lt hq;omega
   refine⟨j+1,⟨by omega,by omega,fun y hy=>?_⟩,by omega,?_⟩
   ·rw[st] at hy
    rcases List.mem_append.1 hy with hy|hy
    ·exact hJ y hy
    ·rw[List.mem_singleton.1 hy];exact hz
   ·rw[st,Q1]
    exact (by repeat' first|exact trivial|refine⟨trivial,?_⟩|refine⟨(by with_reducible rfl),?_⟩|refine⟨af (by omega) (by omega),?_⟩|refine⟨rfl,?_⟩)
theorem ar4:av Tryz.prog GL 118 Hs.spec:=Ct.okH _ Tryz.func118 (by kernel_rfl) (ah aA XT) au YC (aB (by kernel_rfl) RT)
def fA(ls:List aF)(k x:Int):Int:=if k<0∨(ls.length:Int)<=k then -1 else if x=lA (ls.getD k.toNat default) then lB (ls.getD k.toNat default) else if x=lB (ls.getD k.toNat default) then lA (ls.getD k.toNat default) else -1
def nD(n:bw):Int:=if n.1.length<1∨64<n.1.length∨128<n.2.1.length∨64<n.2.2.length then 5 else 0
def HN:Ct:=⟨[.agg iC],[.val cI],fun _=>[],fun d=>((nD d.1,()),())⟩
def UZ:ar HN.ps->ay:=(fun _=>{})
def dG(b:List aF) :=
 (b.length:Int)
def nQ(e:Bool) :=
 (! e)->((! e)->(! e))/\True
theorem WE :
 ∀(a:List ac)(b:List aF)(c:List aN),(qg a b c)/\True->True-> ∀(d:Bool),d=decide ((eO a)<1)->((! d)->((! d)->(! d))/\True)/\((! d)->((! d)->(! d))/\True)/\((! d)->((! d)->(! d))/\True)/\(d=false->(! d))/\ ∀(e:Bool),(e=bif d then true else decide (64<(eO a)))->(nQ e)/\(nQ e)/\(nQ e)/\(e=false->(! e))/\ ∀(f:Bool),(f=bif e then true else decide (128<(dG b)))->((! f)->((! f)->(! f))/\True)/\((! f)->((! f)->(! f))/\True)/\((! f)->((! f)->(! f))/\True)/\(f=false->(! f))/\ad (bif f then true else decide (64<(c.length:Int))) ((5:Int)=nD (a,b,c)) ((0:Int)=nD (a,b,c)):=by
  delta qg dG nQ eO
  rintro ns ls hs - -
  (repeat (intro (b_:Bool) (hb_:b_=_);(repeat refine⟨(by first|(simp;done)|(rw[hb_];simp;done)|(rw[hb_];simp;omega)|(rw[hb_];simp;intros;omega)|(rw[hb_];simp +contextual;done)),?_⟩);subst hb_))
  unfold nD
  refine ae (fun h=>?_) (fun h=>?_)
  ·simp[Bool.cond_eq_ite] at h
   rw[if_pos (by dsimp only;omega)]
  ·simp[Bool.cond_eq_ite] at h
   rw[if_neg (by dsimp only;omega)]
theorem ah1:av Tryz.prog GL 114 HN.spec:=Ct.okH _ Tryz.func114 (by kernel_rfl) aA au UZ (aB (by kernel_rfl) WE)
def HU:Ct:=⟨[.agg bH],[.own 3 cI],fun d=>[(aC d.1).length<=100000],fun d=>((bv d.1,()),())⟩
def al9:ar HU.ps->ay:=(fun d=>{loops:=(fun n=>match n with|3=>some (fun S=>{ι:=Int×(List Int),qn:=⟨fun k_=>∀(j:Int)(l:(List Int)),k_ (j,l),fun k_ h_ i=>h_ i.1 i.2,fun k_=>∃ (j:Int) (l:(List Int)),k_ (j,l),fun k_ ⟨j,l,h_⟩=>⟨_,h_⟩⟩,μ:=fun i=>((aC d.1).length-i.1).toNat,inv:=fun i=>0<=i.1/\i.1<=(aC d.1).length/\i.2=(bv d.1).take i.1.toNat,keep:=[1,7,8],slots:=fun i=>[(3,.own 524288 1),(9,.int .i64 i.1)],keepN:=[32],names:=fun i=>[(524288,.live (.row 3 cI i.2))]})|_=>none)})
theorem ac2 :
 ∀(a:ac),CT.wf bH a/\True->List.length (aC a)<=(100000:Nat)->(∃(b:Int) (c:List Int),(0<=b/\b<=(nO a)/\c=List.take b.toNat (bv a))/\(AB a b c))/\ ∀(b:Int)(c:List Int),0<=b/\b<=(nO a)/\c=List.take b.toNat (bv a)->ad (decide (b<(a.1.length:Int))) (0<=b/\b<(a.1.length:Int)/\(c.length+List.length [(List.getD a.1 b.toNat default).2])*(8:Nat)<=(140737488355328:Nat)/\ ∃(d:Int) (e:List Int),(0<=d/\d<=(nO a)/\e=List.take d.toNat (bv a))/\Int.toNat ((nO a) -d)<Int.toNat ((nO a) -b)/\a.1=a.1/\(a.1.length:Int)=(a.1.length:Int)/\IntKind.wrap .i64
 (b+(1:Int))=d/\a.1=a.1/\a.2.1=a.2.1/\a.2.2.1=a.2.2.1/\a.2.2.2.1=a.2.2.2.1/\a.2.2.2.2.1=a.2.2.2.2.1/\a.2.2.2.2.2.1=a.2.2.2.2.2.1/\a.2.2.2.2.2.2.1=a.2.2.2.2.2.2.1/\a.2.2.2.2.2.2.2.1=a.2.2.2.2.2.2.2.1/\a.2.2.2.2.2.2.2.2.1=a.2.2.2.2.2.2.2.2.1/\a.2.2.2.2.2.2.2.2.2.1=a.2.2.2.2.2.2.2.2.2.1/\a.2.2.2.2.2.2.2.2.2.2.1.1=a.2.2.2.2.2.2.2.2.2.2.1.1/\a.2.2.2.2.2.2.2.2.2.2.1.2=a.2.2.2.2.2.2.2.2.2.2.1.2/\a.2.2.2.2.2.2.2.2.2.2.2.1=a.2.2.2.2.2.2.2.2.2.2.2.1/\a.2.2.2.2.2.2.2.2.2.2.2.2.1=a.2.2.2.2.2.2.2.2.2.2.2.2.1/\a.2.2.2.2.2.2.2.2.2.2.2.2.2.1=a.2.2.2.2.2.2.2.2.2.2.2.2.2.1/\a.2.2.2.2.2.2.2.2.2.2.2.2.2.2=a.2.2.2.2.2.2.2.2.2.2.2.2.2.2/\c++[(List.getD a.1 b.toNat default).2]=e/\True) (c=bv a):=by
  delta AB nO
  rintro d-hl
  have hlen:(bv d).length=(aC d).length:=by simp[bv]
  refine⟨⟨0,[],⟨by omega,by omega,rfl⟩,(by repeat' first|exact trivial|refine⟨trivial,?_⟩|refine⟨(by with_reducible rfl),?_⟩|refine⟨af (by omega) (by omega),?_⟩|refine⟨rfl,?_⟩)⟩,?_⟩
  rintro j l ⟨j0,j1,rfl⟩
  have hd:d.1=aC d:=rfl
  rw[hd]
  refine ae (fun hk=>?_) (fun hk=>?_)
  ·have hk:=of_decide_eq_true hk
   refine⟨j0,hk,by simp only[List.length_take,List.length_cons,List.length_nil];omega,j+1,_,⟨by omega,by omega,rfl⟩,by omega,?_⟩
   (repeat first|refine⟨trivial,?_⟩|refine⟨(by with_reducible rfl),?_⟩|refine⟨af (by omega) (by omega),?_⟩)
   refine⟨?_,trivial⟩
   rw[AL j0 (by rw[hlen];exact hk)]
   unfold bv
   rw[List.getD_eq_getElem?_getD,List.getD_eq_getElem?_getD,List.getElem?_map,List.getElem?_eq_getElem (by omega)]
   rfl
  ·have hk:=of_decide_eq_false hk
   rw[List.take_of_length_le (by omega)]
theorem L3:av Tryz.prog GL 175 HU.spec:=Ct.okH _ Tryz.func175 (by kernel_rfl) aA au al9 (aB (by kernel_rfl) ac2)
def Kw:Ct:=⟨[.agg iC,.val cI,.val cI],[.val cI],fun _=>[],fun d=>((fA d.1.2.1 d.2.1 d.2.2.1,()),())⟩
def Zz:ar Kw.ps->ay:=(fun _=>{})
def ft(b:List aF)(d:Int) :=
 b.getD d.toNat default
theorem az5 :
 ∀(a:List ac)(b:List aF)(c:List aN)(d e:Int),((a.length<=maxLen/\ ∀(f:ac),f∈a->CT.wf bH f)/\(b.length<=maxLen/\ ∀(f:aF),f∈b->CT.wf fy f)/\c.length<=maxLen/\ ∀(f:aN),f∈c->CT.wf dZ f)/\ab d/\ab e/\True->True->ad (! decide (0<=d/\d<=IntKind.wrap .i64 ((dG b) -(1:Int)))) ((-1:Int)=fA b d e) (0<=d/\d<(dG b)/\ad (decide (e=(ft b d).1)) ((ft b d).2.1=fA b d e) (ad (decide (e=(ft b d).2.1)) ((ft b d).1=fA b d e) ((-1:Int)=fA b d e))):=by
  delta ft dG
  rintro ns ls hs k x ⟨⟨-,⟨hl,-⟩,-⟩,-⟩ -
  simp only[maxLen] at hl
  rw[af (n:=(ls.length:Int)-1) (by omega) (by omega)]
  unfold fA lA lB
  refine ae (fun h=>?_) (fun h=>?_)
  ·have h:=fY h
   rw[if_pos (by omega)]
  have h:=gz h
  rw[if_neg (by omega)]
  refine⟨h.1,by omega,ae (fun h1=>?_) (fun h1=>?_)⟩
  ·rw[if_pos (of_decide_eq_true h1)]
  rw[if_neg (of_decide_eq_false h1)]
  refine ae (fun h2=>?_) (fun h2=>?_)
  ·rw[if_pos (of_decide_eq_true h2)]
  ·rw[if_neg (of_decide_eq_false h2)]
theorem Q9:av Tryz.prog GL 85 Kw.spec:=Ct.okH _ Tryz.func85 (by kernel_rfl) (ah aA Fz) au Zz (aB (by kernel_rfl) az5)
def iQ(ns:List ac)(l:aF):Bool:=dC (ns.getD (lA l).toNat default)&&dC (ns.getD (lB l).toNat default)
def oO(n:bw):Int:=if n.2.1.any (iQ n.1) then 13 else 0
def wX(n:bw):Prop:=∀ l∈n.2.1,0<=lA l/\lA l<n.1.length/\0<=lB l/\lB l<n.1.length
def KY:Ct:=⟨[.agg iC],[.val cI],fun d=>[wX d.1],fun d=>((oO d.1,()),())⟩
def ay4:ar KY.ps->ay:=(fun d=>{loops:=(fun n=>match n with|2=>some (fun S=>{ι:=Int,μ:=fun i=>(d.1.2.1.length-i).toNat,inv:=fun i=>0<=i/\i<=d.1.2.1.length∧∀ x∈d.1.2.1.take i.toNat,iQ d.1.1 x=false,keep:=[1,6,7],slots:=fun i=>[(8,.int .i64 i)],keepN:=[32],names:=fun i=>[]})|_=>none)})
theorem ah6 :
 ∀(a:List ac)(b:List aF)(c:List aN),(qg a b c)/\True->(∀(d:aF),d∈b->0<=lA d/\lA d<(eO a)/\0<=lB d/\lB d<(eO a))->(∃(d:Int),(0<=d/\d<=(dG b)/\ ∀(e:Int×Int×Int×Int×Int×Int),e∈List.take d.toNat b->iQ a e=false)/\b=b/\(dG b)=(dG b)/\(0:Int)=d/\a=a/\b=b/\c=c/\True)/\ ∀(d:Int),(0<=d/\d<=(dG b)/\ ∀(e:Int×Int×Int×Int×Int×Int),e∈List.take d.toNat b->iQ a e=false)->ad (decide (d<(dG b))) (0<=d/\d<(dG b)/\0<=(ft b d).1/\(ft b d).1<(eO a)/\ ∀(e:Bool),e=(a.getD (Int.toNat (ft b d).1) default).2.2.2.2.2.2.2.2.2.2.2.2.1->(e->(e->e)/\True)/\(e->(e->e)/\True)/\(e->(e->e)/\(e->e)/\0<=(ft b d).2.1/\(ft b d).2.1<(eO a)/\True)/\(e->(e->e)/\True)/\(e->(e->e)/\True)/\(e->e)/\ad (bif e then (a.getD (Int.toNat (ft b d).2.1) default).2.2.2.2.2.2.2.2.2.2.2.2.1 else false) ((13:Int)=oO (a,b,c)) (∃(f:Int),(0<=f/\f<=(dG b)/\
 ∀(g:Int×Int×Int×Int×Int×Int),g∈List.take f.toNat b->iQ a g=false)/\Int.toNat ((dG b) -f)<Int.toNat ((dG b) -d)/\b=b/\(dG b)=(dG b)/\IntKind.wrap .i64 (d+(1:Int))=f/\a=a/\b=b/\c=c/\True)) ((0:Int)=oO (a,b,c)):=by
  delta qg ft dG eO
  rintro ns ls hs ⟨⟨-,⟨hl,-⟩,-⟩,-⟩ he
  simp only[maxLen] at hl
  refine⟨⟨0,⟨by omega,by omega,by simp⟩,(by repeat' first|exact trivial|refine⟨trivial,?_⟩|refine⟨(by with_reducible rfl),?_⟩|refine⟨af (by omega) (by omega),?_⟩|refine⟨rfl,?_⟩)⟩,?_⟩
  rintro i ⟨i0,i1,hI⟩
  refine ae (fun hi=>?_) (fun hi=>?_)
  rotate_left
  ·have hi:=of_decide_eq_false hi
   rw[List.take_of_length_le (by omega)] at hI
   unfold oO
   rw[if_neg]
   intro h
   obtain⟨l,h1,h2⟩:=List.any_eq_true.1 h
   rw[hI l h1] at h2;cases h2
  have hi:=of_decide_eq_true hi
  have hm:=bL i0 hi
  have e:=he _ hm
  refine⟨i0,hi,e.1,e.2.1,?_⟩
  intro b hb
  (repeat first|refine⟨fun h=>⟨fun _=>h,fun _=>h,e.2.2.1,e.2.2.2,trivial⟩,?_⟩|refine⟨fun h=>⟨fun _=>h,e.2.2.1,e.2.2.2,trivial⟩,?_⟩|refine⟨by simp,?_⟩)
  refine su (fun x1 x2=>?_) (fun hno=>?_)
  ·unfold oO
   rw[if_pos]
   refine List.any_eq_true.2 ⟨_,hm,?_⟩
   unfold iQ
   rw[Bool.and_eq_true]
   exact⟨hb.symm.trans x1,x2⟩
  ·refine⟨i+1,⟨by omega,by omega,rM i0 hi hI ?_⟩,by omega,(by repeat' first|exact trivial|refine⟨trivial,?_⟩|refine⟨(by with_reducible rfl),?_⟩|refine⟨af (by omega) (by omega),?_⟩|refine⟨rfl,?_⟩)⟩
   unfold iQ
   rw[Bool.and_eq_false_iff]
   rcases hno with h|h
   ·exact .inl (hb.symm.trans h)
   ·exact .inr h
theorem W0:av Tryz.prog GL 119 KY.spec:=Ct.okH _ Tryz.func119 (by kernel_rfl) aA au ay4 (aB (by kernel_rfl) ah6)
def n8(n:bw)(k:Nat):Bool:=decide (cL (n.1.getD (lA (n.2.1.getD k default)).toNat default) k<0)||decide (cL (n.1.getD (lB (n.2.1.getD k default)).toNat default) k<0)
def nI(n:bw):Int:=if (List.range n.2.1.length).any (n8 n) then 11 else 0
def Nd:Ct:=⟨[.agg iC],[.val cI],fun d=>[wX d.1],fun d=>((nI d.1,()),())⟩
def Tm:ar Nd.ps->ay:=(fun d=>{loops:=(fun n=>match n with|2=>some (fun S=>{ι:=Int,μ:=fun i=>(d.1.2.1.length-i).toNat,inv:=fun i=>0<=i/\i<=d.1.2.1.length∧∀ k:Nat,(k:Int)<i->n8 d.1 k=false,keep:=[1,6,7],slots:=fun i=>[(8,.int .i64 i)],keepN:=[32],names:=fun i=>[]})|_=>none)})
theorem UG :
 ∀(a:List ac)(b:List aF)(c:List aN),(qg a b c)/\True->(∀(d:aF),d∈b->0<=lA d/\lA d<(eO a)/\0<=lB d/\lB d<(eO a))->(∃(d:Int),(0<=d/\d<=(dG b)/\ ∀(e:Nat),(↑e:Int)<d->n8 (a,b,c) e=false)/\b=b/\(dG b)=(dG b)/\(0:Int)=d/\a=a/\b=b/\c=c/\True)/\ ∀(d:Int),(0<=d/\d<=(dG b)/\ ∀(e:Nat),(↑e:Int)<d->n8 (a,b,c) e=false)->ad (decide (d<(dG b))) (0<=d/\d<(dG b)/\0<=(ft b d).1/\(ft b d).1<(eO a)/\ ∀(e:Bool),e=decide (cL (a.getD (Int.toNat (ft b d).1) default) d<0)->(nQ e)/\(nQ e)/\((! e)->((! e)->(! e))/\((! e)->(! e))/\0<=(ft b d).2.1/\(ft b d).2.1<(eO a)/\True)/\(nQ e)/\((! e)->((! e)->(! e))/\((! e)->(! e))/\True)/\(nQ e)/\(e=false->(! e))/\ad (bif e then true else decide (cL (a.getD (Int.toNat (ft b d).2.1) default) d<0)) ((11:Int)=nI (a,b,c)) (∃(f:Int),(0<=f/\f<=(dG b)/\ ∀(g:Nat),(↑g:Int)<f->n8 (a,b,c) g=false)/\Int.toNat
 ((dG b) -f)<Int.toNat ((dG b) -d)/\b=b/\(dG b)=(dG b)/\IntKind.wrap .i64 (d+(1:Int))=f/\a=a/\b=b/\c=c/\True)) ((0:Int)=nI (a,b,c)):=by
  delta qg ft dG nQ eO
  rintro ns ls hs ⟨⟨-,⟨hl,-⟩,-⟩,-⟩ he
  simp only[maxLen] at hl
  refine⟨⟨0,⟨by omega,by omega,fun k hk=>by omega⟩,(by repeat' first|exact trivial|refine⟨trivial,?_⟩|refine⟨(by with_reducible rfl),?_⟩|refine⟨af (by omega) (by omega),?_⟩|refine⟨rfl,?_⟩)⟩,?_⟩
  rintro i ⟨i0,i1,hI⟩
  refine ae (fun hi=>?_) (fun hi=>?_)
  rotate_left
  ·have hi:=of_decide_eq_false hi
   unfold nI
   rw[if_neg]
   intro h
   obtain⟨k,h1,h2⟩:=List.any_eq_true.1 h
   have h1:k<ls.length:=List.mem_range.1 h1
   rw[hI k (by omega)] at h2;cases h2
  have hi:=of_decide_eq_true hi
  have hm:=bL i0 hi
  have e:=he _ hm
  have ei:((i.toNat:Nat):Int)=i:=by omega
  refine⟨i0,hi,e.1,e.2.1,?_⟩
  intro b hb
  (repeat first|refine⟨fun h=>⟨fun _=>h,fun _=>h,e.2.2.1,e.2.2.2,trivial⟩,?_⟩|refine⟨fun h=>⟨fun _=>h,e.2.2.1,e.2.2.2,trivial⟩,?_⟩|refine⟨by simp,?_⟩)
  refine p8 (fun ho=>?_) (fun x1 x2=>?_)
  ·unfold nI
   rw[if_pos]
   refine List.any_eq_true.2 ⟨i.toNat,List.mem_range.2 (show i.toNat<ls.length by omega),?_⟩
   unfold n8
   rw[Bool.or_eq_true,ei]
   rcases ho with h|h
   ·exact .inl (hb.symm.trans h)
   ·exact .inr h
  ·refine⟨i+1,⟨by omega,by omega,fun k hk=>?_⟩,by omega,(by repeat' first|exact trivial|refine⟨trivial,?_⟩|refine⟨(by with_reducible rfl),?_⟩|refine⟨af (by omega) (by omega),?_⟩|refine⟨rfl,?_⟩)⟩
   by_cases e2:(k:Int)<i
   ·exact hI k e2
   ·have:k=i.toNat:=by omega
    subst this
    unfold n8
    rw[Bool.or_eq_false_iff,ei]
    exact⟨hb.symm.trans x1,x2⟩
theorem V2:av Tryz.prog GL 117 Nd.spec:=Ct.okH _ Tryz.func117 (by kernel_rfl) (ah aA Ak) au Tm (aB (by kernel_rfl) UG)
def iN(nn:Nat)(l:aF):Prop:=0<=lA l/\lA l<nn/\0<=lB l/\lB l<nn/\lA l≠lB l/\1<=kR l/\kR l<=1073741824/\0<=ia l/\ia l<=1073741824/\0<=o6 l/\o6 l<=65536
instance (nn:Nat) (l:aF):Decidable (iN nn l):=by unfold iN;infer_instance
def lC(n:bw):Int:=if n.2.1.all (fun l=>decide (iN n.1.length l)) then 0 else 11
def Om:Ct:=⟨[.agg iC],[.val cI],fun d=>[],fun d=>((lC d.1,()),())⟩
def TA:ar Om.ps->ay:=(fun d=>{loops:=(fun n=>match n with|3=>some (fun S=>{ι:=Int,μ:=fun i=>(d.1.2.1.length-i).toNat,inv:=fun i=>0<=i/\i<=d.1.2.1.length∧∀ x∈d.1.2.1.take i.toNat,iN d.1.1.length x,keep:=[1,3,11,12],slots:=fun i=>[(13,.int .i64 i)],keepN:=[32],names:=fun i=>[]})|_=>none)})
theorem Zv :
 ∀(a:List ac)(b:List aF)(c:List aN),(qg a b c)/\True->True->(∃(d:Int),(0<=d/\d<=(dG b)/\ ∀(e:Int×Int×Int×Int×Int×Int),e∈List.take d.toNat b->iN a.length e)/\IntKind.wrap .i64 ((eO a) -(1:Int))=IntKind.wrap .i64 ((eO a) -(1:Int))/\b=b/\(dG b)=(dG b)/\(0:Int)=d/\a=a/\b=b/\c=c/\True)/\ ∀(d:Int),(0<=d/\d<=(dG b)/\ ∀(e:Int×Int×Int×Int×Int×Int),e∈List.take d.toNat b->iN a.length e)->ad (decide (d<(dG b))) (0<=d/\d<(dG b)/\ ∀(e:Bool),e= ! decide (0<=(ft b d).1/\(ft b d).1<=IntKind.wrap .i64 ((eO a) -(1:Int)))->(nQ e)/\((! e)->((! e)->(! e))/\((! e)->(! e))/\True)/\(nQ e)/\(e=false->(! e))/\ ∀(f:Bool),(f=bif e then true else ! decide (0<=(ft b d).2.1/\(ft b d).2.1<=IntKind.wrap .i64 ((eO a) -(1:Int))))->((! f)->((! f)->(! f))/\True)/\((! f)->((! f)->(! f))/\True)/\((! f)->((! f)->(! f))/\((! f)->(! f))/\True)/\(f=false->(! f))/\ ∀(g:Bool),(g=bif
 f then true else decide ((ft b d).1=(ft b d).2.1))->((! g)->((! g)->(! g))/\True)/\((! g)->((! g)->(! g))/\True)/\((! g)->((! g)->(! g))/\True)/\(g=false->(! g))/\ ∀(h:Bool),(h=bif g then true else ! decide (1<=(ft b d).2.2.1/\(ft b d).2.2.1<=1073741824))->((! h)->((! h)->(! h))/\True)/\((! h)->((! h)->(! h))/\True)/\((! h)->((! h)->(! h))/\True)/\(h=false->(! h))/\ ∀(i:Bool),(i=bif h then true else ! decide (0<=(ft b d).2.2.2.1/\(ft b d).2.2.2.1<=1073741824))->((! i)->((! i)->(! i))/\True)/\((! i)->((! i)->(! i))/\True)/\((! i)->((! i)->(! i))/\True)/\(i=false->(! i))/\ad (bif i then true else ! decide (0<=(ft b d).2.2.2.2.1/\(ft b d).2.2.2.2.1<=65536)) ((11:Int)=lC (a,b,c)) (∃(j:Int),(0<=j/\j<=(dG b)/\ ∀(k:Int×Int×Int×Int×Int×Int),k∈List.take j.toNat b->iN a.length k)/\Int.toNat ((dG b) -j)<Int.toNat ((dG b) -d)/\IntKind.wrap .i64 ((eO a)
 -(1:Int))=IntKind.wrap .i64 ((eO a) -(1:Int))/\b=b/\(dG b)=(dG b)/\IntKind.wrap .i64 (d+(1:Int))=j/\a=a/\b=b/\c=c/\True)) ((0:Int)=lC (a,b,c)):=by
  delta qg ft dG nQ eO
  rintro ns ls hs ⟨⟨⟨hnl,-⟩,⟨hl,-⟩,-⟩,-⟩ -
  simp only[maxLen] at hl hnl
  rw[af (n:=(ns.length:Int)-1) (by omega) (by omega)]
  refine⟨⟨0,⟨by omega,by omega,by simp⟩,(by repeat' first|exact trivial|refine⟨trivial,?_⟩|refine⟨(by with_reducible rfl),?_⟩|refine⟨af (by omega) (by omega),?_⟩|refine⟨rfl,?_⟩)⟩,?_⟩
  rintro i ⟨i0,i1,hI⟩
  refine ae (fun hi=>?_) (fun hi=>?_)
  rotate_left
  ·have hi:=of_decide_eq_false hi
   rw[List.take_of_length_le (by omega)] at hI
   unfold lC
   rw[if_pos]
   exact List.all_eq_true.2 fun l hl=>decide_eq_true (hI l hl)
  have hi:=of_decide_eq_true hi
  have hm:=bL i0 hi
  refine⟨i0,hi,?_⟩
  have key:iN ns.length (ls.getD i.toNat default)↔((0<=(ls.getD i.toNat default).1/\(ls.getD i.toNat default).1<=(ns.length:Int)-1)/\(0<=(ls.getD i.toNat default).2.1/\(ls.getD i.toNat default).2.1<=(ns.length:Int)-1)∧¬ (ls.getD i.toNat default).1=(ls.getD i.toNat default).2.1/\(1<=(ls.getD i.toNat default).2.2.1/\(ls.getD i.toNat default).2.2.1<=1073741824)/\(0<=(ls.getD i.toNat default).2.2.2.1/\(ls.getD i.toNat default).2.2.2.1<=1073741824)/\(0<=(ls.getD i.toNat default).2.2.2.2.1/\(ls.getD i.toNat default).2.2.2.2.1<=65536)):=by
   unfold iN lA lB kR ia o6
   omega
  have cJ:=fun h=>rM i0 hi hI (P:=iN ns.length) h
  generalize ls.getD i.toNat default=l at hm key cJ ⊢
  generalize hA:decide (0<=l.1/\l.1<=(ns.length:Int)-1)=bA
  generalize hB:decide (0<=l.2.1/\l.2.1<=(ns.length:Int)-1)=bB
  generalize hC:decide (l.1=l.2.1)=bC
  generalize hD:decide (1<=l.2.2.1/\l.2.2.1<=1073741824)=bD
  generalize hE:decide (0<=l.2.2.2.1/\l.2.2.2.1<=1073741824)=bE
  generalize hF:decide (0<=l.2.2.2.2.1/\l.2.2.2.2.1<=65536)=bF
  have key2:iN ns.length l↔(bA=true/\bB=true/\bC=false/\bD=true/\bE=true/\bF=true):=by
   rw[key,← hA,← hB,← hC,← hD,← hE,← hF]
   simp only[decide_eq_true_eq,decide_eq_false_iff_not]
  have bad:¬ iN ns.length l->(11:Int)=lC (ns,ls,hs):=fun h=>by
   unfold lC
   rw[if_neg]
   intro k
   exact h (of_decide_eq_true (List.all_eq_true.1 k l hm))
  intro b1 hb1
  (repeat refine⟨by simp,?_⟩)
  intro b2 hb2
  (repeat refine⟨by simp,?_⟩)
  intro b3 hb3
  (repeat refine⟨by simp,?_⟩)
  intro b4 hb4
  (repeat refine⟨by simp,?_⟩)
  intro b5 hb5
  (repeat refine⟨by simp,?_⟩)
  have tot:(bif b5 then true else !bF) = !(bA&&bB && !bC&&bD&&bE&&bF):=by
   rw[hb5,hb4,hb3,hb2,hb1]
   cases bA <;> cases bB <;> cases bC <;> cases bD <;> cases bE <;> cases bF <;> rfl
  rw[tot]
  refine ae (fun h=>bad fun k=>?_) (fun h=>?_)
  ·obtain⟨a1,a2,a3,a4,a5,a6⟩:=key2.1 k
   rw[a1,a2,a3,a4,a5,a6] at h;cases h
  ·have h2:iN ns.length l:=key2.2 (by
    clear tot hb1 hb2 hb3 hb4 hb5 key2 hA hB hC hD hE hF
    revert h
    cases bA <;> cases bB <;> cases bC <;> cases bD <;> cases bE <;> cases bF <;> decide)
   exact⟨i+1,⟨by omega,by omega,cJ h2⟩,by omega,(by repeat' first|exact trivial|refine⟨trivial,?_⟩|refine⟨(by with_reducible rfl),?_⟩|refine⟨af (by omega) (by omega),?_⟩|refine⟨rfl,?_⟩)⟩
theorem UO:av Tryz.prog GL 115 Om.spec:=Ct.okH _ Tryz.func115 (by kernel_rfl) (ah aA Fz) au TA (aB (by kernel_rfl) Zv)
end Go.RS

/- Topod: what the errors of networks, their parts and their routes at a time are: plain. -/
namespace Go.RS
open Go.SX Go.Proofs
set_option maxRecDepth 100000
set_option linter.unusedVariables false
theorem PQ{links:List Int}:∀{l:List Rt}{q:Option cM},chk links q l=0->bM l/\(∀ p,q=some p→∀ r∈l,bc p r.1)∧∀ r∈l,jg r.1=true/\jZ r links
 | [],q,_=>⟨List.Pairwise.nil,fun _ _ r hr=>(by cases hr),fun r hr=>(by cases hr)⟩
 | r::l,q,h=>by
  rw[chk] at h
  split at h
  ·cases h
  rename_i h1
  split at h
  ·cases h
  rename_i h2
  split at h
  ·cases h
  rename_i h3
  obtain⟨i1,i2,i3⟩:=PQ h
  have hv:jg r.1=true:=by cases hh:jg r.1 <;> simp_all
  have hp:∀ p,q=some p->bc p r.1:=fun p hp=>by
   subst hp
   rw[Option.any_some] at h2
   have:¬ (0<=fj p r.1):=by simpa using h2
   exact xP.1 (by omega)
  refine⟨List.pairwise_cons.2 ⟨i2 _ rfl,i1⟩,fun p e z hz=>?_,fun z hz=>?_⟩
  ·rcases List.mem_cons.1 hz with rfl|hz
   ·exact hp p e
   ·exact xQ (hp p e) (i2 _ rfl z hz)
  ·rcases List.mem_cons.1 hz with rfl|hz
   ·exact⟨hv,Classical.byContradiction h3⟩
   ·exact i3 z hz
theorem uB{l:List Rt}{links:List Int}(h:dE l links=0):bM l/\l.length<=64∧∀ r∈l,jg r.1=true/\jZ r links:=by
 unfold dE at h
 split at h
 ·cases h
 ·rename_i hl
  have k:=PQ h
  exact⟨k.1,by omega,k.2.2⟩
theorem sV{l:List Rt}{links:List Int}(h:dE l links=0):bM l/\okL l:=by
 obtain⟨h1,h2,h3⟩:=uB h
 exact⟨h1,by omega,fun r hr=>by have:=(h3 r hr).2.1.1;omega⟩
def fQ(c:aN):Int:=c.1
def bu(c:aN):Int:=c.2.1
def qY(c:aN):Bool:=c.2.2.1
def dh(c:aN):Rt:=c.2.2.2
def mU(a b:Int):Int:=if a≠0 then a else b
theorem nC{a b:Int}(h:mU a b=0):a=0/\b=0:=by
 unfold mU at h
 split at h
 ·rename_i k;exact absurd h k
 ·rename_i k;exact⟨by omega,h⟩
def nW(n:bw)(i:Nat)(k:Int):Bool:=decide ((n.2.1.length:Int)<=k) || !(decide (lA (n.2.1.getD k.toNat default)=i)||decide (lB (n.2.1.getD k.toNat default)=i))
def lW(n:bw)(i:Nat):Int :=
 if d9 (n.1.getD i default)≠0 then d9 (n.1.getD i default)
 else if (bv (n.1.getD i default)).any (nW n i) then 11 else 0
def lu(n:bw):Int:=first (lW n) n.1.length
def fJ(l:List Rt)(c:aN):List Rt:=if qY c=true then gI l (dh c).1 else dP l (dh c)
def c8(n:bw):Nat->List (List Rt)
 | 0=>n.1.map aV
 | i+1=>(c8 n i).set (bu (n.2.2.getD i default)).toNat (fJ ((c8 n i).getD (bu (n.2.2.getD i default)).toNat default) (n.2.2.getD i default))
def mX(n:bw)(i:Nat)(c p:aN)(l:List Rt):Int :=
 if fQ c<0∨1125899906842624<fQ c then 1
 else if 0<i/\fQ c<fQ p then 6
 else if bu c<0∨(n.1.length:Int)<=bu c then 8
 else if qY c=true/\lZ l (dh c).1=false then 8
 else dE (fJ l c) (bv (n.1.getD (bu c).toNat default))
def iy(n:bw)(i:Nat):Int:=mX n i (n.2.2.getD i default) (n.2.2.getD (i-1) default) ((c8 n i).getD (bu (n.2.2.getD i default)).toNat default)
def na(n:bw):Int:=first (iy n) n.2.2.length
def d7(n:bw):Int:=mU (nD n) (mU (lC n) (mU (lu n) (mU (nI n) (mU (pT n) (mU (oO n) (na n))))))
theorem Nw{n:bw}(h:lC n=0):wX n:=fun l hl=>by
 unfold lC at h
 split at h
 ·rename_i k
  have k:=of_decide_eq_true (List.all_eq_true.1 k l hl)
  exact⟨k.1,k.2.1,k.2.2.1,k.2.2.2.1⟩
 ·cases h
theorem mN{α:Type} [Inhabited α] {xs:List α} {i:Nat} (h:i<xs.length):xs.getD i default∈xs:=by
 have:=bL (xs:=xs) (i:=(i:Nat)) (by omega) (by omega)
 simpa using this
theorem az8{x:ac}(h:first (fR x) (aC x).length=0):∀ k∈bv x,0<=k:=fun k hk=>by
 obtain⟨q,hq,rfl⟩:=List.mem_map.1 hk
 obtain⟨i,hi,e⟩:=List.mem_iff_getElem.1 hq
 have k1:=rV h i hi
 unfold fR at k1
 rw[List.getD_eq_getElem?_getD,List.getElem?_eq_getElem hi,Option.getD_some,e] at k1
 split at k1
 ·cases k1
 split at k1
 ·cases k1
 rename_i h2
 show 0<=q.2
 omega
structure NV (x:ac):Prop where
 len:(aC x).length<=32
 pos:0<(aC x).length
 bad:first (fR x) (aC x).length=0
 loop:¬ mv x
 form:¬ kS x
 tab:dE (aV x) (bv x)=0
theorem Hq{x:ac}(h:d9 x=0):NV x:=by
 unfold d9 at h
 split at h
 ·cases h
 rename_i h1
 split at h
 ·rename_i k;exact absurd h k
 rename_i h2
 split at h
 ·cases h
 rename_i h3
 split at h
 ·cases h
 rename_i h4
 split at h
 ·rename_i k;exact absurd h k
 split at h
 ·rename_i k;exact absurd h k
 refine⟨by omega,?_,by omega,h3,h4,h⟩
 unfold kS at h4
 omega
theorem zL{n:bw}(h:lu n=0){i:Nat}(hi:i<n.1.length):NV (n.1.getD i default):=by
 have k:=rV h i hi
 unfold lW at k
 split at k
 ·rename_i e;exact absurd k e
 ·rename_i e;exact Hq (by omega)
theorem SA{n:bw}(h:lu n=0):∀ x∈n.1,NV x:=fun x hx=>by
 obtain⟨i,hi,e⟩:=List.mem_iff_getElem.1 hx
 have:=zL h hi
 rw[List.getD_eq_getElem?_getD,List.getElem?_eq_getElem hi,e] at this;exact this
structure TB (n:bw) (t:List (List Rt)):Prop where
 len:t.length=n.1.length
 r:∀ i:Nat,i<n.1.length->bM (t.getD i default)/\okL (t.getD i default)
theorem xI{α β:Type} [Inhabited α] [Inhabited β] {f:α->β} {l:List α} {i:Nat} (h:i<l.length):(l.map f).getD i default=f (l.getD i default):=by
 rw[List.getD_eq_getElem?_getD,List.getD_eq_getElem?_getD,List.getElem?_map,List.getElem?_eq_getElem h];rfl
theorem oW(n:bw):∀ i:Nat,(c8 n i).length=n.1.length
 | 0=>by simp[c8]
 | i+1=>by rw[c8,List.length_set,oW n i]
theorem JQ{n:bw}(hb:lu n=0):∀{i:Nat},first (iy n) i=0->TB n (c8 n i)
 | 0,_=>⟨oW n 0,fun i hi=>by
  rw[c8,xI hi]
  exact sV (zL hb hi).tab⟩
 | i+1,h=>by
  have h0:first (iy n) i=0:=by
   by_cases e:first (iy n) i=0
   ·exact e
   ·rw[first,if_pos e] at h;exact h
  have k:=JQ hb h0
  have hz:iy n i=0:=rV h i (by omega)
  refine⟨oW n _,fun j hj=>?_⟩
  rw[c8]
  unfold iy mX at hz
  generalize n.2.2.getD i default=c at hz ⊢
  split at hz
  ·cases hz
  split at hz
  ·cases hz
  split at hz
  ·cases hz
  rename_i hw
  split at hz
  ·cases hz
  by_cases e:(bu c).toNat=j
  ·subst e
   rw[iw (by rw[k.len];exact hj)]
   exact sV hz
  ·rw[kA e];exact k.r j hj
def Gf(who at':Int)(l:List Rt)(c:aN):List Rt:=if bu c=who/\fQ c<=at' then fJ l c else l
def NM(n:bw)(who at':Int)(k:Int):List Rt:=(n.2.2.take k.toNat).foldl (Gf who at') (aV (n.1.getD who.toNat default))
def DT(n:bw)(who at':Int):List Rt:=if who<0∨(n.1.length:Int)<=who then [] else NM n who at' n.2.2.length
structure yS (m:Nat) (l:List Rt):Prop where
 s:bM l
 n:l.length<=m
 x:∀ r∈l,(r.2.1.length:Int)<=1099511627776
theorem yS.okL{m:Nat}{l:List Rt}(h:yS m l)(hm:m<=100000):okL l:=⟨by have:=h.n;omega,h.x⟩
theorem yS.ch{m:Nat}{l:List Rt}(h:yS m l){c:aN}(hc:((dh c).2.1.length:Int)<=1099511627776):yS (m+1) (fJ l c):=by
 unfold fJ
 split
 ·refine⟨List.Pairwise.filter _ h.s,?_,fun r hr=>h.x r (List.mem_filter.1 hr).1⟩
  have:=MC l (dh c).1
  have:=h.n
  omega
 ·refine⟨Cf h.s,?_,fun r hr=>?_⟩
  ·have:=N1 l (dh c)
   have:=h.n
   omega
  ·rcases IF.1 hr with rfl|⟨hr,-⟩
   ·exact hc
   ·exact h.x r hr
def aA4(s t:Int)(c:aN):Bool:=decide (s<fQ c/\fQ c<=t)
theorem Tq{x:ac}{a:Int}:0<=ke x a↔a∈nT x:=by
 unfold ke fT
 constructor
 ·intro h
  split at h
  ·rename_i k
   have:=List.findIdx_getElem (w:=k)
   exact List.mem_map.2 ⟨_,List.getElem_mem k,of_decide_eq_true this⟩
  ·omega
 ·intro h
  obtain⟨q,hq,rfl⟩:=List.mem_map.1 h
  have:(aC x).findIdx (i7 q.1)<(aC x).length:=List.findIdx_lt_length_of_exists ⟨q,hq,by unfold i7;simp⟩
  rw[if_pos this];omega
end Go.RS

/- Node2: a node's state; what a node does, in the program and in the reference. -/
namespace Go.RS
open Go.SX Go.Proofs
set_option maxRecDepth 100000
set_option linter.unusedVariables false
def lm(x:ac):bt:=(aV x,0,List.replicate (aC x).length 0,xp (iG x) 0,0)
def uM(b t:Int×Int):Prop:=(0<=t.2/\t.2<=1125899906842624)/\(b=(0,0)->t.1=0)/\(b≠(0,0)->0<=t.1/\t.1<=b.1*b.2)
structure fU (x:ac) (s:bt) (K:Int):Prop where
 srt:bM (bn s)
 okl:okL (bn s)
 rt:∀ r∈bn s,jZ r (bv x)
 ps:(jf s).length=(aC x).length
 tk:uM (iG x) (px s)
 cn:0<=nk s/\nk s<=K
 cp:∀ y∈jf s,0<=y/\y<=K
def Br(x:ac)(s:bt)(link at':Int)(b:List Int):cE:=(x,s,link,at',b,(aW b).1)
def kB(kind:Int)(w:cE)(f i:Int):List Int:=if kind=2 then cZ w 11 0 f i else if kind=3 then cZ w 3 0 f i else dH w f i
def kE(kind:Int)(w:cE)(i:Int):Int:=if kind=2 then iO w 11 0 i else if kind=3 then iO w 3 0 i else iJ w i
def mA(kind:Int)(w:cE):Int:=if kind=0 then ik w.2.2.2.2.2 else 0
def pm(w:cE)(kind:Int):lw:=cz (kB kind w) (kE kind w) w (mA kind w)
theorem Bm{b:Int×Int}(h:gU b=0):b=(0,0)∨(1<=b.1/\b.1<=65536/\1<=b.2/\b.2<=1073741824/\b.2<=b.1*b.2/\b.1*b.2<=70368744177664):=by
 unfold gU at h
 split at h
 ·rename_i hh
  rcases hh with hh|⟨h1,h2,h3,h4⟩
  ·exact .inl hh
  ·refine .inr ⟨h1,h2,h3,h4,?_,?_⟩
   ·have:=Int.mul_le_mul_of_nonneg_right (a:=1) (b:=b.1) (c:=b.2) h1 (by omega);omega
   ·have:=Int.mul_le_mul (a:=b.1) (b:=b.2) (c:=65536) (d:=1073741824) h2 h4 (by omega) (by omega);omega
 ·cases h
theorem Rc{b:Int×Int}(h:gU b=0)(x:Int):xp b x=(b.1*b.2,x):=by
 rcases Bm h with rfl|hh
 ·rfl
 ·unfold xp w;rw[af (by omega) (by omega)]
theorem ZG{b t:Int×Int}{x:Int}(h:gU b=0)(hb:b≠(0,0))(ht:uM b t)(hx:0<=x/\x<=1125899906842624) :
  iF b t x=if min (t.1+(max x t.2-t.2)) (b.1*b.2)<b.2 then ((min (t.1+(max x t.2-t.2)) (b.1*b.2),max x t.2),false) else ((min (t.1+(max x t.2-t.2)) (b.1*b.2)-b.2,max x t.2),true):=by
 obtain⟨h1,-,h3⟩:=ht
 have h3:=h3 hb
 have hc:=(Bm h).resolve_left hb
 have e:pH b t (max x t.2)=min (t.1+(max x t.2-t.2)) (b.1*b.2):=by
  unfold pH w
  rw[af (n:=max x t.2-t.2) (by omega) (by omega),af (by omega) (by omega),af (by omega) (by omega)]
 unfold iF w
 rw[if_neg hb,e]
 split
 ·rfl
 ·rw[af (by omega) (by omega)]
theorem YG{b t:Int×Int}{x:Int}(h:gU b=0)(ht:uM b t)(hx:0<=x/\x<=1125899906842624):uM b (iF b t x).1/\(iF b t x).1.2=max x t.2:=by
 have h1:=ht.1
 by_cases hb:b=(0,0)
 ·subst hb
  rw[show iF (0,0) t x=((0,max x t.2),true) by simp[iF]]
  exact⟨⟨⟨by show 0<=max x t.2;omega,by show max x t.2<=_;omega⟩,fun _=>rfl,fun k=>absurd rfl k⟩,rfl⟩
 ·have hc:=(Bm h).resolve_left hb
  have h3:=ht.2.2 hb
  rw[ZG h hb ht hx]
  split
  ·exact⟨⟨⟨by show 0<=max x t.2;omega,by show max x t.2<=_;omega⟩,fun k=>absurd k hb,fun _=>⟨by show 0<=min _ _;omega,by show min _ _<=_;omega⟩⟩,rfl⟩
  ·exact⟨⟨⟨by show 0<=max x t.2;omega,by show max x t.2<=_;omega⟩,fun k=>absurd k hb,fun _=>⟨by show 0<=min _ _-_;omega,by show min _ _-_<=_;omega⟩⟩,rfl⟩
structure nq (x:ac):Prop where
 n1:1<=(aC x).length
 n32:(aC x).length<=32
 id:iH x=0
 bk:gU (iG x)=0
 rt:dE (aV x) (bv x)=0
 loop:¬ mv x
 ports:∀ i,i<(aC x).length->fR x i=0
 form:¬ kS x
theorem KC{x:ac}(h:d9 x=0):nq x:=by
 unfold d9 at h
 split at h
 ·cases h
 rename_i a1
 split at h
 ·rename_i k;exact absurd h k
 rename_i a2
 split at h
 ·cases h
 rename_i a3
 split at h
 ·cases h
 rename_i a4
 split at h
 ·rename_i k;exact absurd h k
 rename_i a5
 split at h
 ·rename_i k;exact absurd h k
 rename_i a6
 refine⟨?_,by omega,by simpa using a5,by simpa using a6,h,a3,rV (by simpa using a2),a4⟩
 by_cases k:(aC x).length=0
 ·exact absurd (.inr (.inr (.inr (.inr (.inr (.inr k)))))) a4
 ·omega
theorem S5{a:Int}(h:fm a):a≠0:=by
 rintro rfl
 revert h
 unfold fm
 decide
theorem rz{q:Int×Int->Bool}{l:List (Int×Int)}(h:0<=fT q l):fT q l<l.length/\q (l.getD (fT q l).toNat default)=true:=by
 unfold fT at h ⊢
 split at h
 ·rename_i hlt
  rw[if_pos hlt]
  refine⟨by omega,?_⟩
  rw[Int.toNat_natCast,List.getD_eq_getElem?_getD,List.getElem?_eq_getElem hlt,Option.getD_some]
  exact List.findIdx_getElem (w:=hlt)
 ·omega
theorem Jc{q:Int×Int->Bool}{l:List (Int×Int)}{y:Int×Int}(hy:y∈l)(hq:q y=true):0<=fT q l:=by
 have hlt:l.findIdx q<l.length:=List.findIdx_lt_length_of_exists ⟨y,hy,hq⟩
 unfold fT;rw[if_pos hlt];omega
theorem Ka{x:ac}{i:Nat}(h:fR x i=0):fm ((aC x).getD i default).1∧¬ ((aC x).getD i default).2<0:=by
 unfold fR at h
 split at h
 ·cases h
 ·rename_i k
  split at h
  ·cases h
  ·rename_i k2
   exact⟨Decidable.not_not.1 fun q=>k (.inl q),fun q=>k2 (.inl q)⟩
theorem QQ{x:ac}(h:nq x){a:Int}(ha:jW x a=true):a≠0:=by
 rintro rfl
 unfold jW at ha
 simp only[Bool.or_eq_true,decide_eq_true_eq,Bool.and_eq_true,Bool.not_eq_true',decide_eq_false_iff_not] at ha
 rcases ha with ha|⟨h1,h2⟩
 ·have ha:0<=fT (i7 0) (aC x):=ha
  obtain⟨k1,k2⟩:=rz (q:=i7 0) (l:=aC x) ha
  have:=(Ka (h.ports (fT (i7 0) (aC x)).toNat (by omega))).1
  have e:((aC x).getD (fT (i7 0) (aC x)).toNat default).1=0:=of_decide_eq_true k2
  rw[e] at this
  exact S5 this rfl
 ·exact h1 h2
theorem ax5{x:ac}(h:nq x)(k:Int):bp x k<(aC x).length:=by
 have:=h.n1
 unfold bp
 by_cases hk:0<=cL x k
 ·have:=(rz hk).1
  have e:cL x k=fT (gS k) (aC x):=rfl
  omega
 ·omega
theorem MY{x:ac}{i:Int}(h0:0<=i)(h1:i<(aC x).length):adr x i=((aC x).getD i.toNat default).1:=by
 unfold adr;rw[if_neg (by omega)]
theorem ao0{l:List Rt}{a:Int}(h:mO l a=true):bh l a∈l:=by
 have key:∀(l:List Rt)(b:Option Rt)(r:Rt),l.foldl (sK a) b=some r->r∈l∨b=some r:=by
  intro l
  induction l with
  | nil=>intro b r e;exact .inr e
  | cons y l ih =>
   intro b r e
   rcases ih _ _ e with h1|h1
   ·exact .inl (List.mem_cons_of_mem _ h1)
   ·unfold sK at h1
    split at h1
    ·split at h1
     ·cases h1;exact .inl List.mem_cons_self
     ·split at h1
      ·cases h1;exact .inl List.mem_cons_self
      ·exact .inr h1
    ·exact .inr h1
 unfold mO at h
 unfold bh
 cases hl:kv l a with
 | none=>rw[hl] at h;cases h
 | some r =>
  rcases key l none r hl with k|k
  ·exact k
  ·cases k
theorem Ob{s:bt}{a:Int}(h:¬ eI s a=false):bh (bn s) a∈bn s:=by
 refine ao0 ?_
 unfold eI at h
 cases hb:mO (bn s) a with
 | true=>rfl
 | false=>rw[hb] at h;simp at h
theorem PL{x:ac}{s:bt}{r:Rt}{k:mL}(h:r.2.1≠[]):g9 x s r k∈r.2.1:=by
 have hpos:1<=(r.2.1.length:Int):=by cases hh:r.2.1 with
  | nil=>exact absurd hh h
  | cons a l=>simp;omega
 unfold g9
 split
 ·exact bL (i:=0) (by omega) (by omega)
 ·have hc:=OF (way:=r.2.2) (seed:=zW x) (k:=k) (count:=kV s) hpos
  exact bL hc.1 hc.2
theorem HM{r:Rt}{links:List Int}(h:jZ r links):∀ y∈r.2.1,y∈links:=by
 intro y hy
 obtain⟨i,hi,rfl⟩:=List.mem_iff_getElem.1 hy
 have:=(h.1.2 i hi).2
 rwa [List.getD_eq_getElem?_getD,List.getElem?_eq_getElem hi,Option.getD_some] at this
theorem Dg{x:ac}{k:Int}(h:k∈bv x):0<=cL x k:=by
 obtain⟨y,hy,rfl⟩:=List.mem_map.1 h
 exact Jc hy (by simp[gS])
theorem Q0{x:ac}{s:bt}{K:Int}(hs:fU x s K){a:Int}(hw:¬ eI s a=false)(s':bt)(k:mL):0<=cL x (g9 x s' (bh (bn s) a) k) :=
 Dg (HM (hs.rt _ (Ob hw)) _ (PL (xC hw)))
theorem au6{l:List Int}{K i:Int}(h:∀ y∈l,0<=y/\y<=K)(hK:0<=K/\K<=2199023255552)(h0:0<=i):(nw l i).length=l.length∧∀ y∈nw l i,0<=y/\y<=K+1:=by
 unfold nw
 split
 ·rename_i hi
  refine⟨List.length_set,fun y hy=>?_⟩
  rcases List.mem_or_eq_of_mem_set hy with hy|rfl
  ·have:=h y hy;omega
  ·have:=h _ (bL h0 hi)
   rw[af (by omega) (by omega)];omega
 ·exact⟨rfl,fun y hy=>by have:=h y hy;omega⟩
theorem fU.more{x:ac}{s:bt}{K K':Int}(h:fU x s K)(hk:K<=K'):fU x s K' :=
 ⟨h.srt,h.okl,h.rt,h.ps,h.tk,by have:=h.cn;omega,fun y hy=>by have:=h.cp y hy;omega⟩
theorem fU.tok{x:ac}{s:bt}{K:Int}(h:fU x s K){t:Int×Int}(ht:uM (iG x) t):fU x (yu s t) K:=⟨h.srt,h.okl,h.rt,h.ps,ht,h.cn,h.cp⟩
theorem fU.bal{x:ac}{s:bt}{K:Int}(h:fU x s K)(b:Int):fU x (HB s b) K:=⟨h.srt,h.okl,h.rt,h.ps,h.tk,h.cn,h.cp⟩
theorem fU.pick{x:ac}{s:bt}{K:Int}(h:fU x s K)(r:Rt):fU x (fC s r) K:=by
 unfold fC;split
 ·exact h
 ·exact h.bal _
theorem fU.sent{x:ac}{s:bt}{K i:Int}(h:fU x s K)(hK:0<=K/\K<=2199023255552)(h0:0<=i):fU x (PP s i) (K+1):=by
 obtain⟨b1,b2⟩:=au6 h.cp hK h0
 refine⟨h.srt,h.okl,h.rt,b1.trans h.ps,h.tk,?_,b2⟩
 have:=h.cn
 show 0<=IntKind.i64.wrap (nk s+1)/\IntKind.i64.wrap (nk s+1)<=K+1
 rw[af (by omega) (by omega)];omega
theorem D5{B:Int->Int->List Int}{E:Int->Int}{w:cE}{own:Int}{K:Int}(hx:nq w.1)(hs:fU w.1 w.2.1 K)(hK:0<=K/\K<=2199023255552)(ha:0<=w.2.2.2.1/\w.2.2.2.1<=1125899906842624) :
  fU w.1 (cz B E w own).1 (K+1):=by
 have ht:=YG hx.bk hs.tk ha
 unfold cz
 split
 ·exact hs.more (by omega)
 split
 ·exact hs.more (by omega)
 split
 ·exact hs.more (by omega)
 split
 ·exact (hs.tok ht.1).more (by omega)
 ·exact ((hs.tok ht.1).sent hK (Bk _ _)).pick _
theorem ac0{x:ac}{s:bt}{link at':Int}{b:List Int}{K:Int}(hx:nq x)(hs:fU x s K)(hK:0<=K/\K<=2199023255552)(ha:0<=at'∧at'<=1125899906842624):fU x (dK x s link at' b).1 (K+1):=by
 have m:fU x s (K+1):=hs.more (by omega)
 unfold dK dY
 split
 ·exact m
 split
 ·unfold gv
  split
  ·exact m
  ·exact D5 (w:=sG (x,s,link,at',b,nh) (aW b).1) hx hs hK ha
 split
 ·exact m
 ·unfold dV
  split
  ·exact D5 (w:=sG (x,s,link,at',b,nh) (aW b).1) hx hs hK ha
  split
  ·split
   ·exact m
   ·exact D5 (w:=sG (x,s,link,at',b,nh) (aW b).1) hx hs hK ha
  ·exact m.pick _
theorem OY{x:ac}(hx:nq x):fU x (lm x) 0:=by
 obtain⟨h1,h2⟩:=sV hx.rt
 obtain⟨-,-,h3⟩:=uB hx.rt
 refine⟨h1,h2,fun r hr=>(h3 r hr).2,List.length_replicate,?_,⟨Int.le_refl _,Int.le_refl _⟩,fun y hy=>by rw[List.eq_of_mem_replicate hy];exact⟨Int.le_refl _,Int.le_refl _⟩⟩
 show uM (iG x) (xp (iG x) 0)
 rw[Rc hx.bk]
 refine⟨⟨by simp,by simp⟩,fun k=>by rw[k];rfl,fun k=>?_⟩
 have:=(Bm hx.bk).resolve_left k
 exact⟨by show 0<=_*_;omega,Int.le_refl _⟩
def Hv:Ct:=⟨[.val (.sl cu)],[.own 97 cu],fun d=>[okL d.1],fun d=>((d.1,()),())⟩
def XI:ar Hv.ps->ay:=(fun d=>{loops:=(fun n=>match n with|3=>some (fun S=>{ι:=Int,μ:=fun i=>(d.1.length-i).toNat,inv:=fun i=>0<=i/\i<=d.1.length,keep:=[3,8,9],slots:=fun i=>[(10,.int .i64 i)],keepN:=[128],names:=fun i=>[]})|_=>none)})
theorem Xd :
 ∀(a:List aD),(a.length<=maxLen/\ ∀(b:aD),b∈a->((0<=b.1.1/\b.1.1<=4294967295)/\ab b.1.2)/\(b.2.1.length<=maxLen/\ ∀(c:Int),c∈b.2.1->ab c)/\ab b.2.2)/\True->((a.length:Int)<=134217728/\ ∀(b:Rt),b∈a->(b.2.1.length:Int)<=1099511627776)->(a.length:Int)<=134217728/\(∃(b:Int),(0<=b/\b<=(a.length:Int))/\(a.length:Int)=(a.length:Int)/\(0:Int)=b/\a=a/\True)/\ ∀(b:Int),0<=b/\b<=(a.length:Int)->ad (decide (b<(a.length:Int))) (0<=b/\b<(a.length:Int)/\((List.length (a.getD b.toNat default).2.1):Int)<=1099511627776/\0<=b/\b<(a.length:Int)/\ ∃(c:Int),(0<=c/\c<=(a.length:Int))/\Int.toNat ((a.length:Int) -c)<Int.toNat ((a.length:Int) -b)/\(a.length:Int)=(a.length:Int)/\IntKind.wrap .i64 (b+(1:Int))=c/\List.set a b.toNat (a.getD b.toNat default)=a/\True) (a=a):=by
  rintro l ⟨⟨hl,-⟩,-⟩⟨h1,h2⟩
  simp only[maxLen] at hl
  refine⟨h1,⟨0,⟨by omega,by omega⟩,(by repeat' first|exact trivial|refine⟨trivial,?_⟩|refine⟨(by with_reducible rfl),?_⟩|refine⟨af (by omega) (by omega),?_⟩|refine⟨rfl,?_⟩)⟩,?_⟩
  rintro j ⟨j0,j1⟩
  refine ae (fun hj=>?_) (fun hj=>?_)
  ·have hj:=of_decide_eq_true hj
   refine⟨j0,hj,h2 _ (bL j0 hj),j0,hj,j+1,⟨by omega,by omega⟩,by omega,?_⟩
   (repeat first|refine⟨trivial,?_⟩|refine⟨(by with_reducible rfl),?_⟩|refine⟨af (by omega) (by omega),?_⟩)
   exact⟨pk j0 hj,trivial⟩
  ·rfl
theorem Iw:av Tryz.prog GL 126 Hv.spec:=Ct.okH _ Tryz.func126 (by kernel_rfl) (ah (ah aA MZ) wS) au XI (aB (by kernel_rfl) Xd)
def IS:Ct:=⟨[.agg bH],[.agg lQ],fun d=>[okL (aV d.1),((aC d.1).length:Int)<=1000000],fun d=>((lm d.1,()),())⟩
def Xw:ar IS.ps->ay:=(fun _=>{})
theorem Wj :
 ∀(a:ac),CT.wf bH a/\True->okL (aV a)/\((List.length (aC a)):Int)<=1000000->0<=(a.1.length:Int)/\(a.1.length:Int)<=(a.1.length:Int)/\(↑(8:Nat):Int)*(a.1.length:Int)<=281474976710656/\okL a.2.2.2.2.1/\(a.2.2.2.2.1,(0:Int),List.replicate (Int.toNat (a.1.length:Int)) (0:Int),(w (a.2.2.2.2.2.2.2.2.2.2.1.1*a.2.2.2.2.2.2.2.2.2.2.1.2),(0:Int)),(0:Int))=lm a:=by
  rintro d-⟨h,hl⟩
  have hl:(d.1.length:Int)<=1000000:=hl
  exact⟨by omega,by omega,by omega,h,rfl⟩
theorem S8:av Tryz.prog GL 58 IS.spec:=Ct.okH _ Tryz.func58 (by kernel_rfl) (ah (ah aA ao9) Iw) au Xw (aB (by kernel_rfl) Wj)
def Mj:Ct:=⟨[.agg bH,.agg lQ,.val cI,.val cI,.val (.sl bm)],[.agg lQ,.agg tL,.val cI],fun d=>[bM (bn d.2.1),okL (bn d.2.1),((jf d.2.1).length:Int)<=1000000,(d.2.2.2.2.1.length:Int)<=1000000],fun d=>(((dK d.1 d.2.1 d.2.2.1 d.2.2.2.1 d.2.2.2.2.1).1,(dK d.1 d.2.1 d.2.2.1 d.2.2.2.1 d.2.2.2.2.1).2.1,(dK d.1 d.2.1 d.2.2.1 d.2.2.2.1 d.2.2.2.2.1).2.2,()),())⟩
def RZ:ar Mj.ps->ay:=(fun _=>{})
def w7(a:ac)(b:List aD)(c:Int)(d:List Int)(e f g h i:Int)(j:List Int) :=
 (a,(b,c,d,(e,f),g),h,i,j,(0:Int),(0:Int),(0:Int),(0:Int),false,(0:Int),(0:Int))
theorem av2 :
 ∀(a:ac)(b:List aD)(c:Int)(d:List Int)(e f g h i:Int)(j:List Int),CT.wf bH a/\((b.length<=maxLen/\ ∀(k:aD),k∈b->((0<=k.1.1/\k.1.1<=4294967295)/\ab k.1.2)/\(k.2.1.length<=maxLen/\ ∀(l:Int),l∈k.2.1->ab l)/\ab k.2.2)/\ab c/\(d.length<=maxLen/\ ∀(k:Int),k∈d->ab k)/\(ab e/\ab f)/\ab g)/\ab h/\ab i/\(j.length<=maxLen/\ ∀(k:Int),k∈j->0<=k/\k<=255)/\True->bM (bn (b,c,d,(e,f),g))/\okL (bn (b,c,d,(e,f),g))/\((List.length (jf (b,c,d,(e,f),g))):Int)<=1000000/\(j.length:Int)<=1000000->(d.length:Int)<=1099511627776/\okL b/\me (w7 a b c d e f g h i j)/\(dY (w7 a b c d e f g h i j)).1=(dK a (b,c,d,(e,f),g) h i j).1/\(dY (w7 a b c d e f g h i j)).2.1=(dK a (b,c,d,(e,f),g) h i j).2.1/\(dY (w7 a b c d e f g h i j)).2.2=(dK a (b,c,d,(e,f),g) h i j).2.2:=by
  delta w7
  rintro d x x1 x2 x3 x4 x5 x6 x7 x8-⟨hs,hl,hp,hb⟩
  have e2:jf (x,x1,x2,(x3,x4),x5)=x2:=rfl
  rw[e2] at hp
  exact⟨by omega,hl,⟨hs,hl,hb⟩,rfl,rfl,rfl⟩
theorem Qb:av Tryz.prog GL 99 Mj.spec:=Ct.okH _ Tryz.func99 (by kernel_rfl) (ah (ah (ah aA wS) Iw) UF) au RZ (aB (by kernel_rfl) av2)
theorem uT(s:bt)(r:Rt):fC s r=(s.1,s.2.1,s.2.2.1,s.2.2.2.1,kV (fC s r)):=by unfold fC;split <;> rfl
theorem VR(k:Int)(w:cE)(f i:Int):((kB k w f i).length:Int)<=1500:=by
 unfold kB;split
 ·exact Cc ..
 ·split
  ·exact Cc ..
  ·exact Ms ..
theorem az0(w:cE):pm w 0=cz (dH w) (iJ w) w (ik w.2.2.2.2.2):=rfl
theorem ak9(w:cE):pm w 1=cz (dH w) (iJ w) w 0:=rfl
theorem Xh(w:cE):pm w 2=cz (cZ w 11 0) (iO w 11 0) w 0:=rfl
theorem VX(w:cE):pm w 3=cz (cZ w 3 0) (iO w 3 0) w 0:=rfl
def O5:Ct:=⟨[.val (.sl cI),.val (.sl cI)],[.val .bool],fun d=>[],fun d=>((decide (d.1=d.2.1),()),())⟩
def Tb:ar O5.ps->ay:=(fun d=>{loops:=(fun n=>match n with|4=>some (fun S=>{ι:=Int,μ:=fun i=>(d.1.length-i).toNat,inv:=fun i=>0<=i/\i<=d.1.length/\d.1.take i.toNat=d.2.1.take i.toNat,keep:=[0,1],slots:=fun i=>[(5,.int .i64 i)],names:=fun i=>[]})|_=>none)})
theorem YD :
 ∀(a b:List Int),(a.length<=maxLen/\ ∀(c:Int),c∈a->ab c)/\(b.length<=maxLen/\ ∀(c:Int),c∈b->ab c)/\True->True->ad (! decide ((a.length:Int)=(b.length:Int))) (false=decide (a=b)) ((∃(c:Int),(0<=c/\c<=(a.length:Int)/\List.take c.toNat a=List.take c.toNat b)/\a=a/\b=b/\(0:Int)=c/\True)/\ ∀(c:Int),0<=c/\c<=(a.length:Int)/\List.take c.toNat a=List.take c.toNat b->ad (decide (c<(a.length:Int))) (0<=c/\c<(a.length:Int)/\0<=c/\c<(b.length:Int)/\ad (! decide (a.getD c.toNat default=b.getD c.toNat default)) (false=decide (a=b)) (∃(d:Int),(0<=d/\d<=(a.length:Int)/\List.take d.toNat a=List.take d.toNat b)/\Int.toNat ((a.length:Int) -d)<Int.toNat ((a.length:Int) -c)/\a=a/\b=b/\IntKind.wrap .i64 (c+(1:Int))=d/\True)) (true=decide (a=b))):=by
  rintro x y ⟨⟨hl,-⟩,⟨hm,-⟩,-⟩ -
  simp only[maxLen] at hl hm
  refine ae (fun h=>?_) (fun h=>?_)
  ·have h:=fY h
   symm;apply decide_eq_false
   rintro rfl;exact h rfl
  have h:=gz h
  refine⟨⟨0,⟨by omega,by omega,by simp⟩,(by repeat' first|exact trivial|refine⟨trivial,?_⟩|refine⟨(by with_reducible rfl),?_⟩|refine⟨af (by omega) (by omega),?_⟩|refine⟨rfl,?_⟩)⟩,?_⟩
  rintro j ⟨j0,j1,hj⟩
  refine ae (fun hk=>?_) (fun hk=>?_)
  ·have hk:=of_decide_eq_true hk
   refine⟨j0,hk,j0,by omega,ae (fun q=>?_) (fun q=>?_)⟩
   ·have q:=fY q
    symm;apply decide_eq_false
    rintro rfl;exact q rfl
   ·exact⟨j+1,⟨by omega,by omega,Gh j0 hk (by omega) hj (gz q)⟩,by omega,(by repeat' first|exact trivial|refine⟨trivial,?_⟩|refine⟨(by with_reducible rfl),?_⟩|refine⟨af (by omega) (by omega),?_⟩|refine⟨rfl,?_⟩)⟩
  ·have hk:=of_decide_eq_false hk
   rw[List.take_of_length_le (by omega),List.take_of_length_le (by omega)] at hj
   rw[hj];simp
theorem MN:av Tryz.prog GL 70 O5.spec:=Ct.okH _ Tryz.func70 (by kernel_rfl) aA au Tb (aB (by kernel_rfl) YD)
def OW:Ct:=⟨[.agg lQ,.agg lQ],[.val .bool],fun d=>[],fun d=>((decide (d.1=d.2.1),()),())⟩
def au1:ar OW.ps->ay:=(fun _=>{})
def FQ(m:aD) :=
 ((0<=m.1.1/\m.1.1<=4294967295)/\ab m.1.2)/\(m.2.1.length<=maxLen/\ ∀(n:Int),n∈m.2.1->ab n)/\ab m.2.2
theorem ak3 :
 ∀(a:List aD)(b:Int)(c:List Int)(d e f:Int)(g:List aD)(h:Int)(i:List Int)(j k l:Int),((a.length<=maxLen/\ ∀(m:aD),m∈a->(FQ m))/\ab b/\(c.length<=maxLen/\ ∀(m:Int),m∈c->ab m)/\(ab d/\ab e)/\ab f)/\((g.length<=maxLen/\ ∀(m:aD),m∈g->(FQ m))/\ab h/\(i.length<=maxLen/\ ∀(m:Int),m∈i->ab m)/\(ab j/\ab k)/\ab l)/\True->True-> ∀(m:Bool),m=decide (b=h)->(m->(m->m)/\True)/\(m->(m->m)/\True)/\(m->(m->m)/\(m->m)/\True)/\(m->m)/\ ∀(n:Bool),(n=bif m then decide (d=j)&&(decide (e=k)&&true) else false)->(n->(n->n)/\True)/\(n->(n->n)/\True)/\(n->(n->n)/\(n->n)/\True)/\(n->n)/\ ∀(o:Bool),(o=bif n then decide (f=l) else false)->(o->(o->o)/\True)/\(o->(o->o)/\True)/\(o->(o->o)/\(o->o)/\True)/\(o->o)/\ ∀(p:Bool),(p=bif o then decide (c=i) else false)->(p->(p->p)/\True)/\(p->(p->p)/\True)/\(p->(p->p)/\(p->p)/\True)/\(p->p)/\(bif p then decide (a=g) else false)=decide
 ((a,b,c,(d,e),f)=(g,h,i,(j,k),l)):=by
  delta FQ
  rintro x x1 x2 x3 x4 x5 y y1 y2 y3 y4 y5 - -
  (repeat (intro (b_:Bool) (hb_:b_=_);(repeat refine⟨(by first|(simp;done)|(rw[hb_];simp;done)|(rw[hb_];simp;omega)|(rw[hb_];simp;intros;omega)|(rw[hb_];simp +contextual;done)),?_⟩);subst hb_))
  rw[Bool.eq_iff_iff]
  simp only[Bool.cond_eq_ite,Bool.if_false_right,Bool.and_eq_true,decide_eq_true_eq,Bool.and_true,Prod.mk.injEq]
  constructor
  ·rintro⟨⟨⟨⟨h1,h2,h3⟩,h4⟩,h5⟩,h6⟩;exact⟨h6,h1,h5,⟨h2,h3⟩,h4⟩
  ·rintro⟨h6,h1,h5,⟨h2,h3⟩,h4⟩;exact⟨⟨⟨⟨h1,h2,h3⟩,h4⟩,h5⟩,h6⟩
theorem ax7:av Tryz.prog GL 71 OW.spec:=Ct.okH _ Tryz.func71 (by kernel_rfl) (ah (ah aA MN) ad7) au au1 (aB (by kernel_rfl) ak3)
end Go.RS

/- Law08: the laws of answers. -/
namespace Go.RS
open Go.SX Go.Proofs
set_option maxRecDepth 100000
set_option linter.unusedVariables false
theorem am7{n:mW}(h0:gG n=0)(hb:bytes n.2.2):xB (fW n)=0/\qQ (fW n)=n:=by
 have h1:(n.1=3∨n.1=11)/\0<=n.2.1/\n.2.1<=255:=Classical.byContradiction fun k=>by rw[gG,if_pos k] at h0;cases h0
 have h2:¬ (n.2.2.length:Int)<28:=fun k=>by rw[gG,if_neg (fun q=>q h1),if_pos k] at h0;cases h0
 have h3:¬ (1472:Int)<n.2.2.length:=fun k=>by rw[gG,if_neg (fun q=>q h1),if_neg h2,if_pos k] at h0;cases h0
 have hc:=mV (Dc (e:=n) h1 hb)
 obtain⟨t,k,l⟩:=n
 simp only at h1 h3 hb hc h2
 generalize hB:fW (t,k,l)=B
 have hs:B=t::k::(cf (jV (t,k,l))/256%256)::(cf (jV (t,k,l))%256)::0::0::0::0::l:=by rw[← hB,fW,if_pos h0];rfl
 have i2:aG B (Int.toNat 2)=cf (jV (t,k,l))/256%256*256+cf (jV (t,k,l))%256:=by rw[hs];exact fD _ _ _
 have i4:aG B (Int.toNat 4)=0:=by rw[hs];exact (fD 0 0 _)
 have i6:aG B (Int.toNat 6)=0:=by rw[hs];exact (fD 0 0 _)
 have hset:bI B (Int.toNat 2) 0=jV (t,k,l):=by rw[hs];rfl
 have hlen:(B.length:Int)=8+l.length:=by rw[hs];simp only[List.length_cons];omega
 have g0:B.getD (Int.toNat 0) default=t:=by rw[hs];rfl
 have g1:B.getD (Int.toNat 1) default=k:=by rw[hs];rfl
 have g8:B.drop 8=l:=by rw[hs];rfl
 have he:xB B=0:=by
  rw[xB,if_neg (by omega),if_neg (fun q=>q ⟨by rw[g0];exact h1.1,i4,i6⟩),if_neg (by omega),if_neg]
  rw[hset,i2,jD hc.1 hc.2];exact fun q=>q rfl
 refine⟨he,?_⟩
 rw[qQ,if_pos he,g0,g1,g8]
theorem Kk{n:mW}(h0:gG n=0):(fW n).getD 0 default=n.1/\(fW n).length=8+n.2.2.length:=by
 rw[fW,if_pos h0];exact⟨rfl,by rw[j6,EY]⟩
theorem Fm{n:mW}(h0:gG n=0)(hb:bytes n.2.2):bytes (fW n):=by
 have h1:(n.1=3∨n.1=11)/\0<=n.2.1/\n.2.1<=255:=Classical.byContradiction fun k=>by rw[gG,if_pos k] at h0;cases h0
 rw[fW,if_pos h0];exact qo (Dc h1 hb)
structure cN (p:bO):Prop where
 ok:dN p=0
 s:u32 p.1
 d:u32 p.2.1
theorem cN.dec{p:bO}(g:cN p):bP (build p)=qC p/\bV (build p)=0/\(build p).drop 20=dD p:=HP g.ok g.s g.d
theorem cN.len{p:bO}(g:cN p):((p.2.2.1≠6/\(build p).length=30)∨(p.2.2.1=6/\(build p).length=40)):=by
 rw[Al g.ok,List.length_append,oR]
 rcases yB g.ok with h|h
 ·exact .inl ⟨h.1,by rw[h.2]⟩
 ·exact .inr ⟨h.1,by rw[h.2]⟩
theorem Og{p:bO}(g:cN p):(p.2.2.1=1->(dD p).getD 0 default=8)/\(p.2.2.1=6->(dD p).getD 13 default=2):=by
 have hr:=(lx.1 g.ok).2
 constructor
 ·intro h;rw[wH hr h];rfl
 ·intro h;rw[vY hr h];rfl
theorem FB{p:bO}(g:cN p):cq (build p)↔fm p.1:=by
 obtain⟨e1,e2,e3⟩:=g.dec
 have hs:bQ (build p)=p.1:=by rw[bQ,e1];rfl
 constructor
 ·intro h;rw[← hs];exact (nu h).2.2.2.2
 ·intro hu
  refine as1 e2 (by rcases g.len with h|h <;> omega) ?_ ?_ (by rw[hs];exact hu)
  ·rw[e3];intro h;exact (Og g).1 (by rw[cW,e1] at h;exact h)
  ·rw[e3];intro h _;rw[(Og g).2 (by rw[cW,e1] at h;exact h)];decide
theorem ah3{p:bO}(g:cN p):(p.2.2.1=1->aG (dD p) 4=21075/\aG (dD p) 6=p.2.2.2.2.1)/\(p.2.2.1=17->aG (dD p) 4=10/\aG (dD p) 6=p.2.2.2.2.1+1)/\(p.2.2.1=6->dL (((dD p).drop 4).take 4)=p.2.2.2.2.1):=by
 have hr:=(lx.1 g.ok).2
 obtain⟨hf,ht,-⟩:=id hr
 refine⟨fun h=>?_,fun h=>?_,fun h=>?_⟩
 ·rw[wH hr h,rH (by show 4+2<=10;omega) (by omega),rH (by show 6+2<=10;omega) (by omega)]
  refine⟨rfl,?_⟩
  show aG (_::_::_) 0=_
  rw[fD];exact jD (n:=p.2.2.2.2.1) (by omega) (by omega)
 ·have hs:=am3 hr
  rw[xe hr h,rH (by show 4+2<=10;omega) (by omega),AX (by show 6+2<=10;omega) (by omega) (by omega)]
  refine⟨?_,hs⟩
  show aG (_::_::_) 0=10
  rw[fD]
  have:((oU p).2.2.length:Int)=2:=rfl
  rw[this];decide
 ·rw[vY hr h]
  show dL [_,_,_,_]=_
  rw[xy];exact DX (n:=p.2.2.2.2.1) ⟨by omega,by omega⟩
theorem af8{p:bO}(g:cN p):((build p).take 28).length=28/\bytes ((build p).take 28)/\vA ((build p).take 28)=(p,true):=by
 obtain⟨e1,e2,e3⟩:=g.dec
 have hl28:((build p).take 28).length=28:=by rw[List.length_take];rcases g.len with h|h <;> omega
 refine⟨hl28,zi (Gv p),?_⟩
 have hF:bP ((build p).take 28)=qC p:=by
  rw[← e1];unfold bP
  rw[sc (by omega),sc (by omega),sc (by omega),ot (by omega),ot (by omega),vz (by omega),vz (by omega)]
 have hpk:fE ((build p).take 28)=0:=by
  have h0:=zY e2
  have hlen:20<=(build p).length:=by rcases g.len with h|h <;> omega
  rw[fE,if_neg (by omega)] at h0 ⊢
  rw[sc (by omega),ot (by omega),ot (by omega),ot (by omega),List.take_take]
  exact h0
 have wq:∀ i,i+2<=8->aG ((build p).take 28) (20+i)=aG (dD p) i:=fun i hi=>by
  rw[ot (by omega),← e3];unfold aG;rw[List.drop_drop]
 have w0:=wq 0 (by omega)
 have w2:=wq 2 (by omega)
 have w4:=wq 4 (by omega)
 have w6:=wq 6 (by omega)
 have n4:dL ((((build p).take 28).drop 24).take 4)=dL (((dD p).drop 4).take 4):=by rw[vz (by omega),← e3,List.drop_drop]
 have cw:=Ro g.ok
 have cm:=ah3 g
 have hlw:aG ((build p).take 28) 2=(build p).length:=by rw[ot (by omega),(vQ e2).2]
 have hq:zV ((build p).take 28):=⟨hpk,hl28,by rw[hF];rfl,by rw[hF];rfl⟩
 have hpr:cW ((build p).take 28)=p.2.2.1:=by rw[cW,hF];rfl
 have hfl:D0 ((build p).take 28)=p.2.2.2.1:=by
  rw[D0,hpr]
  have w0:aG ((build p).take 28) 20=aG (dD p) 0:=w0
  rw[w2,w0,cw.1,cw.2]
  rcases (lx.1 g.ok).1 with h|h|h <;> simp[h,vO,uh] <;> omega
 have hP:Ar ((build p).take 28)=p:=by
  rw[Ar,hfl,hpr,bQ,eV,hF];rfl
 rw[vA,if_pos hq,hP]
 have hR:xJ ((build p).take 28):=by
  unfold xJ
  rw[hpr,hF]
  have w0:aG ((build p).take 28) 20=aG (dD p) 0:=w0
  rw[w0,w2,w4,w6,n4,cw.1,cw.2,hlw]
  rcases (lx.1 g.ok).1 with h|h|h
  ·refine .inl ⟨h,?_,by rw[vO,if_pos h],(cm.1 h).1,(cm.1 h).2⟩
   rcases g.len with k|k <;> omega
  ·refine .inr (.inr ⟨h,?_,by rw[uh,if_neg (by omega),if_neg (by omega)],cm.2.2 h⟩)
   rcases g.len with k|k <;> omega
  ·refine .inr (.inl ⟨h,?_,by rw[uh,if_neg (by omega),if_pos h],?_,(cm.2.1 h).2⟩)
   ·rcases g.len with k|k <;> omega
   ·rw[(cm.2.1 h).1];rcases g.len with k|k <;> omega
 rw[decide_eq_true ⟨hR,g.ok⟩]
theorem wc{src dst proto id ttl:Int}{data:List Int}(hn:f5 id ttl)(hp:0<=proto/\proto<=255)(hs:u32 src)(hd:u32 dst)(hl:(data.length:Int)<=1480)(hb:bytes data) :
  bV (cS (f8 src dst proto id ttl data))=0/\bP (cS (f8 src dst proto id ttl data))=(0,id,ttl,proto,false,src,dst)/\(cS (f8 src dst proto id ttl data)).drop 20=data/\(cS (f8 src dst proto id ttl data)).length=20+data.length:=by
 have h0:=vd (src:=src) (dst:=dst) hn hp hl
 obtain⟨⟨a,b⟩,c,d⟩:=hn
 rw[cS,if_pos h0]
 have:=CS (h:=(0,id,ttl,proto,false,src,dst)) (X:=data) ⟨⟨Int.le_refl _,by simp only;omega⟩,⟨c,d⟩,hp,a,b⟩ hs hd hl hb
 refine⟨this.2.1,this.1,this.2.2,?_⟩
 show (gn _ _++data).length=_
 rw[List.length_append,oR]
structure yJ (p:bO) (a:rU) (x:List Int):Prop where
 no:¬ cq x
 rd:Mm x=(sA p 0,a)
 re:KQ x=0
 len:x.length<=1500
theorem cN.t1{p:bO}(g:cN p)(t:Int)(h:1<=t/\t<=255):dN (sA p t)=0:=by
 obtain⟨h1,h2,h3,-⟩:=lx.1 g.ok
 exact lx.2 ⟨h1,h2,h3,h⟩
theorem B7{p:bO}{a:rU}{x:List Int}(g:cN p)(hd:bV x=0)(hr:pA x=(sA p 0,(0,a.2.1,a.2.2.1,0,0,a.2.2.2.2.2),true))(ha:a.1=bQ x)(hl:a.2.2.2.1=(bP x).2.2.1)(hi:a.2.2.2.2.1=(bP x).2.1)(hn:¬ cq x):yJ p a x:=by
 have hg:yv x:=⟨hd,by rw[hr],by rw[hr];exact g.t1 1 (by omega)⟩
 have:=vQ hd
 refine⟨hn,?_,by rw[KQ,if_pos hg],by omega⟩
 rw[Mm,if_pos hg,hr,← ha,← hl,← hi]
theorem Bx{p:bO}(g:cN p)(hu:fm p.1){from' kind code id ttl:Int}(hf:u32 from')(hg:oY kind code id ttl) :
  fq (build p) kind code id ttl=0/\yJ p (from',ue kind code,code,ttl,id,p.2.2.2.2.2) (gA (build p) from' kind code id ttl)/\(gA (build p) from' kind code id ttl).length=56:=by
 have ha:=(FB g).2 hu
 obtain⟨e0,eB,en,-⟩:=Bg (src:=from') hg ha
 obtain⟨e1,-,-⟩:=g.dec
 obtain⟨ql,qb,qv⟩:=af8 g
 have hs:bQ (build p)=p.1:=by rw[bQ,e1];rfl
 have hk:=hg.1
 refine⟨e0,?_⟩
 rw[eB,hs]
 generalize hD:fW (kind,code,(build p).take 28)=D
 have un:=am7 en qb
 have nf:=Kk en
 have nb:=Fm en qb
 rw[hD] at un nf nb
 rw[ql] at nf
 have sb:=wc (src:=from') (dst:=p.1) (proto:=1) (data:=D) hg.2.2 (by omega) hf g.s (by omega) nb
 generalize cS (f8 from' p.1 1 id ttl D)=x at sb
 obtain⟨s1,s2,s3,s4⟩:=sb
 have hp1:cW x=1:=by rw[cW,s2]
 have hns:¬ D.getD 0 default=8:=by rw[nf.1];simp only;omega
 refine⟨B7 g s1 ?_ (by rw[bQ,s2]) (by rw[s2]) (by rw[s2]) (fun k=>?_),by rw[s4,nf.2]⟩
 ·rw[pA,if_neg,if_pos hp1,s3,JT,if_pos un.1,un.2]
  ·simp only
   rw[qv]
   simp[eV,s2,sA]
  ·rw[s3]
   rintro⟨-,-,k⟩
   rw[nf.1] at k;simp only at k;omega
 ·exact hns (by have:=(nu k).2.2.1 hp1;rw[s3] at this;exact this)
theorem QK(t n:Int):bf true (bK (true,21075,t,w2 n))=bf true (bK (false,21075,t,w2 n))-2048:=by
 simp[bK,w2,bf];omega
theorem VP(t n:Int):23000<=bf true (bK (false,21075,t,w2 n)):=by
 simp[bK,w2,bf];omega
def qz(p:bO)(id ttl:Int):rU:=if p.2.2.1=6 then (p.2.1,4,0,ttl,id,0) else if p.2.2.1=17 then (p.2.1,3,3,ttl,id,p.2.2.2.2.2) else (p.2.1,2,0,ttl,id,0)
theorem IJ{p:bO}(g:cN p)(hu:fm p.1){id ttl:Int}(hn:f5 id ttl) :
  fc (build p) id ttl=0/\yJ p (qz p id ttl) (gk (build p) p.2.1 id ttl):=by
 have ha:=(FB g).2 hu
 obtain⟨e1,e2,e3⟩:=g.dec
 have hs:bQ (build p)=p.1:=by rw[bQ,e1];rfl
 have hd:eV (build p)=p.2.1:=by rw[eV,e1];rfl
 have hpr:cW (build p)=p.2.2.1:=by rw[cW,e1];rfl
 have hr:=(lx.1 g.ok).2
 have hr':=hr
 obtain⟨hf,ht,-⟩:=hr'
 rcases (lx.1 g.ok).1 with h|h|h
 ·have eE:dD p=dj (jk p):=by rw[wH hr h,dj,if_pos (Mi hr)]
  have u:=HA (F8 hr) (jR _) (by rw[vu];omega)
  have hh:=A6 (src:=p.2.1) hn ha (by rw[hpr];exact h) (by rw[e3,eE];exact u.1)
  refine⟨hh.2,?_⟩
  rw[hh.1,hs,e3,eE,u.2]
  have ok2:AR (w2 (nK p)) (true,(jk p).2):=⟨(F8 hr).1,rfl⟩
  have u2:=HA ok2 (jR _) (by rw[vu];omega)
  have eg:=BQ ok2 (by rw[vu];omega)
  have esh:dj (true,(jk p).2)=bI (bK (true,(jk p).2)) 2 (cf (bK (true,(jk p).2))):=by rw[dj,if_pos eg]
  have bb:bytes (bK (true,(jk p).2)):=tf (jR _)
  have hcs:=mV bb
  have ecs:cf (bK (true,(jk p).2))=18432+p.2.2.2.1:=by
   have h1:=IQ hr
   have h2:=QK p.2.2.2.2.1 (nK p)
   have h3:=VP p.2.2.2.2.1 (nK p)
   unfold cf at h1 ⊢
   have k1:jk p=(false,21075,p.2.2.2.2.1,w2 (nK p)):=rfl
   rw[k1] at h1 ⊢
   simp only
   rw[h2]
   generalize bf true (bK (false,21075,p.2.2.2.2.1,w2 (nK p)))=S at h1 h3 ⊢
   unfold oc at h1 ⊢
   rw[if_neg (by omega)] at h1 ⊢
   omega
  have w2c:aG (dj (true,(jk p).2)) 2=18432+p.2.2.2.1:=by
   rw[esh,AX (by show 2+2<=10;omega) hcs.1 hcs.2,ecs]
  have hl10:(dj (true,(jk p).2)).length=10:=by rw[esh,j6];rfl
  have hb:bytes (dj (true,(jk p).2)):=by rw[esh];exact qo bb
  have h0:(dj (true,(jk p).2)).getD 0 default=0:=by rw[esh];rfl
  generalize hD:dj (true,(jk p).2)=D at *
  have sb:=wc (src:=p.2.1) (dst:=p.1) (proto:=1) (data:=D) hn (by omega) g.d g.s (by omega) hb
  generalize cS (f8 p.2.1 p.1 1 id ttl D)=x at sb
  obtain⟨s1,s2,s3,s4⟩:=sb
  have hp1:cW x=1:=by rw[cW,s2]
  have hx:eV x=p.1:=by rw[eV,s2]
  have hy:bQ x=p.2.1:=by rw[bQ,s2]
  rw[qz,if_neg (by omega),if_neg (by omega)]
  refine B7 g s1 ?_ hy.symm (by rw[s2]) (by rw[s2]) (fun k=>?_)
  ·have eg2:AA D:=⟨u2.1,by rw[u2.2],by rw[u2.2];rfl,by rw[u2.2];rfl⟩
   rw[pA,if_pos ⟨hp1,by rw[s3];omega,by rw[s3];exact h0⟩,s3,KO,if_pos eg2,hx,hy,w2c,u2.2]
   have e9:18432+p.2.2.2.1-18432=p.2.2.2.1:=by omega
   rw[e9,sA,h];rfl
  ·have:=(nu k).2.2.1 hp1
   rw[s3,h0] at this;cases this
 ·have eE:dD p=dq p.1 p.2.1 (kx p):=by rw[vY hr h,dq,if_pos (ML hr)]
  have u:=MF (s:=p.1) (d:=p.2.1) (EN hr) kP (by simp)
  have hun:dI (bQ (build p)) (eV (build p)) ((build p).drop 20)=kx p:=by rw[hs,hd,e3,eE];exact u.2
  have hh:=Ad (src:=p.2.1) hn ha (by rw[hpr];exact h) (by rw[hs,hd,e3,eE];exact u.1) (by rw[hun];show bits .and .i64 2 2≠0;decide) (by rw[hun];show bits .and .i64 2 4=0;decide)
  refine⟨hh.2,?_⟩
  rw[hh.1,hun,hs]
  have eY:jl (kx p)=(80,20000+p.2.2.2.1,0,p.2.2.2.2.1+1,20,0,[]):=by
   have:(p.2.2.2.2.1+1)%4294967296=p.2.2.2.2.1+1:=by omega
   show (80,20000+p.2.2.2.1,0,(p.2.2.2.2.1+1)%4294967296,20,0,[])=_
   rw[this]
  have okY:AE [] (jl (kx p)):=by
   rw[eY]
   refine⟨⟨(gH _).2 ⟨?_,?_⟩,(gH _).2 ⟨?_,?_⟩,⟨?_,?_⟩,⟨?_,?_⟩,⟨?_,?_⟩,(gH _).2 ⟨?_,?_⟩⟩,rfl⟩ <;> simp only <;> omega
  have u2:=MF (s:=p.2.1) (d:=p.1) okY kP (by simp)
  have eg:=Eh okY (by simp)
  have esh:dq p.2.1 p.1 (jl (kx p))=bI (ix (jl (kx p))) 16 (dA p.2.1 p.1 6 (ix (jl (kx p)))):=by rw[dq,if_pos eg]
  have hb:bytes (dq p.2.1 p.1 (jl (kx p))):=by rw[esh];exact qo (uu okY.1 kP)
  have hl20:(dq p.2.1 p.1 (jl (kx p))).length=20:=by rw[esh,j6];rfl
  have h13:(dq p.2.1 p.1 (jl (kx p))).getD 13 default=20:=by rw[esh];rfl
  rw[eY] at u2
  generalize hD:dq p.2.1 p.1 (jl (kx p))=D at *
  rw[← eY,hD] at u2
  have sb:=wc (src:=p.2.1) (dst:=p.1) (proto:=6) (data:=D) hn (by omega) g.d g.s (by omega) hb
  generalize cS (f8 p.2.1 p.1 6 id ttl D)=x at sb
  obtain⟨s1,s2,s3,s4⟩:=sb
  have hp1:cW x=6:=by rw[cW,s2]
  have hx:eV x=p.1:=by rw[eV,s2]
  have hy:bQ x=p.2.1:=by rw[bQ,s2]
  rw[eY] at u2
  rw[qz,if_pos h]
  refine B7 g s1 ?_ hy.symm (by rw[s2]) (by rw[s2]) (fun k=>?_)
  ·have eg2:zT p.2.1 p.1 D:=⟨u2.1,by rw[u2.2],by rw[u2.2],by rw[u2.2],by rw[u2.2],by rw[u2.2]⟩
   rw[pA,if_neg (by rw[hp1];omega),if_neg (by omega),if_pos hp1,s3,hx,hy,Ko,if_pos eg2,u2.2]
   have e9:20000+p.2.2.2.1-20000=p.2.2.2.1:=by omega
   have e8:p.2.2.2.2.1+1-1=p.2.2.2.2.1:=by omega
   simp only
   rw[e9,e8,sA,h]
  ·have:=(nu k).2.2.2.1 hp1 (by rw[s3];omega)
   rw[s3,h13] at this;exact absurd this (by decide)
 ·have eE:dD p=jF p.1 p.2.1 (oU p):=by rw[xe hr h,jF,if_pos (IU hr)]
  have u:=ao2 (s:=p.1) (d:=p.2.1) (PR hr) (jR _) (by rw[vu];omega)
  have hh:=Bu (src:=p.2.1) hn ha (by rw[hpr];exact h) (by rw[hs,hd,e3,eE];exact u.1)
  refine⟨hh.2,?_⟩
  rw[hh.1,qz,if_neg (by omega),if_pos h]
  exact (Bx g hu g.d (kind:=3) (code:=3) ⟨.inr rfl,by omega,hn⟩).2.1
def JW(p:bO)(x:List Int):Prop:=(¬ fm p.1->x=[])/\(fm p.1→∃ a:rU,0<a.2.1/\yJ p a x)
end Go.RS

/- Drawsome: an address of a network, drawn. -/
namespace Go.RS
open Go.SX Go.Proofs
set_option maxRecDepth 100000
set_option linter.unusedVariables false
def Jp:Cn:=⟨[.box 109 f6,.agg iC],[.val ck],fun d=>[az d.1],fun d y=>az y.2.1/\0<=y.1.1/\y.1.1<=4294967295,fun d h=>⟨((0,()),(d.1,())),h.1,by simp,by simp⟩⟩
def ax8:ar Jp.ps->ay:=(fun _=>{})
def wJ(c:List ac)(f:Int) :=
 ((List.length (c.getD f.toNat default).1):Int)
theorem ad6 :
 ∀(a:List Int)(b:Int)(c:List ac)(d:List aF)(e:List aN),((a.length<=maxLen/\ ∀(f:Int),f∈a->0<=f/\f<=255)/\ab b)/\((c.length<=maxLen/\ ∀(f:ac),f∈c->CT.wf bH f)/\(d.length<=maxLen/\ ∀(f:aF),f∈d->CT.wf fy f)/\e.length<=maxLen/\ ∀(f:aN),f∈e->CT.wf dZ f)/\True->0<=b/\b<=(a.length:Int)->ad (decide ((c.length:Int)=0)) (az (a,b)/\ ∀(f:Int)(g:List Int)(h:Int),az (g,h)/\0<=f/\f<=4294967295->az (g,h)/\0<=f/\f<=4294967295) (az (a,b)/\ ∀(f:Int)(g:List Int)(h:Int),0<=f/\(f<(c.length:Int)∨f=0)/\az (g,h)->0<=f/\f<(c.length:Int)/\ ∀(i:Bool),i=decide ((wJ c f)=0)->ad (! i) (((! i)->(! i))/\az (g,h)/\ ∀(j:Int)(k:List Int)(l:Int),0<=j/\(j<12∨j=0)/\az (k,l)->(i=false->(! i))/\ad (bif i then true else decide (j=11)) (az (k,l)/\ ∀(m:Int)(n:List Int)(o:Int),az (n,o)/\0<=m/\m<=4294967295->az (n,o)/\0<=m/\m<=4294967295) (az (k,l)/\ ∀(m:Int)(n:List Int)
 (o:Int),0<=m/\(m<(wJ c f)∨m=0)/\az (n,o)->0<=m/\m<(wJ c f)/\az (n,o)/\0<=(List.getD (c.getD f.toNat default).1 m.toNat default).1/\(List.getD (c.getD f.toNat default).1 m.toNat default).1<=4294967295)) ((! i)=false/\(i=false->false=true)/\ad (bif i then true else false) (az (g,h)/\ ∀(j:Int)(k:List Int)(l:Int),az (k,l)/\0<=j/\j<=4294967295->az (k,l)/\0<=j/\j<=4294967295) (az (g,h)/\ ∀(j:Int)(k:List Int)(l:Int),0<=j/\(j<(wJ c f)∨j=0)/\az (k,l)->0<=j/\j<(wJ c f)/\az (k,l)/\0<=(List.getD (c.getD f.toNat default).1 j.toNat default).1/\(List.getD (c.getD f.toNat default).1 j.toNat default).1<=4294967295))):=by
  delta wJ
  rintro l p ns ls hs ⟨-,⟨⟨hnl,hnw⟩,-⟩,-⟩ hc
  refine ae (fun h=>?_) (fun h=>?_)
  ·exact⟨hc,fun x l2 p2 h=>h⟩
  have h:=of_decide_eq_false h
  refine⟨hc,?_⟩
  rintro x l2 p2 ⟨x0,x1,hc2⟩
  have x1:x<(ns.length:Int):=by omega
  have hX:=hnw _ (bL x0 x1)
  generalize ns.getD x.toNat default=X at hX ⊢
  have hp:=hX.1.2
  refine⟨x0,x1,?_⟩
  intro b hb
  refine ae (fun q=>?_) (fun q=>?_)
  ·have hb0:b=false:=by simpa using q
   subst hb0
   have hne:=of_decide_eq_false hb.symm
   refine⟨by simp,hc2,?_⟩
   rintro y l3 p3 ⟨y0,y1,hc3⟩
   rw[cond_false]
   (repeat refine⟨by simp,?_⟩)
   refine ae (fun q=>?_) (fun q=>?_)
   ·exact⟨hc3,fun x l2 p2 h=>h⟩
   ·refine⟨hc3,?_⟩
    rintro z l4 p4 ⟨z0,z1,hc4⟩
    have z1:z<(X.1.length:Int):=by omega
    have:=hp _ (bL z0 z1)
    exact⟨z0,z1,hc4,this.1⟩
  ·have hb0:b=true:=by simpa using q
   subst hb0
   refine⟨rfl,by simp,?_⟩
   rw[cond_true]
   exact⟨hc2,fun x l2 p2 h=>h⟩
theorem VN:av Tryz.prog GL 33 Jp.spec:=Cn.okH _ Tryz.func33 (by kernel_rfl) (ah (ah aA qU) LH) au ax8 (aB (by kernel_rfl) ad6)
end Go.RS
