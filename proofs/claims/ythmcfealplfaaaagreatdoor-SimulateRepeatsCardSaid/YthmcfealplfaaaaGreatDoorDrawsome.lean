/- Node1: what a node does with a packet: the program. -/
import Derived.Test.YthmcfealplfaaaaGreatDoorNodek
import Derived.Test.YthmcfealplfaaaaGreatDoorIdent
import Derived.Test.YthmcfealplfaaaaGreatDoorReply
namespace Go.RS
open Go.SX Go.Proofs
set_option maxRecDepth 100000
set_option linter.unusedVariables false
abbrev af8:OT := .pair (.dat (.sl cG)) (.pair cI (.pair (.row 3 cI) (.pair rT cI)))
abbrev mr:OT := .pair bH (.pair af8 (.pair cI (.pair cI (.pair (.dat (.sl bj)) j8))))
abbrev tI:CT := .pair cI (.sl bj)
abbrev cD:Type:=ac×bq×Int×Int×List Int×bY
abbrev lL:Type:=bq×(Int×List Int)×Int
def kq(h:bY):Int:=h.2.2.2.2.2.1
def gS(h:bY):Int:=h.2.2.2.2.2.2
def o4(h:bY):Int:=h.2.1
def uV(h:bY):Int:=h.2.2.1
def xj(h:bY):Int:=h.2.2.2.1
def bm(x:ac)(link:Int):Int:=max (cM x link) 0
def adr(x:ac)(i:Int):Int:=if i<0∨(aA x).length<=i then 0 else ((aA x).getD i.toNat default).1
def eM(s:bq)(a:Int):Bool:=mG (bh s) a&&decide (0<(aZ (bh s) a).2.1.length)
def jS(x:ac)(s:bq)(r:Rt)(k:mA):Int:=(i7 r.2.2 (Bs x) k (kP s) r.2.1.length).1
def ib(x:ac)(s:bq)(r:Rt)(k:mA):Int:=if r.2.1.length=1 then r.2.1.getD 0 default else r.2.1.getD (jS x s r k).toNat default
def OV(s:bq)(b:Int):bq:=(s.1,s.2.1,s.2.2.1,s.2.2.2.1,b)
def fy(s:bq)(r:Rt):bq:=if r.2.1.length=1 then s else OV s (IntKind.i64.wrap (kP s+1))
def xD(s:bq)(t:Int×Int):bq:=(s.1,s.2.1,s.2.2.1,t,s.2.2.2.2)
def nV(l:List Int)(i:Int):List Int:=if i<l.length then l.set i.toNat (IntKind.i64.wrap (l.getD i.toNat default+1)) else l
def MQ(s:bq)(i:Int):bq:=(s.1,IntKind.i64.wrap (s.2.1+1),nV s.2.2.1 i,s.2.2.2)
def ji(x:ac)(i link:Int):Int:=if jQ x=2 then adr x (cM x link) else if jQ x=3 then gg x else if jQ x=4 then nP x else adr x i
def ga(w:cD)(s:bq):cD:=(w.1,s,w.2.2)
def sI(w:cD)(h:bY):cD:=(w.1,w.2.1,w.2.2.1,w.2.2.2.1,w.2.2.2.2.1,h)
def gn:Int×List Int:=(0,[])
def jn(w:cD):(Int×Int)×Bool:=ix (iq w.1) (pt w.2.1) w.2.2.2.1
def gX(w:cD):bq:=MQ (xD w.2.1 (jn w).1) (bm w.1 w.2.2.1)
def gZ(w:cD):Rt:=aZ (bh w.2.1) (kq w.2.2.2.2.2)
def iJ(B:Int->Int->List Int)(w:cD):Int:=ib w.1 (gX w) (gZ w) (fv (B (adr w.1 (bm w.1 w.2.2.1)) 0))
def fM(w:cD):Int:=jF w.1 (xD w.2.1 (jn w).1) (bm w.1 w.2.2.1) w.2.2.2.1 (o4 w.2.2.2.2.2) (kq w.2.2.2.2.2)
def hV(B:Int->Int->List Int)(w:cD)(own:Int):Int:=if own=0 then ji w.1 (bm w.1 w.2.2.1) (iJ B w) else own
def cz(B:Int->Int->List Int)(E:Int->Int)(w:cD)(own:Int):lL :=
 if own=0/\jM w.1=true then (w.2.1,gn,4)
 else if E 0≠0 then (w.2.1,gn,6)
 else if eM w.2.1 (kq w.2.2.2.2.2)=false then (w.2.1,gn,8)
 else if (jn w).2=false then (xD w.2.1 (jn w).1,gn,5)
 else (fy (gX w) (gZ w),(iJ B w,B (hV B w own) (fM w)),2)
def dC(w:cD)(f i:Int):List Int:=gp w.2.2.2.2.1 f i (gM w.1)
def iN(w:cD)(i:Int):Int:=fa w.2.2.2.2.1 i (gM w.1)
def cX(w:cD)(kind code f i:Int):List Int:=gF w.2.2.2.2.1 f kind code i (gM w.1)
def iF(w:cD)(kind code i:Int):Int:=ft w.2.2.2.2.1 kind code i (gM w.1)
def gf(w:cD):lL :=
 if w.2.2.1 = -1∨iN w 0≠0 then (w.2.1,gn,1)
 else cz (dC w) (iN w) w (if xj w.2.2.2.2.2=17 then 0 else gS w.2.2.2.2.2)
def dR(w:cD):lL :=
 if w.2.2.1 ≠ -1/\dq w.1=false/\uV w.2.2.2.2.2<2 then cz (cX w 11 0) (iF w 11 0) w 0
 else if eM w.2.1 (gS w.2.2.2.2.2)=false then (if w.2.2.1 = -1 then (w.2.1,gn,8) else cz (cX w 3 0) (iF w 3 0) w 0)
 else (fy w.2.1 (aZ (bh w.2.1) (gS w.2.2.2.2.2)),(ib w.1 w.2.1 (aZ (bh w.2.1) (gS w.2.2.2.2.2)) (fv w.2.2.2.2.1),if w.2.2.1 ≠ -1/\dq w.1=false then gN w.2.2.2.2.1 else w.2.2.2.2.1),0)
def dP(w:cD):lL :=
 if bW w.2.2.2.2.1≠0 then (w.2.1,gn,6)
 else if jV w.1 (gS (aR w.2.2.2.2.1).1)=true then gf (sI w (aR w.2.2.2.2.1).1)
 else if lH w.1=true/\w.2.2.1 ≠ -1 then (w.2.1,gn,6)
 else dR (sI w (aR w.2.2.2.2.1).1)
def dJ(x:ac)(s:bq)(link at':Int)(b:List Int):lL:=dP (x,s,link,at',b,m8)
def lN(w:cD):Prop:=bM (bh w.2.1)/\okL (bh w.2.1)/\(w.2.2.2.2.1.length:Int)<=1000000
theorem Nj{way seed:Int}{k:mA}{count n:Int}(h:1<=n):0<=(i7 way seed k count n).1/\(i7 way seed k count n).1<n:=by
 have h1:=yv seed k
 have h2:=yv seed (k.1,k.2.1,0,0,0)
 unfold i7
 split
 ·exact⟨Int.le_refl _,by show (0:Int)<n;omega⟩
 ·rename_i hn
  dsimp only
  split
  ·exact⟨Int.tmod_nonneg _ h1.1,Int.tmod_lt_of_pos _ (by omega)⟩
  ·split
   ·exact⟨Int.tmod_nonneg _ h2.1,Int.tmod_lt_of_pos _ (by omega)⟩
   ·exact⟨Int.tmod_nonneg _ (by omega),Int.tmod_lt_of_pos _ (by omega)⟩
theorem Bz{r:lL}{s:bq}{o:Int×List Int}{y:Int}(w:cD)(e:r=(s,o,y)):o=r.2.1/\y=r.2.2/\ga w s=ga w r.1:=by subst e;exact⟨rfl,rfl,rfl⟩
theorem uc{B:Int->Int->List Int}{E:Int->Int}{w:cD}{own:Int}(h:own=0/\jM w.1=true):cz B E w own=(w.2.1,gn,4):=by unfold cz;rw[if_pos h]
theorem tc{B:Int->Int->List Int}{E:Int->Int}{w:cD}{own:Int}(h:¬ (own=0/\jM w.1=true))(h1:E 0≠0):cz B E w own=(w.2.1,gn,6):=by unfold cz;rw[if_neg h,if_pos h1]
theorem vX{B:Int->Int->List Int}{E:Int->Int}{w:cD}{own:Int}(h:¬ (own=0/\jM w.1=true))(h1:¬ E 0≠0)(h2:eM w.2.1 (kq w.2.2.2.2.2)=false):cz B E w own=(w.2.1,gn,8):=by
 unfold cz;rw[if_neg h,if_neg h1,if_pos h2]
theorem ur{B:Int->Int->List Int}{E:Int->Int}{w:cD}{own:Int}(h:¬ (own=0/\jM w.1=true))(h1:¬ E 0≠0)(h2:¬ eM w.2.1 (kq w.2.2.2.2.2)=false)(h3:(jn w).2=false):cz B E w own=(xD w.2.1 (jn w).1,gn,5):=by
 unfold cz;rw[if_neg h,if_neg h1,if_neg h2,if_pos h3]
theorem uw{B:Int->Int->List Int}{E:Int->Int}{w:cD}{own:Int}(h:¬ (own=0/\jM w.1=true))(h1:¬ E 0≠0)(h2:¬ eM w.2.1 (kq w.2.2.2.2.2)=false)(h3:¬ (jn w).2=false) :
  cz B E w own=(fy (gX w) (gZ w),(iJ B w,B (hV B w own) (fM w)),2):=by
 unfold cz;rw[if_neg h,if_neg h1,if_neg h2,if_neg h3]
theorem xH{s:bq}{a:Int}(h:¬ eM s a=false):(aZ (bh s) a).2.1≠[]:=by
 intro e;apply h;unfold eM;rw[e];simp
theorem F2(p:oa):((cQ p).length:Int)<=1500:=by
 unfold cQ
 split
 ·rename_i h
  unfold da at h
  split at h
  ·cases h
  ·split at h
   ·cases h
   ·rw[List.length_append,oS];omega
 ·simp
theorem Ib(b:List Int)(src kind code id ttl:Int):((gF b src kind code id ttl).length:Int)<=1500:=by
 unfold gF;split
 ·exact F2 _
 ·simp
theorem ZW(b:List Int)(src id ttl:Int):((gp b src id ttl).length:Int)<=1500:=by
 unfold gp;split
 ·split
  ·exact F2 _
  ·split
   ·exact Ib ..
   ·exact F2 _
 ·simp
theorem IG(w:cD)(f i:Int):((dC w f i).length:Int)<=1500:=ZW ..
theorem Fo(w:cD)(k c f i:Int):((cX w k c f i).length:Int)<=1500:=Ib ..
theorem Az(x:ac)(k:Int):0<=bm x k:=by unfold bm;omega
theorem E6{l:List Int}{i:Int}(h:i<l.length):nV l i=l.set i.toNat (IntKind.i64.wrap (l.getD i.toNat default+1)):=if_pos h
theorem Ma{l:List Int}{i:Int}(h:¬ i<l.length):nV l i=l:=if_neg h
def JT:Ct:=⟨[.box 243 mr],[.val cI],fun d=>[],fun d=>((bm d.1.1 d.1.2.2.1,()),(d.1,()))⟩
def R0:ar JT.ps->az:=(fun _=>{})
def sf(a:ac)(b:List aF)(c:Int)(d:List Int)(e f g h i:Int)(j:List Int)(k:bY) :=
 CT.wf bH a/\((b.length<=maxLen/\ ∀(l:aF),l∈b->((0<=l.1.1/\l.1.1<=4294967295)/\ab l.1.2)/\(l.2.1.length<=maxLen/\ ∀(m:Int),m∈l.2.1->ab m)/\ab l.2.2)/\ab c/\(d.length<=maxLen/\ ∀(l:Int),l∈d->ab l)/\(ab e/\ab f)/\ab g)/\ab h/\ab i/\(j.length<=maxLen/\ ∀(l:Int),l∈j->0<=l/\l<=255)/\CT.wf j8 k
def ml(a:ac)(b:List aF)(c:Int)(d:List Int)(e f g h i:Int)(j:List Int)(k:bY) :=
 (a,(b,c,d,(e,f),g),h,i,j,k)=(a,(b,c,d,(e,f),g),h,i,j,k)
theorem ab0 :
 ∀(a:ac)(b:List aF)(c:Int)(d:List Int)(e f g h i:Int)(j:List Int)(k:bY),(sf a b c d e f g h i j k)/\True->True->max (cM a h) (0:Int)=bm a h/\(ml a b c d e f g h i j k):=by
  delta sf ml
  intros
  exact⟨rfl,rfl⟩
theorem LX:ax Tryz.prog GL 272 JT.spec:=Ct.okH _ Tryz.func272 (by kernel_rfl) (ah aD AE) av R0 (aC (by kernel_rfl) ab0)
def Pb:Ct:=⟨[.box 243 mr,.val cI],[.val cj],fun d=>[],fun d=>((adr d.1.1 d.2.1,()),(d.1,()))⟩
def Wq:ar Pb.ps->az:=(fun _=>{})
def wH(a:ac)(b:List aF)(c:Int)(d:List Int)(e f g h i:Int)(j:List Int)(k:bY) :=
 CT.wf bH a/\((b.length<=maxLen/\ ∀(m:aF),m∈b->((0<=m.1.1/\m.1.1<=4294967295)/\ab m.1.2)/\(m.2.1.length<=maxLen/\ ∀(n:Int),n∈m.2.1->ab n)/\ab m.2.2)/\ab c/\(d.length<=maxLen/\ ∀(m:Int),m∈d->ab m)/\(ab e/\ab f)/\ab g)/\ab h/\ab i/\(j.length<=maxLen/\ ∀(m:Int),m∈j->0<=m/\m<=255)/\CT.wf j8 k
def uC(m:Bool) :=
 (! m)->((! m)->(! m))/\True
theorem VP :
 ∀(a:ac)(b:List aF)(c:Int)(d:List Int)(e f g h i:Int)(j:List Int)(k:bY)(l:Int),(wH a b c d e f g h i j k)/\ab l/\True->True-> ∀(m:Bool),m=decide (l<0)->(uC m)/\(uC m)/\(uC m)/\(uC m)/\(uC m)/\((! m)->((! m)->(! m))/\((! m)->(! m))/\True)/\(m=false->(! m))/\ad (bif m then true else decide ((a.1.length:Int)<=l)) ((0:Int)=adr a l/\(ml a b c d e f g h i j k)) (0<=l/\l<(a.1.length:Int)/\(List.getD a.1 l.toNat default).1=adr a l/\(ml a b c d e f g h i j k)):=by
  delta wH uC ml
  rintro d x x1 x2 x3 x4 x5 x6 x7 x8 h i - -
  (repeat (intro (b_:Bool) (hb_:b_=_);(repeat refine⟨(by first|(simp;done)|(rw[hb_];simp;done)|(rw[hb_];simp;omega)|(rw[hb_];simp;intros;omega)|(rw[hb_];simp +contextual;done)),?_⟩);subst hb_))
  refine qp (fun ho=>?_) (fun h1 h2=>?_)
  ·unfold adr
   rw[if_pos (by rcases ho with q|q <;> have:=of_decide_eq_true q <;> first|exact .inl this|exact .inr this)]
   exact⟨rfl,rfl⟩
  ·have h1:=of_decide_eq_false h1
   have h2:=of_decide_eq_false h2
   refine⟨by omega,by omega,?_,rfl⟩
   unfold adr
   rw[if_neg (by rintro (q|q);exact h1 q;exact h2 q)]
   rfl
theorem Ce:ax Tryz.prog GL 273 Pb.spec:=Ct.okH _ Tryz.func273 (by kernel_rfl) aD av Wq (aC (by kernel_rfl) VP)
def I4:Ct:=⟨[.box 243 mr,.agg cG,.val (.sl bj)],[.val cI],fun d=>[d.2.1.2.1≠[],(d.2.2.1.length:Int)<=1000000],fun d=>((ib d.1.1 d.1.2.1 d.2.1 (fv d.2.2.1),()),(ga d.1 (fy d.1.2.1 d.2.1),()))⟩
def Wz:ar I4.ps->az:=(fun _=>{})
theorem Ys :
 ∀(a:ac)(b:List aF)(c:Int)(d:List Int)(e f g h i:Int)(j:List Int)(k:bY)(l m:Int)(n:List Int)(o:Int)(p:List Int),(CT.wf bH a/\((b.length<=maxLen/\ ∀(q:aF),q∈b->((0<=q.1.1/\q.1.1<=4294967295)/\ab q.1.2)/\(q.2.1.length<=maxLen/\ ∀(r:Int),r∈q.2.1->ab r)/\ab q.2.2)/\ab c/\(d.length<=maxLen/\ ∀(q:Int),q∈d->ab q)/\(ab e/\ab f)/\ab g)/\ab h/\ab i/\(j.length<=maxLen/\ ∀(q:Int),q∈j->0<=q/\q<=255)/\CT.wf j8 k)/\(((0<=l/\l<=4294967295)/\ab m)/\(n.length<=maxLen/\ ∀(q:Int),q∈n->ab q)/\ab o)/\(p.length<=maxLen/\ ∀(q:Int),q∈p->0<=q/\q<=255)/\True->n≠([]:List Int)/\(p.length:Int)<=1000000->ad (decide ((n.length:Int)=1)) ((0:Int)<=0/\0<(n.length:Int)/\n.getD (Int.toNat (0:Int)) default=ib a (b,c,d,(e,f),g) ((l,m),n,o) (fv p)/\(a,(b,c,d,(e,f),g),h,i,j,k)=ga (a,(b,c,d,(e,f),g),h,i,j,k) (fy (b,c,d,(e,f),g) ((l,m),n,o)))
 ((p.length:Int)<=1099511627776/\0<=(i7 o a.2.2.2.2.2.2.2.2.2.2.2.2.2.2 (fv p) g (n.length:Int)).1/\(i7 o a.2.2.2.2.2.2.2.2.2.2.2.2.2.2 (fv p) g (n.length:Int)).1<(n.length:Int)/\n.getD (Int.toNat (i7 o a.2.2.2.2.2.2.2.2.2.2.2.2.2.2 (fv p) g (n.length:Int)).1) default=ib a (b,c,d,(e,f),g) ((l,m),n,o) (fv p)/\(a,(b,c,d,(e,f),IntKind.wrap .i64 (g+(1:Int))),h,i,j,k)=ga (a,(b,c,d,(e,f),g),h,i,j,k) (fy (b,c,d,(e,f),g) ((l,m),n,o))):=by
  rintro d x x1 x2 x3 x4 x5 x6 x7 x8 h r1 r2 nx bl b-⟨hn,hb⟩
  have hpos:1<=(nx.length:Int):=by cases nx with
   | nil=>exact absurd rfl hn
   | cons a l=>simp;omega
  refine ae (fun h1=>?_) (fun h1=>?_)
  ·have h1:=of_decide_eq_true h1
   have h1':nx.length=1:=by omega
   refine⟨by omega,by omega,?_,?_⟩
   ·unfold ib;rw[if_pos h1'];rfl
   ·unfold fy;rw[if_pos h1'];rfl
  ·have h1:=of_decide_eq_false h1
   have h1':¬ nx.length=1:=by omega
   have hc:=Nj (way:=bl) (seed:=d.2.2.2.2.2.2.2.2.2.2.2.2.2.2) (k:=fv b) (count:=x5) hpos
   refine⟨by omega,hc.1,hc.2,?_,?_⟩
   ·unfold ib;rw[if_neg h1'];rfl
   ·unfold fy;rw[if_neg h1'];rfl
theorem Gc:ax Tryz.prog GL 248 I4.spec:=Ct.okH _ Tryz.func248 (by kernel_rfl) (ah (ah aD QJ) VL) av Wz (aC (by kernel_rfl) Ys)
def Ji:Ct:=⟨[.box 243 mr,.val cj],[.agg cG,.val .bool],fun d=>[bM (bh d.1.2.1),okL (bh d.1.2.1)],fun d=>((aZ (bh d.1.2.1) d.2.1,eM d.1.2.1 d.2.1,()),(d.1,()))⟩
def ZS:ar Ji.ps->az:=(fun _=>{})
theorem ZO :
 ∀(a:ac)(b:List aF)(c:Int)(d:List Int)(e f g h i:Int)(j:List Int)(k:bY)(l:Int),(wH a b c d e f g h i j k)/\(0<=l/\l<=4294967295)/\True->(bM (bh (b,c,d,(e,f),g))/\((List.length (bh (b,c,d,(e,f),g))):Int)<=134217728/\ ∀(m:Rt),m∈bh (b,c,d,(e,f),g)->(m.2.1.length:Int)<=1099511627776)->bM b/\okL b/\ ∀(m:Bool),m=mG b l->(m->(m->m)/\True)/\(m->(m->m)/\True)/\(m->(m->m)/\True)/\(m->m)/\aZ b l=aZ (bh (b,c,d,(e,f),g)) l/\(bif m then decide (0<((List.length (aZ b l).2.1):Int)) else false)=eM (b,c,d,(e,f),g) l/\(ml a b c d e f g h i j k):=by
  delta wH ml
  rintro d x x1 x2 x3 x4 x5 x6 x7 x8 h a-⟨h1,h2⟩
  refine⟨h1,h2,?_⟩
  (repeat (intro (b_:Bool) (hb_:b_=_);(repeat refine⟨(by first|(simp;done)|(rw[hb_];simp;done)|(rw[hb_];simp;omega)|(rw[hb_];simp;intros;omega)|(rw[hb_];simp +contextual;done)),?_⟩);subst hb_))
  refine⟨rfl,?_,rfl⟩
  show (bif mG x a then decide (0<((aZ x a).2.1.length:Int)) else false)=(mG x a&&decide (0<(aZ x a).2.1.length))
  cases mG x a <;> simp
theorem ES:ax Tryz.prog GL 247 Ji.spec:=Ct.okH _ Tryz.func247 (by kernel_rfl) (ah aD UN) av ZS (aC (by kernel_rfl) ZO)
def Oc:Ct:=⟨[.val cj,.val cI,.box 241 (.ref 243 mr),.box 3 cI,.box 3 cI],[.own 5 bj,.val cI],fun d=>[(d.2.2.1.2.2.2.2.1.length:Int)<=1000000],fun d=>((cX d.2.2.1 d.2.2.2.1 d.2.2.2.2.1 d.1 d.2.1,iF d.2.2.1 d.2.2.2.1 d.2.2.2.2.1 d.2.1,()),(d.2.2.1,d.2.2.2.1,d.2.2.2.2.1,()))⟩
def ap8:ar Oc.ps->az:=(fun _=>{})
theorem W6 :
 ∀(a b:Int)(c:ac)(d:List aF)(e:Int)(f:List Int)(g h i j k:Int)(l:List Int)(m:bY)(n o:Int),(0<=a/\a<=4294967295)/\ab b/\(CT.wf bH c/\((d.length<=maxLen/\ ∀(p:aF),p∈d->((0<=p.1.1/\p.1.1<=4294967295)/\ab p.1.2)/\(p.2.1.length<=maxLen/\ ∀(q:Int),q∈p.2.1->ab q)/\ab p.2.2)/\ab e/\(f.length<=maxLen/\ ∀(p:Int),p∈f->ab p)/\(ab g/\ab h)/\ab i)/\ab j/\ab k/\(l.length<=maxLen/\ ∀(p:Int),p∈l->0<=p/\p<=255)/\CT.wf j8 m)/\ab n/\ab o/\True->(l.length:Int)<=1000000->(l.length:Int)<=1099511627776/\gF l a n o b c.2.2.2.2.2.2.2.2.2.2.2.2.2.1=cX (c,(d,e,f,(g,h),i),j,k,l,m) n o a b/\ft l n o b c.2.2.2.2.2.2.2.2.2.2.2.2.2.1=iF (c,(d,e,f,(g,h),i),j,k,l,m) n o b/\(c,(d,e,f,(g,h),i),j,k,l,m)=(c,(d,e,f,(g,h),i),j,k,l,m)/\n=n/\o=o:=by
  rintro x x1 d y y1 y2 y3 y4 y5 y6 y7 b h k c-hb
  exact⟨by omega,rfl,rfl,rfl,rfl,rfl⟩
theorem Vx:ax Tryz.prog GL 277 Oc.spec:=Ct.okH _ Tryz.func277 (by kernel_rfl) (ah aD N9) av ap8 (aC (by kernel_rfl) W6)
def IS:Ct:=⟨[.box 243 mr,.val cI,.val cI],[.fn 277 3,.box 241 .ali,.box 3 cI,.box 3 cI],fun d=>[],fun d=>(((),(),d.2.1,d.2.2.1,()),(d.1,()))⟩
def aq5:ar IS.ps->az:=(fun _=>{})
def xu(n:aF) :=
 ((0<=n.1.1/\n.1.1<=4294967295)/\ab n.1.2)/\(n.2.1.length<=maxLen/\ ∀(o:Int),o∈n.2.1->ab o)/\ab n.2.2
def zk(a:ac)(b:List aF)(c:Int)(d:List Int)(e f g h i:Int)(j:List Int)(k:bY) :=
 CT.wf bH a/\((b.length<=maxLen/\ ∀(n:aF),n∈b->(xu n))/\ab c/\(d.length<=maxLen/\ ∀(n:Int),n∈d->ab n)/\(ab e/\ab f)/\ab g)/\ab h/\ab i/\(j.length<=maxLen/\ ∀(n:Int),n∈j->0<=n/\n<=255)/\CT.wf j8 k
theorem Zu :
 ∀(a:ac)(b:List aF)(c:Int)(d:List Int)(e f g h i:Int)(j:List Int)(k:bY)(l m:Int),(zk a b c d e f g h i j k)/\ab l/\ab m/\True->True->()=()/\()=()/\l=l/\m=m/\(ml a b c d e f g h i j k):=by
  delta zk xu ml
  intros
  exact⟨rfl,rfl,rfl,rfl,rfl⟩
theorem Sa:ax Tryz.prog GL 246 IS.spec:=Ct.okH _ Tryz.func246 (by kernel_rfl) aD av aq5 (aC (by kernel_rfl) Zu)
def LM:Ct:=⟨[.val cj,.val cI,.box 241 (.ref 243 mr)],[.own 5 bj,.val cI],fun d=>[(d.2.2.1.2.2.2.2.1.length:Int)<=1000000],fun d=>((dC d.2.2.1 d.1 d.2.1,iN d.2.2.1 d.2.1,()),(d.2.2.1,()))⟩
def aa1:ar LM.ps->az:=(fun _=>{})
theorem TJ :
 ∀(a b:Int)(c:ac)(d:List aF)(e:Int)(f:List Int)(g h i j k:Int)(l:List Int)(m:bY),(0<=a/\a<=4294967295)/\ab b/\(CT.wf bH c/\((d.length<=maxLen/\ ∀(n:aF),n∈d->(xu n))/\ab e/\(f.length<=maxLen/\ ∀(n:Int),n∈f->ab n)/\(ab g/\ab h)/\ab i)/\ab j/\ab k/\(l.length<=maxLen/\ ∀(n:Int),n∈l->0<=n/\n<=255)/\CT.wf j8 m)/\True->(l.length:Int)<=1000000->(l.length:Int)<=1099511627776/\gp l a b c.2.2.2.2.2.2.2.2.2.2.2.2.2.1=dC (c,(d,e,f,(g,h),i),j,k,l,m) a b/\fa l b c.2.2.2.2.2.2.2.2.2.2.2.2.2.1=iN (c,(d,e,f,(g,h),i),j,k,l,m) b/\(c,(d,e,f,(g,h),i),j,k,l,m)=(c,(d,e,f,(g,h),i),j,k,l,m):=by
  delta xu
  rintro x x1 d y y1 y2 y3 y4 y5 y6 y7 b h-hb
  exact⟨by omega,rfl,rfl,rfl⟩
theorem M8:ax Tryz.prog GL 243 LM.spec:=Ct.okH _ Tryz.func243 (by kernel_rfl) (ah aD TT) av aa1 (aC (by kernel_rfl) TJ)
def NJ:Ct:=⟨[.box 243 mr,.val cI,.val cI],[.val cj],fun d=>[],fun d=>((ji d.1.1 d.2.1 d.2.2.1,()),(d.1,()))⟩
def Yc:ar NJ.ps->az:=(fun _=>{})
theorem Xh :
 ∀(a:ac)(b:List aF)(c:Int)(d:List Int)(e f g h i:Int)(j:List Int)(k:bY)(l m:Int),(zk a b c d e f g h i j k)/\ab l/\ab m/\True->True->ad (decide (a.2.2.2.2.2.1=2)) (adr a (cM a m)=ji a l m/\(ml a b c d e f g h i j k)) (ad (decide (a.2.2.2.2.2.1=3)) (a.2.1=ji a l m/\(ml a b c d e f g h i j k)) (ad (decide (a.2.2.2.2.2.1=4)) (a.2.2.2.2.2.2.1=ji a l m/\(ml a b c d e f g h i j k)) (adr a l=ji a l m/\(ml a b c d e f g h i j k)))):=by
  delta zk xu ml
  rintro d x x1 x2 x3 x4 x5 x6 x7 x8 h i l - -
  unfold ji jQ gg nP
  refine ae (fun h1=>?_) (fun h1=>?_)
  ·rw[if_pos (of_decide_eq_true h1)];exact⟨rfl,rfl⟩
  rw[if_neg (of_decide_eq_false h1)]
  refine ae (fun h2=>?_) (fun h2=>?_)
  ·rw[if_pos (of_decide_eq_true h2)];exact⟨rfl,rfl⟩
  rw[if_neg (of_decide_eq_false h2)]
  refine ae (fun h3=>?_) (fun h3=>?_)
  ·rw[if_pos (of_decide_eq_true h3)];exact⟨rfl,rfl⟩
  rw[if_neg (of_decide_eq_false h3)]
  exact⟨rfl,rfl⟩
theorem IN:ax Tryz.prog GL 276 NJ.spec:=Ct.okH _ Tryz.func276 (by kernel_rfl) (ah (ah aD AE) Ce) av Yc (aC (by kernel_rfl) Xh)
def M1:Ct:=⟨[.box 243 mr,.fn 243 1,.box 241 .ali,.val cj],[.agg tI,.val cI],fun d=>[lN d.1],fun d=>(((cz (dC d.1) (iN d.1) d.1 d.2.2.2.1).2.1,(cz (dC d.1) (iN d.1) d.1 d.2.2.2.1).2.2,()),(ga d.1 (cz (dC d.1) (iN d.1) d.1 d.2.2.2.1).1,(),()))⟩
def Sm:ar M1.ps->az:=(fun d=>{cuts:=(fun n=>match n with|17=>some (fun S=>{ι:=Int×(List Int)×(Int×Int),qn:=⟨fun k_=>∀(k:Int)(l:(List Int))(t:(Int×Int)),k_ (k,l,t),fun k_ h_ i=>h_ i.1 i.2.1 i.2.2,fun k_=>∃ (k:Int) (l:(List Int)) (t:(Int×Int)),k_ (k,l,t),fun k_ ⟨k,l,t,h_⟩=>⟨_,h_⟩⟩,inv:=fun i=>cz (dC d.1) (iN d.1) d.1 d.2.2.2.1=(fy (gX d.1) (gZ d.1),(iJ (dC d.1) d.1,(dC d.1) (hV (dC d.1) d.1 d.2.2.2.1) (fM d.1)),2)/\(gZ d.1).2.1≠[]/\(bh d.1.2.1,i.1,i.2.1,i.2.2,kP d.1.2.1)=gX d.1,keep:=[0,1,2,6,9,11],slots:=fun i=>[(8,.int .i64 (bm d.1.1 d.1.2.2.1)),(13,.int .i64 (fM d.1))],keepN:=[112,192,560,1048577],names:=fun i=>[(1048576,.live (.cells 243 (cB bH d.1.1++([.dsl cG (bh d.1.2.1),.int .i64 i.1,.own 524288 1]++(cB rT i.2.2++([.int .i64 (kP d.1.2.1),.int .i64 d.1.2.2.1,.int .i64 d.1.2.2.2.1,.dsl bj d.1.2.2.2.2.1]++cB j8 d.1.2.2.2.2.2)))))),(524288,.live (.row 3 cI i.2.1))]})|_=>none)})
def jI(a:ac)(b:List aF)(c:Int)(d:List Int)(e f g h i:Int)(j:List Int)(k:bY)(l:Int) :=
 cz (dC (a,(b,c,d,(e,f),g),h,i,j,k)) (iN (a,(b,c,d,(e,f),g),h,i,j,k)) (a,(b,c,d,(e,f),g),h,i,j,k) l
def cJ(b:List aF)(c:Int)(d:List Int)(e f g:Int)(k:bY) :=
 aZ (bh (b,c,d,(e,f),g)) k.2.2.2.2.2.1
def Fv(a:ac)(b:List aF)(c:Int)(d:List Int)(e f g h i:Int)(j:List Int)(k:bY)(l:Int) :=
 (fy (gX (a,(b,c,d,(e,f),g),h,i,j,k)) (gZ (a,(b,c,d,(e,f),g),h,i,j,k)),(iJ (dC (a,(b,c,d,(e,f),g),h,i,j,k)) (a,(b,c,d,(e,f),g),h,i,j,k),dC (a,(b,c,d,(e,f),g),h,i,j,k) (hV (dC (a,(b,c,d,(e,f),g),h,i,j,k)) (a,(b,c,d,(e,f),g),h,i,j,k) l) (fM (a,(b,c,d,(e,f),g),h,i,j,k))),(2:Int))
def kf(a:ac)(e f i:Int) :=
 ix a.2.2.2.2.2.2.2.2.2.2.1 (e,f) i
def qg(b:List aF)(c:Int)(d:List Int)(e f g:Int)(j:List Int) :=
 bM (bh (b,c,d,(e,f),g))/\okL (bh (b,c,d,(e,f),g))/\(j.length:Int)<=1000000
def kv :=
 ((0:Int),([]:List Int))
def Gg(a:ac)(b:List aF)(c:Int)(d:List Int)(e f g h i:Int)(j:List Int)(k:bY)(l n:Int)(o:List Int)(p:Int×Int) :=
 cz (dC (a,(b,c,d,(e,f),g),h,i,j,k)) (iN (a,(b,c,d,(e,f),g),h,i,j,k)) (a,(b,c,d,(e,f),g),h,i,j,k) l=(Fv a b c d e f g h i j k l)/\(gZ (a,(b,c,d,(e,f),g),h,i,j,k)).2.1≠([]:List Int)/\(bh (b,c,d,(e,f),g),n,o,p,kP (b,c,d,(e,f),g))=gX (a,(b,c,d,(e,f),g),h,i,j,k)
theorem ag5 :
 ∀(a:ac)(b:List aF)(c:Int)(d:List Int)(e f g h i:Int)(j:List Int)(k:bY)(l:Int),(wH a b c d e f g h i j k)/\True/\True/\(0<=l/\l<=4294967295)/\True->(qg b c d e f g j)-> ∀(m:Bool),m=decide (l=0)->(m->(m->m)/\True)/\(m->(m->m)/\True)/\(m->(m->m)/\True)/\(m->(m->m)/\True)/\(m->m)/\ad (bif m then a.2.2.2.2.2.2.2.2.2.2.2.1 else false) ((kv)=(jI a b c d e f g h i j k l).2.1/\(4:Int)=(jI a b c d e f g h i j k l).2.2/\(a,(b,c,d,(e,f),g),h,i,j,k)=ga (a,(b,c,d,(e,f),g),h,i,j,k) (jI a b c d e f g h i j k l).1/\()=()) ((j.length:Int)<=1000000/\ad (! decide (iN (a,(b,c,d,(e,f),g),h,i,j,k) (0:Int)=0)) ((kv)=(jI a b c d e f g h i j k l).2.1/\(6:Int)=(jI a b c d e f g h i j k l).2.2/\(a,(b,c,d,(e,f),g),h,i,j,k)=ga (a,(b,c,d,(e,f),g),h,i,j,k) (jI a b c d e f g h i j k l).1/\()=()) (bM (bh (b,c,d,(e,f),g))/\okL (bh (b,c,d,(e,f),g))/\ad (! eM
 (b,c,d,(e,f),g) k.2.2.2.2.2.1) ((kv)=(jI a b c d e f g h i j k l).2.1/\(8:Int)=(jI a b c d e f g h i j k l).2.2/\(a,(b,c,d,(e,f),g),h,i,j,k)=ga (a,(b,c,d,(e,f),g),h,i,j,k) (jI a b c d e f g h i j k l).1/\()=()) (ad (! (kf a e f i).2) ((kv)=(jI a b c d e f g h i j k l).2.1/\(5:Int)=(jI a b c d e f g h i j k l).2.2/\(a,(b,c,d,(kf a e f i).1,g),h,i,j,k)=ga (a,(b,c,d,(e,f),g),h,i,j,k) (jI a b c d e f g h i j k l).1/\()=()) (ad (decide (bm a h<(d.length:Int))) (0<=bm a h/\bm a h<(d.length:Int)/\0<=bm a h/\bm a h<(d.length:Int)/\ ∃(n:Int) (o:List Int),∃(p:Int×Int),(Gg a b c d e f g h i j k l n o p)/\l=l/\bm a h=bm a h/\jF a (b,c,d,(kf a e f i).1,g) (bm a h) i k.2.1 k.2.2.2.2.2.1=fM (a,(b,c,d,(e,f),g),h,i,j,k)/\(0:Int)=0/\(cJ b c d e f g k).1.1=(cJ b c d e f g k).1.1/\(cJ b c d e f g k).1.2=(cJ b c d e f g k).1.2/\(cJ b c d e f g
 k).2.1=(cJ b c d e f g k).2.1/\(cJ b c d e f g k).2.2=(cJ b c d e f g k).2.2/\dC (a,(b,c,d,(e,f),g),h,i,j,k) (adr a (bm a h)) (0:Int)=dC (a,(b,c,d,(e,f),g),h,i,j,k) (adr a (bm a h)) (0:Int)/\a.1=a.1/\a.2.1=a.2.1/\a.2.2.1=a.2.2.1/\a.2.2.2.1=a.2.2.2.1/\a.2.2.2.2.1=a.2.2.2.2.1/\a.2.2.2.2.2.1=a.2.2.2.2.2.1/\a.2.2.2.2.2.2.1=a.2.2.2.2.2.2.1/\a.2.2.2.2.2.2.2.1=a.2.2.2.2.2.2.2.1/\a.2.2.2.2.2.2.2.2.1=a.2.2.2.2.2.2.2.2.1/\a.2.2.2.2.2.2.2.2.2.1=a.2.2.2.2.2.2.2.2.2.1/\a.2.2.2.2.2.2.2.2.2.2.1.1=a.2.2.2.2.2.2.2.2.2.2.1.1/\a.2.2.2.2.2.2.2.2.2.2.1.2=a.2.2.2.2.2.2.2.2.2.2.1.2/\a.2.2.2.2.2.2.2.2.2.2.2.1=a.2.2.2.2.2.2.2.2.2.2.2.1/\a.2.2.2.2.2.2.2.2.2.2.2.2.1=a.2.2.2.2.2.2.2.2.2.2.2.2.1/\a.2.2.2.2.2.2.2.2.2.2.2.2.2.1=a.2.2.2.2.2.2.2.2.2.2.2.2.2.1/\a.2.2.2.2.2.2.2.2.2.2.2.2.2.2=a.2.2.2.2.2.2.2.2.2.2.2.2.2.2/\b=bh (b,c,d,(e,f),g)/\IntKind.wrap .i64 (c+(1:Int))=n/\(kf a e f
 i).1.1=p.1/\(kf a e f i).1.2=p.2/\g=kP (b,c,d,(e,f),g)/\h=h/\i=i/\j=j/\k.1=k.1/\k.2.1=k.2.1/\k.2.2.1=k.2.2.1/\k.2.2.2.1=k.2.2.2.1/\k.2.2.2.2.1=k.2.2.2.2.1/\k.2.2.2.2.2.1=k.2.2.2.2.2.1/\k.2.2.2.2.2.2=k.2.2.2.2.2.2/\List.set d (Int.toNat (bm a h)) (IntKind.wrap .i64 (d.getD (Int.toNat (bm a h)) default+(1:Int)))=o/\True) (∃(n:Int) (o:List Int),∃(p:Int×Int),(Gg a b c d e f g h i j k l n o p)/\l=l/\bm a h=bm a h/\jF a (b,c,d,(kf a e f i).1,g) (bm a h) i k.2.1 k.2.2.2.2.2.1=fM (a,(b,c,d,(e,f),g),h,i,j,k)/\(0:Int)=0/\(cJ b c d e f g k).1.1=(cJ b c d e f g k).1.1/\(cJ b c d e f g k).1.2=(cJ b c d e f g k).1.2/\(cJ b c d e f g k).2.1=(cJ b c d e f g k).2.1/\(cJ b c d e f g k).2.2=(cJ b c d e f g k).2.2/\dC (a,(b,c,d,(e,f),g),h,i,j,k) (adr a (bm a h)) (0:Int)=dC (a,(b,c,d,(e,f),g),h,i,j,k) (adr a (bm a h))
 (0:Int)/\a.1=a.1/\a.2.1=a.2.1/\a.2.2.1=a.2.2.1/\a.2.2.2.1=a.2.2.2.1/\a.2.2.2.2.1=a.2.2.2.2.1/\a.2.2.2.2.2.1=a.2.2.2.2.2.1/\a.2.2.2.2.2.2.1=a.2.2.2.2.2.2.1/\a.2.2.2.2.2.2.2.1=a.2.2.2.2.2.2.2.1/\a.2.2.2.2.2.2.2.2.1=a.2.2.2.2.2.2.2.2.1/\a.2.2.2.2.2.2.2.2.2.1=a.2.2.2.2.2.2.2.2.2.1/\a.2.2.2.2.2.2.2.2.2.2.1.1=a.2.2.2.2.2.2.2.2.2.2.1.1/\a.2.2.2.2.2.2.2.2.2.2.1.2=a.2.2.2.2.2.2.2.2.2.2.1.2/\a.2.2.2.2.2.2.2.2.2.2.2.1=a.2.2.2.2.2.2.2.2.2.2.2.1/\a.2.2.2.2.2.2.2.2.2.2.2.2.1=a.2.2.2.2.2.2.2.2.2.2.2.2.1/\a.2.2.2.2.2.2.2.2.2.2.2.2.2.1=a.2.2.2.2.2.2.2.2.2.2.2.2.2.1/\a.2.2.2.2.2.2.2.2.2.2.2.2.2.2=a.2.2.2.2.2.2.2.2.2.2.2.2.2.2/\b=bh (b,c,d,(e,f),g)/\IntKind.wrap .i64 (c+(1:Int))=n/\(kf a e f i).1.1=p.1/\(kf a e f i).1.2=p.2/\g=kP
 (b,c,d,(e,f),g)/\h=h/\i=i/\j=j/\k.1=k.1/\k.2.1=k.2.1/\k.2.2.1=k.2.2.1/\k.2.2.2.1=k.2.2.2.1/\k.2.2.2.2.1=k.2.2.2.2.1/\k.2.2.2.2.2.1=k.2.2.2.2.2.1/\k.2.2.2.2.2.2=k.2.2.2.2.2.2/\d=o/\True)/\ ∀(n:Int)(o:List Int)(p:Int×Int),cz (dC (a,(b,c,d,(e,f),g),h,i,j,k)) (iN (a,(b,c,d,(e,f),g),h,i,j,k)) (a,(b,c,d,(e,f),g),h,i,j,k) l=(Fv a b c d e f g h i j k l)/\(gZ (a,(b,c,d,(e,f),g),h,i,j,k)).2.1≠([]:List Int)/\(bh (b,c,d,(e,f),g),n,o,p,kP (b,c,d,(e,f),g))=gX (a,(b,c,d,(e,f),g),h,i,j,k)->(cJ b c d e f g k).2.1≠([]:List Int)/\((List.length (dC (a,(b,c,d,(e,f),g),h,i,j,k) (adr a (bm a h)) (0:Int))):Int)<=1000000/\ad (decide (l=0)) ((j.length:Int)<=1000000/\(ib a (b,n,o,p,g) (cJ b c d e f g k) (fv (dC (a,(b,c,d,(e,f),g),h,i,j,k) (adr a (bm a h)) (0:Int))),dC (a,fy (b,n,o,p,g) (cJ b c d e f g k),h,i,j,k) (ji a (bm a h) (ib a (b,n,o,p,g)
 (cJ b c d e f g k) (fv (dC (a,(b,c,d,(e,f),g),h,i,j,k) (adr a (bm a h)) (0:Int))))) (fM (a,(b,c,d,(e,f),g),h,i,j,k)))=(jI a b c d e f g h i j k l).2.1/\(2:Int)=(jI a b c d e f g h i j k l).2.2/\(a,fy (b,n,o,p,g) (cJ b c d e f g k),h,i,j,k)=ga (a,(b,c,d,(e,f),g),h,i,j,k) (jI a b c d e f g h i j k l).1/\()=()) ((j.length:Int)<=1000000/\(ib a (b,n,o,p,g) (cJ b c d e f g k) (fv (dC (a,(b,c,d,(e,f),g),h,i,j,k) (adr a (bm a h)) (0:Int))),dC (a,fy (b,n,o,p,g) (cJ b c d e f g k),h,i,j,k) l (fM (a,(b,c,d,(e,f),g),h,i,j,k)))=(jI a b c d e f g h i j k l).2.1/\(2:Int)=(jI a b c d e f g h i j k l).2.2/\(a,fy (b,n,o,p,g) (cJ b c d e f g k),h,i,j,k)=ga (a,(b,c,d,(e,f),g),h,i,j,k) (jI a b c d e f g h i j k l).1/\()=()))))):=by
  delta jI cJ wH Fv kf qg kv Gg
  rintro d x x1 x2 x3 x4 x5 x6 x7 x8 h own-⟨hs,hl,hb⟩
  obtain⟨w,hw⟩:∃ w:cD,w=(d,(x,x1,x2,(x3,x4),x5),x6,x7,x8,h):=⟨_,rfl⟩
  have e0:d.2.2.2.2.2.2.2.2.2.2.2.1=jM w.1:=by rw[hw];rfl
  have e2:eM (x,x1,x2,(x3,x4),x5) h.2.2.2.2.2.1=eM w.2.1 (kq w.2.2.2.2.2):=by rw[hw];rfl
  have e3:ix d.2.2.2.2.2.2.2.2.2.2.1 (x3,x4) x7=jn w:=by rw[hw];rfl
  rw[e0,e2,e3,← hw]
  have fin:=fun {s o y}=>Bz (r:=cz (dC w) (iN w) w own) (s:=s) (o:=o) (y:=y) w
  intro b hb0
  (repeat refine⟨(by first|(simp;done)|(rw[hb0];simp;done)|(cases b <;> simp)),?_⟩)
  have hq:(bif b then jM w.1 else false)=true↔own=0/\jM w.1=true:=by rw[hb0];by_cases k:own=0 <;> simp[k]
  refine ae (fun h0=>?_) (fun h0=>?_)
  ·obtain⟨f1,f2,f3⟩:=fin (uc (hq.1 h0))
   exact⟨f1,f2,by rw[← f3,hw];rfl,rfl⟩
  have h0:¬ (own=0/\jM w.1=true):=fun k=>by rw[hq.2 k] at h0;cases h0
  refine⟨hb,ae (fun h1=>?_) (fun h1=>?_)⟩
  ·obtain⟨f1,f2,f3⟩:=fin (tc h0 (by simpa using h1))
   exact⟨f1,f2,by rw[← f3,hw];rfl,rfl⟩
  have h1:¬ (iN w) 0≠0:=by simpa using h1
  refine⟨hs,hl,ae (fun h2=>?_) (fun h2=>?_)⟩
  ·obtain⟨f1,f2,f3⟩:=fin (vX h0 h1 (by simpa using h2))
   exact⟨f1,f2,by rw[← f3,hw];rfl,rfl⟩
  have h2:¬ eM w.2.1 (kq w.2.2.2.2.2)=false:=by simpa using h2
  refine ae (fun h3=>?_) (fun h3=>⟨?_,?_⟩)
  ·obtain⟨f1,f2,f3⟩:=fin (ur h0 h1 h2 (by simpa using h3))
   exact⟨f1,f2,by rw[← f3,hw];rfl,rfl⟩
  ·have h3:¬ (jn w).2=false:=by simpa using h3
   have eg:=uw (B:=dC w) h0 h1 h2 h3
   have hne:(gZ w).2.1≠[]:=xH h2
   have hin:=Az d x6
   have o4:jF d (x,x1,x2,(jn w).1,x5) (bm d x6) x7 h.2.1 h.2.2.2.2.2.1=fM w:=by rw[← e3,hw];rfl
   have hS:gX w=(x,IntKind.i64.wrap (x1+1),nV x2 (bm d x6),(jn w).1,x5):=by rw[← e3,hw];rfl
   refine ae (fun h4=>?_) (fun h4=>?_)
   ·have h4:=of_decide_eq_true h4
    refine⟨hin,h4,hin,h4,_,_,_,⟨eg,hne,?_⟩,rfl,rfl,o4,(by repeat' first|exact trivial|refine⟨trivial,?_⟩|refine⟨(by with_reducible rfl),?_⟩|refine⟨ai (by omega) (by omega),?_⟩|refine⟨rfl,?_⟩)⟩
    rw[hS,E6 h4];rfl
   ·have h4:=of_decide_eq_false h4
    refine⟨_,_,_,⟨eg,hne,?_⟩,rfl,rfl,o4,(by repeat' first|exact trivial|refine⟨trivial,?_⟩|refine⟨(by with_reducible rfl),?_⟩|refine⟨ai (by omega) (by omega),?_⟩|refine⟨rfl,?_⟩)⟩
    rw[hS,Ma h4];rfl
  ·rintro k l t ⟨eg,hne,hS⟩
   have e4:aZ (bh (x,x1,x2,(x3,x4),x5)) h.2.2.2.2.2.1=gZ w:=by rw[hw];rfl
   have e5:(x,k,l,t,x5)=gX w:=hS
   have e6:ib d (gX w) (gZ w) (fv ((dC w) (adr d (bm d x6)) 0))=iJ (dC w) w:=by rw[hw];rfl
   rw[e4,e5,e6]
   obtain⟨f1,f2,f3⟩:=fin eg
   have hlen:=IG w (adr d (bm d x6)) 0
   refine⟨hne,by omega,ae (fun h4=>?_) (fun h4=>?_)⟩
   ·have h4:=of_decide_eq_true h4
    refine⟨hb,?_,f2,by rw[← f3,hw];rfl,rfl⟩
    rw[← f1];unfold hV;rw[if_pos h4,hw];rfl
   ·have h4:=of_decide_eq_false h4
    refine⟨hb,?_,f2,by rw[← f3,hw];rfl,rfl⟩
    rw[← f1];unfold hV;rw[if_neg h4,hw];rfl
theorem Wn:ax Tryz.prog GL 245 M1.spec:=Ct.okH _ Tryz.func245 (by kernel_rfl) (ah (ah (ah (ah (ah (ah (ah (ah aD LX) Ce) M8) ES) LB) NN) Gc) IN) av Sm (aC (by kernel_rfl) ag5)
def H9:Ct:=⟨[.box 243 mr,.fn 277 3,.box 241 .ali,.box 3 cI,.box 3 cI,.val cj],[.agg tI,.val cI],fun d=>[lN d.1],fun d=>(((cz (cX d.1 d.2.2.2.1 d.2.2.2.2.1) (iF d.1 d.2.2.2.1 d.2.2.2.2.1) d.1 d.2.2.2.2.2.1).2.1,(cz (cX d.1 d.2.2.2.1 d.2.2.2.2.1) (iF d.1 d.2.2.2.1 d.2.2.2.2.1) d.1 d.2.2.2.2.2.1).2.2,()),(ga d.1 (cz (cX d.1 d.2.2.2.1 d.2.2.2.2.1) (iF d.1 d.2.2.2.1 d.2.2.2.2.1) d.1 d.2.2.2.2.2.1).1,(),d.2.2.2.1,d.2.2.2.2.1,()))⟩
def TL:ar H9.ps->az:=(fun d=>{cuts:=(fun n=>match n with|17=>some (fun S=>{ι:=Int×(List Int)×(Int×Int),qn:=⟨fun k_=>∀(k:Int)(l:(List Int))(t:(Int×Int)),k_ (k,l,t),fun k_ h_ i=>h_ i.1 i.2.1 i.2.2,fun k_=>∃ (k:Int) (l:(List Int)) (t:(Int×Int)),k_ (k,l,t),fun k_ ⟨k,l,t,h_⟩=>⟨_,h_⟩⟩,inv:=fun i=>cz (cX d.1 d.2.2.2.1 d.2.2.2.2.1) (iF d.1 d.2.2.2.1 d.2.2.2.2.1) d.1 d.2.2.2.2.2.1=(fy (gX d.1) (gZ d.1),(iJ (cX d.1 d.2.2.2.1 d.2.2.2.2.1) d.1,(cX d.1 d.2.2.2.1 d.2.2.2.2.1) (hV (cX d.1 d.2.2.2.1 d.2.2.2.2.1) d.1 d.2.2.2.2.2.1) (fM d.1)),2)/\(gZ d.1).2.1≠[]/\(bh d.1.2.1,i.1,i.2.1,i.2.2,kP d.1.2.1)=gX d.1,keep:=[0,1,2,6,9,11],slots:=fun i=>[(8,.int .i64 (bm d.1.1 d.1.2.2.1)),(13,.int .i64 (fM d.1))],keepN:=[112,192,560,1048577,1048578,1048579],names:=fun i=>[(1048576,.live (.cells 243 (cB bH d.1.1++([.dsl cG (bh d.1.2.1),.int .i64 i.1,.own 524288 1]++(cB rT i.2.2++([.int .i64 (kP d.1.2.1),.int .i64 d.1.2.2.1,.int .i64 d.1.2.2.2.1,.dsl bj d.1.2.2.2.2.1]++cB j8 d.1.2.2.2.2.2)))))),(524288,.live (.row 3 cI i.2.1))]})|_=>none)})
def jD(a:ac)(b:List aF)(c:Int)(d:List Int)(e f g h i:Int)(j:List Int)(k:bY)(l m n:Int) :=
 cz (cX (a,(b,c,d,(e,f),g),h,i,j,k) l m) (iF (a,(b,c,d,(e,f),g),h,i,j,k) l m) (a,(b,c,d,(e,f),g),h,i,j,k) n
def Dm(a:ac)(b:List aF)(c:Int)(d:List Int)(e f g h i:Int)(j:List Int)(k:bY)(l m n:Int) :=
 (fy (gX (a,(b,c,d,(e,f),g),h,i,j,k)) (gZ (a,(b,c,d,(e,f),g),h,i,j,k)),(iJ (cX (a,(b,c,d,(e,f),g),h,i,j,k) l m) (a,(b,c,d,(e,f),g),h,i,j,k),cX (a,(b,c,d,(e,f),g),h,i,j,k) l m (hV (cX (a,(b,c,d,(e,f),g),h,i,j,k) l m) (a,(b,c,d,(e,f),g),h,i,j,k) n) (fM (a,(b,c,d,(e,f),g),h,i,j,k))),(2:Int))
def Eh(a:ac)(b:List aF)(c:Int)(d:List Int)(e f g h i:Int)(j:List Int)(k:bY)(l m n p:Int)(q:List Int)(r:Int×Int) :=
 cz (cX (a,(b,c,d,(e,f),g),h,i,j,k) l m) (iF (a,(b,c,d,(e,f),g),h,i,j,k) l m) (a,(b,c,d,(e,f),g),h,i,j,k) n=(Dm a b c d e f g h i j k l m n)/\(gZ (a,(b,c,d,(e,f),g),h,i,j,k)).2.1≠([]:List Int)/\(bh (b,c,d,(e,f),g),p,q,r,kP (b,c,d,(e,f),g))=gX (a,(b,c,d,(e,f),g),h,i,j,k)
theorem ah0 :
 ∀(a:ac)(b:List aF)(c:Int)(d:List Int)(e f g h i:Int)(j:List Int)(k:bY)(l m n:Int),(CT.wf bH a/\((b.length<=maxLen/\ ∀(o:aF),o∈b->((0<=o.1.1/\o.1.1<=4294967295)/\ab o.1.2)/\(o.2.1.length<=maxLen/\ ∀(p:Int),p∈o.2.1->ab p)/\ab o.2.2)/\ab c/\(d.length<=maxLen/\ ∀(o:Int),o∈d->ab o)/\(ab e/\ab f)/\ab g)/\ab h/\ab i/\(j.length<=maxLen/\ ∀(o:Int),o∈j->0<=o/\o<=255)/\CT.wf j8 k)/\True/\True/\ab l/\ab m/\(0<=n/\n<=4294967295)/\True->(qg b c d e f g j)-> ∀(o:Bool),o=decide (n=0)->(o->(o->o)/\True)/\(o->(o->o)/\True)/\(o->(o->o)/\True)/\(o->(o->o)/\True)/\(o->o)/\ad (bif o then a.2.2.2.2.2.2.2.2.2.2.2.1 else false) ((kv)=(jD a b c d e f g h i j k l m n).2.1/\(4:Int)=(jD a b c d e f g h i j k l m n).2.2/\(a,(b,c,d,(e,f),g),h,i,j,k)=ga (a,(b,c,d,(e,f),g),h,i,j,k) (jD a b c d e f g h i j k l m n).1/\()=()/\l=l/\m=m) ((j.length:Int)<=1000000/\ad (!
 decide (iF (a,(b,c,d,(e,f),g),h,i,j,k) l m (0:Int)=0)) ((kv)=(jD a b c d e f g h i j k l m n).2.1/\(6:Int)=(jD a b c d e f g h i j k l m n).2.2/\(a,(b,c,d,(e,f),g),h,i,j,k)=ga (a,(b,c,d,(e,f),g),h,i,j,k) (jD a b c d e f g h i j k l m n).1/\()=()/\l=l/\m=m) (bM (bh (b,c,d,(e,f),g))/\okL (bh (b,c,d,(e,f),g))/\ad (! eM (b,c,d,(e,f),g) k.2.2.2.2.2.1) ((kv)=(jD a b c d e f g h i j k l m n).2.1/\(8:Int)=(jD a b c d e f g h i j k l m n).2.2/\(a,(b,c,d,(e,f),g),h,i,j,k)=ga (a,(b,c,d,(e,f),g),h,i,j,k) (jD a b c d e f g h i j k l m n).1/\()=()/\l=l/\m=m) (ad (! (kf a e f i).2) ((kv)=(jD a b c d e f g h i j k l m n).2.1/\(5:Int)=(jD a b c d e f g h i j k l m n).2.2/\(a,(b,c,d,(kf a e f i).1,g),h,i,j,k)=ga (a,(b,c,d,(e,f),g),h,i,j,k) (jD a b c d e f g h i j k l m n).1/\()=()/\l=l/\m=m) (ad (decide (bm a h<(d.length:Int))) (0<=bm a h/\bm
 a h<(d.length:Int)/\0<=bm a h/\bm a h<(d.length:Int)/\ ∃(p:Int) (q:List Int),∃(r:Int×Int),(Eh a b c d e f g h i j k l m n p q r)/\n=n/\bm a h=bm a h/\jF a (b,c,d,(kf a e f i).1,g) (bm a h) i k.2.1 k.2.2.2.2.2.1=fM (a,(b,c,d,(e,f),g),h,i,j,k)/\(0:Int)=0/\(cJ b c d e f g k).1.1=(cJ b c d e f g k).1.1/\(cJ b c d e f g k).1.2=(cJ b c d e f g k).1.2/\(cJ b c d e f g k).2.1=(cJ b c d e f g k).2.1/\(cJ b c d e f g k).2.2=(cJ b c d e f g k).2.2/\cX (a,(b,c,d,(e,f),g),h,i,j,k) l m (adr a (bm a h)) (0:Int)=cX (a,(b,c,d,(e,f),g),h,i,j,k) l m (adr a (bm a h))
 (0:Int)/\l=l/\m=m/\a.1=a.1/\a.2.1=a.2.1/\a.2.2.1=a.2.2.1/\a.2.2.2.1=a.2.2.2.1/\a.2.2.2.2.1=a.2.2.2.2.1/\a.2.2.2.2.2.1=a.2.2.2.2.2.1/\a.2.2.2.2.2.2.1=a.2.2.2.2.2.2.1/\a.2.2.2.2.2.2.2.1=a.2.2.2.2.2.2.2.1/\a.2.2.2.2.2.2.2.2.1=a.2.2.2.2.2.2.2.2.1/\a.2.2.2.2.2.2.2.2.2.1=a.2.2.2.2.2.2.2.2.2.1/\a.2.2.2.2.2.2.2.2.2.2.1.1=a.2.2.2.2.2.2.2.2.2.2.1.1/\a.2.2.2.2.2.2.2.2.2.2.1.2=a.2.2.2.2.2.2.2.2.2.2.1.2/\a.2.2.2.2.2.2.2.2.2.2.2.1=a.2.2.2.2.2.2.2.2.2.2.2.1/\a.2.2.2.2.2.2.2.2.2.2.2.2.1=a.2.2.2.2.2.2.2.2.2.2.2.2.1/\a.2.2.2.2.2.2.2.2.2.2.2.2.2.1=a.2.2.2.2.2.2.2.2.2.2.2.2.2.1/\a.2.2.2.2.2.2.2.2.2.2.2.2.2.2=a.2.2.2.2.2.2.2.2.2.2.2.2.2.2/\b=bh (b,c,d,(e,f),g)/\IntKind.wrap .i64 (c+(1:Int))=p/\(kf a e f i).1.1=r.1/\(kf a e f i).1.2=r.2/\g=kP
 (b,c,d,(e,f),g)/\h=h/\i=i/\j=j/\k.1=k.1/\k.2.1=k.2.1/\k.2.2.1=k.2.2.1/\k.2.2.2.1=k.2.2.2.1/\k.2.2.2.2.1=k.2.2.2.2.1/\k.2.2.2.2.2.1=k.2.2.2.2.2.1/\k.2.2.2.2.2.2=k.2.2.2.2.2.2/\List.set d (Int.toNat (bm a h)) (IntKind.wrap .i64 (d.getD (Int.toNat (bm a h)) default+(1:Int)))=q/\True) (∃(p:Int) (q:List Int),∃(r:Int×Int),(Eh a b c d e f g h i j k l m n p q r)/\n=n/\bm a h=bm a h/\jF a (b,c,d,(kf a e f i).1,g) (bm a h) i k.2.1 k.2.2.2.2.2.1=fM (a,(b,c,d,(e,f),g),h,i,j,k)/\(0:Int)=0/\(cJ b c d e f g k).1.1=(cJ b c d e f g k).1.1/\(cJ b c d e f g k).1.2=(cJ b c d e f g k).1.2/\(cJ b c d e f g k).2.1=(cJ b c d e f g k).2.1/\(cJ b c d e f g k).2.2=(cJ b c d e f g k).2.2/\cX (a,(b,c,d,(e,f),g),h,i,j,k) l m (adr a (bm a h)) (0:Int)=cX (a,(b,c,d,(e,f),g),h,i,j,k) l m (adr a (bm a h))
 (0:Int)/\l=l/\m=m/\a.1=a.1/\a.2.1=a.2.1/\a.2.2.1=a.2.2.1/\a.2.2.2.1=a.2.2.2.1/\a.2.2.2.2.1=a.2.2.2.2.1/\a.2.2.2.2.2.1=a.2.2.2.2.2.1/\a.2.2.2.2.2.2.1=a.2.2.2.2.2.2.1/\a.2.2.2.2.2.2.2.1=a.2.2.2.2.2.2.2.1/\a.2.2.2.2.2.2.2.2.1=a.2.2.2.2.2.2.2.2.1/\a.2.2.2.2.2.2.2.2.2.1=a.2.2.2.2.2.2.2.2.2.1/\a.2.2.2.2.2.2.2.2.2.2.1.1=a.2.2.2.2.2.2.2.2.2.2.1.1/\a.2.2.2.2.2.2.2.2.2.2.1.2=a.2.2.2.2.2.2.2.2.2.2.1.2/\a.2.2.2.2.2.2.2.2.2.2.2.1=a.2.2.2.2.2.2.2.2.2.2.2.1/\a.2.2.2.2.2.2.2.2.2.2.2.2.1=a.2.2.2.2.2.2.2.2.2.2.2.2.1/\a.2.2.2.2.2.2.2.2.2.2.2.2.2.1=a.2.2.2.2.2.2.2.2.2.2.2.2.2.1/\a.2.2.2.2.2.2.2.2.2.2.2.2.2.2=a.2.2.2.2.2.2.2.2.2.2.2.2.2.2/\b=bh (b,c,d,(e,f),g)/\IntKind.wrap .i64 (c+(1:Int))=p/\(kf a e f i).1.1=r.1/\(kf a e f i).1.2=r.2/\g=kP
 (b,c,d,(e,f),g)/\h=h/\i=i/\j=j/\k.1=k.1/\k.2.1=k.2.1/\k.2.2.1=k.2.2.1/\k.2.2.2.1=k.2.2.2.1/\k.2.2.2.2.1=k.2.2.2.2.1/\k.2.2.2.2.2.1=k.2.2.2.2.2.1/\k.2.2.2.2.2.2=k.2.2.2.2.2.2/\d=q/\True)/\ ∀(p:Int)(q:List Int)(r:Int×Int),cz (cX (a,(b,c,d,(e,f),g),h,i,j,k) l m) (iF (a,(b,c,d,(e,f),g),h,i,j,k) l m) (a,(b,c,d,(e,f),g),h,i,j,k) n=(Dm a b c d e f g h i j k l m n)/\(gZ (a,(b,c,d,(e,f),g),h,i,j,k)).2.1≠([]:List Int)/\(bh (b,c,d,(e,f),g),p,q,r,kP (b,c,d,(e,f),g))=gX (a,(b,c,d,(e,f),g),h,i,j,k)->(cJ b c d e f g k).2.1≠([]:List Int)/\((List.length (cX (a,(b,c,d,(e,f),g),h,i,j,k) l m (adr a (bm a h)) (0:Int))):Int)<=1000000/\ad (decide (n=0)) ((j.length:Int)<=1000000/\(ib a (b,p,q,r,g) (cJ b c d e f g k) (fv (cX (a,(b,c,d,(e,f),g),h,i,j,k) l m (adr a (bm a h)) (0:Int))),cX (a,fy (b,p,q,r,g) (cJ b c d e f g k),h,i,j,k) l m (ji a (bm a h)
 (ib a (b,p,q,r,g) (cJ b c d e f g k) (fv (cX (a,(b,c,d,(e,f),g),h,i,j,k) l m (adr a (bm a h)) (0:Int))))) (fM (a,(b,c,d,(e,f),g),h,i,j,k)))=(jD a b c d e f g h i j k l m n).2.1/\(2:Int)=(jD a b c d e f g h i j k l m n).2.2/\(a,fy (b,p,q,r,g) (cJ b c d e f g k),h,i,j,k)=ga (a,(b,c,d,(e,f),g),h,i,j,k) (jD a b c d e f g h i j k l m n).1/\()=()/\l=l/\m=m) ((j.length:Int)<=1000000/\(ib a (b,p,q,r,g) (cJ b c d e f g k) (fv (cX (a,(b,c,d,(e,f),g),h,i,j,k) l m (adr a (bm a h)) (0:Int))),cX (a,fy (b,p,q,r,g) (cJ b c d e f g k),h,i,j,k) l m n (fM (a,(b,c,d,(e,f),g),h,i,j,k)))=(jD a b c d e f g h i j k l m n).2.1/\(2:Int)=(jD a b c d e f g h i j k l m n).2.2/\(a,fy (b,p,q,r,g) (cJ b c d e f g k),h,i,j,k)=ga (a,(b,c,d,(e,f),g),h,i,j,k) (jD a b c d e f g h i j k l m n).1/\()=()/\l=l/\m=m))))):=by
  delta jD cJ Dm kf qg kv Eh
  rintro d x x1 x2 x3 x4 x5 x6 x7 x8 h ki co own-⟨hs,hl,hb⟩
  obtain⟨w,hw⟩:∃ w:cD,w=(d,(x,x1,x2,(x3,x4),x5),x6,x7,x8,h):=⟨_,rfl⟩
  have e0:d.2.2.2.2.2.2.2.2.2.2.2.1=jM w.1:=by rw[hw];rfl
  have e2:eM (x,x1,x2,(x3,x4),x5) h.2.2.2.2.2.1=eM w.2.1 (kq w.2.2.2.2.2):=by rw[hw];rfl
  have e3:ix d.2.2.2.2.2.2.2.2.2.2.1 (x3,x4) x7=jn w:=by rw[hw];rfl
  rw[e0,e2,e3,← hw]
  have fin:=fun {s o y}=>Bz (r:=cz (cX w ki co) (iF w ki co) w own) (s:=s) (o:=o) (y:=y) w
  intro b hb0
  (repeat refine⟨(by first|(simp;done)|(rw[hb0];simp;done)|(cases b <;> simp)),?_⟩)
  have hq:(bif b then jM w.1 else false)=true↔own=0/\jM w.1=true:=by rw[hb0];by_cases k:own=0 <;> simp[k]
  refine ae (fun h0=>?_) (fun h0=>?_)
  ·obtain⟨f1,f2,f3⟩:=fin (uc (hq.1 h0))
   exact⟨f1,f2,by rw[← f3,hw];rfl,rfl,rfl,rfl⟩
  have h0:¬ (own=0/\jM w.1=true):=fun k=>by rw[hq.2 k] at h0;cases h0
  refine⟨hb,ae (fun h1=>?_) (fun h1=>?_)⟩
  ·obtain⟨f1,f2,f3⟩:=fin (tc h0 (by simpa using h1))
   exact⟨f1,f2,by rw[← f3,hw];rfl,rfl,rfl,rfl⟩
  have h1:¬ (iF w ki co) 0≠0:=by simpa using h1
  refine⟨hs,hl,ae (fun h2=>?_) (fun h2=>?_)⟩
  ·obtain⟨f1,f2,f3⟩:=fin (vX h0 h1 (by simpa using h2))
   exact⟨f1,f2,by rw[← f3,hw];rfl,rfl,rfl,rfl⟩
  have h2:¬ eM w.2.1 (kq w.2.2.2.2.2)=false:=by simpa using h2
  refine ae (fun h3=>?_) (fun h3=>⟨?_,?_⟩)
  ·obtain⟨f1,f2,f3⟩:=fin (ur h0 h1 h2 (by simpa using h3))
   exact⟨f1,f2,by rw[← f3,hw];rfl,rfl,rfl,rfl⟩
  ·have h3:¬ (jn w).2=false:=by simpa using h3
   have eg:=uw (B:=cX w ki co) h0 h1 h2 h3
   have hne:(gZ w).2.1≠[]:=xH h2
   have hin:=Az d x6
   have o4:jF d (x,x1,x2,(jn w).1,x5) (bm d x6) x7 h.2.1 h.2.2.2.2.2.1=fM w:=by rw[← e3,hw];rfl
   have hS:gX w=(x,IntKind.i64.wrap (x1+1),nV x2 (bm d x6),(jn w).1,x5):=by rw[← e3,hw];rfl
   refine ae (fun h4=>?_) (fun h4=>?_)
   ·have h4:=of_decide_eq_true h4
    refine⟨hin,h4,hin,h4,_,_,_,⟨eg,hne,?_⟩,rfl,rfl,o4,(by repeat' first|exact trivial|refine⟨trivial,?_⟩|refine⟨(by with_reducible rfl),?_⟩|refine⟨ai (by omega) (by omega),?_⟩|refine⟨rfl,?_⟩)⟩
    rw[hS,E6 h4];rfl
   ·have h4:=of_decide_eq_false h4
    refine⟨_,_,_,⟨eg,hne,?_⟩,rfl,rfl,o4,(by repeat' first|exact trivial|refine⟨trivial,?_⟩|refine⟨(by with_reducible rfl),?_⟩|refine⟨ai (by omega) (by omega),?_⟩|refine⟨rfl,?_⟩)⟩
    rw[hS,Ma h4];rfl
  ·rintro k l t ⟨eg,hne,hS⟩
   have e4:aZ (bh (x,x1,x2,(x3,x4),x5)) h.2.2.2.2.2.1=gZ w:=by rw[hw];rfl
   have e5:(x,k,l,t,x5)=gX w:=hS
   have e6:ib d (gX w) (gZ w) (fv ((cX w ki co) (adr d (bm d x6)) 0))=iJ (cX w ki co) w:=by rw[hw];rfl
   rw[e4,e5,e6]
   obtain⟨f1,f2,f3⟩:=fin eg
   have hlen:=Fo w ki co (adr d (bm d x6)) 0
   refine⟨hne,by omega,ae (fun h4=>?_) (fun h4=>?_)⟩
   ·have h4:=of_decide_eq_true h4
    refine⟨hb,?_,f2,by rw[← f3,hw];rfl,rfl,rfl,rfl⟩
    rw[← f1];unfold hV;rw[if_pos h4,hw];rfl
   ·have h4:=of_decide_eq_false h4
    refine⟨hb,?_,f2,by rw[← f3,hw];rfl,rfl,rfl,rfl⟩
    rw[← f1];unfold hV;rw[if_neg h4,hw];rfl
theorem ar0:ax Tryz.prog GL 245 H9.spec:=Ct.okH _ Tryz.func245 (by kernel_rfl) (ah (ah (ah (ah (ah (ah (ah (ah aD LX) Ce) Vx) ES) LB) NN) Gc) IN) av TL (aC (by kernel_rfl) ah0)
def GM:Ct:=⟨[.box 243 mr],[.agg tI,.val cI],fun d=>[lN d.1],fun d=>(((gf d.1).2.1,(gf d.1).2.2,()),(ga d.1 (gf d.1).1,()))⟩
def Ud:ar GM.ps->az:=(fun _=>{})
def y8(a:ac)(b:List aF)(c:Int)(d:List Int)(e f g h i:Int)(j:List Int)(k:bY) :=
 cz (dC (a,(b,c,d,(e,f),g),h,i,j,k)) (iN (a,(b,c,d,(e,f),g),h,i,j,k)) (a,(b,c,d,(e,f),g),h,i,j,k) k.2.2.2.2.2.2
def zA(a:ac)(b:List aF)(c:Int)(d:List Int)(e f g h i:Int)(j:List Int)(k:bY) :=
 cz (dC (a,(b,c,d,(e,f),g),h,i,j,k)) (iN (a,(b,c,d,(e,f),g),h,i,j,k)) (a,(b,c,d,(e,f),g),h,i,j,k) (0:Int)
theorem QH :
 ∀(a:ac)(b:List aF)(c:Int)(d:List Int)(e f g h i:Int)(j:List Int)(k:bY),(sf a b c d e f g h i j k)/\True->(qg b c d e f g j)->(j.length:Int)<=1000000/\ ∀(l:Bool),l=decide (h= -1)->((! l)->((! l)->(! l))/\True)/\(l=false->(! l))/\ad (bif l then true else ! decide (iN (a,(b,c,d,(e,f),g),h,i,j,k) (0:Int)=0)) ((kv)=(gf (a,(b,c,d,(e,f),g),h,i,j,k)).2.1/\(1:Int)=(gf (a,(b,c,d,(e,f),g),h,i,j,k)).2.2/\(a,(b,c,d,(e,f),g),h,i,j,k)=ga (a,(b,c,d,(e,f),g),h,i,j,k) (gf (a,(b,c,d,(e,f),g),h,i,j,k)).1) (ad (decide (k.2.2.2.1=17)) (lN (a,(b,c,d,(e,f),g),h,i,j,k)/\(zA a b c d e f g h i j k).2.1=(gf (a,(b,c,d,(e,f),g),h,i,j,k)).2.1/\(zA a b c d e f g h i j k).2.2=(gf (a,(b,c,d,(e,f),g),h,i,j,k)).2.2/\(a,(zA a b c d e f g h i j k).1,h,i,j,k)=ga (a,(b,c,d,(e,f),g),h,i,j,k) (gf (a,(b,c,d,(e,f),g),h,i,j,k)).1) (lN (a,(b,c,d,(e,f),g),h,i,j,k)/\(y8 a
 b c d e f g h i j k).2.1=(gf (a,(b,c,d,(e,f),g),h,i,j,k)).2.1/\(y8 a b c d e f g h i j k).2.2=(gf (a,(b,c,d,(e,f),g),h,i,j,k)).2.2/\(a,(y8 a b c d e f g h i j k).1,h,i,j,k)=ga (a,(b,c,d,(e,f),g),h,i,j,k) (gf (a,(b,c,d,(e,f),g),h,i,j,k)).1)):=by
  delta sf qg kv y8 zA
  rintro d x x1 x2 x3 x4 x5 x6 x7 x8 h-⟨hs,hl,hb⟩
  obtain⟨w,hw⟩:∃ w:cD,w=(d,(x,x1,x2,(x3,x4),x5),x6,x7,x8,h):=⟨_,rfl⟩
  rw[← hw]
  have fin:=fun {s o y}=>Bz (r:=gf w) (s:=s) (o:=o) (y:=y) w
  have e0:w.2.2.1=x6:=by rw[hw]
  have e1:h=w.2.2.2.2.2:=by rw[hw]
  have okw:lN w:=by rw[hw];exact⟨hs,hl,hb⟩
  refine⟨hb,?_⟩
  (repeat (intro (b_:Bool) (hb_:b_=_);(repeat refine⟨(by first|(simp;done)|(rw[hb_];simp;done)|(rw[hb_];simp;omega)|(rw[hb_];simp;intros;omega)|(rw[hb_];simp +contextual;done)),?_⟩);subst hb_))
  refine qp (fun ho=>?_) (fun h1 h2=>?_)
  ·obtain⟨f1,f2,f3⟩:=fin (s:=w.2.1) (o:=gn) (y:=1) (by unfold gf;rw[if_pos];rcases ho with q|q;left;rw[e0];exact of_decide_eq_true q;right;simpa using q)
   exact⟨f1,f2,by rw[← f3,hw];rfl⟩
  have hn:¬ (w.2.2.1 = -1∨iN w 0≠0):=by
   rintro (q|q)
   ·rw[e0] at q;exact of_decide_eq_false h1 q
   ·apply q;simpa using h2
  have er:gf w=cz (dC w) (iN w) w (if h.2.2.2.1=17 then 0 else h.2.2.2.2.2.2):=by unfold gf;rw[if_neg hn,e1];rfl
  rw[er]
  refine ae (fun h3=>?_) (fun h3=>?_)
  ·rw[if_pos (of_decide_eq_true h3)]
   exact⟨okw,rfl,rfl,by rw[hw];rfl⟩
  ·rw[if_neg (of_decide_eq_false h3)]
   exact⟨okw,rfl,rfl,by rw[hw];rfl⟩
theorem X5:ax Tryz.prog GL 213 GM.spec:=Ct.okH _ Tryz.func213 (by kernel_rfl) (ah (ah aD M8) Wn) av Ud (aC (by kernel_rfl) QH)
def Kn:Ct:=⟨[.box 243 mr],[.agg tI,.val cI],fun d=>[lN d.1],fun d=>(((dR d.1).2.1,(dR d.1).2.2,()),(ga d.1 (dR d.1).1,()))⟩
def Vm:ar Kn.ps->az:=(fun _=>{})
def zE(a:ac)(b:List aF)(c:Int)(d:List Int)(e f g h i:Int)(j:List Int)(k:bY) :=
 cz (cX (a,(b,c,d,(e,f),g),h,i,j,k) (11:Int) (0:Int)) (iF (a,(b,c,d,(e,f),g),h,i,j,k) (11:Int) (0:Int)) (a,(b,c,d,(e,f),g),h,i,j,k) (0:Int)
def zY(a:ac)(b:List aF)(c:Int)(d:List Int)(e f g h i:Int)(j:List Int)(k:bY) :=
 cz (cX (a,(b,c,d,(e,f),g),h,i,j,k) (3:Int) (0:Int)) (iF (a,(b,c,d,(e,f),g),h,i,j,k) (3:Int) (0:Int)) (a,(b,c,d,(e,f),g),h,i,j,k) (0:Int)
def Cp(a:ac)(b:List aF)(c:Int)(d:List Int)(e f g h i:Int)(j:List Int)(k:bY) :=
 (0:Int)=(dR (a,(b,c,d,(e,f),g),h,i,j,k)).2.2/\(a,fy (b,c,d,(e,f),g) (aZ (bh (b,c,d,(e,f),g)) k.2.2.2.2.2.2),h,i,j,k)=ga (a,(b,c,d,(e,f),g),h,i,j,k) (dR (a,(b,c,d,(e,f),g),h,i,j,k)).1
theorem as3 :
 ∀(a:ac)(b:List aF)(c:Int)(d:List Int)(e f g h i:Int)(j:List Int)(k:bY),(sf a b c d e f g h i j k)/\True->(qg b c d e f g j)-> ∀(l:Bool),l= ! decide (h= -1)->(l->(l->l)/\True)/\(l->(l->l)/\True)/\(l->(l->l)/\True)/\(l->(l->l)/\True)/\(l->(l->l)/\True)/\(l->l)/\ ∀(m:Bool),(m=bif l then ! a.2.2.2.2.2.2.2.2.2.2.2.2.1 else false)->(m->(m->m)/\True)/\(m->(m->m)/\True)/\(m->(m->m)/\True)/\(m->(m->m)/\True)/\(m->(m->m)/\True)/\(m->m)/\ad (bif m then decide (k.2.2.1<2) else false) (lN (a,(b,c,d,(e,f),g),h,i,j,k)/\(zE a b c d e f g h i j k).2.1=(dR (a,(b,c,d,(e,f),g),h,i,j,k)).2.1/\(zE a b c d e f g h i j k).2.2=(dR (a,(b,c,d,(e,f),g),h,i,j,k)).2.2/\(a,(zE a b c d e f g h i j k).1,h,i,j,k)=ga (a,(b,c,d,(e,f),g),h,i,j,k) (dR (a,(b,c,d,(e,f),g),h,i,j,k)).1) (bM (bh (b,c,d,(e,f),g))/\okL (bh (b,c,d,(e,f),g))/\ ∀(n:Bool),n= ! eM (b,c,d,(e,f),g)
 k.2.2.2.2.2.2->(n->n)/\ad (bif n then decide (h= -1) else false) ((kv)=(dR (a,(b,c,d,(e,f),g),h,i,j,k)).2.1/\(8:Int)=(dR (a,(b,c,d,(e,f),g),h,i,j,k)).2.2/\(a,(b,c,d,(e,f),g),h,i,j,k)=ga (a,(b,c,d,(e,f),g),h,i,j,k) (dR (a,(b,c,d,(e,f),g),h,i,j,k)).1) (ad (! eM (b,c,d,(e,f),g) k.2.2.2.2.2.2) (lN (a,(b,c,d,(e,f),g),h,i,j,k)/\(zY a b c d e f g h i j k).2.1=(dR (a,(b,c,d,(e,f),g),h,i,j,k)).2.1/\(zY a b c d e f g h i j k).2.2=(dR (a,(b,c,d,(e,f),g),h,i,j,k)).2.2/\(a,(zY a b c d e f g h i j k).1,h,i,j,k)=ga (a,(b,c,d,(e,f),g),h,i,j,k) (dR (a,(b,c,d,(e,f),g),h,i,j,k)).1) ((aZ (bh (b,c,d,(e,f),g)) k.2.2.2.2.2.2).2.1≠([]:List Int)/\(j.length:Int)<=1000000/\j=j/\j=j/\(j.length:Int)<=1099511627776/\ ∀(o:Bool),o= ! decide (h= -1)->(o->(o->o)/\True)/\(o->(o->o)/\True)/\(o->(o->o)/\True)/\(o->(o->o)/\True)/\(o->(o->o)/\True)/\(o->o)/\ad (bif o then !
 a.2.2.2.2.2.2.2.2.2.2.2.2.1 else false) ((j.length:Int)<=1099511627776/\(ib a (b,c,d,(e,f),g) (aZ (bh (b,c,d,(e,f),g)) k.2.2.2.2.2.2) (fv j),gN j)=(dR (a,(b,c,d,(e,f),g),h,i,j,k)).2.1/\(Cp a b c d e f g h i j k)) ((ib a (b,c,d,(e,f),g) (aZ (bh (b,c,d,(e,f),g)) k.2.2.2.2.2.2) (fv j),j)=(dR (a,(b,c,d,(e,f),g),h,i,j,k)).2.1/\(Cp a b c d e f g h i j k))))):=by
  delta sf qg kv zE zY Cp
  rintro d x x1 x2 x3 x4 x5 x6 x7 x8 h-⟨hs,hl,hb⟩
  obtain⟨w,hw⟩:∃ w:cD,w=(d,(x,x1,x2,(x3,x4),x5),x6,x7,x8,h):=⟨_,rfl⟩
  have e0:d.2.2.2.2.2.2.2.2.2.2.2.2.1=dq w.1:=by rw[hw];rfl
  have e2:eM (x,x1,x2,(x3,x4),x5) h.2.2.2.2.2.2=eM w.2.1 (gS w.2.2.2.2.2):=by rw[hw];rfl
  have e3:x6=w.2.2.1:=by rw[hw]
  have e4:h.2.2.1=uV w.2.2.2.2.2:=by rw[hw];rfl
  have e5:aZ (bh (x,x1,x2,(x3,x4),x5)) h.2.2.2.2.2.2=aZ (bh w.2.1) (gS w.2.2.2.2.2):=by rw[hw];rfl
  have okw:lN w:=by rw[hw];exact⟨hs,hl,hb⟩
  have fin:=fun {s o y}=>Bz (r:=dR w) (s:=s) (o:=o) (y:=y) w
  rw[← hw,e0,e2,e4,e5]
  intro b hb0
  (repeat refine⟨(by first|(simp;done)|(rw[hb0];simp;done)|(cases b <;> simp)),?_⟩)
  intro b1 hb1
  (repeat refine⟨(by first|(simp;done)|(rw[hb1];simp;done)|(cases b1 <;> simp)|(cases b <;> cases b1 <;> simp)),?_⟩)
  have h1b:b1=true↔w.2.2.1 ≠ -1/\dq w.1=false:=by rw[hb1,hb0,e3];by_cases k:w.2.2.1 = -1 <;> cases dq w.1 <;> simp[k]
  have hq:(bif b1 then decide (uV w.2.2.2.2.2<2) else false)=true↔w.2.2.1 ≠ -1/\dq w.1=false/\uV w.2.2.2.2.2<2:=by
   rw[← and_assoc,← h1b];cases b1 <;> simp
  refine ae (fun k1=>?_) (fun k1=>?_)
  ·have e:dR w=cz (cX w 11 0) (iF w 11 0) w 0:=by unfold dR;rw[if_pos (hq.1 k1)]
   rw[e]
   exact⟨okw,rfl,rfl,by rw[hw];rfl⟩
  have k1:¬ (w.2.2.1 ≠ -1/\dq w.1=false/\uV w.2.2.2.2.2<2):=fun k=>by rw[hq.2 k] at k1;cases k1
  refine⟨hs,hl,?_⟩
  intro c hc
  (repeat refine⟨(by first|(simp;done)|(rw[hc];simp;done)|(cases c <;> simp)),?_⟩)
  refine ae (fun k2=>?_) (fun k2=>?_)
  ·have q:eM w.2.1 (gS w.2.2.2.2.2)=false/\w.2.2.1 = -1:=by
    rw[hc,e3] at k2
    cases hh:eM w.2.1 (gS w.2.2.2.2.2) with
    | true=>rw[hh] at k2;simp at k2
    | false=>rw[hh] at k2;exact⟨rfl,by simpa using k2⟩
   obtain⟨f1,f2,f3⟩:=fin (s:=w.2.1) (o:=gn) (y:=8) (by unfold dR;rw[if_neg k1,if_pos q.1,if_pos q.2])
   exact⟨f1,f2,by rw[← f3,hw];rfl⟩
  refine ae (fun k3=>?_) (fun k3=>?_)
  ·have k3:eM w.2.1 (gS w.2.2.2.2.2)=false:=by simpa using k3
   have q:¬ w.2.2.1 = -1:=fun q=>by rw[hc,k3,e3,q] at k2;simp at k2
   have e:dR w=cz (cX w 3 0) (iF w 3 0) w 0:=by unfold dR;rw[if_neg k1,if_pos k3,if_neg q]
   rw[e]
   exact⟨okw,rfl,rfl,by rw[hw];rfl⟩
  have k3:¬ eM w.2.1 (gS w.2.2.2.2.2)=false:=by simpa using k3
  refine⟨xH k3,hb,?_⟩
  clear h1b hq
  (repeat refine⟨(by first|(with_reducible rfl)|trivial|omega),?_⟩)
  intro b' hb0'
  (repeat refine⟨(by first|(simp;done)|(rw[hb0'];simp;done)|(cases b' <;> simp)),?_⟩)
  have hq:(bif b' then !dq w.1 else false)=true↔w.2.2.1 ≠ -1/\dq w.1=false:=by rw[hb0',e3];by_cases k:w.2.2.1 = -1 <;> cases dq w.1 <;> simp[k]
  have e:dR w=(fy w.2.1 (aZ (bh w.2.1) (gS w.2.2.2.2.2)),(ib w.1 w.2.1 (aZ (bh w.2.1) (gS w.2.2.2.2.2)) (fv w.2.2.2.2.1),if w.2.2.1 ≠ -1/\dq w.1=false then gN w.2.2.2.2.1 else w.2.2.2.2.1),0):=by unfold dR;rw[if_neg k1,if_neg k3]
  obtain⟨f1,f2,f3⟩:=fin e
  refine ae (fun k4=>?_) (fun k4=>?_)
  ·refine⟨by omega,?_,f2,by rw[← f3,hw];rfl⟩
   rw[← f1,if_pos (hq.1 k4),hw]
  ·refine⟨?_,f2,by rw[← f3,hw];rfl⟩
   rw[← f1,if_neg (fun k=>by rw[hq.2 k] at k4;cases k4),hw]
theorem Zk:ax Tryz.prog GL 214 Kn.spec:=Ct.okH _ Tryz.func214 (by kernel_rfl) (ah (ah (ah (ah (ah (ah aD Sa) ar0) ES) Gc) XV) py) av Vm (aC (by kernel_rfl) as3)
def HX:Ct:=⟨[.box 243 mr],[.agg tI,.val cI],fun d=>[lN d.1],fun d=>(((dP d.1).2.1,(dP d.1).2.2,()),((d.1.1,(dP d.1).1,d.1.2.2.1,d.1.2.2.2.1,d.1.2.2.2.2.1,(aR d.1.2.2.2.2.1).1),()))⟩
def QR:ar HX.ps->az:=(fun _=>{})
theorem Ty :
 ∀(a:ac)(b:List aF)(c:Int)(d:List Int)(e f g h i:Int)(j:List Int)(k:bY),(sf a b c d e f g h i j k)/\True->(qg b c d e f g j)->(j.length:Int)<=1099511627776/\ad (! decide (bW j=0)) ((kv)=(dP (a,(b,c,d,(e,f),g),h,i,j,k)).2.1/\(6:Int)=(dP (a,(b,c,d,(e,f),g),h,i,j,k)).2.2/\(a,(b,c,d,(e,f),g),h,i,j,(aR j).1)=(a,(dP (a,(b,c,d,(e,f),g),h,i,j,k)).1,h,i,j,(aR j).1)) (ad (jV a (aR j).1.2.2.2.2.2.2) (lN (a,(b,c,d,(e,f),g),h,i,j,(aR j).1)/\(gf (a,(b,c,d,(e,f),g),h,i,j,(aR j).1)).2.1=(dP (a,(b,c,d,(e,f),g),h,i,j,k)).2.1/\(gf (a,(b,c,d,(e,f),g),h,i,j,(aR j).1)).2.2=(dP (a,(b,c,d,(e,f),g),h,i,j,k)).2.2/\(a,(gf (a,(b,c,d,(e,f),g),h,i,j,(aR j).1)).1,h,i,j,(aR j).1)=(a,(dP (a,(b,c,d,(e,f),g),h,i,j,k)).1,h,i,j,(aR j).1))
 (∀(l:Bool),l=a.2.2.2.1->(l->(l->l)/\True)/\(l->(l->l)/\True)/\(l->(l->l)/\True)/\(l->(l->l)/\True)/\(l->l)/\ad (bif l then ! decide (h= -1) else false) ((kv)=(dP (a,(b,c,d,(e,f),g),h,i,j,k)).2.1/\(6:Int)=(dP (a,(b,c,d,(e,f),g),h,i,j,k)).2.2/\(a,(b,c,d,(e,f),g),h,i,j,(aR j).1)=(a,(dP (a,(b,c,d,(e,f),g),h,i,j,k)).1,h,i,j,(aR j).1)) (lN (a,(b,c,d,(e,f),g),h,i,j,(aR j).1)/\(dR (a,(b,c,d,(e,f),g),h,i,j,(aR j).1)).2.1=(dP (a,(b,c,d,(e,f),g),h,i,j,k)).2.1/\(dR (a,(b,c,d,(e,f),g),h,i,j,(aR j).1)).2.2=(dP (a,(b,c,d,(e,f),g),h,i,j,k)).2.2/\(a,(dR (a,(b,c,d,(e,f),g),h,i,j,(aR j).1)).1,h,i,j,(aR j).1)=(a,(dP (a,(b,c,d,(e,f),g),h,i,j,k)).1,h,i,j,(aR j).1)))):=by
  delta sf qg kv
  rintro d x x1 x2 x3 x4 x5 x6 x7 x8 h-⟨hs,hl,hb⟩
  refine⟨by omega,ae (fun h1=>?_) (fun h1=>?_)⟩
  ·have e:dP (d,(x,x1,x2,(x3,x4),x5),x6,x7,x8,h)=((x,x1,x2,(x3,x4),x5),gn,6):=by unfold dP;rw[if_pos (by simpa using h1)]
   rw[e];exact⟨rfl,rfl,rfl⟩
  have h1:¬ bW x8≠0:=by simpa using h1
  refine ae (fun h2=>?_) (fun h2=>?_)
  ·have e:dP (d,(x,x1,x2,(x3,x4),x5),x6,x7,x8,h)=gf (d,(x,x1,x2,(x3,x4),x5),x6,x7,x8,(aR x8).1):=by unfold dP;rw[if_neg h1];exact if_pos h2
   rw[e];exact⟨⟨hs,hl,hb⟩,rfl,rfl,rfl⟩
  have h2:¬ jV d (gS (aR x8).1)=true:=by show ¬ jV d (aR x8).1.2.2.2.2.2.2=true;rw[h2];simp
  intro b hb0
  (repeat refine⟨(by first|(simp;done)|(rw[hb0];simp;done)|(cases b <;> simp)),?_⟩)
  have hq:(bif b then !decide (x6 = -1) else false)=true↔lH d=true/\x6 ≠ -1:=by rw[hb0];show (bif d.2.2.2.1 then _ else _)=true↔d.2.2.2.1=true/\_;cases d.2.2.2.1 <;> simp
  refine ae (fun h3=>?_) (fun h3=>?_)
  ·have e:dP (d,(x,x1,x2,(x3,x4),x5),x6,x7,x8,h)=((x,x1,x2,(x3,x4),x5),gn,6):=by unfold dP;rw[if_neg h1,if_neg h2];exact if_pos (hq.1 h3)
   rw[e];exact⟨rfl,rfl,rfl⟩
  ·have e:dP (d,(x,x1,x2,(x3,x4),x5),x6,x7,x8,h)=dR (d,(x,x1,x2,(x3,x4),x5),x6,x7,x8,(aR x8).1):=by unfold dP;rw[if_neg h1,if_neg h2];exact if_neg (fun k=>by rw[hq.2 k] at h3;cases h3)
   rw[e];exact⟨⟨hs,hl,hb⟩,rfl,rfl,rfl⟩
theorem au2:ax Tryz.prog GL 167 HX.spec:=Ct.okH _ Tryz.func167 (by kernel_rfl) (ah (ah (ah (ah aD BH) YM) X5) Zk) av QR (aC (by kernel_rfl) Ty)
def Nr:Ct:=⟨[.val (.sl cG)],[.own 97 cG],fun d=>[(d.1.length:Int)<=134217728],fun d=>((d.1,()),())⟩
def ZY:ar Nr.ps->az:=(fun _=>{})
theorem ao1 :
 ∀(a:List aF),(a.length<=maxLen/\ ∀(b:aF),b∈a->((0<=b.1.1/\b.1.1<=4294967295)/\ab b.1.2)/\(b.2.1.length<=maxLen/\ ∀(c:Int),c∈b.2.1->ab c)/\ab b.2.2)/\True->(a.length:Int)<=134217728-> ∀(b:Bool),(b=true->a.length=(0:Nat))->ad b (([]:List aF)=a) (((0:Nat)+a.length)*(48:Nat)<=(140737488355328:Nat)/\a=a):=by
  rintro x ⟨⟨hl,-⟩,-⟩ h b hb
  refine ae (fun h1=>?_) (fun h1=>⟨by omega,by simp⟩)
  have:=hb h1
  exact (List.eq_nil_of_length_eq_zero this).symm
theorem JY:ax Tryz.prog GL 155 Nr.spec:=Ct.okH _ Tryz.func155 (by kernel_rfl) aD av ZY (aC (by kernel_rfl) ao1)
end Go.RS

/- Netd: networks as the laws draw them: exact. -/
namespace Go.RS
open Go.SX Go.Proofs
set_option maxRecDepth 100000
set_option linter.unusedVariables false
abbrev fB:CT := .pair cI (.pair cI (.pair cI (.pair cI (.pair cI cI))))
abbrev d8:CT := .pair cI (.pair cI (.pair .bool cG))
abbrev ig:CT := .pair (.sl bH) (.pair (.sl fB) (.sl d8))
abbrev aE:Type:=Int×Int×Int×Int×Int×Int
abbrev aM:Type:=Int×Int×Bool×Rt
abbrev bw:Type:=List ac×List aE×List aM
abbrev aI:Type:=List Int×Int
abbrev mg:Type:=Int×Int
def lA(l:aE):Int:=l.1
def lB(l:aE):Int:=l.2.1
def kO(l:aE):Int:=l.2.2.1
def gV(l:aE):Int:=l.2.2.2.1
def md(l:aE):Int:=l.2.2.2.2.1
def rW(l:aE):Int:=l.2.2.2.2.2
theorem kJ{α:Type} [Inhabited α] {l:List α} {i j:Nat} {a:α} (h:i≠j):(l.set i a).getD j default=l.getD j default:=by
 rw[List.getD_eq_getElem?_getD,List.getD_eq_getElem?_getD,List.getElem?_set_ne h]
def xr(c:aI):Int:=c.1.getD c.2.toNat default
def kF(c:aI)(n:Int):Int×aI:=if (c.1.length:Int)<=c.2∨n<1 then (0,c) else ((xr c).tmod n,(c.1,c.2+1))
def aj(c:aI)(n:Int):Int×aI :=
 if (c.1.length:Int)<=c.2∨n<1 then (0,c)
 else if 256<n then ((256*xr c+(kF (c.1,c.2+1) 256).1).tmod n,(kF (c.1,c.2+1) 256).2)
 else ((xr c).tmod n,(c.1,c.2+1))
structure bS (c:aI):Prop where
 at':ay c
 b:∀ x∈c.1,0<=x/\x<=255
theorem bS.code{c:aI}(h:bS c)(hb:¬ (c.1.length:Int)<=c.2):0<=xr c/\xr c<=255:=h.b _ (bL h.at'.1 (by omega))
theorem K0{c:aI}(h:bS c)(n:Int):bS (kF c n).2/\0<=(kF c n).1/\((kF c n).1<n∨(kF c n).1=0):=by
 unfold kF
 split
 ·exact⟨h,by simp,.inr rfl⟩
 ·rename_i hb
  have hc:=h.code (by omega)
  have ha:=h.at'
  exact⟨⟨⟨by have:=ha.1;show 0<=c.2+1;omega,by show c.2+1<=(c.1.length:Int);omega⟩,h.b⟩,sy hc.1,.inl (sC hc.1 (by omega))⟩
theorem bZ{c:aI}(h:bS c)(n:Int):bS (aj c n).2/\0<=(aj c n).1/\((aj c n).1<n∨(aj c n).1=0):=by
 unfold aj
 split
 ·exact⟨h,by simp,.inr rfl⟩
 ·rename_i hb
  have hc:=h.code (by omega)
  have ha:=h.at'
  have h1:bS (c.1,c.2+1):=⟨⟨by have:=ha.1;show 0<=c.2+1;omega,by show c.2+1<=(c.1.length:Int);omega⟩,h.b⟩
  split
  ·have k:=K0 h1 256
   exact⟨k.1,sy (by omega),.inl (sC (by omega) (by omega))⟩
  ·exact⟨h1,sy hc.1,.inl (sC hc.1 (by omega))⟩
theorem cW{c:aI}(h:bS c){n:Int}(hn:0<n):0<=(aj c n).1/\(aj c n).1<n:=by
 have:=bZ h n;omega
def o9(i:Int)(host:Bool)(f sd:Int):ac:=([],0,1+i/3,host,[],1,0,0,0,0,(0,0),false,false,f,sd)
abbrev aO:Type:=bw×aI
def iz(s:aO)(host:Bool):aO :=
 ((s.1.1++[o9 s.1.1.length host (([64,255,128]:List Int).getD (aj s.2 3).1.toNat default) (aj (aj s.2 3).2 256).1],s.1.2),(aj (aj s.2 3).2 256).2)
def ij(ns:List ac)(x:Int)(p:mg):List ac:=ns.set x.toNat ((ns.getD x.toNat default).1++[p],(ns.getD x.toNat default).2)
def dS(l:Int):Int:=167837696+4*l
def gm(s:aO)(a b:Int):aO :=
 ((ij (ij s.1.1 a (dS s.1.2.1.length+1,s.1.2.1.length)) b (dS s.1.2.1.length+2,s.1.2.1.length),
   s.1.2.1++[(a,b,1+(aj s.2 20).1,0,0,(aj (aj s.2 20).2 256).1)],s.1.2.2),(aj (aj s.2 20).2 256).2)
def iR(k:Int):List Int->List Int
 | []=>[k]
 | x::r=>if k<x then k::x::r else x::iR k r
theorem KL{k:Int}:∀{l:List Int},(∀ x∈l,¬ k<x)->iR k l=l++[k]
 | [],_=>rfl
 | x::r,h=>by rw[iR,if_neg (h x List.mem_cons_self),KL fun y hy=>h y (List.mem_cons_of_mem _ hy)];rfl
theorem H3{k:Int}{m:List Int}:∀{l:List Int},(∃ x∈l,k<x)->iR k (l++m)=iR k l++m
 | [],h=>by obtain⟨x,hx,-⟩:=h;cases hx
 | y::r,h=>by
  rw[List.cons_append,iR,iR]
  by_cases hy:k<y
  ·rw[if_pos hy,if_pos hy];rfl
  ·rw[if_neg hy,if_neg hy,H3 (l:=r)];rfl
   obtain⟨x,hx,hk⟩:=h
   rcases List.mem_cons.1 hx with rfl|hx
   ·exact absurd hk hy
   ·exact⟨x,hx,hk⟩
theorem OH{k x:Int}:∀{l:List Int},(∀ y∈l,¬ k<y)->k<x->iR k (l++[x])=l++[k]++[x]
 | [],_,h=>by rw[List.nil_append,iR,if_pos h];rfl
 | y::r,h,hk=>by rw[List.cons_append,iR,if_neg (h y List.mem_cons_self),OH (fun z hz=>h z (List.mem_cons_of_mem _ hz)) hk];rfl
theorem Dp(k:Int):∀ l:List Int,(iR k l).length=l.length+1
 | []=>rfl
 | x::r=>by rw[iR];split <;> simp[Dp k r]
def o7(l:List Rt)(p:cO):Nat:=l.findIdx fun r=>decide (r.1=p)
def uG(x:ac)(l:List Rt):ac:=(x.1,x.2.1,x.2.2.1,x.2.2.2.1,l,x.2.2.2.2.2)
def r5(l:List Rt)(p:cO)(k way:Int):List Rt :=
 if o7 l p<l.length then
  if k∈(l.getD (o7 l p) default).2.1 then l else dN l (p,iR k (l.getD (o7 l p) default).2.1,(l.getD (o7 l p) default).2.2)
 else dN l (p,[k],way)
def pc(ns:List ac)(n:Int)(p:cO)(k way:Int):List ac:=ns.set n.toNat (uG (ns.getD n.toNat default) (r5 (aQ (ns.getD n.toNat default)) p k way))
def oZ(d:List Int)(l:aE):List Int :=
 (d.set (lA l).toNat (min (d.getD (lA l).toNat default) (d.getD (lB l).toNat default+1))).set (lB l).toNat (min (d.getD (lB l).toNat default) (d.getD (lA l).toNat default+1))
def cR(nn:Nat)(ls:List aE)(to:Int):List Int:=(List.range nn).foldl (fun d _=>ls.foldl oZ d) ((List.replicate nn (1000:Int)).set to.toNat 0)
def ou(d:List Int)(to:Int)(p:cO)(plain:Bool)(k way:Int)(ns:List ac)(a b:Int):List ac :=
 if d.getD a.toNat default≠d.getD b.toNat default+1∨(b≠to/\lH (ns.getD b.toNat default)=true) then ns
 else if plain=true/\l8 (aQ (ns.getD a.toNat default)) p=true then ns else pc ns a p k way
def stepK(ls:List aE)(d:List Int)(to:Int)(p:cO)(plain:Bool)(way:Int)(ns:List ac)(k:Nat):List ac :=
 ou d to p plain k way (ou d to p plain k way ns (lA (ls.getD k default)) (lB (ls.getD k default))) (lB (ls.getD k default)) (lA (ls.getD k default))
def stepP(ls:List aE)(d:List Int)(to:Int)(plain:Bool)(way:Int)(ns:List ac)(q:mg):List ac :=
 (List.range ls.length).foldl (stepK ls d to (q.1,32) plain way) ns
def lv(c:aI):Int×aI:=if 1+(aj c 3).1=3 then (if 0<(aj (aj c 3).2 3).1 then 1 else 3,(aj (aj c 3).2 3).2) else (1+(aj c 3).1,(aj c 3).2)
def stepT(ls:List aE)(plain:Bool)(s:List ac×aI)(to:Nat):List ac×aI :=
 ((aA (s.1.getD to default)).foldl (stepP ls (cR s.1.length ls to) to plain (lv s.2).1) s.1,(lv s.2).2)
def yK(s:aO)(plain:Bool):aO :=
 let r:=(List.range s.1.1.length).foldl (stepT s.1.2.1 plain) (s.1.1,s.2)
 ((r.1,s.1.2),r.2)
def P7(x:ac):ac:=(x.1,x.2.1,x.2.2.1,x.2.2.2.1,x.2.2.2.2.1,x.2.2.2.2.2.1,x.2.2.2.2.2.2.1,x.2.2.2.2.2.2.2.1,x.2.2.2.2.2.2.2.2.1,x.2.2.2.2.2.2.2.2.2.1,x.2.2.2.2.2.2.2.2.2.2.1,true,x.2.2.2.2.2.2.2.2.2.2.2.2)
def UP(x:ac)(b:Int×Int):ac:=(x.1,x.2.1,x.2.2.1,x.2.2.2.1,x.2.2.2.2.1,x.2.2.2.2.2.1,x.2.2.2.2.2.2.1,x.2.2.2.2.2.2.2.1,x.2.2.2.2.2.2.2.2.1,x.2.2.2.2.2.2.2.2.2.1,b,x.2.2.2.2.2.2.2.2.2.2.2)
def zJ(x:ac)(b:Bool):ac:=(x.1,x.2.1,x.2.2.1,x.2.2.2.1,x.2.2.2.2.1,x.2.2.2.2.2.1,x.2.2.2.2.2.2.1,x.2.2.2.2.2.2.2.1,x.2.2.2.2.2.2.2.2.1,x.2.2.2.2.2.2.2.2.2.1,x.2.2.2.2.2.2.2.2.2.2.1,x.2.2.2.2.2.2.2.2.2.2.2.1,b,x.2.2.2.2.2.2.2.2.2.2.2.2.2)
def T7(x:ac)(s:Int):ac:=(x.1,x.2.1,x.2.2.1,x.2.2.2.1,x.2.2.2.2.1,s,x.2.2.2.2.2.2)
def Yp(x:ac)(a s:Int):ac:=(x.1,a,x.2.2.1,x.2.2.2.1,x.2.2.2.2.1,s,x.2.2.2.2.2.2)
def Tx(x:ac)(a s:Int):ac:=(x.1,x.2.1,x.2.2.1,x.2.2.2.1,x.2.2.2.2.1,s,a,x.2.2.2.2.2.2.2)
def ad8(x:ac)(i b s:Int):ac:=(x.1,x.2.1,x.2.2.1,x.2.2.2.1,x.2.2.2.2.1,x.2.2.2.2.2.1,x.2.2.2.2.2.2.1,i,b,s,x.2.2.2.2.2.2.2.2.2.2)
def fE(x:ac)(i:Int)(c:aI):ac×aI :=
 let a:=aj c 10
 if a.1=1 then (P7 x,a.2)
 else if a.1=2 then (UP x (1+(aj a.2 3).1,1+(aj (aj a.2 3).2 200).1),(aj (aj a.2 3).2 200).2)
 else if a.1=3 then (zJ x (!lH x&&decide (i%2=1)),a.2)
 else if a.1=4 then (T7 x 2,a.2)
 else if a.1=5 then (Yp x (167903232+i) 3,a.2)
 else if a.1=6 then (Tx x (167837696+(aj a.2 40).1) 4,(aj a.2 40).2)
 else (x,a.2)
def tp(x:ac)(i:Int)(c:aI):ac×aI :=
 let y:=fE x i c
 (ad8 y.1 (aj y.2 6).1 (aj (aj y.2 6).2 65536).1 (aj (aj (aj y.2 6).2 65536).2 1000).1,(aj (aj (aj y.2 6).2 65536).2 1000).2)
def tO(s:List ac×aI)(i:Nat):List ac×aI:=(s.1.set i (tp (s.1.getD i default) i s.2).1,(tp (s.1.getD i default) i s.2).2)
def odLink(l:aE)(c:aI):aE×aI :=
 let a:=aj c 6
 if a.1=1 then ((l.1,l.2.1,l.2.2.1,(aj a.2 10).1,l.2.2.2.2),(aj a.2 10).2)
 else if a.1=2 then ((l.1,l.2.1,l.2.2.1,l.2.2.2.1,([65536,20000,3]:List Int).getD (aj a.2 3).1.toNat default,l.2.2.2.2.2),(aj a.2 3).2)
 else (l,a.2)
def oY(ns:List ac)(l:aE):List ac :=
 if dq (ns.getD (lA l).toNat default)=true/\dq (ns.getD (lB l).toNat default)=true then ns.set (lB l).toNat (zJ (ns.getD (lB l).toNat default) false) else ns
def qq(s:(List ac×List aE)×aI)(i:Nat):(List ac×List aE)×aI :=
 let r:=odLink (s.1.2.getD i default) s.2
 ((oY s.1.1 r.1,s.1.2.set i r.1),r.2)
def mS(ns:List ac)(s:List aM×Int×aI):List aM×Int×aI :=
 let a:=aj s.2.2 60
 let at':=s.2.1+a.1
 let w:=aj a.2 ns.length
 let x:=ns.getD w.1.toNat default
 if (aQ x).length=0 then (s.1,at',w.2)
 else
  let r:=aj w.2 (aQ x).length
  let p:=aj r.2 (aA x).length
  let z:=aj p.2 4
  let rt:=(aQ x).getD r.1.toNat default
  (s.1++[(at',w.1,false,(rt.1,if z.1=3 then [] else [((aA x).getD p.1.toNat default).2],rt.2.2))],at',z.2)
def ma(s:aO):aO :=
 let n:=(List.range s.1.1.length).foldl tO (s.1.1,s.2)
 let l:=(List.range s.1.2.1.length).foldl qq ((n.1,s.1.2.1),n.2)
 let k:=aj l.2 4
 let h:=(List.range k.1.toNat).foldl (fun s _=>mS l.1.1 s) ([],0,k.2)
 ((l.1.1,l.1.2,h.1),h.2.2)
def oq(s:aO)(k:Nat):aO:=gm (iz s false) k (k+1)
def pI(n:Int)(s:aO):aO :=
 let a:=aj s.2 n
 let b:=aj a.2 n
 if a.1=b.1 then (s.1,b.2) else gm (s.1,b.2) (1+a.1) (1+b.1)
def kT(c:aI):Int×aO :=
 let a:=iz (([],[],[]),c) true
 let m:=aj a.2 5
 let s:=(List.range (1+m.1).toNat).foldl oq (a.1,m.2)
 (1+m.1,gm (iz s true) (1+m.1) (1+m.1+1))
def ux(plain:Bool)(n:Int)(s:aO):aO :=
 let k:=aj s.2 4
 let s1:=if 1<n/\plain=false then (List.range k.1.toNat).foldl (fun s _=>pI n s) (s.1,k.2) else (s.1,k.2)
 if plain=true/\2<n then
  if (aj s1.2 2).1=1 then gm (s1.1,(aj (aj s1.2 2).2 (n-1)).2) (1+(aj (aj s1.2 2).2 (n-1)).1) n else (s1.1,(aj s1.2 2).2)
 else s1
def yH(plain:Bool)(c:aI):aO :=
 let s:=yK (ux plain (kT c).1 (kT c).2) plain
 if plain then s else ma s
def o3(plain:Bool)(c:aI):bw:=(yH plain c).1
def wm(plain:Bool)(c:aI):aI:=(yH plain c).2
end Go.RS

/- Topo: networks: their errors and their parts. -/
namespace Go.RS
open Go.SX Go.Proofs
set_option maxRecDepth 100000
set_option linter.unusedVariables false
def fc(x:ac):List Int:=nQ x++(if gg x=0 then [] else [gg x])
def Jz:Ct:=⟨[.val cI,.val cI,.val cI],[.val .bool],fun _=>[],fun d=>((decide (d.2.1<=d.1/\d.1<=d.2.2.1),()),())⟩
def ac4:ar Jz.ps->az:=(fun _=>{})
theorem Sx :
 ∀(a b c:Int),ab a/\ab b/\ab c/\True->True-> ∀(d:Bool),d=decide (b<=a)->(d->(d->d)/\(d->d)/\True)/\(d->d)/\(bif d then decide (a<=c) else false)=decide (b<=a/\a<=c):=by
  rintro a b c - -
  (repeat (intro (b_:Bool) (hb_:b_=_);(repeat refine⟨(by first|(simp;done)|(rw[hb_];simp;done)|(rw[hb_];simp;omega)|(rw[hb_];simp;intros;omega)|(rw[hb_];simp +contextual;done)),?_⟩);subst hb_))
  by_cases h1:b<=a <;> by_cases h2:a<=c <;> simp[h1,h2]
theorem BZ:ax Tryz.prog GL 154 Jz.spec:=Ct.okH _ Tryz.func154 (by kernel_rfl) aD av ac4 (aC (by kernel_rfl) Sx)
def LN:Ct:=⟨[.agg bH],[.own 65 cj],fun d=>[(aA d.1).length<=100000],fun d=>((fc d.1,()),())⟩
def Yt:ar LN.ps->az:=(fun d=>{loops:=(fun n=>match n with|3=>some (fun S=>{ι:=Int×(List Int),qn:=⟨fun k_=>∀(j:Int)(l:(List Int)),k_ (j,l),fun k_ h_ i=>h_ i.1 i.2,fun k_=>∃ (j:Int) (l:(List Int)),k_ (j,l),fun k_ ⟨j,l,h_⟩=>⟨_,h_⟩⟩,μ:=fun i=>((aA d.1).length-i.1).toNat,inv:=fun i=>0<=i.1/\i.1<=(aA d.1).length/\i.2=(nQ d.1).take i.1.toNat,keep:=[1,7,8],slots:=fun i=>[(3,.own 524288 1),(9,.int .i64 i.1)],keepN:=[32],names:=fun i=>[(524288,.live (.row 65 cj i.2))]})|_=>none)})
def zC(a:ac)(b:Int)(c:List Int) :=
 a.1=a.1/\(a.1.length:Int)=(a.1.length:Int)/\(0:Int)=b/\a.1=a.1/\a.2.1=a.2.1/\a.2.2.1=a.2.2.1/\a.2.2.2.1=a.2.2.2.1/\a.2.2.2.2.1=a.2.2.2.2.1/\a.2.2.2.2.2.1=a.2.2.2.2.2.1/\a.2.2.2.2.2.2.1=a.2.2.2.2.2.2.1/\a.2.2.2.2.2.2.2.1=a.2.2.2.2.2.2.2.1/\a.2.2.2.2.2.2.2.2.1=a.2.2.2.2.2.2.2.2.1/\a.2.2.2.2.2.2.2.2.2.1=a.2.2.2.2.2.2.2.2.2.1/\a.2.2.2.2.2.2.2.2.2.2.1.1=a.2.2.2.2.2.2.2.2.2.2.1.1/\a.2.2.2.2.2.2.2.2.2.2.1.2=a.2.2.2.2.2.2.2.2.2.2.1.2/\a.2.2.2.2.2.2.2.2.2.2.2.1=a.2.2.2.2.2.2.2.2.2.2.2.1/\a.2.2.2.2.2.2.2.2.2.2.2.2.1=a.2.2.2.2.2.2.2.2.2.2.2.2.1/\a.2.2.2.2.2.2.2.2.2.2.2.2.2.1=a.2.2.2.2.2.2.2.2.2.2.2.2.2.1/\a.2.2.2.2.2.2.2.2.2.2.2.2.2.2=a.2.2.2.2.2.2.2.2.2.2.2.2.2.2/\c=([]:List Int)/\True
def nk(a:ac) :=
 ((List.length (aA a)):Int)
theorem Yu :
 ∀(a:ac),CT.wf bH a/\True->List.length (aA a)<=(100000:Nat)->(∃(b:Int) (c:List Int),(0<=b/\b<=(nk a)/\c=List.take b.toNat (nQ a))/\(zC a b c))/\ ∀(b:Int)(c:List Int),0<=b/\b<=(nk a)/\c=List.take b.toNat (nQ a)->ad (decide (b<(a.1.length:Int))) (0<=b/\b<(a.1.length:Int)/\(c.length+List.length [(List.getD a.1 b.toNat default).1])*(4:Nat)<=(140737488355328:Nat)/\ ∃(d:Int) (e:List Int),(0<=d/\d<=(nk a)/\e=List.take d.toNat (nQ a))/\Int.toNat ((nk a) -d)<Int.toNat ((nk a) -b)/\a.1=a.1/\(a.1.length:Int)=(a.1.length:Int)/\IntKind.wrap .i64
 (b+(1:Int))=d/\a.1=a.1/\a.2.1=a.2.1/\a.2.2.1=a.2.2.1/\a.2.2.2.1=a.2.2.2.1/\a.2.2.2.2.1=a.2.2.2.2.1/\a.2.2.2.2.2.1=a.2.2.2.2.2.1/\a.2.2.2.2.2.2.1=a.2.2.2.2.2.2.1/\a.2.2.2.2.2.2.2.1=a.2.2.2.2.2.2.2.1/\a.2.2.2.2.2.2.2.2.1=a.2.2.2.2.2.2.2.2.1/\a.2.2.2.2.2.2.2.2.2.1=a.2.2.2.2.2.2.2.2.2.1/\a.2.2.2.2.2.2.2.2.2.2.1.1=a.2.2.2.2.2.2.2.2.2.2.1.1/\a.2.2.2.2.2.2.2.2.2.2.1.2=a.2.2.2.2.2.2.2.2.2.2.1.2/\a.2.2.2.2.2.2.2.2.2.2.2.1=a.2.2.2.2.2.2.2.2.2.2.2.1/\a.2.2.2.2.2.2.2.2.2.2.2.2.1=a.2.2.2.2.2.2.2.2.2.2.2.2.1/\a.2.2.2.2.2.2.2.2.2.2.2.2.2.1=a.2.2.2.2.2.2.2.2.2.2.2.2.2.1/\a.2.2.2.2.2.2.2.2.2.2.2.2.2.2=a.2.2.2.2.2.2.2.2.2.2.2.2.2.2/\c++[(List.getD a.1 b.toNat default).1]=e/\True) (ad (! decide (a.2.1=0)) ((c.length+List.length [a.2.1])*(4:Nat)<=(140737488355328:Nat)/\c++[a.2.1]=fc a) (c=fc a)):=by
  delta zC nk
  rintro d-hl
  have hlen:(nQ d).length=(aA d).length:=by simp[nQ]
  have hd:d.1=aA d:=rfl
  have hz:d.2.1=gg d:=rfl
  rw[hd,hz]
  refine⟨⟨0,[],⟨by omega,by omega,rfl⟩,(by repeat' first|exact trivial|refine⟨trivial,?_⟩|refine⟨(by with_reducible rfl),?_⟩|refine⟨ai (by omega) (by omega),?_⟩|refine⟨rfl,?_⟩)⟩,?_⟩
  rintro j l ⟨j0,j1,rfl⟩
  refine ae (fun hk=>?_) (fun hk=>?_)
  ·have hk:=of_decide_eq_true hk
   refine⟨j0,hk,by simp only[List.length_take,List.length_cons,List.length_nil];omega,j+1,_,⟨by omega,by omega,rfl⟩,by omega,?_⟩
   (repeat first|refine⟨trivial,?_⟩|refine⟨(by with_reducible rfl),?_⟩|refine⟨ai (by omega) (by omega),?_⟩)
   refine⟨?_,trivial⟩
   rw[Am j0 (by rw[hlen];exact hk)]
   unfold nQ
   rw[List.getD_eq_getElem?_getD,List.getD_eq_getElem?_getD,List.getElem?_map,List.getElem?_eq_getElem (by omega)]
   rfl
  ·have hk:=of_decide_eq_false hk
   rw[List.take_of_length_le (by omega)]
   unfold fc
   refine ae (fun h=>?_) (fun h=>?_)
   ·rw[if_neg (gC h)]
    exact⟨by simp only[List.length_cons,List.length_nil];omega,rfl⟩
   ·rw[if_pos (hT h),List.append_nil]
theorem SJ:ax Tryz.prog GL 176 LN.spec:=Ct.okH _ Tryz.func176 (by kernel_rfl) aD av Yt (aC (by kernel_rfl) Yu)
def jU(i:Int)(l:List Int)(m:List (Int×Int)):List (Int×Int):=l.foldl (fun m a=>iC a i m) m
def d6(ns:List ac)(k:Nat):List (Int×Int):=(List.range k).foldl (fun m (i:Nat)=>jU (i:Int) (fc (ns.getD i default)) m) []
def Ij(ns:List ac):Bool:=(List.range ns.length).any fun (i:Nat)=>(fc (ns.getD i default)).any fun a=>dX a (d6 ns i)
def qu(n:bw):Int:=if Ij n.1 then 10 else 0
theorem Oa{a b v:Int}:∀{m:List (Int×Int)},dX a (iC b v m)=(decide (a=b)||dX a m)
 | []=>by simp only[iC,dX];cases decide (a=b) <;> rfl
 | p::m=>by
  simp only[iC]
  by_cases hb:b=p.1
  ·rw[decide_eq_true hb,cond_true,dX,dX,← hb]
   cases decide (a=b) <;> rfl
  ·rw[decide_eq_false hb,cond_false,dX,dX,Oa]
   cases decide (a=p.1) <;> cases decide (a=b) <;> rfl
theorem IJ{a b v:Int}:∀{m:List (Int×Int)},iW a (iC b v m)=if a=b then v else iW a m
 | []=>by
  simp only[iC,iW]
  by_cases h:a=b
  ·rw[decide_eq_true h,if_pos h];rfl
  ·rw[decide_eq_false h,if_neg h];rfl
 | p::m=>by
  simp only[iC]
  by_cases hb:b=p.1
  ·rw[decide_eq_true hb,cond_true,iW,iW,← hb]
   by_cases h:a=b
   ·rw[decide_eq_true h,if_pos h];rfl
   ·rw[decide_eq_false h,if_neg h];rfl
  ·rw[decide_eq_false hb,cond_false,iW,iW,IJ]
   by_cases h:a=p.1
   ·have hab:¬ a=b:=fun e=>hb (e.symm.trans h)
    simp only[if_neg hab]
   ·rw[decide_eq_false h];rfl
theorem ae0(i a:Int)(l:List Int)(m:List (Int×Int)):jU i (l++[a]) m=iC a i (jU i l m):=by
 unfold jU;rw[List.foldl_append];rfl
theorem Em{i a:Int}{m:List (Int×Int)}:∀{l:List Int},dX a (jU i l m)=(decide (a∈l)||dX a m)/\iW a (jU i l m)=if a∈l then i else iW a m:=by
 intro l
 induction l generalizing m with
 | nil=>simp[jU]
 | cons b l ih =>
  have k:=ih (m:=iC b i m)
  unfold jU at k ⊢
  rw[List.foldl_cons,k.1,k.2,Oa,IJ]
  by_cases h1:a=b <;> by_cases h2:a∈l <;> simp[h1,h2]
theorem Ou(ns:List ac):∀(k:Nat)(a:Int),dX a (d6 ns k)=true->iW a (d6 ns k)<k
 | 0,a,h=>by cases h
 | k+1,a,h=>by
  have e:d6 ns (k+1)=jU k (fc (ns.getD k default)) (d6 ns k):=by unfold d6;rw[List.range_succ,List.foldl_append];rfl
  rw[e] at h ⊢
  have q:=Em (i:=(k:Int)) (a:=a) (m:=d6 ns k) (l:=fc (ns.getD k default))
  rw[q.1] at h
  rw[q.2]
  split
  ·omega
  ·rename_i hn
   rw[decide_eq_false hn,Bool.false_or] at h
   have:=Ou ns k a h
   omega
def Jg:Ct:=⟨[.agg ig],[.val cI],fun d=>[∀ x∈d.1.1,(aA x).length<=100000],fun d=>((qu d.1,()),())⟩
def PY:ar Jg.ps->az:=(fun d=>{loops:=(fun n=>match n with|3=>some (fun S=>{ι:=Int,μ:=fun i=>(d.1.1.length-i).toNat,inv:=fun i=>0<=i/\i<=d.1.1.length∧∀ k:Nat,(k:Int)<i→∀ a∈fc (d.1.1.getD k default),dX a (d6 d.1.1 k)=false,keep:=[1,12,13],slots:=fun i=>[(14,.int .i64 i),(3,.mapp 524288)],keepN:=[32],names:=fun i=>[(524288,.live (.mp .u32 .i64 (d6 d.1.1 i.toNat)))]})|6=>some (fun S=>{ι:=Int,μ:=fun i=>((fc (d.1.1.getD (S.i 14).toNat default)).length-i).toNat,inv:=fun i=>0<=i/\i<=(fc (d.1.1.getD (S.i 14).toNat default)).length∧∀ a∈(fc (d.1.1.getD (S.i 14).toNat default)).take i.toNat,dX a (d6 d.1.1 (S.i 14).toNat)=false,keep:=[1,4,12,13,14,20,21],slots:=fun i=>[(22,.int .i64 i),(3,.mapp 524288)],keepN:=[32,336],names:=fun i=>[(524288,.live (.mp .u32 .i64 (jU (S.i 14) ((fc (d.1.1.getD (S.i 14).toNat default)).take i.toNat) (d6 d.1.1 (S.i 14).toNat))))]})|_=>none)})
def qk(a:List ac)(b:List aE)(c:List aM) :=
 (a.length<=maxLen/\ ∀(d:ac),d∈a->CT.wf bH d)/\(b.length<=maxLen/\ ∀(d:aE),d∈b->CT.wf fB d)/\c.length<=maxLen/\ ∀(d:aM),d∈c->CT.wf d8 d
def mo(a:List ac)(d:Int) :=
 fc (a.getD d.toNat default)
def nS(a:List ac)(d:Int) :=
 ((List.length (mo a d)):Int)
def eV(a:List ac) :=
 (a.length:Int)
def El(a:List ac)(d:Int) :=
 0<=d/\d<=(eV a)/\ ∀(e:Nat),(↑e:Int)<d-> ∀(f:Int),f∈fc (a.getD e default)->dX f (d6 a e)=false
theorem Y8 :
 ∀(a:List ac)(b:List aE)(c:List aM),(qk a b c)/\True->(∀(d:ac),d∈a->List.length (aA d)<=(100000:Nat))->(∃(d:Int),(El a d)/\a=a/\(eV a)=(eV a)/\(0:Int)=d/\a=a/\b=b/\c=c/\([]:List (Int×Int))=d6 a d.toNat/\True)/\ ∀(d:Int),(El a d)->ad (decide (d<(eV a))) (0<=d/\d<(eV a)/\List.length (aA (a.getD d.toNat default))<=(100000:Nat)/\(∃(e:Int),(0<=e/\e<=(nS a d)/\ ∀(f:Int),f∈List.take e.toNat (mo a d)->dX f (d6 a d.toNat)=false)/\d=d/\a=a/\(eV a)=(eV a)/\d=d/\(nS a d)=(nS a d)/\(0:Int)=e/\a=a/\b=b/\c=c/\fc (a.getD d.toNat default)=fc (a.getD d.toNat default)/\d6 a d.toNat=jU d (List.take e.toNat (mo a d)) (d6 a d.toNat)/\True)/\ ∀(e:Int),(0<=e/\e<=(nS a d)/\ ∀(f:Int),f∈List.take e.toNat (mo a d)->dX f (d6 a d.toNat)=false)->ad (decide (e<(nS a d))) (0<=e/\e<(nS a d)/\ ∀(f:Bool),f=dX (List.getD (mo a d) e.toNat
 default) (jU d (List.take e.toNat (mo a d)) (d6 a d.toNat))->(f->(f->f)/\(f->f)/\True)/\(f->f)/\ad (bif f then ! decide (iW (List.getD (mo a d) e.toNat default) (jU d (List.take e.toNat (mo a d)) (d6 a d.toNat))=d) else false) ((10:Int)=qu (a,b,c)) (∃(g:Int),(0<=g/\g<=(nS a d)/\ ∀(h:Int),h∈List.take g.toNat (mo a d)->dX h (d6 a d.toNat)=false)/\Int.toNat ((nS a d) -g)<Int.toNat ((nS a d) -e)/\d=d/\a=a/\(eV a)=(eV a)/\d=d/\(nS a d)=(nS a d)/\IntKind.wrap .i64 (e+(1:Int))=g/\a=a/\b=b/\c=c/\fc (a.getD d.toNat default)=fc (a.getD d.toNat default)/\iC (List.getD (mo a d) e.toNat default) d (jU d (List.take e.toNat (mo a d)) (d6 a d.toNat))=jU d (List.take g.toNat (mo a d)) (d6 a d.toNat)/\True)) (∃(f:Int),(0<=f/\f<=(eV a)/\ ∀(g:Nat),(↑g:Int)<f-> ∀(h:Int),h∈fc (a.getD g default)->dX h (d6 a g)=false)/\Int.toNat
 ((eV a) -f)<Int.toNat ((eV a) -d)/\a=a/\(eV a)=(eV a)/\IntKind.wrap .i64 (d+(1:Int))=f/\a=a/\b=b/\c=c/\jU d (List.take e.toNat (mo a d)) (d6 a d.toNat)=d6 a f.toNat/\True)) ((0:Int)=qu (a,b,c)):=by
  delta qk mo nS eV El
  rintro ns ls hs ⟨⟨⟨hnl,-⟩,-⟩,-⟩ hp
  simp only[maxLen] at hnl
  have hlen:∀ x∈ns,(fc x).length<=100001:=fun x hx=>by
   have:=hp x hx
   unfold fc nQ
   rw[List.length_append,List.length_map]
   split <;> simp <;> omega
  refine⟨⟨0,⟨by omega,by omega,fun k hk=>by omega⟩,(by repeat' first|exact trivial|refine⟨trivial,?_⟩|refine⟨(by with_reducible rfl),?_⟩|refine⟨ai (by omega) (by omega),?_⟩|refine⟨rfl,?_⟩)⟩,?_⟩
  rintro i ⟨i0,i1,hI⟩
  refine ae (fun hi=>?_) (fun hi=>?_)
  rotate_left
  ·have hi:=of_decide_eq_false hi
   unfold qu
   rw[if_neg]
   intro h
   obtain⟨k,hk,h2⟩:=List.any_eq_true.1 h
   obtain⟨a,ha,h3⟩:=List.any_eq_true.1 h2
   have hk:k<ns.length:=List.mem_range.1 hk
   rw[hI k (by omega) a ha] at h3
   cases h3
  have hi:=of_decide_eq_true hi
  have hm:=bL i0 hi
  have hl:=hlen _ hm
  refine⟨i0,hi,hp _ hm,⟨0,⟨by omega,by omega,by simp⟩,(by repeat' first|exact trivial|refine⟨trivial,?_⟩|refine⟨(by with_reducible rfl),?_⟩|refine⟨ai (by omega) (by omega),?_⟩|refine⟨rfl,?_⟩)⟩,?_⟩
  rintro j ⟨j0,j1,hJ⟩
  have ei:((i.toNat:Nat):Int)=i:=by omega
  refine ae (fun hj=>?_) (fun hj=>?_)
  rotate_left
  ·have hj:=of_decide_eq_false hj
   rw[List.take_of_length_le (by omega)] at hJ ⊢
   refine⟨i+1,⟨by omega,by omega,fun k hk a ha=>?_⟩,by omega,?_⟩
   ·by_cases e:(k:Int)<i
    ·exact hI k e a ha
    ·have:k=i.toNat:=by omega
     subst this
     exact hJ a ha
   ·have e:jU i (fc (ns.getD i.toNat default)) (d6 ns i.toNat)=d6 ns (i+1).toNat:=by
     rw[show (i+1).toNat=i.toNat+1 by omega]
     unfold d6
     rw[List.range_succ,List.foldl_append,List.foldl_cons,List.foldl_nil,ei]
    rw[e]
    exact (by repeat' first|exact trivial|refine⟨trivial,?_⟩|refine⟨(by with_reducible rfl),?_⟩|refine⟨ai (by omega) (by omega),?_⟩|refine⟨rfl,?_⟩)
  have hj:=of_decide_eq_true hj
  have ha:=bL j0 hj
  have st:=Am j0 hj
  refine⟨j0,hj,?_⟩
  have q:=Em (i:=i) (a:=(fc (ns.getD i.toNat default)).getD j.toNat default) (m:=d6 ns i.toNat) (l:=(fc (ns.getD i.toNat default)).take j.toNat)
  generalize (fc (ns.getD i.toNat default)).getD j.toNat default=a at ha st q ⊢
  have lt:=Ou ns i.toNat a
  rw[ei] at lt
  intro b hb
  (repeat refine⟨by simp,?_⟩)
  refine r8 (fun x1 x2=>?_) (fun hno=>?_)
  ·have x2:=gC x2
   rw[hb,q.1] at x1
   rw[q.2] at x2
   have hn:a ∉ (fc (ns.getD i.toNat default)).take j.toNat:=fun h=>by rw[if_pos h] at x2;exact x2 rfl
   rw[decide_eq_false hn,Bool.false_or] at x1
   unfold qu
   rw[if_pos]
   exact List.any_eq_true.2 ⟨i.toNat,List.mem_range.2 (show i.toNat<ns.length by omega),List.any_eq_true.2 ⟨a,ha,x1⟩⟩
  ·have hz:dX a (d6 ns i.toNat)=false:=by
    by_cases hn:a∈(fc (ns.getD i.toNat default)).take j.toNat
    ·exact hJ a hn
    ·rw[decide_eq_false hn,Bool.false_or] at q
     rw[if_neg hn] at q
     rcases hno with h|h
     ·rw[hb,q.1] at h;exact h
     ·have h:=hT h
      rw[q.2] at h
      cases hq:dX a (d6 ns i.toNat) with
      | false=>rfl
      | true=>have:=lt hq;omega
   refine⟨j+1,⟨by omega,by omega,fun y hy=>?_⟩,by omega,?_⟩
   ·rw[st] at hy
    rcases List.mem_append.1 hy with hy|hy
    ·exact hJ y hy
    ·rw[List.mem_singleton.1 hy];exact hz
   ·rw[st,ae0]
    exact (by repeat' first|exact trivial|refine⟨trivial,?_⟩|refine⟨(by with_reducible rfl),?_⟩|refine⟨ai (by omega) (by omega),?_⟩|refine⟨rfl,?_⟩)
theorem RR:ax Tryz.prog GL 118 Jg.spec:=Ct.okH _ Tryz.func118 (by kernel_rfl) (ah aD SJ) av PY (aC (by kernel_rfl) Y8)
def fF(ls:List aE)(k x:Int):Int:=if k<0∨(ls.length:Int)<=k then -1 else if x=lA (ls.getD k.toNat default) then lB (ls.getD k.toNat default) else if x=lB (ls.getD k.toNat default) then lA (ls.getD k.toNat default) else -1
def nD(n:bw):Int:=if n.1.length<1∨64<n.1.length∨128<n.2.1.length∨64<n.2.2.length then 5 else 0
def J9:Ct:=⟨[.agg ig],[.val cI],fun _=>[],fun d=>((nD d.1,()),())⟩
def ab4:ar J9.ps->az:=(fun _=>{})
def dr(b:List aE) :=
 (b.length:Int)
def nG(e:Bool) :=
 (! e)->((! e)->(! e))/\True
theorem ZX :
 ∀(a:List ac)(b:List aE)(c:List aM),(qk a b c)/\True->True-> ∀(d:Bool),d=decide ((eV a)<1)->((! d)->((! d)->(! d))/\True)/\((! d)->((! d)->(! d))/\True)/\((! d)->((! d)->(! d))/\True)/\(d=false->(! d))/\ ∀(e:Bool),(e=bif d then true else decide (64<(eV a)))->(nG e)/\(nG e)/\(nG e)/\(e=false->(! e))/\ ∀(f:Bool),(f=bif e then true else decide (128<(dr b)))->((! f)->((! f)->(! f))/\True)/\((! f)->((! f)->(! f))/\True)/\((! f)->((! f)->(! f))/\True)/\(f=false->(! f))/\ad (bif f then true else decide (64<(c.length:Int))) ((5:Int)=nD (a,b,c)) ((0:Int)=nD (a,b,c)):=by
  delta qk dr nG eV
  rintro ns ls hs - -
  (repeat (intro (b_:Bool) (hb_:b_=_);(repeat refine⟨(by first|(simp;done)|(rw[hb_];simp;done)|(rw[hb_];simp;omega)|(rw[hb_];simp;intros;omega)|(rw[hb_];simp +contextual;done)),?_⟩);subst hb_))
  unfold nD
  refine ae (fun h=>?_) (fun h=>?_)
  ·simp[Bool.cond_eq_ite] at h
   rw[if_pos (by dsimp only;omega)]
  ·simp[Bool.cond_eq_ite] at h
   rw[if_neg (by dsimp only;omega)]
theorem WL:ax Tryz.prog GL 114 J9.spec:=Ct.okH _ Tryz.func114 (by kernel_rfl) aD av ab4 (aC (by kernel_rfl) ZX)
def I2:Ct:=⟨[.agg bH],[.own 3 cI],fun d=>[(aA d.1).length<=100000],fun d=>((bv d.1,()),())⟩
def WB:ar I2.ps->az:=(fun d=>{loops:=(fun n=>match n with|3=>some (fun S=>{ι:=Int×(List Int),qn:=⟨fun k_=>∀(j:Int)(l:(List Int)),k_ (j,l),fun k_ h_ i=>h_ i.1 i.2,fun k_=>∃ (j:Int) (l:(List Int)),k_ (j,l),fun k_ ⟨j,l,h_⟩=>⟨_,h_⟩⟩,μ:=fun i=>((aA d.1).length-i.1).toNat,inv:=fun i=>0<=i.1/\i.1<=(aA d.1).length/\i.2=(bv d.1).take i.1.toNat,keep:=[1,7,8],slots:=fun i=>[(3,.own 524288 1),(9,.int .i64 i.1)],keepN:=[32],names:=fun i=>[(524288,.live (.row 3 cI i.2))]})|_=>none)})
theorem au8 :
 ∀(a:ac),CT.wf bH a/\True->List.length (aA a)<=(100000:Nat)->(∃(b:Int) (c:List Int),(0<=b/\b<=(nk a)/\c=List.take b.toNat (bv a))/\(zC a b c))/\ ∀(b:Int)(c:List Int),0<=b/\b<=(nk a)/\c=List.take b.toNat (bv a)->ad (decide (b<(a.1.length:Int))) (0<=b/\b<(a.1.length:Int)/\(c.length+List.length [(List.getD a.1 b.toNat default).2])*(8:Nat)<=(140737488355328:Nat)/\ ∃(d:Int) (e:List Int),(0<=d/\d<=(nk a)/\e=List.take d.toNat (bv a))/\Int.toNat ((nk a) -d)<Int.toNat ((nk a) -b)/\a.1=a.1/\(a.1.length:Int)=(a.1.length:Int)/\IntKind.wrap .i64
 (b+(1:Int))=d/\a.1=a.1/\a.2.1=a.2.1/\a.2.2.1=a.2.2.1/\a.2.2.2.1=a.2.2.2.1/\a.2.2.2.2.1=a.2.2.2.2.1/\a.2.2.2.2.2.1=a.2.2.2.2.2.1/\a.2.2.2.2.2.2.1=a.2.2.2.2.2.2.1/\a.2.2.2.2.2.2.2.1=a.2.2.2.2.2.2.2.1/\a.2.2.2.2.2.2.2.2.1=a.2.2.2.2.2.2.2.2.1/\a.2.2.2.2.2.2.2.2.2.1=a.2.2.2.2.2.2.2.2.2.1/\a.2.2.2.2.2.2.2.2.2.2.1.1=a.2.2.2.2.2.2.2.2.2.2.1.1/\a.2.2.2.2.2.2.2.2.2.2.1.2=a.2.2.2.2.2.2.2.2.2.2.1.2/\a.2.2.2.2.2.2.2.2.2.2.2.1=a.2.2.2.2.2.2.2.2.2.2.2.1/\a.2.2.2.2.2.2.2.2.2.2.2.2.1=a.2.2.2.2.2.2.2.2.2.2.2.2.1/\a.2.2.2.2.2.2.2.2.2.2.2.2.2.1=a.2.2.2.2.2.2.2.2.2.2.2.2.2.1/\a.2.2.2.2.2.2.2.2.2.2.2.2.2.2=a.2.2.2.2.2.2.2.2.2.2.2.2.2.2/\c++[(List.getD a.1 b.toNat default).2]=e/\True) (c=bv a):=by
  delta zC nk
  rintro d-hl
  have hlen:(bv d).length=(aA d).length:=by simp[bv]
  refine⟨⟨0,[],⟨by omega,by omega,rfl⟩,(by repeat' first|exact trivial|refine⟨trivial,?_⟩|refine⟨(by with_reducible rfl),?_⟩|refine⟨ai (by omega) (by omega),?_⟩|refine⟨rfl,?_⟩)⟩,?_⟩
  rintro j l ⟨j0,j1,rfl⟩
  have hd:d.1=aA d:=rfl
  rw[hd]
  refine ae (fun hk=>?_) (fun hk=>?_)
  ·have hk:=of_decide_eq_true hk
   refine⟨j0,hk,by simp only[List.length_take,List.length_cons,List.length_nil];omega,j+1,_,⟨by omega,by omega,rfl⟩,by omega,?_⟩
   (repeat first|refine⟨trivial,?_⟩|refine⟨(by with_reducible rfl),?_⟩|refine⟨ai (by omega) (by omega),?_⟩)
   refine⟨?_,trivial⟩
   rw[Am j0 (by rw[hlen];exact hk)]
   unfold bv
   rw[List.getD_eq_getElem?_getD,List.getD_eq_getElem?_getD,List.getElem?_map,List.getElem?_eq_getElem (by omega)]
   rfl
  ·have hk:=of_decide_eq_false hk
   rw[List.take_of_length_le (by omega)]
theorem KJ:ax Tryz.prog GL 175 I2.spec:=Ct.okH _ Tryz.func175 (by kernel_rfl) aD av WB (aC (by kernel_rfl) au8)
def LD:Ct:=⟨[.agg ig,.val cI,.val cI],[.val cI],fun _=>[],fun d=>((fF d.1.2.1 d.2.1 d.2.2.1,()),())⟩
def P5:ar LD.ps->az:=(fun _=>{})
def fw(b:List aE)(d:Int) :=
 b.getD d.toNat default
theorem aj6 :
 ∀(a:List ac)(b:List aE)(c:List aM)(d e:Int),((a.length<=maxLen/\ ∀(f:ac),f∈a->CT.wf bH f)/\(b.length<=maxLen/\ ∀(f:aE),f∈b->CT.wf fB f)/\c.length<=maxLen/\ ∀(f:aM),f∈c->CT.wf d8 f)/\ab d/\ab e/\True->True->ad (! decide (0<=d/\d<=IntKind.wrap .i64 ((dr b) -(1:Int)))) ((-1:Int)=fF b d e) (0<=d/\d<(dr b)/\ad (decide (e=(fw b d).1)) ((fw b d).2.1=fF b d e) (ad (decide (e=(fw b d).2.1)) ((fw b d).1=fF b d e) ((-1:Int)=fF b d e))):=by
  delta fw dr
  rintro ns ls hs k x ⟨⟨-,⟨hl,-⟩,-⟩,-⟩ -
  simp only[maxLen] at hl
  rw[ai (n:=(ls.length:Int)-1) (by omega) (by omega)]
  unfold fF lA lB
  refine ae (fun h=>?_) (fun h=>?_)
  ·have h:=gC h
   rw[if_pos (by omega)]
  have h:=hT h
  rw[if_neg (by omega)]
  refine⟨h.1,by omega,ae (fun h1=>?_) (fun h1=>?_)⟩
  ·rw[if_pos (of_decide_eq_true h1)]
  rw[if_neg (of_decide_eq_false h1)]
  refine ae (fun h2=>?_) (fun h2=>?_)
  ·rw[if_pos (of_decide_eq_true h2)]
  ·rw[if_neg (of_decide_eq_false h2)]
theorem ah6:ax Tryz.prog GL 85 LD.spec:=Ct.okH _ Tryz.func85 (by kernel_rfl) (ah aD BZ) av P5 (aC (by kernel_rfl) aj6)
def iH(ns:List ac)(l:aE):Bool:=dq (ns.getD (lA l).toNat default)&&dq (ns.getD (lB l).toNat default)
def oe(n:bw):Int:=if n.2.1.any (iH n.1) then 13 else 0
def wW(n:bw):Prop:=∀ l∈n.2.1,0<=lA l/\lA l<n.1.length/\0<=lB l/\lB l<n.1.length
def OF:Ct:=⟨[.agg ig],[.val cI],fun d=>[wW d.1],fun d=>((oe d.1,()),())⟩
def V8:ar OF.ps->az:=(fun d=>{loops:=(fun n=>match n with|2=>some (fun S=>{ι:=Int,μ:=fun i=>(d.1.2.1.length-i).toNat,inv:=fun i=>0<=i/\i<=d.1.2.1.length∧∀ x∈d.1.2.1.take i.toNat,iH d.1.1 x=false,keep:=[1,6,7],slots:=fun i=>[(8,.int .i64 i)],keepN:=[32],names:=fun i=>[]})|_=>none)})
theorem at6 :
 ∀(a:List ac)(b:List aE)(c:List aM),(qk a b c)/\True->(∀(d:aE),d∈b->0<=lA d/\lA d<(eV a)/\0<=lB d/\lB d<(eV a))->(∃(d:Int),(0<=d/\d<=(dr b)/\ ∀(e:Int×Int×Int×Int×Int×Int),e∈List.take d.toNat b->iH a e=false)/\b=b/\(dr b)=(dr b)/\(0:Int)=d/\a=a/\b=b/\c=c/\True)/\ ∀(d:Int),(0<=d/\d<=(dr b)/\ ∀(e:Int×Int×Int×Int×Int×Int),e∈List.take d.toNat b->iH a e=false)->ad (decide (d<(dr b))) (0<=d/\d<(dr b)/\0<=(fw b d).1/\(fw b d).1<(eV a)/\ ∀(e:Bool),e=(a.getD (Int.toNat (fw b d).1) default).2.2.2.2.2.2.2.2.2.2.2.2.1->(e->(e->e)/\True)/\(e->(e->e)/\True)/\(e->(e->e)/\(e->e)/\0<=(fw b d).2.1/\(fw b d).2.1<(eV a)/\True)/\(e->(e->e)/\True)/\(e->(e->e)/\True)/\(e->e)/\ad (bif e then (a.getD (Int.toNat (fw b d).2.1) default).2.2.2.2.2.2.2.2.2.2.2.2.1 else false) ((13:Int)=oe (a,b,c)) (∃(f:Int),(0<=f/\f<=(dr b)/\
 ∀(g:Int×Int×Int×Int×Int×Int),g∈List.take f.toNat b->iH a g=false)/\Int.toNat ((dr b) -f)<Int.toNat ((dr b) -d)/\b=b/\(dr b)=(dr b)/\IntKind.wrap .i64 (d+(1:Int))=f/\a=a/\b=b/\c=c/\True)) ((0:Int)=oe (a,b,c)):=by
  delta qk fw dr eV
  rintro ns ls hs ⟨⟨-,⟨hl,-⟩,-⟩,-⟩ he
  simp only[maxLen] at hl
  refine⟨⟨0,⟨by omega,by omega,by simp⟩,(by repeat' first|exact trivial|refine⟨trivial,?_⟩|refine⟨(by with_reducible rfl),?_⟩|refine⟨ai (by omega) (by omega),?_⟩|refine⟨rfl,?_⟩)⟩,?_⟩
  rintro i ⟨i0,i1,hI⟩
  refine ae (fun hi=>?_) (fun hi=>?_)
  rotate_left
  ·have hi:=of_decide_eq_false hi
   rw[List.take_of_length_le (by omega)] at hI
   unfold oe
   rw[if_neg]
   intro h
   obtain⟨l,h1,h2⟩:=List.any_eq_true.1 h
   rw[hI l h1] at h2;cases h2
  have hi:=of_decide_eq_true hi
  have hm:=bL i0 hi
  have e:=he _ hm
  refine⟨i0,hi,e.1,e.2.1,?_⟩
  intro b hb
  (repeat first|refine⟨fun h=>⟨fun _=>h,fun _=>h,e.2.2.1,e.2.2.2,trivial⟩,?_⟩|refine⟨fun h=>⟨fun _=>h,e.2.2.1,e.2.2.2,trivial⟩,?_⟩|refine⟨by simp,?_⟩)
  refine r8 (fun x1 x2=>?_) (fun hno=>?_)
  ·unfold oe
   rw[if_pos]
   refine List.any_eq_true.2 ⟨_,hm,?_⟩
   unfold iH
   rw[Bool.and_eq_true]
   exact⟨hb.symm.trans x1,x2⟩
  ·refine⟨i+1,⟨by omega,by omega,rz i0 hi hI ?_⟩,by omega,(by repeat' first|exact trivial|refine⟨trivial,?_⟩|refine⟨(by with_reducible rfl),?_⟩|refine⟨ai (by omega) (by omega),?_⟩|refine⟨rfl,?_⟩)⟩
   unfold iH
   rw[Bool.and_eq_false_iff]
   rcases hno with h|h
   ·exact .inl (hb.symm.trans h)
   ·exact .inr h
theorem Zb:ax Tryz.prog GL 119 OF.spec:=Ct.okH _ Tryz.func119 (by kernel_rfl) aD av V8 (aC (by kernel_rfl) at6)
def nH(n:bw)(k:Nat):Bool:=decide (cM (n.1.getD (lA (n.2.1.getD k default)).toNat default) k<0)||decide (cM (n.1.getD (lB (n.2.1.getD k default)).toNat default) k<0)
def nt(n:bw):Int:=if (List.range n.2.1.length).any (nH n) then 11 else 0
def Iz:Ct:=⟨[.agg ig],[.val cI],fun d=>[wW d.1],fun d=>((nt d.1,()),())⟩
def aq7:ar Iz.ps->az:=(fun d=>{loops:=(fun n=>match n with|2=>some (fun S=>{ι:=Int,μ:=fun i=>(d.1.2.1.length-i).toNat,inv:=fun i=>0<=i/\i<=d.1.2.1.length∧∀ k:Nat,(k:Int)<i->nH d.1 k=false,keep:=[1,6,7],slots:=fun i=>[(8,.int .i64 i)],keepN:=[32],names:=fun i=>[]})|_=>none)})
theorem PW :
 ∀(a:List ac)(b:List aE)(c:List aM),(qk a b c)/\True->(∀(d:aE),d∈b->0<=lA d/\lA d<(eV a)/\0<=lB d/\lB d<(eV a))->(∃(d:Int),(0<=d/\d<=(dr b)/\ ∀(e:Nat),(↑e:Int)<d->nH (a,b,c) e=false)/\b=b/\(dr b)=(dr b)/\(0:Int)=d/\a=a/\b=b/\c=c/\True)/\ ∀(d:Int),(0<=d/\d<=(dr b)/\ ∀(e:Nat),(↑e:Int)<d->nH (a,b,c) e=false)->ad (decide (d<(dr b))) (0<=d/\d<(dr b)/\0<=(fw b d).1/\(fw b d).1<(eV a)/\ ∀(e:Bool),e=decide (cM (a.getD (Int.toNat (fw b d).1) default) d<0)->(nG e)/\(nG e)/\((! e)->((! e)->(! e))/\((! e)->(! e))/\0<=(fw b d).2.1/\(fw b d).2.1<(eV a)/\True)/\(nG e)/\((! e)->((! e)->(! e))/\((! e)->(! e))/\True)/\(nG e)/\(e=false->(! e))/\ad (bif e then true else decide (cM (a.getD (Int.toNat (fw b d).2.1) default) d<0)) ((11:Int)=nt (a,b,c)) (∃(f:Int),(0<=f/\f<=(dr b)/\ ∀(g:Nat),(↑g:Int)<f->nH (a,b,c) g=false)/\Int.toNat
 ((dr b) -f)<Int.toNat ((dr b) -d)/\b=b/\(dr b)=(dr b)/\IntKind.wrap .i64 (d+(1:Int))=f/\a=a/\b=b/\c=c/\True)) ((0:Int)=nt (a,b,c)):=by
  delta qk fw dr nG eV
  rintro ns ls hs ⟨⟨-,⟨hl,-⟩,-⟩,-⟩ he
  simp only[maxLen] at hl
  refine⟨⟨0,⟨by omega,by omega,fun k hk=>by omega⟩,(by repeat' first|exact trivial|refine⟨trivial,?_⟩|refine⟨(by with_reducible rfl),?_⟩|refine⟨ai (by omega) (by omega),?_⟩|refine⟨rfl,?_⟩)⟩,?_⟩
  rintro i ⟨i0,i1,hI⟩
  refine ae (fun hi=>?_) (fun hi=>?_)
  rotate_left
  ·have hi:=of_decide_eq_false hi
   unfold nt
   rw[if_neg]
   intro h
   obtain⟨k,h1,h2⟩:=List.any_eq_true.1 h
   have h1:k<ls.length:=List.mem_range.1 h1
   rw[hI k (by omega)] at h2;cases h2
  have hi:=of_decide_eq_true hi
  have hm:=bL i0 hi
  have e:=he _ hm
  have ei:((i.toNat:Nat):Int)=i:=by omega
  refine⟨i0,hi,e.1,e.2.1,?_⟩
  intro b hb
  (repeat first|refine⟨fun h=>⟨fun _=>h,fun _=>h,e.2.2.1,e.2.2.2,trivial⟩,?_⟩|refine⟨fun h=>⟨fun _=>h,e.2.2.1,e.2.2.2,trivial⟩,?_⟩|refine⟨by simp,?_⟩)
  refine qp (fun ho=>?_) (fun x1 x2=>?_)
  ·unfold nt
   rw[if_pos]
   refine List.any_eq_true.2 ⟨i.toNat,List.mem_range.2 (show i.toNat<ls.length by omega),?_⟩
   unfold nH
   rw[Bool.or_eq_true,ei]
   rcases ho with h|h
   ·exact .inl (hb.symm.trans h)
   ·exact .inr h
  ·refine⟨i+1,⟨by omega,by omega,fun k hk=>?_⟩,by omega,(by repeat' first|exact trivial|refine⟨trivial,?_⟩|refine⟨(by with_reducible rfl),?_⟩|refine⟨ai (by omega) (by omega),?_⟩|refine⟨rfl,?_⟩)⟩
   by_cases e2:(k:Int)<i
   ·exact hI k e2
   ·have:k=i.toNat:=by omega
    subst this
    unfold nH
    rw[Bool.or_eq_false_iff,ei]
    exact⟨hb.symm.trans x1,x2⟩
theorem Sw:ax Tryz.prog GL 117 Iz.spec:=Ct.okH _ Tryz.func117 (by kernel_rfl) (ah aD AE) av aq7 (aC (by kernel_rfl) PW)
def iK(nn:Nat)(l:aE):Prop:=0<=lA l/\lA l<nn/\0<=lB l/\lB l<nn/\lA l≠lB l/\1<=kO l/\kO l<=1073741824/\0<=gV l/\gV l<=1073741824/\0<=md l/\md l<=65536
instance (nn:Nat) (l:aE):Decidable (iK nn l):=by unfold iK;infer_instance
def lx(n:bw):Int:=if n.2.1.all (fun l=>decide (iK n.1.length l)) then 0 else 11
def K2:Ct:=⟨[.agg ig],[.val cI],fun d=>[],fun d=>((lx d.1,()),())⟩
def PR:ar K2.ps->az:=(fun d=>{loops:=(fun n=>match n with|3=>some (fun S=>{ι:=Int,μ:=fun i=>(d.1.2.1.length-i).toNat,inv:=fun i=>0<=i/\i<=d.1.2.1.length∧∀ x∈d.1.2.1.take i.toNat,iK d.1.1.length x,keep:=[1,3,11,12],slots:=fun i=>[(13,.int .i64 i)],keepN:=[32],names:=fun i=>[]})|_=>none)})
theorem Xv :
 ∀(a:List ac)(b:List aE)(c:List aM),(qk a b c)/\True->True->(∃(d:Int),(0<=d/\d<=(dr b)/\ ∀(e:Int×Int×Int×Int×Int×Int),e∈List.take d.toNat b->iK a.length e)/\IntKind.wrap .i64 ((eV a) -(1:Int))=IntKind.wrap .i64 ((eV a) -(1:Int))/\b=b/\(dr b)=(dr b)/\(0:Int)=d/\a=a/\b=b/\c=c/\True)/\ ∀(d:Int),(0<=d/\d<=(dr b)/\ ∀(e:Int×Int×Int×Int×Int×Int),e∈List.take d.toNat b->iK a.length e)->ad (decide (d<(dr b))) (0<=d/\d<(dr b)/\ ∀(e:Bool),e= ! decide (0<=(fw b d).1/\(fw b d).1<=IntKind.wrap .i64 ((eV a) -(1:Int)))->(nG e)/\((! e)->((! e)->(! e))/\((! e)->(! e))/\True)/\(nG e)/\(e=false->(! e))/\ ∀(f:Bool),(f=bif e then true else ! decide (0<=(fw b d).2.1/\(fw b d).2.1<=IntKind.wrap .i64 ((eV a) -(1:Int))))->((! f)->((! f)->(! f))/\True)/\((! f)->((! f)->(! f))/\True)/\((! f)->((! f)->(! f))/\((! f)->(! f))/\True)/\(f=false->(! f))/\ ∀(g:Bool),(g=bif
 f then true else decide ((fw b d).1=(fw b d).2.1))->((! g)->((! g)->(! g))/\True)/\((! g)->((! g)->(! g))/\True)/\((! g)->((! g)->(! g))/\True)/\(g=false->(! g))/\ ∀(h:Bool),(h=bif g then true else ! decide (1<=(fw b d).2.2.1/\(fw b d).2.2.1<=1073741824))->((! h)->((! h)->(! h))/\True)/\((! h)->((! h)->(! h))/\True)/\((! h)->((! h)->(! h))/\True)/\(h=false->(! h))/\ ∀(i:Bool),(i=bif h then true else ! decide (0<=(fw b d).2.2.2.1/\(fw b d).2.2.2.1<=1073741824))->((! i)->((! i)->(! i))/\True)/\((! i)->((! i)->(! i))/\True)/\((! i)->((! i)->(! i))/\True)/\(i=false->(! i))/\ad (bif i then true else ! decide (0<=(fw b d).2.2.2.2.1/\(fw b d).2.2.2.2.1<=65536)) ((11:Int)=lx (a,b,c)) (∃(j:Int),(0<=j/\j<=(dr b)/\ ∀(k:Int×Int×Int×Int×Int×Int),k∈List.take j.toNat b->iK a.length k)/\Int.toNat ((dr b) -j)<Int.toNat ((dr b) -d)/\IntKind.wrap .i64 ((eV a)
 -(1:Int))=IntKind.wrap .i64 ((eV a) -(1:Int))/\b=b/\(dr b)=(dr b)/\IntKind.wrap .i64 (d+(1:Int))=j/\a=a/\b=b/\c=c/\True)) ((0:Int)=lx (a,b,c)):=by
  delta qk fw dr nG eV
  rintro ns ls hs ⟨⟨⟨hnl,-⟩,⟨hl,-⟩,-⟩,-⟩ -
  simp only[maxLen] at hl hnl
  rw[ai (n:=(ns.length:Int)-1) (by omega) (by omega)]
  refine⟨⟨0,⟨by omega,by omega,by simp⟩,(by repeat' first|exact trivial|refine⟨trivial,?_⟩|refine⟨(by with_reducible rfl),?_⟩|refine⟨ai (by omega) (by omega),?_⟩|refine⟨rfl,?_⟩)⟩,?_⟩
  rintro i ⟨i0,i1,hI⟩
  refine ae (fun hi=>?_) (fun hi=>?_)
  rotate_left
  ·have hi:=of_decide_eq_false hi
   rw[List.take_of_length_le (by omega)] at hI
   unfold lx
   rw[if_pos]
   exact List.all_eq_true.2 fun l hl=>decide_eq_true (hI l hl)
  have hi:=of_decide_eq_true hi
  have hm:=bL i0 hi
  refine⟨i0,hi,?_⟩
  have key:iK ns.length (ls.getD i.toNat default)↔((0<=(ls.getD i.toNat default).1/\(ls.getD i.toNat default).1<=(ns.length:Int)-1)/\(0<=(ls.getD i.toNat default).2.1/\(ls.getD i.toNat default).2.1<=(ns.length:Int)-1)∧¬ (ls.getD i.toNat default).1=(ls.getD i.toNat default).2.1/\(1<=(ls.getD i.toNat default).2.2.1/\(ls.getD i.toNat default).2.2.1<=1073741824)/\(0<=(ls.getD i.toNat default).2.2.2.1/\(ls.getD i.toNat default).2.2.2.1<=1073741824)/\(0<=(ls.getD i.toNat default).2.2.2.2.1/\(ls.getD i.toNat default).2.2.2.2.1<=65536)):=by
   unfold iK lA lB kO gV md
   omega
  have cL:=fun h=>rz i0 hi hI (P:=iK ns.length) h
  generalize ls.getD i.toNat default=l at hm key cL ⊢
  generalize hA:decide (0<=l.1/\l.1<=(ns.length:Int)-1)=bA
  generalize hB:decide (0<=l.2.1/\l.2.1<=(ns.length:Int)-1)=bB
  generalize hC:decide (l.1=l.2.1)=bC
  generalize hD:decide (1<=l.2.2.1/\l.2.2.1<=1073741824)=bD
  generalize hE:decide (0<=l.2.2.2.1/\l.2.2.2.1<=1073741824)=bE
  generalize hF:decide (0<=l.2.2.2.2.1/\l.2.2.2.2.1<=65536)=bF
  have key2:iK ns.length l↔(bA=true/\bB=true/\bC=false/\bD=true/\bE=true/\bF=true):=by
   rw[key,← hA,← hB,← hC,← hD,← hE,← hF]
   simp only[decide_eq_true_eq,decide_eq_false_iff_not]
  have bad:¬ iK ns.length l->(11:Int)=lx (ns,ls,hs):=fun h=>by
   unfold lx
   rw[if_neg]
   intro k
   exact h (of_decide_eq_true (List.all_eq_true.1 k l hm))
  intro b1 hb1
  (repeat refine⟨by simp,?_⟩)
  intro b2 hb2
  (repeat refine⟨by simp,?_⟩)
  intro b3 hb3
  (repeat refine⟨by simp,?_⟩)
  intro b4 hb4
  (repeat refine⟨by simp,?_⟩)
  intro b5 hb5
  (repeat refine⟨by simp,?_⟩)
  have tot:(bif b5 then true else !bF) = !(bA&&bB && !bC&&bD&&bE&&bF):=by
   rw[hb5,hb4,hb3,hb2,hb1]
   cases bA <;> cases bB <;> cases bC <;> cases bD <;> cases bE <;> cases bF <;> rfl
  rw[tot]
  refine ae (fun h=>bad fun k=>?_) (fun h=>?_)
  ·obtain⟨a1,a2,a3,a4,a5,a6⟩:=key2.1 k
   rw[a1,a2,a3,a4,a5,a6] at h;cases h
  ·have h2:iK ns.length l:=key2.2 (by
    clear tot hb1 hb2 hb3 hb4 hb5 key2 hA hB hC hD hE hF
    revert h
    cases bA <;> cases bB <;> cases bC <;> cases bD <;> cases bE <;> cases bF <;> decide)
   exact⟨i+1,⟨by omega,by omega,cL h2⟩,by omega,(by repeat' first|exact trivial|refine⟨trivial,?_⟩|refine⟨(by with_reducible rfl),?_⟩|refine⟨ai (by omega) (by omega),?_⟩|refine⟨rfl,?_⟩)⟩
theorem Rk:ax Tryz.prog GL 115 K2.spec:=Ct.okH _ Tryz.func115 (by kernel_rfl) (ah aD BZ) av PR (aC (by kernel_rfl) Xv)
end Go.RS

/- Topod: what the errors of networks, their parts and their routes at a time are: plain. -/
namespace Go.RS
open Go.SX Go.Proofs
set_option maxRecDepth 100000
set_option linter.unusedVariables false
theorem PD{links:List Int}:∀{l:List Rt}{q:Option cO},chk links q l=0->bM l/\(∀ p,q=some p→∀ r∈l,aW p r.1)∧∀ r∈l,iU r.1=true/\ke r links
 | [],q,_=>⟨List.Pairwise.nil,fun _ _ r hr=>(by cases hr),fun r hr=>(by cases hr)⟩
 | r::l,q,h=>by
  rw[chk] at h
  split at h
  ·cases h
  rename_i h1
  split at h
  ·cases h
  rename_i h2
  split at h
  ·cases h
  rename_i h3
  obtain⟨i1,i2,i3⟩:=PD h
  have hv:iU r.1=true:=by cases hh:iU r.1 <;> simp_all
  have hp:∀ p,q=some p->aW p r.1:=fun p hp=>by
   subst hp
   rw[Option.any_some] at h2
   have:¬ (0<=fj p r.1):=by simpa using h2
   exact wQ.1 (by omega)
  refine⟨List.pairwise_cons.2 ⟨i2 _ rfl,i1⟩,fun p e z hz=>?_,fun z hz=>?_⟩
  ·rcases List.mem_cons.1 hz with rfl|hz
   ·exact hp p e
   ·exact xU (hp p e) (i2 _ rfl z hz)
  ·rcases List.mem_cons.1 hz with rfl|hz
   ·exact⟨hv,Classical.byContradiction h3⟩
   ·exact i3 z hz
theorem vz{l:List Rt}{links:List Int}(h:dF l links=0):bM l/\l.length<=64∧∀ r∈l,iU r.1=true/\ke r links:=by
 unfold dF at h
 split at h
 ·cases h
 ·rename_i hl
  have k:=PD h
  exact⟨k.1,by omega,k.2.2⟩
theorem tT{l:List Rt}{links:List Int}(h:dF l links=0):bM l/\okL l:=by
 obtain⟨h1,h2,h3⟩:=vz h
 exact⟨h1,by omega,fun r hr=>by have:=(h3 r hr).2.1.1;omega⟩
def fY(c:aM):Int:=c.1
def bu(c:aM):Int:=c.2.1
def qQ(c:aM):Bool:=c.2.2.1
def db(c:aM):Rt:=c.2.2.2
def ng(a b:Int):Int:=if a≠0 then a else b
theorem nR{a b:Int}(h:ng a b=0):a=0/\b=0:=by
 unfold ng at h
 split at h
 ·rename_i k;exact absurd h k
 ·rename_i k;exact⟨by omega,h⟩
def nF(n:bw)(i:Nat)(k:Int):Bool:=decide ((n.2.1.length:Int)<=k) || !(decide (lA (n.2.1.getD k.toNat default)=i)||decide (lB (n.2.1.getD k.toNat default)=i))
def mn(n:bw)(i:Nat):Int :=
 if eU (n.1.getD i default)≠0 then eU (n.1.getD i default)
 else if (bv (n.1.getD i default)).any (nF n i) then 11 else 0
def lq(n:bw):Int:=first (mn n) n.1.length
def fK(l:List Rt)(c:aM):List Rt:=if qQ c=true then gD l (db c).1 else dN l (db c)
def cY(n:bw):Nat->List (List Rt)
 | 0=>n.1.map aQ
 | i+1=>(cY n i).set (bu (n.2.2.getD i default)).toNat (fK ((cY n i).getD (bu (n.2.2.getD i default)).toNat default) (n.2.2.getD i default))
def mq(n:bw)(i:Nat)(c p:aM)(l:List Rt):Int :=
 if fY c<0∨1125899906842624<fY c then 1
 else if 0<i/\fY c<fY p then 6
 else if bu c<0∨(n.1.length:Int)<=bu c then 8
 else if qQ c=true/\l8 l (db c).1=false then 8
 else dF (fK l c) (bv (n.1.getD (bu c).toNat default))
def iw(n:bw)(i:Nat):Int:=mq n i (n.2.2.getD i default) (n.2.2.getD (i-1) default) ((cY n i).getD (bu (n.2.2.getD i default)).toNat default)
def mO(n:bw):Int:=first (iw n) n.2.2.length
def d9(n:bw):Int:=ng (nD n) (ng (lx n) (ng (lq n) (ng (nt n) (ng (qu n) (ng (oe n) (mO n))))))
theorem NK{n:bw}(h:lx n=0):wW n:=fun l hl=>by
 unfold lx at h
 split at h
 ·rename_i k
  have k:=of_decide_eq_true (List.all_eq_true.1 k l hl)
  exact⟨k.1,k.2.1,k.2.2.1,k.2.2.2.1⟩
 ·cases h
theorem mF{α:Type} [Inhabited α] {xs:List α} {i:Nat} (h:i<xs.length):xs.getD i default∈xs:=by
 have:=bL (xs:=xs) (i:=(i:Nat)) (by omega) (by omega)
 simpa using this
theorem ai7{x:ac}(h:first (fQ x) (aA x).length=0):∀ k∈bv x,0<=k:=fun k hk=>by
 obtain⟨q,hq,rfl⟩:=List.mem_map.1 hk
 obtain⟨i,hi,e⟩:=List.mem_iff_getElem.1 hq
 have k1:=rM h i hi
 unfold fQ at k1
 rw[List.getD_eq_getElem?_getD,List.getElem?_eq_getElem hi,Option.getD_some,e] at k1
 split at k1
 ·cases k1
 split at k1
 ·cases k1
 rename_i h2
 show 0<=q.2
 omega
structure NV (x:ac):Prop where
 len:(aA x).length<=32
 pos:0<(aA x).length
 bad:first (fQ x) (aA x).length=0
 loop:¬ lZ x
 form:¬ kQ x
 tab:dF (aQ x) (bv x)=0
theorem MX{x:ac}(h:eU x=0):NV x:=by
 unfold eU at h
 split at h
 ·cases h
 rename_i h1
 split at h
 ·rename_i k;exact absurd h k
 rename_i h2
 split at h
 ·cases h
 rename_i h3
 split at h
 ·cases h
 rename_i h4
 split at h
 ·rename_i k;exact absurd h k
 split at h
 ·rename_i k;exact absurd h k
 refine⟨by omega,?_,by omega,h3,h4,h⟩
 unfold kQ at h4
 omega
theorem yU{n:bw}(h:lq n=0){i:Nat}(hi:i<n.1.length):NV (n.1.getD i default):=by
 have k:=rM h i hi
 unfold mn at k
 split at k
 ·rename_i e;exact absurd k e
 ·rename_i e;exact MX (by omega)
theorem T3{n:bw}(h:lq n=0):∀ x∈n.1,NV x:=fun x hx=>by
 obtain⟨i,hi,e⟩:=List.mem_iff_getElem.1 hx
 have:=yU h hi
 rw[List.getD_eq_getElem?_getD,List.getElem?_eq_getElem hi,e] at this;exact this
structure TB (n:bw) (t:List (List Rt)):Prop where
 len:t.length=n.1.length
 r:∀ i:Nat,i<n.1.length->bM (t.getD i default)/\okL (t.getD i default)
theorem xz{α β:Type} [Inhabited α] [Inhabited β] {f:α->β} {l:List α} {i:Nat} (h:i<l.length):(l.map f).getD i default=f (l.getD i default):=by
 rw[List.getD_eq_getElem?_getD,List.getD_eq_getElem?_getD,List.getElem?_map,List.getElem?_eq_getElem h];rfl
theorem oF(n:bw):∀ i:Nat,(cY n i).length=n.1.length
 | 0=>by simp[cY]
 | i+1=>by rw[cY,List.length_set,oF n i]
theorem NS{n:bw}(hb:lq n=0):∀{i:Nat},first (iw n) i=0->TB n (cY n i)
 | 0,_=>⟨oF n 0,fun i hi=>by
  rw[cY,xz hi]
  exact tT (yU hb hi).tab⟩
 | i+1,h=>by
  have h0:first (iw n) i=0:=by
   by_cases e:first (iw n) i=0
   ·exact e
   ·rw[first,if_pos e] at h;exact h
  have k:=NS hb h0
  have hz:iw n i=0:=rM h i (by omega)
  refine⟨oF n _,fun j hj=>?_⟩
  rw[cY]
  unfold iw mq at hz
  generalize n.2.2.getD i default=c at hz ⊢
  split at hz
  ·cases hz
  split at hz
  ·cases hz
  split at hz
  ·cases hz
  rename_i hw
  split at hz
  ·cases hz
  by_cases e:(bu c).toNat=j
  ·subst e
   rw[iA (by rw[k.len];exact hj)]
   exact tT hz
  ·rw[kJ e];exact k.r j hj
def EH(who at':Int)(l:List Rt)(c:aM):List Rt:=if bu c=who/\fY c<=at' then fK l c else l
def G9(n:bw)(who at':Int)(k:Int):List Rt:=(n.2.2.take k.toNat).foldl (EH who at') (aQ (n.1.getD who.toNat default))
def Es(n:bw)(who at':Int):List Rt:=if who<0∨(n.1.length:Int)<=who then [] else G9 n who at' n.2.2.length
structure xx (m:Nat) (l:List Rt):Prop where
 s:bM l
 n:l.length<=m
 x:∀ r∈l,(r.2.1.length:Int)<=1099511627776
theorem xx.okL{m:Nat}{l:List Rt}(h:xx m l)(hm:m<=100000):okL l:=⟨by have:=h.n;omega,h.x⟩
theorem xx.ch{m:Nat}{l:List Rt}(h:xx m l){c:aM}(hc:((db c).2.1.length:Int)<=1099511627776):xx (m+1) (fK l c):=by
 unfold fK
 split
 ·refine⟨List.Pairwise.filter _ h.s,?_,fun r hr=>h.x r (List.mem_filter.1 hr).1⟩
  have:=Lo l (db c).1
  have:=h.n
  omega
 ·refine⟨F5 h.s,?_,fun r hr=>?_⟩
  ·have:=K3 l (db c)
   have:=h.n
   omega
  ·rcases GQ.1 hr with rfl|⟨hr,-⟩
   ·exact hc
   ·exact h.x r hr
def av8(s t:Int)(c:aM):Bool:=decide (s<fY c/\fY c<=t)
theorem U8{x:ac}{a:Int}:0<=j4 x a↔a∈nQ x:=by
 unfold j4 fR
 constructor
 ·intro h
  split at h
  ·rename_i k
   have:=List.findIdx_getElem (w:=k)
   exact List.mem_map.2 ⟨_,List.getElem_mem k,of_decide_eq_true this⟩
  ·omega
 ·intro h
  obtain⟨q,hq,rfl⟩:=List.mem_map.1 h
  have:(aA x).findIdx (jb q.1)<(aA x).length:=List.findIdx_lt_length_of_exists ⟨q,hq,by unfold jb;simp⟩
  rw[if_pos this];omega
end Go.RS

/- Node2: a node's state; what a node does, in the program and in the reference. -/
namespace Go.RS
open Go.SX Go.Proofs
set_option maxRecDepth 100000
set_option linter.unusedVariables false
def lr(x:ac):bq:=(aQ x,0,List.replicate (aA x).length 0,yw (iq x) 0,0)
def wa(b t:Int×Int):Prop:=(0<=t.2/\t.2<=1125899906842624)/\(b=(0,0)->t.1=0)/\(b≠(0,0)->0<=t.1/\t.1<=b.1*b.2)
structure fP (x:ac) (s:bq) (K:Int):Prop where
 srt:bM (bh s)
 okl:okL (bh s)
 rt:∀ r∈bh s,ke r (bv x)
 ps:(jc s).length=(aA x).length
 tk:wa (iq x) (pt s)
 cn:0<=mK s/\mK s<=K
 cp:∀ y∈jc s,0<=y/\y<=K
def AP(x:ac)(s:bq)(link at':Int)(b:List Int):cD:=(x,s,link,at',b,(aR b).1)
def kB(kind:Int)(w:cD)(f i:Int):List Int:=if kind=2 then cX w 11 0 f i else if kind=3 then cX w 3 0 f i else dC w f i
def kE(kind:Int)(w:cD)(i:Int):Int:=if kind=2 then iF w 11 0 i else if kind=3 then iF w 3 0 i else iN w i
def lV(kind:Int)(w:cD):Int:=if kind=0 then gS w.2.2.2.2.2 else 0
def pk(w:cD)(kind:Int):lL:=cz (kB kind w) (kE kind w) w (lV kind w)
theorem zD{b:Int×Int}(h:gQ b=0):b=(0,0)∨(1<=b.1/\b.1<=65536/\1<=b.2/\b.2<=1073741824/\b.2<=b.1*b.2/\b.1*b.2<=70368744177664):=by
 unfold gQ at h
 split at h
 ·rename_i hh
  rcases hh with hh|⟨h1,h2,h3,h4⟩
  ·exact .inl hh
  ·refine .inr ⟨h1,h2,h3,h4,?_,?_⟩
   ·have:=Int.mul_le_mul_of_nonneg_right (a:=1) (b:=b.1) (c:=b.2) h1 (by omega);omega
   ·have:=Int.mul_le_mul (a:=b.1) (b:=b.2) (c:=65536) (d:=1073741824) h2 h4 (by omega) (by omega);omega
 ·cases h
theorem aj4{b:Int×Int}(h:gQ b=0)(x:Int):yw b x=(b.1*b.2,x):=by
 rcases zD h with rfl|hh
 ·rfl
 ·unfold yw w;rw[ai (by omega) (by omega)]
theorem ag3{b t:Int×Int}{x:Int}(h:gQ b=0)(hb:b≠(0,0))(ht:wa b t)(hx:0<=x/\x<=1125899906842624) :
  ix b t x=if min (t.1+(max x t.2-t.2)) (b.1*b.2)<b.2 then ((min (t.1+(max x t.2-t.2)) (b.1*b.2),max x t.2),false) else ((min (t.1+(max x t.2-t.2)) (b.1*b.2)-b.2,max x t.2),true):=by
 obtain⟨h1,-,h3⟩:=ht
 have h3:=h3 hb
 have hc:=(zD h).resolve_left hb
 have e:pi b t (max x t.2)=min (t.1+(max x t.2-t.2)) (b.1*b.2):=by
  unfold pi w
  rw[ai (n:=max x t.2-t.2) (by omega) (by omega),ai (by omega) (by omega),ai (by omega) (by omega)]
 unfold ix w
 rw[if_neg hb,e]
 split
 ·rfl
 ·rw[ai (by omega) (by omega)]
theorem P4{b t:Int×Int}{x:Int}(h:gQ b=0)(ht:wa b t)(hx:0<=x/\x<=1125899906842624):wa b (ix b t x).1/\(ix b t x).1.2=max x t.2:=by
 have h1:=ht.1
 by_cases hb:b=(0,0)
 ·subst hb
  rw[show ix (0,0) t x=((0,max x t.2),true) by simp[ix]]
  exact⟨⟨⟨by show 0<=max x t.2;omega,by show max x t.2<=_;omega⟩,fun _=>rfl,fun k=>absurd rfl k⟩,rfl⟩
 ·have hc:=(zD h).resolve_left hb
  have h3:=ht.2.2 hb
  rw[ag3 h hb ht hx]
  split
  ·exact⟨⟨⟨by show 0<=max x t.2;omega,by show max x t.2<=_;omega⟩,fun k=>absurd k hb,fun _=>⟨by show 0<=min _ _;omega,by show min _ _<=_;omega⟩⟩,rfl⟩
  ·exact⟨⟨⟨by show 0<=max x t.2;omega,by show max x t.2<=_;omega⟩,fun k=>absurd k hb,fun _=>⟨by show 0<=min _ _-_;omega,by show min _ _-_<=_;omega⟩⟩,rfl⟩
structure mQ (x:ac):Prop where
 n1:1<=(aA x).length
 n32:(aA x).length<=32
 id:ir x=0
 bk:gQ (iq x)=0
 rt:dF (aQ x) (bv x)=0
 loop:¬ lZ x
 ports:∀ i,i<(aA x).length->fQ x i=0
 form:¬ kQ x
theorem JB{x:ac}(h:eU x=0):mQ x:=by
 unfold eU at h
 split at h
 ·cases h
 rename_i a1
 split at h
 ·rename_i k;exact absurd h k
 rename_i a2
 split at h
 ·cases h
 rename_i a3
 split at h
 ·cases h
 rename_i a4
 split at h
 ·rename_i k;exact absurd h k
 rename_i a5
 split at h
 ·rename_i k;exact absurd h k
 rename_i a6
 refine⟨?_,by omega,by simpa using a5,by simpa using a6,h,a3,rM (by simpa using a2),a4⟩
 by_cases k:(aA x).length=0
 ·exact absurd (.inr (.inr (.inr (.inr (.inr (.inr k)))))) a4
 ·omega
theorem ae8{a:Int}(h:fq a):a≠0:=by
 rintro rfl
 revert h
 unfold fq
 decide
theorem qV{q:Int×Int->Bool}{l:List (Int×Int)}(h:0<=fR q l):fR q l<l.length/\q (l.getD (fR q l).toNat default)=true:=by
 unfold fR at h ⊢
 split at h
 ·rename_i hlt
  rw[if_pos hlt]
  refine⟨by omega,?_⟩
  rw[Int.toNat_natCast,List.getD_eq_getElem?_getD,List.getElem?_eq_getElem hlt,Option.getD_some]
  exact List.findIdx_getElem (w:=hlt)
 ·omega
theorem Iw{q:Int×Int->Bool}{l:List (Int×Int)}{y:Int×Int}(hy:y∈l)(hq:q y=true):0<=fR q l:=by
 have hlt:l.findIdx q<l.length:=List.findIdx_lt_length_of_exists ⟨y,hy,hq⟩
 unfold fR;rw[if_pos hlt];omega
theorem GP{x:ac}{i:Nat}(h:fQ x i=0):fq ((aA x).getD i default).1∧¬ ((aA x).getD i default).2<0:=by
 unfold fQ at h
 split at h
 ·cases h
 ·rename_i k
  split at h
  ·cases h
  ·rename_i k2
   exact⟨Decidable.not_not.1 fun q=>k (.inl q),fun q=>k2 (.inl q)⟩
theorem ac0{x:ac}(h:mQ x){a:Int}(ha:jV x a=true):a≠0:=by
 rintro rfl
 unfold jV at ha
 simp only[Bool.or_eq_true,decide_eq_true_eq,Bool.and_eq_true,Bool.not_eq_true',decide_eq_false_iff_not] at ha
 rcases ha with ha|⟨h1,h2⟩
 ·have ha:0<=fR (jb 0) (aA x):=ha
  obtain⟨k1,k2⟩:=qV (q:=jb 0) (l:=aA x) ha
  have:=(GP (h.ports (fR (jb 0) (aA x)).toNat (by omega))).1
  have e:((aA x).getD (fR (jb 0) (aA x)).toNat default).1=0:=of_decide_eq_true k2
  rw[e] at this
  exact ae8 this rfl
 ·exact h1 h2
theorem YQ{x:ac}(h:mQ x)(k:Int):bm x k<(aA x).length:=by
 have:=h.n1
 unfold bm
 by_cases hk:0<=cM x k
 ·have:=(qV hk).1
  have e:cM x k=fR (gI k) (aA x):=rfl
  omega
 ·omega
theorem Mx{x:ac}{i:Int}(h0:0<=i)(h1:i<(aA x).length):adr x i=((aA x).getD i.toNat default).1:=by
 unfold adr;rw[if_neg (by omega)]
theorem al3{l:List Rt}{a:Int}(h:mG l a=true):aZ l a∈l:=by
 have key:∀(l:List Rt)(b:Option Rt)(r:Rt),l.foldl (rL a) b=some r->r∈l∨b=some r:=by
  intro l
  induction l with
  | nil=>intro b r e;exact .inr e
  | cons y l ih =>
   intro b r e
   rcases ih _ _ e with h1|h1
   ·exact .inl (List.mem_cons_of_mem _ h1)
   ·unfold rL at h1
    split at h1
    ·split at h1
     ·cases h1;exact .inl List.mem_cons_self
     ·split at h1
      ·cases h1;exact .inl List.mem_cons_self
      ·exact .inr h1
    ·exact .inr h1
 unfold mG at h
 unfold aZ
 cases hl:ku l a with
 | none=>rw[hl] at h;cases h
 | some r =>
  rcases key l none r hl with k|k
  ·exact k
  ·cases k
theorem L5{s:bq}{a:Int}(h:¬ eM s a=false):aZ (bh s) a∈bh s:=by
 refine al3 ?_
 unfold eM at h
 cases hb:mG (bh s) a with
 | true=>rfl
 | false=>rw[hb] at h;simp at h
theorem Hr{x:ac}{s:bq}{r:Rt}{k:mA}(h:r.2.1≠[]):ib x s r k∈r.2.1:=by
 have hpos:1<=(r.2.1.length:Int):=by cases hh:r.2.1 with
  | nil=>exact absurd hh h
  | cons a l=>simp;omega
 unfold ib
 split
 ·exact bL (i:=0) (by omega) (by omega)
 ·have hc:=Nj (way:=r.2.2) (seed:=Bs x) (k:=k) (count:=kP s) hpos
  exact bL hc.1 hc.2
theorem GR{r:Rt}{links:List Int}(h:ke r links):∀ y∈r.2.1,y∈links:=by
 intro y hy
 obtain⟨i,hi,rfl⟩:=List.mem_iff_getElem.1 hy
 have:=(h.1.2 i hi).2
 rwa [List.getD_eq_getElem?_getD,List.getElem?_eq_getElem hi,Option.getD_some] at this
theorem Ey{x:ac}{k:Int}(h:k∈bv x):0<=cM x k:=by
 obtain⟨y,hy,rfl⟩:=List.mem_map.1 h
 exact Iw hy (by simp[gI])
theorem YT{x:ac}{s:bq}{K:Int}(hs:fP x s K){a:Int}(hw:¬ eM s a=false)(s':bq)(k:mA):0<=cM x (ib x s' (aZ (bh s) a) k) :=
 Ey (GR (hs.rt _ (L5 hw)) _ (Hr (xH hw)))
theorem Y1{l:List Int}{K i:Int}(h:∀ y∈l,0<=y/\y<=K)(hK:0<=K/\K<=2199023255552)(h0:0<=i):(nV l i).length=l.length∧∀ y∈nV l i,0<=y/\y<=K+1:=by
 unfold nV
 split
 ·rename_i hi
  refine⟨List.length_set,fun y hy=>?_⟩
  rcases List.mem_or_eq_of_mem_set hy with hy|rfl
  ·have:=h y hy;omega
  ·have:=h _ (bL h0 hi)
   rw[ai (by omega) (by omega)];omega
 ·exact⟨rfl,fun y hy=>by have:=h y hy;omega⟩
theorem fP.more{x:ac}{s:bq}{K K':Int}(h:fP x s K)(hk:K<=K'):fP x s K' :=
 ⟨h.srt,h.okl,h.rt,h.ps,h.tk,by have:=h.cn;omega,fun y hy=>by have:=h.cp y hy;omega⟩
theorem fP.tok{x:ac}{s:bq}{K:Int}(h:fP x s K){t:Int×Int}(ht:wa (iq x) t):fP x (xD s t) K:=⟨h.srt,h.okl,h.rt,h.ps,ht,h.cn,h.cp⟩
theorem fP.bal{x:ac}{s:bq}{K:Int}(h:fP x s K)(b:Int):fP x (OV s b) K:=⟨h.srt,h.okl,h.rt,h.ps,h.tk,h.cn,h.cp⟩
theorem fP.pick{x:ac}{s:bq}{K:Int}(h:fP x s K)(r:Rt):fP x (fy s r) K:=by
 unfold fy;split
 ·exact h
 ·exact h.bal _
theorem fP.sent{x:ac}{s:bq}{K i:Int}(h:fP x s K)(hK:0<=K/\K<=2199023255552)(h0:0<=i):fP x (MQ s i) (K+1):=by
 obtain⟨b1,b2⟩:=Y1 h.cp hK h0
 refine⟨h.srt,h.okl,h.rt,b1.trans h.ps,h.tk,?_,b2⟩
 have:=h.cn
 show 0<=IntKind.i64.wrap (mK s+1)/\IntKind.i64.wrap (mK s+1)<=K+1
 rw[ai (by omega) (by omega)];omega
theorem CY{B:Int->Int->List Int}{E:Int->Int}{w:cD}{own:Int}{K:Int}(hx:mQ w.1)(hs:fP w.1 w.2.1 K)(hK:0<=K/\K<=2199023255552)(ha:0<=w.2.2.2.1/\w.2.2.2.1<=1125899906842624) :
  fP w.1 (cz B E w own).1 (K+1):=by
 have ht:=P4 hx.bk hs.tk ha
 unfold cz
 split
 ·exact hs.more (by omega)
 split
 ·exact hs.more (by omega)
 split
 ·exact hs.more (by omega)
 split
 ·exact (hs.tok ht.1).more (by omega)
 ·exact ((hs.tok ht.1).sent hK (Az _ _)).pick _
theorem Xs{x:ac}{s:bq}{link at':Int}{b:List Int}{K:Int}(hx:mQ x)(hs:fP x s K)(hK:0<=K/\K<=2199023255552)(ha:0<=at'∧at'<=1125899906842624):fP x (dJ x s link at' b).1 (K+1):=by
 have m:fP x s (K+1):=hs.more (by omega)
 unfold dJ dP
 split
 ·exact m
 split
 ·unfold gf
  split
  ·exact m
  ·exact CY (w:=sI (x,s,link,at',b,m8) (aR b).1) hx hs hK ha
 split
 ·exact m
 ·unfold dR
  split
  ·exact CY (w:=sI (x,s,link,at',b,m8) (aR b).1) hx hs hK ha
  split
  ·split
   ·exact m
   ·exact CY (w:=sI (x,s,link,at',b,m8) (aR b).1) hx hs hK ha
  ·exact m.pick _
theorem OU{x:ac}(hx:mQ x):fP x (lr x) 0:=by
 obtain⟨h1,h2⟩:=tT hx.rt
 obtain⟨-,-,h3⟩:=vz hx.rt
 refine⟨h1,h2,fun r hr=>(h3 r hr).2,List.length_replicate,?_,⟨Int.le_refl _,Int.le_refl _⟩,fun y hy=>by rw[List.eq_of_mem_replicate hy];exact⟨Int.le_refl _,Int.le_refl _⟩⟩
 show wa (iq x) (yw (iq x) 0)
 rw[aj4 hx.bk]
 refine⟨⟨by simp,by simp⟩,fun k=>by rw[k];rfl,fun k=>?_⟩
 have:=(zD hx.bk).resolve_left k
 exact⟨by show 0<=_*_;omega,Int.le_refl _⟩
def Kk:Ct:=⟨[.val (.sl cG)],[.own 97 cG],fun d=>[okL d.1],fun d=>((d.1,()),())⟩
def aq4:ar Kk.ps->az:=(fun d=>{loops:=(fun n=>match n with|3=>some (fun S=>{ι:=Int,μ:=fun i=>(d.1.length-i).toNat,inv:=fun i=>0<=i/\i<=d.1.length,keep:=[3,8,9],slots:=fun i=>[(10,.int .i64 i)],keepN:=[128],names:=fun i=>[]})|_=>none)})
theorem T4 :
 ∀(a:List aF),(a.length<=maxLen/\ ∀(b:aF),b∈a->((0<=b.1.1/\b.1.1<=4294967295)/\ab b.1.2)/\(b.2.1.length<=maxLen/\ ∀(c:Int),c∈b.2.1->ab c)/\ab b.2.2)/\True->((a.length:Int)<=134217728/\ ∀(b:Rt),b∈a->(b.2.1.length:Int)<=1099511627776)->(a.length:Int)<=134217728/\(∃(b:Int),(0<=b/\b<=(a.length:Int))/\(a.length:Int)=(a.length:Int)/\(0:Int)=b/\a=a/\True)/\ ∀(b:Int),0<=b/\b<=(a.length:Int)->ad (decide (b<(a.length:Int))) (0<=b/\b<(a.length:Int)/\((List.length (a.getD b.toNat default).2.1):Int)<=1099511627776/\0<=b/\b<(a.length:Int)/\ ∃(c:Int),(0<=c/\c<=(a.length:Int))/\Int.toNat ((a.length:Int) -c)<Int.toNat ((a.length:Int) -b)/\(a.length:Int)=(a.length:Int)/\IntKind.wrap .i64 (b+(1:Int))=c/\List.set a b.toNat (a.getD b.toNat default)=a/\True) (a=a):=by
  rintro l ⟨⟨hl,-⟩,-⟩⟨h1,h2⟩
  simp only[maxLen] at hl
  refine⟨h1,⟨0,⟨by omega,by omega⟩,(by repeat' first|exact trivial|refine⟨trivial,?_⟩|refine⟨(by with_reducible rfl),?_⟩|refine⟨ai (by omega) (by omega),?_⟩|refine⟨rfl,?_⟩)⟩,?_⟩
  rintro j ⟨j0,j1⟩
  refine ae (fun hj=>?_) (fun hj=>?_)
  ·have hj:=of_decide_eq_true hj
   refine⟨j0,hj,h2 _ (bL j0 hj),j0,hj,j+1,⟨by omega,by omega⟩,by omega,?_⟩
   (repeat first|refine⟨trivial,?_⟩|refine⟨(by with_reducible rfl),?_⟩|refine⟨ai (by omega) (by omega),?_⟩)
   exact⟨qh j0 hj,trivial⟩
  ·rfl
theorem LY:ax Tryz.prog GL 126 Kk.spec:=Ct.okH _ Tryz.func126 (by kernel_rfl) (ah (ah aD JY) wG) av aq4 (aC (by kernel_rfl) T4)
def MD:Ct:=⟨[.agg bH],[.agg mX],fun d=>[okL (aQ d.1),((aA d.1).length:Int)<=1000000],fun d=>((lr d.1,()),())⟩
def Vk:ar MD.ps->az:=(fun _=>{})
theorem Sq :
 ∀(a:ac),CT.wf bH a/\True->okL (aQ a)/\((List.length (aA a)):Int)<=1000000->0<=(a.1.length:Int)/\(a.1.length:Int)<=(a.1.length:Int)/\(↑(8:Nat):Int)*(a.1.length:Int)<=281474976710656/\okL a.2.2.2.2.1/\(a.2.2.2.2.1,(0:Int),List.replicate (Int.toNat (a.1.length:Int)) (0:Int),(w (a.2.2.2.2.2.2.2.2.2.2.1.1*a.2.2.2.2.2.2.2.2.2.2.1.2),(0:Int)),(0:Int))=lr a:=by
  rintro d-⟨h,hl⟩
  have hl:(d.1.length:Int)<=1000000:=hl
  exact⟨by omega,by omega,by omega,h,rfl⟩
theorem an4:ax Tryz.prog GL 58 MD.spec:=Ct.okH _ Tryz.func58 (by kernel_rfl) (ah (ah aD ab7) LY) av Vk (aC (by kernel_rfl) Sq)
def K8:Ct:=⟨[.agg bH,.agg mX,.val cI,.val cI,.val (.sl bj)],[.agg mX,.agg tI,.val cI],fun d=>[bM (bh d.2.1),okL (bh d.2.1),((jc d.2.1).length:Int)<=1000000,(d.2.2.2.2.1.length:Int)<=1000000],fun d=>(((dJ d.1 d.2.1 d.2.2.1 d.2.2.2.1 d.2.2.2.2.1).1,(dJ d.1 d.2.1 d.2.2.1 d.2.2.2.1 d.2.2.2.2.1).2.1,(dJ d.1 d.2.1 d.2.2.1 d.2.2.2.1 d.2.2.2.2.1).2.2,()),())⟩
def P1:ar K8.ps->az:=(fun _=>{})
def wZ(a:ac)(b:List aF)(c:Int)(d:List Int)(e f g h i:Int)(j:List Int) :=
 (a,(b,c,d,(e,f),g),h,i,j,(0:Int),(0:Int),(0:Int),(0:Int),false,(0:Int),(0:Int))
theorem YV :
 ∀(a:ac)(b:List aF)(c:Int)(d:List Int)(e f g h i:Int)(j:List Int),CT.wf bH a/\((b.length<=maxLen/\ ∀(k:aF),k∈b->((0<=k.1.1/\k.1.1<=4294967295)/\ab k.1.2)/\(k.2.1.length<=maxLen/\ ∀(l:Int),l∈k.2.1->ab l)/\ab k.2.2)/\ab c/\(d.length<=maxLen/\ ∀(k:Int),k∈d->ab k)/\(ab e/\ab f)/\ab g)/\ab h/\ab i/\(j.length<=maxLen/\ ∀(k:Int),k∈j->0<=k/\k<=255)/\True->bM (bh (b,c,d,(e,f),g))/\okL (bh (b,c,d,(e,f),g))/\((List.length (jc (b,c,d,(e,f),g))):Int)<=1000000/\(j.length:Int)<=1000000->(d.length:Int)<=1099511627776/\okL b/\lN (wZ a b c d e f g h i j)/\(dP (wZ a b c d e f g h i j)).1=(dJ a (b,c,d,(e,f),g) h i j).1/\(dP (wZ a b c d e f g h i j)).2.1=(dJ a (b,c,d,(e,f),g) h i j).2.1/\(dP (wZ a b c d e f g h i j)).2.2=(dJ a (b,c,d,(e,f),g) h i j).2.2:=by
  delta wZ
  rintro d x x1 x2 x3 x4 x5 x6 x7 x8-⟨hs,hl,hp,hb⟩
  have e2:jc (x,x1,x2,(x3,x4),x5)=x2:=rfl
  rw[e2] at hp
  exact⟨by omega,hl,⟨hs,hl,hb⟩,rfl,rfl,rfl⟩
theorem P3:ax Tryz.prog GL 99 K8.spec:=Ct.okH _ Tryz.func99 (by kernel_rfl) (ah (ah (ah aD wG) LY) au2) av P1 (aC (by kernel_rfl) YV)
theorem u7(s:bq)(r:Rt):fy s r=(s.1,s.2.1,s.2.2.1,s.2.2.2.1,kP (fy s r)):=by unfold fy;split <;> rfl
theorem Rm(k:Int)(w:cD)(f i:Int):((kB k w f i).length:Int)<=1500:=by
 unfold kB;split
 ·exact Fo ..
 ·split
  ·exact Fo ..
  ·exact IG ..
theorem WF(w:cD):pk w 0=cz (dC w) (iN w) w (gS w.2.2.2.2.2):=rfl
theorem Xd(w:cD):pk w 1=cz (dC w) (iN w) w 0:=rfl
theorem Qm(w:cD):pk w 2=cz (cX w 11 0) (iF w 11 0) w 0:=rfl
theorem Zq(w:cD):pk w 3=cz (cX w 3 0) (iF w 3 0) w 0:=rfl
end Go.RS

/- Law08: the laws of answers. -/
namespace Go.RS
open Go.SX Go.Proofs
set_option maxRecDepth 100000
set_option linter.unusedVariables false
theorem Y9{n:mD}(h0:gv n=0)(hb:bytes n.2.2):xX (fU n)=0/\qJ (fU n)=n:=by
 have h1:(n.1=3∨n.1=11)/\0<=n.2.1/\n.2.1<=255:=Classical.byContradiction fun k=>by rw[gv,if_pos k] at h0;cases h0
 have h2:¬ (n.2.2.length:Int)<28:=fun k=>by rw[gv,if_neg (fun q=>q h1),if_pos k] at h0;cases h0
 have h3:¬ (1472:Int)<n.2.2.length:=fun k=>by rw[gv,if_neg (fun q=>q h1),if_neg h2,if_pos k] at h0;cases h0
 have hc:=nh (DT (e:=n) h1 hb)
 obtain⟨t,k,l⟩:=n
 simp only at h1 h3 hb hc h2
 generalize hB:fU (t,k,l)=B
 have hs:B=t::k::(ci (j6 (t,k,l))/256%256)::(ci (j6 (t,k,l))%256)::0::0::0::0::l:=by rw[← hB,fU,if_pos h0];rfl
 have i2:aG B (Int.toNat 2)=ci (j6 (t,k,l))/256%256*256+ci (j6 (t,k,l))%256:=by rw[hs];exact fG _ _ _
 have i4:aG B (Int.toNat 4)=0:=by rw[hs];exact (fG 0 0 _)
 have i6:aG B (Int.toNat 6)=0:=by rw[hs];exact (fG 0 0 _)
 have hset:bJ B (Int.toNat 2) 0=j6 (t,k,l):=by rw[hs];rfl
 have hlen:(B.length:Int)=8+l.length:=by rw[hs];simp only[List.length_cons];omega
 have g0:B.getD (Int.toNat 0) default=t:=by rw[hs];rfl
 have g1:B.getD (Int.toNat 1) default=k:=by rw[hs];rfl
 have g8:B.drop 8=l:=by rw[hs];rfl
 have he:xX B=0:=by
  rw[xX,if_neg (by omega),if_neg (fun q=>q ⟨by rw[g0];exact h1.1,i4,i6⟩),if_neg (by omega),if_neg]
  rw[hset,i2,jG hc.1 hc.2];exact fun q=>q rfl
 refine⟨he,?_⟩
 rw[qJ,if_pos he,g0,g1,g8]
theorem Ie{n:mD}(h0:gv n=0):(fU n).getD 0 default=n.1/\(fU n).length=8+n.2.2.length:=by
 rw[fU,if_pos h0];exact⟨rfl,by rw[j9,DP]⟩
theorem Ck{n:mD}(h0:gv n=0)(hb:bytes n.2.2):bytes (fU n):=by
 have h1:(n.1=3∨n.1=11)/\0<=n.2.1/\n.2.1<=255:=Classical.byContradiction fun k=>by rw[gv,if_pos k] at h0;cases h0
 rw[fU,if_pos h0];exact pf (DT h1 hb)
structure cN (p:bN):Prop where
 ok:dI p=0
 s:u32 p.1
 d:u32 p.2.1
theorem cN.dec{p:bN}(g:cN p):bQ (build p)=po p/\bW (build p)=0/\(build p).drop 20=dB p:=HK g.ok g.s g.d
theorem cN.len{p:bN}(g:cN p):((p.2.2.1≠6/\(build p).length=30)∨(p.2.2.1=6/\(build p).length=40)):=by
 rw[Au g.ok,List.length_append,oS]
 rcases yc g.ok with h|h
 ·exact .inl ⟨h.1,by rw[h.2]⟩
 ·exact .inr ⟨h.1,by rw[h.2]⟩
theorem NT{p:bN}(g:cN p):(p.2.2.1=1->(dB p).getD 0 default=8)/\(p.2.2.1=6->(dB p).getD 13 default=2):=by
 have hr:=(lh.1 g.ok).2
 constructor
 ·intro h;rw[vS hr h];rfl
 ·intro h;rw[uX hr h];rfl
theorem Ei{p:bN}(g:cN p):cq (build p)↔fq p.1:=by
 obtain⟨e1,e2,e3⟩:=g.dec
 have hs:bP (build p)=p.1:=by rw[bP,e1];rfl
 constructor
 ·intro h;rw[← hs];exact (n9 h).2.2.2.2
 ·intro hu
  refine Sh e2 (by rcases g.len with h|h <;> omega) ?_ ?_ (by rw[hs];exact hu)
  ·rw[e3];intro h;exact (NT g).1 (by rw[cV,e1] at h;exact h)
  ·rw[e3];intro h _;rw[(NT g).2 (by rw[cV,e1] at h;exact h)];decide
theorem TK{p:bN}(g:cN p):(p.2.2.1=1->aG (dB p) 4=21075/\aG (dB p) 6=p.2.2.2.2.1)/\(p.2.2.1=17->aG (dB p) 4=10/\aG (dB p) 6=p.2.2.2.2.1+1)/\(p.2.2.1=6->dH (((dB p).drop 4).take 4)=p.2.2.2.2.1):=by
 have hr:=(lh.1 g.ok).2
 obtain⟨hf,ht,-⟩:=id hr
 refine⟨fun h=>?_,fun h=>?_,fun h=>?_⟩
 ·rw[vS hr h,rY (by show 4+2<=10;omega) (by omega),rY (by show 6+2<=10;omega) (by omega)]
  refine⟨rfl,?_⟩
  show aG (_::_::_) 0=_
  rw[fG];exact jG (n:=p.2.2.2.2.1) (by omega) (by omega)
 ·have hs:=RW hr
  rw[yp hr h,rY (by show 4+2<=10;omega) (by omega),AL (by show 6+2<=10;omega) (by omega) (by omega)]
  refine⟨?_,hs⟩
  show aG (_::_::_) 0=10
  rw[fG]
  have:((oX p).2.2.length:Int)=2:=rfl
  rw[this];decide
 ·rw[uX hr h]
  show dH [_,_,_,_]=_
  rw[xA];exact BW (n:=p.2.2.2.2.1) ⟨by omega,by omega⟩
theorem ZT{p:bN}(g:cN p):((build p).take 28).length=28/\bytes ((build p).take 28)/\wK ((build p).take 28)=(p,true):=by
 obtain⟨e1,e2,e3⟩:=g.dec
 have hl28:((build p).take 28).length=28:=by rw[List.length_take];rcases g.len with h|h <;> omega
 refine⟨hl28,Bi (E8 p),?_⟩
 have hF:bQ ((build p).take 28)=po p:=by
  rw[← e1];unfold bQ
  rw[sm (by omega),sm (by omega),sm (by omega),oV (by omega),oV (by omega),wF (by omega),wF (by omega)]
 have hpk:fD ((build p).take 28)=0:=by
  have h0:=Bq e2
  have hlen:20<=(build p).length:=by rcases g.len with h|h <;> omega
  rw[fD,if_neg (by omega)] at h0 ⊢
  rw[sm (by omega),oV (by omega),oV (by omega),oV (by omega),List.take_take]
  exact h0
 have wq:∀ i,i+2<=8->aG ((build p).take 28) (20+i)=aG (dB p) i:=fun i hi=>by
  rw[oV (by omega),← e3];unfold aG;rw[List.drop_drop]
 have w0:=wq 0 (by omega)
 have w2:=wq 2 (by omega)
 have w4:=wq 4 (by omega)
 have w6:=wq 6 (by omega)
 have n4:dH ((((build p).take 28).drop 24).take 4)=dH (((dB p).drop 4).take 4):=by rw[wF (by omega),← e3,List.drop_drop]
 have cw:=Sn g.ok
 have cm:=TK g
 have hlw:aG ((build p).take 28) 2=(build p).length:=by rw[oV (by omega),(wA e2).2]
 have hq:zn ((build p).take 28):=⟨hpk,hl28,by rw[hF];rfl,by rw[hF];rfl⟩
 have hpr:cV ((build p).take 28)=p.2.2.1:=by rw[cV,hF];rfl
 have hfl:Cq ((build p).take 28)=p.2.2.2.1:=by
  rw[Cq,hpr]
  have w0:aG ((build p).take 28) 20=aG (dB p) 0:=w0
  rw[w2,w0,cw.1,cw.2]
  rcases (lh.1 g.ok).1 with h|h|h <;> simp[h,uy,tR] <;> omega
 have hP:zp ((build p).take 28)=p:=by
  rw[zp,hfl,hpr,bP,fe,hF];rfl
 rw[wK,if_pos hq,hP]
 have hR:yk ((build p).take 28):=by
  unfold yk
  rw[hpr,hF]
  have w0:aG ((build p).take 28) 20=aG (dB p) 0:=w0
  rw[w0,w2,w4,w6,n4,cw.1,cw.2,hlw]
  rcases (lh.1 g.ok).1 with h|h|h
  ·refine .inl ⟨h,?_,by rw[uy,if_pos h],(cm.1 h).1,(cm.1 h).2⟩
   rcases g.len with k|k <;> omega
  ·refine .inr (.inr ⟨h,?_,by rw[tR,if_neg (by omega),if_neg (by omega)],cm.2.2 h⟩)
   rcases g.len with k|k <;> omega
  ·refine .inr (.inl ⟨h,?_,by rw[tR,if_neg (by omega),if_pos h],?_,(cm.2.1 h).2⟩)
   ·rcases g.len with k|k <;> omega
   ·rw[(cm.2.1 h).1];rcases g.len with k|k <;> omega
 rw[decide_eq_true ⟨hR,g.ok⟩]
theorem vu{src dst proto id ttl:Int}{data:List Int}(hn:gc id ttl)(hp:0<=proto/\proto<=255)(hs:u32 src)(hd:u32 dst)(hl:(data.length:Int)<=1480)(hb:bytes data) :
  bW (cQ (fW src dst proto id ttl data))=0/\bQ (cQ (fW src dst proto id ttl data))=(0,id,ttl,proto,false,src,dst)/\(cQ (fW src dst proto id ttl data)).drop 20=data/\(cQ (fW src dst proto id ttl data)).length=20+data.length:=by
 have h0:=u9 (src:=src) (dst:=dst) hn hp hl
 obtain⟨⟨a,b⟩,c,d⟩:=hn
 rw[cQ,if_pos h0]
 have:=GG (h:=(0,id,ttl,proto,false,src,dst)) (X:=data) ⟨⟨Int.le_refl _,by simp only;omega⟩,⟨c,d⟩,hp,a,b⟩ hs hd hl hb
 refine⟨this.2.1,this.1,this.2.2,?_⟩
 show (gk _ _++data).length=_
 rw[List.length_append,oS]
structure yx (p:bN) (a:sD) (x:List Int):Prop where
 no:¬ cq x
 rd:IT x=(rK p 0,a)
 re:JL x=0
 len:x.length<=1500
theorem cN.t1{p:bN}(g:cN p)(t:Int)(h:1<=t/\t<=255):dI (rK p t)=0:=by
 obtain⟨h1,h2,h3,-⟩:=lh.1 g.ok
 exact lh.2 ⟨h1,h2,h3,h⟩
theorem DV{p:bN}{a:sD}{x:List Int}(g:cN p)(hd:bW x=0)(hr:pG x=(rK p 0,(0,a.2.1,a.2.2.1,0,0,a.2.2.2.2.2),true))(ha:a.1=bP x)(hl:a.2.2.2.1=(bQ x).2.2.1)(hi:a.2.2.2.2.1=(bQ x).2.1)(hn:¬ cq x):yx p a x:=by
 have hg:wY x:=⟨hd,by rw[hr],by rw[hr];exact g.t1 1 (by omega)⟩
 have:=wA hd
 refine⟨hn,?_,by rw[JL,if_pos hg],by omega⟩
 rw[IT,if_pos hg,hr,← ha,← hl,← hi]
theorem yR{p:bN}(g:cN p)(hu:fq p.1){from' kind code id ttl:Int}(hf:u32 from')(hg:oT kind code id ttl) :
  ft (build p) kind code id ttl=0/\yx p (from',tC kind code,code,ttl,id,p.2.2.2.2.2) (gF (build p) from' kind code id ttl)/\(gF (build p) from' kind code id ttl).length=56:=by
 have ha:=(Ei g).2 hu
 obtain⟨e0,eB,en,-⟩:=yS (src:=from') hg ha
 obtain⟨e1,-,-⟩:=g.dec
 obtain⟨ql,qb,qv⟩:=ZT g
 have hs:bP (build p)=p.1:=by rw[bP,e1];rfl
 have hk:=hg.1
 refine⟨e0,?_⟩
 rw[eB,hs]
 generalize hD:fU (kind,code,(build p).take 28)=D
 have un:=Y9 en qb
 have nf:=Ie en
 have nb:=Ck en qb
 rw[hD] at un nf nb
 rw[ql] at nf
 have sb:=vu (src:=from') (dst:=p.1) (proto:=1) (data:=D) hg.2.2 (by omega) hf g.s (by omega) nb
 generalize cQ (fW from' p.1 1 id ttl D)=x at sb
 obtain⟨s1,s2,s3,s4⟩:=sb
 have hp1:cV x=1:=by rw[cV,s2]
 have hns:¬ D.getD 0 default=8:=by rw[nf.1];simp only;omega
 refine⟨DV g s1 ?_ (by rw[bP,s2]) (by rw[s2]) (by rw[s2]) (fun k=>?_),by rw[s4,nf.2]⟩
 ·rw[pG,if_neg,if_pos hp1,s3,H7,if_pos un.1,un.2]
  ·simp only
   rw[qv]
   simp[fe,s2,rK]
  ·rw[s3]
   rintro⟨-,-,k⟩
   rw[nf.1] at k;simp only at k;omega
 ·exact hns (by have:=(n9 k).2.2.1 hp1;rw[s3] at this;exact this)
theorem SF(t n:Int):aY true (bI (true,21075,t,w2 n))=aY true (bI (false,21075,t,w2 n))-2048:=by
 simp[bI,w2,aY];omega
theorem Vw(t n:Int):23000<=aY true (bI (false,21075,t,w2 n)):=by
 simp[bI,w2,aY];omega
def pX(p:bN)(id ttl:Int):sD:=if p.2.2.1=6 then (p.2.1,4,0,ttl,id,0) else if p.2.2.1=17 then (p.2.1,3,3,ttl,id,p.2.2.2.2.2) else (p.2.1,2,0,ttl,id,0)
theorem Mo{p:bN}(g:cN p)(hu:fq p.1){id ttl:Int}(hn:gc id ttl) :
  fa (build p) id ttl=0/\yx p (pX p id ttl) (gp (build p) p.2.1 id ttl):=by
 have ha:=(Ei g).2 hu
 obtain⟨e1,e2,e3⟩:=g.dec
 have hs:bP (build p)=p.1:=by rw[bP,e1];rfl
 have hd:fe (build p)=p.2.1:=by rw[fe,e1];rfl
 have hpr:cV (build p)=p.2.2.1:=by rw[cV,e1];rfl
 have hr:=(lh.1 g.ok).2
 have hr':=hr
 obtain⟨hf,ht,-⟩:=hr'
 rcases (lh.1 g.ok).1 with h|h|h
 ·have eE:dB p=dk (jm p):=by rw[vS hr h,dk,if_pos (Ox hr)]
  have u:=Nh (Ee hr) (jP _) (by rw[vF];omega)
  have hh:=A8 (src:=p.2.1) hn ha (by rw[hpr];exact h) (by rw[e3,eE];exact u.1)
  refine⟨hh.2,?_⟩
  rw[hh.1,hs,e3,eE,u.2]
  have ok2:AW (w2 (nu p)) (true,(jm p).2):=⟨(Ee hr).1,rfl⟩
  have u2:=Nh ok2 (jP _) (by rw[vF];omega)
  have eg:=AH ok2 (by rw[vF];omega)
  have esh:dk (true,(jm p).2)=bJ (bI (true,(jm p).2)) 2 (ci (bI (true,(jm p).2))):=by rw[dk,if_pos eg]
  have bb:bytes (bI (true,(jm p).2)):=tz (jP _)
  have hcs:=nh bb
  have ecs:ci (bI (true,(jm p).2))=18432+p.2.2.2.1:=by
   have h1:=Je hr
   have h2:=SF p.2.2.2.2.1 (nu p)
   have h3:=Vw p.2.2.2.2.1 (nu p)
   unfold ci at h1 ⊢
   have k1:jm p=(false,21075,p.2.2.2.2.1,w2 (nu p)):=rfl
   rw[k1] at h1 ⊢
   simp only
   rw[h2]
   generalize aY true (bI (false,21075,p.2.2.2.2.1,w2 (nu p)))=S at h1 h3 ⊢
   unfold oc at h1 ⊢
   rw[if_neg (by omega)] at h1 ⊢
   omega
  have w2c:aG (dk (true,(jm p).2)) 2=18432+p.2.2.2.1:=by
   rw[esh,AL (by show 2+2<=10;omega) hcs.1 hcs.2,ecs]
  have hl10:(dk (true,(jm p).2)).length=10:=by rw[esh,j9];rfl
  have hb:bytes (dk (true,(jm p).2)):=by rw[esh];exact pf bb
  have h0:(dk (true,(jm p).2)).getD 0 default=0:=by rw[esh];rfl
  generalize hD:dk (true,(jm p).2)=D at *
  have sb:=vu (src:=p.2.1) (dst:=p.1) (proto:=1) (data:=D) hn (by omega) g.d g.s (by omega) hb
  generalize cQ (fW p.2.1 p.1 1 id ttl D)=x at sb
  obtain⟨s1,s2,s3,s4⟩:=sb
  have hp1:cV x=1:=by rw[cV,s2]
  have hx:fe x=p.1:=by rw[fe,s2]
  have hy:bP x=p.2.1:=by rw[bP,s2]
  rw[pX,if_neg (by omega),if_neg (by omega)]
  refine DV g s1 ?_ hy.symm (by rw[s2]) (by rw[s2]) (fun k=>?_)
  ·have eg2:AZ D:=⟨u2.1,by rw[u2.2],by rw[u2.2];rfl,by rw[u2.2];rfl⟩
   rw[pG,if_pos ⟨hp1,by rw[s3];omega,by rw[s3];exact h0⟩,s3,I1,if_pos eg2,hx,hy,w2c,u2.2]
   have e9:18432+p.2.2.2.1-18432=p.2.2.2.1:=by omega
   rw[e9,rK,h];rfl
  ·have:=(n9 k).2.2.1 hp1
   rw[s3,h0] at this;cases this
 ·have eE:dB p=dj p.1 p.2.1 (kD p):=by rw[uX hr h,dj,if_pos (IP hr)]
  have u:=Pt (s:=p.1) (d:=p.2.1) (Dy hr) kR (by simp)
  have hun:dK (bP (build p)) (fe (build p)) ((build p).drop 20)=kD p:=by rw[hs,hd,e3,eE];exact u.2
  have hh:=zt (src:=p.2.1) hn ha (by rw[hpr];exact h) (by rw[hs,hd,e3,eE];exact u.1) (by rw[hun];show bits .and .i64 2 2≠0;decide) (by rw[hun];show bits .and .i64 2 4=0;decide)
  refine⟨hh.2,?_⟩
  rw[hh.1,hun,hs]
  have eY:ju (kD p)=(80,20000+p.2.2.2.1,0,p.2.2.2.2.1+1,20,0,[]):=by
   have:(p.2.2.2.2.1+1)%4294967296=p.2.2.2.2.1+1:=by omega
   show (80,20000+p.2.2.2.1,0,(p.2.2.2.2.1+1)%4294967296,20,0,[])=_
   rw[this]
  have okY:AJ [] (ju (kD p)):=by
   rw[eY]
   refine⟨⟨(gz _).2 ⟨?_,?_⟩,(gz _).2 ⟨?_,?_⟩,⟨?_,?_⟩,⟨?_,?_⟩,⟨?_,?_⟩,(gz _).2 ⟨?_,?_⟩⟩,rfl⟩ <;> simp only <;> omega
  have u2:=Pt (s:=p.2.1) (d:=p.1) okY kR (by simp)
  have eg:=Gu okY (by simp)
  have esh:dj p.2.1 p.1 (ju (kD p))=bJ (io (ju (kD p))) 16 (dE p.2.1 p.1 6 (io (ju (kD p)))):=by rw[dj,if_pos eg]
  have hb:bytes (dj p.2.1 p.1 (ju (kD p))):=by rw[esh];exact pf (vt okY.1 kR)
  have hl20:(dj p.2.1 p.1 (ju (kD p))).length=20:=by rw[esh,j9];rfl
  have h13:(dj p.2.1 p.1 (ju (kD p))).getD 13 default=20:=by rw[esh];rfl
  rw[eY] at u2
  generalize hD:dj p.2.1 p.1 (ju (kD p))=D at *
  rw[← eY,hD] at u2
  have sb:=vu (src:=p.2.1) (dst:=p.1) (proto:=6) (data:=D) hn (by omega) g.d g.s (by omega) hb
  generalize cQ (fW p.2.1 p.1 6 id ttl D)=x at sb
  obtain⟨s1,s2,s3,s4⟩:=sb
  have hp1:cV x=6:=by rw[cV,s2]
  have hx:fe x=p.1:=by rw[fe,s2]
  have hy:bP x=p.2.1:=by rw[bP,s2]
  rw[eY] at u2
  rw[pX,if_pos h]
  refine DV g s1 ?_ hy.symm (by rw[s2]) (by rw[s2]) (fun k=>?_)
  ·have eg2:zN p.2.1 p.1 D:=⟨u2.1,by rw[u2.2],by rw[u2.2],by rw[u2.2],by rw[u2.2],by rw[u2.2]⟩
   rw[pG,if_neg (by rw[hp1];omega),if_neg (by omega),if_pos hp1,s3,hx,hy,MV,if_pos eg2,u2.2]
   have e9:20000+p.2.2.2.1-20000=p.2.2.2.1:=by omega
   have e8:p.2.2.2.2.1+1-1=p.2.2.2.2.1:=by omega
   simp only
   rw[e9,e8,rK,h]
  ·have:=(n9 k).2.2.2.1 hp1 (by rw[s3];omega)
   rw[s3,h13] at this;exact absurd this (by decide)
 ·have eE:dB p=jN p.1 p.2.1 (oX p):=by rw[yp hr h,jN,if_pos (KF hr)]
  have u:=Zr (s:=p.1) (d:=p.2.1) (Ki hr) (jP _) (by rw[vF];omega)
  have hh:=Av (src:=p.2.1) hn ha (by rw[hpr];exact h) (by rw[hs,hd,e3,eE];exact u.1)
  refine⟨hh.2,?_⟩
  rw[hh.1,pX,if_neg (by omega),if_pos h]
  exact (yR g hu g.d (kind:=3) (code:=3) ⟨.inr rfl,by omega,hn⟩).2.1
def Hm(p:bN)(x:List Int):Prop:=(¬ fq p.1->x=[])/\(fq p.1→∃ a:sD,0<a.2.1/\yx p a x)
end Go.RS

/- Drawsome: an address of a network, drawn. -/
namespace Go.RS
open Go.SX Go.Proofs
set_option maxRecDepth 100000
set_option linter.unusedVariables false
def K4:Cn:=⟨[.box 109 f8,.agg ig],[.val cj],fun d=>[ay d.1],fun d y=>ay y.2.1/\0<=y.1.1/\y.1.1<=4294967295,fun d h=>⟨((0,()),(d.1,())),h.1,by simp,by simp⟩⟩
def XU:ar K4.ps->az:=(fun _=>{})
def vE(c:List ac)(f:Int) :=
 ((List.length (c.getD f.toNat default).1):Int)
theorem PZ :
 ∀(a:List Int)(b:Int)(c:List ac)(d:List aE)(e:List aM),((a.length<=maxLen/\ ∀(f:Int),f∈a->0<=f/\f<=255)/\ab b)/\((c.length<=maxLen/\ ∀(f:ac),f∈c->CT.wf bH f)/\(d.length<=maxLen/\ ∀(f:aE),f∈d->CT.wf fB f)/\e.length<=maxLen/\ ∀(f:aM),f∈e->CT.wf d8 f)/\True->0<=b/\b<=(a.length:Int)->ad (decide ((c.length:Int)=0)) (ay (a,b)/\ ∀(f:Int)(g:List Int)(h:Int),ay (g,h)/\0<=f/\f<=4294967295->ay (g,h)/\0<=f/\f<=4294967295) (ay (a,b)/\ ∀(f:Int)(g:List Int)(h:Int),0<=f/\(f<(c.length:Int)∨f=0)/\ay (g,h)->0<=f/\f<(c.length:Int)/\ ∀(i:Bool),i=decide ((vE c f)=0)->ad (! i) (((! i)->(! i))/\ay (g,h)/\ ∀(j:Int)(k:List Int)(l:Int),0<=j/\(j<12∨j=0)/\ay (k,l)->(i=false->(! i))/\ad (bif i then true else decide (j=11)) (ay (k,l)/\ ∀(m:Int)(n:List Int)(o:Int),ay (n,o)/\0<=m/\m<=4294967295->ay (n,o)/\0<=m/\m<=4294967295) (ay (k,l)/\ ∀(m:Int)(n:List Int)
 (o:Int),0<=m/\(m<(vE c f)∨m=0)/\ay (n,o)->0<=m/\m<(vE c f)/\ay (n,o)/\0<=(List.getD (c.getD f.toNat default).1 m.toNat default).1/\(List.getD (c.getD f.toNat default).1 m.toNat default).1<=4294967295)) ((! i)=false/\(i=false->false=true)/\ad (bif i then true else false) (ay (g,h)/\ ∀(j:Int)(k:List Int)(l:Int),ay (k,l)/\0<=j/\j<=4294967295->ay (k,l)/\0<=j/\j<=4294967295) (ay (g,h)/\ ∀(j:Int)(k:List Int)(l:Int),0<=j/\(j<(vE c f)∨j=0)/\ay (k,l)->0<=j/\j<(vE c f)/\ay (k,l)/\0<=(List.getD (c.getD f.toNat default).1 j.toNat default).1/\(List.getD (c.getD f.toNat default).1 j.toNat default).1<=4294967295))):=by
  delta vE
  rintro l p ns ls hs ⟨-,⟨⟨hnl,hnw⟩,-⟩,-⟩ hc
  refine ae (fun h=>?_) (fun h=>?_)
  ·exact⟨hc,fun x l2 p2 h=>h⟩
  have h:=of_decide_eq_false h
  refine⟨hc,?_⟩
  rintro x l2 p2 ⟨x0,x1,hc2⟩
  have x1:x<(ns.length:Int):=by omega
  have hX:=hnw _ (bL x0 x1)
  generalize ns.getD x.toNat default=X at hX ⊢
  have hp:=hX.1.2
  refine⟨x0,x1,?_⟩
  intro b hb
  refine ae (fun q=>?_) (fun q=>?_)
  ·have hb0:b=false:=by simpa using q
   subst hb0
   have hne:=of_decide_eq_false hb.symm
   refine⟨by simp,hc2,?_⟩
   rintro y l3 p3 ⟨y0,y1,hc3⟩
   rw[cond_false]
   (repeat refine⟨by simp,?_⟩)
   refine ae (fun q=>?_) (fun q=>?_)
   ·exact⟨hc3,fun x l2 p2 h=>h⟩
   ·refine⟨hc3,?_⟩
    rintro z l4 p4 ⟨z0,z1,hc4⟩
    have z1:z<(X.1.length:Int):=by omega
    have:=hp _ (bL z0 z1)
    exact⟨z0,z1,hc4,this.1⟩
  ·have hb0:b=true:=by simpa using q
   subst hb0
   refine⟨rfl,by simp,?_⟩
   rw[cond_true]
   exact⟨hc2,fun x l2 p2 h=>h⟩
theorem Qv:ax Tryz.prog GL 33 K4.spec:=Cn.okH _ Tryz.func33 (by kernel_rfl) (ah (ah aD pQ) Hs) av XU (aC (by kernel_rfl) PZ)
end Go.RS
