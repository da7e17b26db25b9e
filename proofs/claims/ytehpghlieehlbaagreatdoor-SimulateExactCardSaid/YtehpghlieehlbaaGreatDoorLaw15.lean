/- Law15: the laws about the simulator. -/
import Derived.Test.YtehpghlieehlbaaGreatDoorLaw15a
set_option maxRecDepth 100000
set_option linter.unusedVariables false
open Int (toNat)
namespace Go.RS
open Go.SX Go.Proofs
set_option maxHeartbeats 2000000
def aC5:oP:=[(false,.sl bz),(false,.sl bz),(false,cI),(false,cI)]
structure Be (sent:Int) (v:aJ) (t:Int):Prop where
 ok:mq v
 t0:0<=t/\t<=bg v
 s:0<=sent
 en:∀ e∈aV v,0<=AZ e/\0<=wB e/\wB e<sent
 fl:∀ f∈ax v,0<=fG f/\fG f<sent
 og:∀ o,0<=o->o<sent->xA (lq o (ax v)) (nz o (aV v))
theorem dG.wait{v:aJ}{B to:Int}(h:dG B v)(hb:jQ v to=false)(ha:0<=to/\to<=1125899906842624):dG B (cB v to):=⟨h.b,h.sB.wait hb ha,h.a,h.c,h.dd,h.e,h.d⟩
theorem dG.runs{w:aJ}{B to:Int}(h:dG B w)(ha:0<=to/\to<=1125899906842624):dG B (xG w to):=by
 obtain⟨k1,k2,-⟩:=h.run (to:=to) _ (eZ _)
 exact (k1.wait k2 ha).change
theorem dG.lands{w:aJ}{B:Int}(h:dG B w){f:aW}{r:List aW}(e:ax w=f::r):I0 (dQ w) f (dI w):=by
 have a:=h.at e
 have es:dI w=ip (dQ w) (gY w):=rfl
 rw[es,a.eF]
 exact Go.RS.lands a.s.weak a.fk.wk a.now.symm (by rw[a.net];exact h.a)
theorem Be.step{s t:Int}{v:aJ}(h:Be s v t){f:aW}{r:List aW}(e:ax v=f::r):t<=bg (dI v)/\Be s (dI v) (bg (dI v)):=by
 have a:=h.ok.at e
 obtain⟨es,l1,l2,l3⟩:=(h.ok.lands e).a
 obtain⟨-,-,s3,-⟩:=h.ok.s.weak.step e
 have hfk:=h.ok.s.fo f (by rw[e];exact fF)
 have hof:=h.fl f (by rw[e];exact fF)
 have ht:=hfk.t
 have hn:=h.ok.s.now
 rw[a.en] at l2
 rw[a.fl] at l3
 have h0:=h.t0
 refine⟨ab,(h.ok.step e).1,⟨ab,iE _⟩,h.s,λx hx=>?_,λg hg=>?_,λo o0 o1=>Td h.ok.s.weak h.ok.a e (h.og o o0 o1)⟩
 .rw[l2] at hx;rcases dH.1 hx with hx|hx
  .exact h.en x hx
  .obtain⟨q1,q2⟩:=l1 x hx;rw[q1,q2];exact⟨ab,hof⟩
 .have hr:∀ g∈r,0<=fG g/\fG g<s:=λg hg=>h.fl g (by rw[e];exact fw _ hg);rcases l3 with⟨q,-⟩|⟨g2,q1,-,q,-⟩
  .rw[q] at hg;exact hr g hg
  .rw[q] at hg;rcases xX.1 hg with rfl|hg
   .rw[q1];exact hof
   .exact hr g hg
theorem Be.new{d:aJ}{m:Int}(h:yV m d):Be (bj d) d 0 :=
 ⟨h.ok.sim,⟨iE _,by rw[h.now];exact iE _⟩,by have:=h.m9;rw[h.ord];omega,λe he=>(by rw[h.en] at he;cases he),λf hf=>(h.ok.s.fo f hf).g,h.og⟩
def wk(B:Int)(w:aJ):Prop:=dG B w∨nA w
theorem wk.e{B:Int}{w:aJ}(h:wk B w):gb w:=h.elim (λq=>.inl q.sim) .inr
theorem wk.more{B B':Int}{w:aJ}(h:wk B w)(h1:B<=B')(h2:B'<=549755813888):wk B' w:=h.elim (λq=>.inl (q.more h1 h2)) .inr
theorem Xm:nA wL:=⟨rfl,iE _,by decide⟩
theorem wk.step{B:Int}{w:aJ}(h:wk B w):wk B (o6 w):=by
 unfold o6
 split
 .exact h
 next k=>
  rcases h with h|h
  .cases e:ax w with
   | nil=>exact absurd e k
   | cons f r=>exact .inl (h.step e).1
  .exact absurd h.fl k
theorem wk.run{B to:Int}{w:aJ}(h:wk B w):wk B (jx w to):=by
 unfold jx
 split
 next k=>
  unfold iY at k;split at k
  .cases k
  rename_i k1;split at k
  .cases k
  rename_i k2;rcases h with h|h
  .have:=h.s.now;exact .inl (h.runs ⟨ab,ab⟩)
  .refine .inr ?_;have e:xG w to=cB wL to:=by rw[h.1];rfl
   rw[e];have:=h.2;exact⟨rfl,by show 0<=to;omega,by show to<=_;omega⟩
 .exact .inr Xm
theorem wk.send{B:Int}{w:aJ}(h:wk B w)(hB:B+4000<=549755813888){at' who:Int}{b:ad}(he:fO w at' who=0)(hb:bytes b)(hl:(b.length:Int)<=2000):wk (B+4000) (gI w at' who b):=by
 unfold gI
 rw[am he]
 rcases h with h|h
 .exact .inl (h.send hB he hb hl).1
 .unfold fO at he;have e0:((az w).1.length:Int)=0:=by rw[h.1];rfl
  rw[am ab] at he;cases he
def PD:Ct:=AW aC5
def ar8:bu PD.ps->bS:=(λd=>{loops:=(bm 14 (λS=>{ι:=Int×(ad×Int)×aJ,qn:=qU,μ:=λi=>(14-i.1).toNat,inv:=λi=>0<=i.1/\i.1<=14/\ay i.2.1/\wk (4000+4000*i.1) i.2.2,keep:=[1,2,3,9,10,14,16],slots:=λi=>[(18,.int .i64 i.1)],keepN:=[176],names:=λi=>[(944,.live (.cells 105 (cR iA i.2.1))),(240,.live (.cells 39 (cR fX i.2.2))),(272,.live (.cells 39 (cR fX i.2.2)))]}) ci),cuts:=(bm 20 (λS=>{ι:=Int×(ad×Int),qn:=fj,inv:=λi=>ay i.2,keep:=[1,2,3,9,10,14,16,18,34,35],slots:=λi=>[(36,.int .i64 i.1)],keepN:=[176,240,272],names:=λi=>[(944,.live (.cells 105 (cR iA i.2)))]}) (bm 46 (λS=>{ι:=(ad×Int)×aJ,qn:=fj,inv:=λi=>ay i.1/\wk (8000+4000*S.i 18) i.2,keep:=[1,2,3,9,10,14,16,18],slots:=λi=>[],keepN:=[176],names:=λi=>[(944,.live (.cells 105 (cR iA i.1))),(240,.live (.cells 39 (cR fX i.2))),(272,.live (.cells 39 (cR fX i.2)))]}) ci))})
def Iq(N:ad)(O:Int)(Q:ad×Int)(z:aJ) :=
 z.1.1=z.1.1/\z.1.2.1=z.1.2.1/\z.1.2.2=z.1.2.2/\z.2.1=z.2.1/\z.2.2.1=z.2.2.1/\z.2.2.2.1=z.2.2.2.1/\z.2.2.2.2.1=z.2.2.2.2.1/\z.2.2.2.2.2.1=z.2.2.2.2.2.1/\z.2.2.2.2.2.2.1=z.2.2.2.2.2.2.1/\z.2.2.2.2.2.2.2.1=z.2.2.2.2.2.2.2.1/\z.2.2.2.2.2.2.2.2=z.2.2.2.2.2.2.2.2/\z.1.1=z.1.1/\z.1.2.1=z.1.2.1/\z.1.2.2=z.1.2.2/\z.2.1=z.2.1/\z.2.2.1=z.2.2.1/\z.2.2.2.1=z.2.2.2.1/\z.2.2.2.2.1=z.2.2.2.2.1/\z.2.2.2.2.2.1=z.2.2.2.2.2.1/\z.2.2.2.2.2.2.1=z.2.2.2.2.2.2.1/\z.2.2.2.2.2.2.2.1=z.2.2.2.2.2.2.2.1/\z.2.2.2.2.2.2.2.2=z.2.2.2.2.2.2.2.2/\N=Q.1/\O=Q.2/\True
def D8(a:ad) :=
 (if (ac a)<=600 then a else List.take (toNat 600) a,(0:Int))
theorem TY :
 ∀(a b:ad)(c d:Int),(a.length<=maxLen/\ ∀(e:Int),e∈a->0<=e/\e<=255)/\(b.length<=maxLen/\ ∀(e:Int),e∈b->0<=e/\e<=255)/\aj c/\aj d/\True->True-> ∀(e:Bool),e= ! true->(ae (! e))/\(ae (! e))/\(aF e)/\ao (bif e then true else decide (1600<(ac b))) (decide (1600<(ac b))=true) ((0:Int)<=600/\ay (D8 a)/\ ∀(f:List ar)(g:List aN)(h:List aT)(i:ad)(j:Int),(f,g,h)=rM false (D8 a)/\(i,j)=zF false (D8 a)->ay (i,j)/\dK (1000:Int) (f,g,h)/\ ∀(k:List ar)(l:List aN)(m:List aT)(n:ad)(o:Int),(ay (n,o)/\ ∀(p:Int),1<=p->dK p (f,g,h)->dK (p+1) (k,l,m))->lT (k,l,m)/\ ∀(p:(List ar×List aN×List aT)×Int×Int×Int×List (List aG×Int×ad×(Int×Int)×Int)×ad×List (Int×Int×Int×Int×Int×ad)×List (Int×Int×ad)×List (Int×Int×Int×Int×Int))(q:Int),p=oR (k,l,m)/\q=dA (k,l,m)->(∀(r:aT),r∈m->((List.length (dB
 r).2.1):Int)<=1099511627776)/\ ∀(r:Bool),r= ! decide (q=dA (k,l,m))->(ae (! r))/\(ae (! r))/\ ∀(s:Bool),s= ! decide (q=0)->(ae (! r&&s))/\(ae (! r&&s))/\(ae (! r&&s))/\((! r)->(aq (! r))/\(s->(! r&&s))/\True)/\(aF r)/\ao (bif r then true else bif s then decide (0<(ac p.2.2.2.2.1)) else false) (false=true) (lT (f,g,h)/\ ∀(t:(List ar×List aN×List aT)×Int×Int×Int×List (List aG×Int×ad×(Int×Int)×Int)×ad×List (Int×Int×Int×Int×Int×ad)×List (Int×Int×ad)×List (Int×Int×Int×Int×Int))(u:Int),t=oR (f,g,h)/\u=dA (f,g,h)->lT (f,g,h)/\ ∀(v:(List ar×List aN×List aT)×Int×Int×Int×List (List aG×Int×ad×(Int×Int)×Int)×ad×List (Int×Int×Int×Int×Int×ad)×List (Int×Int×ad)×List (Int×Int×Int×Int×Int))(w:Int),v=oR (f,g,h)/\w=dA (f,g,h)->ao (! (decide (u=w)&&gB t v)) (false=true) ((∃(x:Int) (y:List
 Int×Int),∃(z:aJ),(0<=x/\x<=14/\ay y/\wk ((4000:Int)+4000*x) z)/\b=b/\c=c/\d=d/\0=x/\f=f/\g=g/\h=h/\n=y.1/\o=y.2/\t.1.1=z.1.1/\t.1.2.1=z.1.2.1/\t.1.2.2=z.1.2.2/\t.2.1=z.2.1/\t.2.2.1=z.2.2.1/\t.2.2.2.1=z.2.2.2.1/\t.2.2.2.2.1=z.2.2.2.2.1/\t.2.2.2.2.2.1=z.2.2.2.2.2.1/\t.2.2.2.2.2.2.1=z.2.2.2.2.2.2.1/\t.2.2.2.2.2.2.2.1=z.2.2.2.2.2.2.2.1/\t.2.2.2.2.2.2.2.2=z.2.2.2.2.2.2.2.2/\v.1.1=z.1.1/\v.1.2.1=z.1.2.1/\v.1.2.2=z.1.2.2/\v.2.1=z.2.1/\v.2.2.1=z.2.2.1/\v.2.2.2.1=z.2.2.2.1/\v.2.2.2.2.1=z.2.2.2.2.1/\v.2.2.2.2.2.1=z.2.2.2.2.2.1/\v.2.2.2.2.2.2.1=z.2.2.2.2.2.2.1/\v.2.2.2.2.2.2.2.1=z.2.2.2.2.2.2.2.1/\v.2.2.2.2.2.2.2.2=z.2.2.2.2.2.2.2.2/\True)/\ ∀(x:Int)(y:ad×Int)(z:aJ),0<=x/\x<=14/\ay y/\wk ((4000:Int)+4000*x) z->ao (decide (x<14)) ((ay y/\ ∀(A:Int)(B:ad)(C:Int),0<=A/\(A<6∨A=0)/\ay (B,C)->ao (decide (A=0)) (gb z/\ ∀(D:(List ar×List aN×List aT)×Int×Int×Int×List (List
 aG×Int×ad×(Int×Int)×Int)×ad×List (Int×Int×Int×Int×Int×ad)×List (Int×Int×ad)×List (Int×Int×Int×Int×Int)) (E:Bool),D=o6 z/\E=iZ z->gb z/\ ∀(F:(List ar×List aN×List aT)×Int×Int×Int×List (List aG×Int×ad×(Int×Int)×Int)×ad×List (Int×Int×Int×Int×Int×ad)×List (Int×Int×ad)×List (Int×Int×Int×Int×Int))(G:Bool),F=o6 z/\G=iZ z->ao (! E==G) (false=true) (∃(H:ad×Int) (I:aJ),(ay H/\wk ((8000:Int)+4000*x)
 I)/\b=b/\c=c/\d=d/\x=x/\f=f/\g=g/\h=h/\B=H.1/\C=H.2/\D.1.1=I.1.1/\D.1.2.1=I.1.2.1/\D.1.2.2=I.1.2.2/\D.2.1=I.2.1/\D.2.2.1=I.2.2.1/\D.2.2.2.1=I.2.2.2.1/\D.2.2.2.2.1=I.2.2.2.2.1/\D.2.2.2.2.2.1=I.2.2.2.2.2.1/\D.2.2.2.2.2.2.1=I.2.2.2.2.2.2.1/\D.2.2.2.2.2.2.2.1=I.2.2.2.2.2.2.2.1/\D.2.2.2.2.2.2.2.2=I.2.2.2.2.2.2.2.2/\F.1.1=I.1.1/\F.1.2.1=I.1.2.1/\F.1.2.2=I.1.2.2/\F.2.1=I.2.1/\F.2.2.1=I.2.2.1/\F.2.2.2.1=I.2.2.2.1/\F.2.2.2.2.1=I.2.2.2.2.1/\F.2.2.2.2.2.1=I.2.2.2.2.2.1/\F.2.2.2.2.2.2.1=I.2.2.2.2.2.2.1/\F.2.2.2.2.2.2.2.1=I.2.2.2.2.2.2.2.1/\F.2.2.2.2.2.2.2.2=I.2.2.2.2.2.2.2.2/\True)) (ao (decide (A=1)) (ay (B,C)/\ ∀(D:Int)(E:ad)(F:Int),0<=D/\(D<80∨D=0)/\ay (E,F)->gb z/\ ∀(G:(List ar×List aN×List aT)×Int×Int×Int×List (List aG×Int×ad×(Int×Int)×Int)×ad×List (Int×Int×Int×Int×Int×ad)×List (Int×Int×ad)×List (Int×Int×Int×Int×Int))(H:Int),G=jx z (ai
 (z.2.1+D))/\H=iY z (ai (z.2.1+D))->gb z/\ ∀(I:(List ar×List aN×List aT)×Int×Int×Int×List (List aG×Int×ad×(Int×Int)×Int)×ad×List (Int×Int×Int×Int×Int×ad)×List (Int×Int×ad)×List (Int×Int×Int×Int×Int))(J:Int),I=jx z (ai (z.2.1+D))/\J=iY z (ai (z.2.1+D))->ao (! (decide (H=J)&&gB G I)) (false=true) (∃(K:ad×Int) (L:aJ),(ay K/\wk ((8000:Int)+4000*x)
 L)/\b=b/\c=c/\d=d/\x=x/\f=f/\g=g/\h=h/\E=K.1/\F=K.2/\G.1.1=L.1.1/\G.1.2.1=L.1.2.1/\G.1.2.2=L.1.2.2/\G.2.1=L.2.1/\G.2.2.1=L.2.2.1/\G.2.2.2.1=L.2.2.2.1/\G.2.2.2.2.1=L.2.2.2.2.1/\G.2.2.2.2.2.1=L.2.2.2.2.2.1/\G.2.2.2.2.2.2.1=L.2.2.2.2.2.2.1/\G.2.2.2.2.2.2.2.1=L.2.2.2.2.2.2.2.1/\G.2.2.2.2.2.2.2.2=L.2.2.2.2.2.2.2.2/\I.1.1=L.1.1/\I.1.2.1=L.1.2.1/\I.1.2.2=L.1.2.2/\I.2.1=L.2.1/\I.2.2.1=L.2.2.1/\I.2.2.2.1=L.2.2.2.1/\I.2.2.2.2.1=L.2.2.2.2.1/\I.2.2.2.2.2.1=L.2.2.2.2.2.1/\I.2.2.2.2.2.2.1=L.2.2.2.2.2.2.1/\I.2.2.2.2.2.2.2.1=L.2.2.2.2.2.2.2.1/\I.2.2.2.2.2.2.2.2=L.2.2.2.2.2.2.2.2/\True)) (ao (decide (A=2)) (gb z/\(ac b)<=1000000/\ ∀(D:(List ar×List aN×List aT)×Int×Int×Int×List (List aG×Int×ad×(Int×Int)×Int)×ad×List (Int×Int×Int×Int×Int×ad)×List (Int×Int×ad)×List (Int×Int×Int×Int×Int))(E F:Int),D=gI z c d b/\E=jj z c d/\F=fO z c d->gb z/\(ac b)<=1000000/\
 ∀(G:(List ar×List aN×List aT)×Int×Int×Int×List (List aG×Int×ad×(Int×Int)×Int)×ad×List (Int×Int×Int×Int×Int×ad)×List (Int×Int×ad)×List (Int×Int×Int×Int×Int))(H I:Int),G=gI z c d b/\H=jj z c d/\I=fO z c d-> ∀(J:Bool),J= ! decide (E=H)->((! J)->(aq (! J))/\(aq (! J))/\(aq (! J))/\(aq (! J))/\True)/\(ae (! J))/\(aF J)/\ao (bif J then true else ! (decide (F=I)&&gB D G)) (false=true) (ao (decide (F=0)) (∃(K:ad×Int) (L:aJ),(ay K/\wk ((8000:Int)+4000*x)
 L)/\b=b/\c=c/\d=d/\x=x/\f=f/\g=g/\h=h/\B=K.1/\C=K.2/\D.1.1=L.1.1/\D.1.2.1=L.1.2.1/\D.1.2.2=L.1.2.2/\D.2.1=L.2.1/\D.2.2.1=L.2.2.1/\D.2.2.2.1=L.2.2.2.1/\D.2.2.2.2.1=L.2.2.2.2.1/\D.2.2.2.2.2.1=L.2.2.2.2.2.1/\D.2.2.2.2.2.2.1=L.2.2.2.2.2.2.1/\D.2.2.2.2.2.2.2.1=L.2.2.2.2.2.2.2.1/\D.2.2.2.2.2.2.2.2=L.2.2.2.2.2.2.2.2/\G.1.1=L.1.1/\G.1.2.1=L.1.2.1/\G.1.2.2=L.1.2.2/\G.2.1=L.2.1/\G.2.2.1=L.2.2.1/\G.2.2.2.1=L.2.2.2.1/\G.2.2.2.2.1=L.2.2.2.2.1/\G.2.2.2.2.2.1=L.2.2.2.2.2.1/\G.2.2.2.2.2.2.1=L.2.2.2.2.2.2.1/\G.2.2.2.2.2.2.2.1=L.2.2.2.2.2.2.2.1/\G.2.2.2.2.2.2.2.2=L.2.2.2.2.2.2.2.2/\True) (∃(K:ad×Int) (L:aJ),(ay K/\wk ((8000:Int)+4000*x)
 L)/\b=b/\c=c/\d=d/\x=x/\f=f/\g=g/\h=h/\B=K.1/\C=K.2/\z.1.1=L.1.1/\z.1.2.1=L.1.2.1/\z.1.2.2=L.1.2.2/\z.2.1=L.2.1/\z.2.2.1=L.2.2.1/\z.2.2.2.1=L.2.2.2.1/\z.2.2.2.2.1=L.2.2.2.2.1/\z.2.2.2.2.2.1=L.2.2.2.2.2.1/\z.2.2.2.2.2.2.1=L.2.2.2.2.2.2.1/\z.2.2.2.2.2.2.2.1=L.2.2.2.2.2.2.2.1/\z.2.2.2.2.2.2.2.2=L.2.2.2.2.2.2.2.2/\z.1.1=L.1.1/\z.1.2.1=L.1.2.1/\z.1.2.2=L.1.2.2/\z.2.1=L.2.1/\z.2.2.1=L.2.2.1/\z.2.2.2.1=L.2.2.2.1/\z.2.2.2.2.1=L.2.2.2.2.1/\z.2.2.2.2.2.1=L.2.2.2.2.2.1/\z.2.2.2.2.2.2.1=L.2.2.2.2.2.2.1/\z.2.2.2.2.2.2.2.1=L.2.2.2.2.2.2.2.1/\z.2.2.2.2.2.2.2.2=L.2.2.2.2.2.2.2.2/\True))) (ay (B,C)/\ ∀(D E:ad)(F:Int),ay (E,F)/\bytes D/\(ac D)<=1600->ay (E,F)/\ ∀(G:Int)(H:ad)(I:Int),0<=G/\(G<20∨G=0)/\ay (H,I)->ay (H,I)/\ ∀(J:Int)(K:ad)(L:Int),0<=J/\(J<ai ((ac f)+1)∨J=0)/\ay (K,L)->(ay (K,L)/\ ∀(M:Int)(N:ad)(O:Int),0<=M/\(M<2∨M=0)/\ay (N,O)->ao (decide (M=0))
 (∃(P:Int) (Q:ad×Int),ay Q/\b=b/\c=c/\d=d/\x=x/\D=D/\ai (z.2.1+G)=ai (z.2.1+G)/\0=P/\f=f/\g=g/\h=h/\(Iq N O Q z)) (∃(P:Int) (Q:ad×Int),ay Q/\b=b/\c=c/\d=d/\x=x/\D=D/\ai (z.2.1+G)=ai (z.2.1+G)/\J=P/\f=f/\g=g/\h=h/\(Iq N O Q z)))/\ ∀(M:Int)(N:ad×Int),ay N->gb z/\(ac D)<=1000000/\ ∀(O:(List ar×List aN×List aT)×Int×Int×Int×List (List aG×Int×ad×(Int×Int)×Int)×ad×List (Int×Int×Int×Int×Int×ad)×List (Int×Int×ad)×List (Int×Int×Int×Int×Int))(P Q:Int),O=gI z (ai (z.2.1+G)) M D/\P=jj z (ai (z.2.1+G)) M/\Q=fO z (ai (z.2.1+G)) M->gb z/\(ac D)<=1000000/\ ∀(R:(List ar×List aN×List aT)×Int×Int×Int×List (List aG×Int×ad×(Int×Int)×Int)×ad×List (Int×Int×Int×Int×Int×ad)×List (Int×Int×ad)×List (Int×Int×Int×Int×Int))(S T:Int),R=gI z (ai (z.2.1+G)) M D/\S=jj z (ai (z.2.1+G)) M/\T=fO z
 (ai (z.2.1+G)) M-> ∀(U:Bool),U= ! decide (P=S)->((! U)->(aq (! U))/\(aq (! U))/\(aq (! U))/\(aq (! U))/\True)/\(ae (! U))/\(aF U)/\ao (bif U then true else ! (decide (Q=T)&&gB O R)) (false=true) (ao (decide (Q=0)) (∃(V:ad×Int) (W:aJ),(ay V/\wk ((8000:Int)+4000*x) W)/\b=b/\c=c/\d=d/\x=x/\f=f/\g=g/\h=h/\N.1=V.1/\N.2=V.2/\O.1.1=W.1.1/\O.1.2.1=W.1.2.1/\O.1.2.2=W.1.2.2/\O.2.1=W.2.1/\O.2.2.1=W.2.2.1/\O.2.2.2.1=W.2.2.2.1/\O.2.2.2.2.1=W.2.2.2.2.1/\O.2.2.2.2.2.1=W.2.2.2.2.2.1/\O.2.2.2.2.2.2.1=W.2.2.2.2.2.2.1/\O.2.2.2.2.2.2.2.1=W.2.2.2.2.2.2.2.1/\O.2.2.2.2.2.2.2.2=W.2.2.2.2.2.2.2.2/\R.1.1=W.1.1/\R.1.2.1=W.1.2.1/\R.1.2.2=W.1.2.2/\R.2.1=W.2.1/\R.2.2.1=W.2.2.1/\R.2.2.2.1=W.2.2.2.1/\R.2.2.2.2.1=W.2.2.2.2.1/\R.2.2.2.2.2.1=W.2.2.2.2.2.1/\R.2.2.2.2.2.2.1=W.2.2.2.2.2.2.1/\R.2.2.2.2.2.2.2.1=W.2.2.2.2.2.2.2.1/\R.2.2.2.2.2.2.2.2=W.2.2.2.2.2.2.2.2/\True) (∃(V:ad×Int) (W:aJ),(ay V/\wk
 ((8000:Int)+4000*x) W)/\b=b/\c=c/\d=d/\x=x/\f=f/\g=g/\h=h/\N.1=V.1/\N.2=V.2/\z.1.1=W.1.1/\z.1.2.1=W.1.2.1/\z.1.2.2=W.1.2.2/\z.2.1=W.2.1/\z.2.2.1=W.2.2.1/\z.2.2.2.1=W.2.2.2.1/\z.2.2.2.2.1=W.2.2.2.2.1/\z.2.2.2.2.2.1=W.2.2.2.2.2.1/\z.2.2.2.2.2.2.1=W.2.2.2.2.2.2.1/\z.2.2.2.2.2.2.2.1=W.2.2.2.2.2.2.2.1/\z.2.2.2.2.2.2.2.2=W.2.2.2.2.2.2.2.2/\z.1.1=W.1.1/\z.1.2.1=W.1.2.1/\z.1.2.2=W.1.2.2/\z.2.1=W.2.1/\z.2.2.1=W.2.2.1/\z.2.2.2.1=W.2.2.2.1/\z.2.2.2.2.1=W.2.2.2.2.1/\z.2.2.2.2.2.1=W.2.2.2.2.2.1/\z.2.2.2.2.2.2.1=W.2.2.2.2.2.2.1/\z.2.2.2.2.2.2.2.1=W.2.2.2.2.2.2.2.1/\z.2.2.2.2.2.2.2.2=W.2.2.2.2.2.2.2.2/\True))))))/\ ∀(A:ad×Int)(B:aJ),ay A/\wk ((8000:Int)+4000*x) B-> ∀(C:Bool),C= ! decide (mH B=mH B)->((! C)->(aq (! C))/\(aq (! C))/\True)/\(aF C)/\ ∀(D:Bool),(D=bif C then true else ! iZ B==iZ B)->((! D)->(aq (! D))/\(aq (! D))/\True)/\(ae (! D))/\(aF D)/\ao (bif D then true
 else ! gB B B) (false=true) (∃(E:Int) (F:ad×Int),∃(G:aJ),(0<=E/\E<=14/\ay F/\wk ((4000:Int)+4000*E) G)/\toNat ((14:Int) -E)<toNat ((14:Int) -x)/\b=b/\c=c/\d=d/\ai (x+1)=E/\f=f/\g=g/\h=h/\A.1=F.1/\A.2=F.2/\B.1.1=G.1.1/\B.1.2.1=G.1.2.1/\B.1.2.2=G.1.2.2/\B.2.1=G.2.1/\B.2.2.1=G.2.2.1/\B.2.2.2.1=G.2.2.2.1/\B.2.2.2.2.1=G.2.2.2.2.1/\B.2.2.2.2.2.1=G.2.2.2.2.2.1/\B.2.2.2.2.2.2.1=G.2.2.2.2.2.2.1/\B.2.2.2.2.2.2.2.1=G.2.2.2.2.2.2.2.1/\B.2.2.2.2.2.2.2.2=G.2.2.2.2.2.2.2.2/\B.1.1=G.1.1/\B.1.2.1=G.1.2.1/\B.1.2.2=G.1.2.2/\B.2.1=G.2.1/\B.2.2.1=G.2.2.1/\B.2.2.2.1=G.2.2.2.1/\B.2.2.2.2.1=G.2.2.2.2.1/\B.2.2.2.2.2.1=G.2.2.2.2.2.1/\B.2.2.2.2.2.2.1=G.2.2.2.2.2.2.1/\B.2.2.2.2.2.2.2.1=G.2.2.2.2.2.2.2.1/\B.2.2.2.2.2.2.2.2=G.2.2.2.2.2.2.2.2/\True)) (gb z/\ ∀(A:(List ar×List aN×List aT)×Int×Int×Int×List (List aG×Int×ad×(Int×Int)×Int)×ad×List (Int×Int×Int×Int×Int×List
 Int)×List (Int×Int×ad)×List (Int×Int×Int×Int×Int)) (B:Int),A=jx z c/\B=iY z c->gb z/\ ∀(C:(List ar×List aN×List aT)×Int×Int×Int×List (List aG×Int×ad×(Int×Int)×Int)×ad×List (Int×Int×Int×Int×Int×ad)×List (Int×Int×ad)×List (Int×Int×Int×Int×Int))(D:Int),C=jx z (min c (ai (z.2.1 -1)))/\D=iY z (min c (ai (z.2.1 -1)))-> ∀(E:Bool),E=decide (z.2.1<=c)->((! E)->(aq (! E))/\(aq (! E))/\True)/\(aF E)/\(bif E then true else decide (B=D))=true)))):=by
  delta Iq D8 ae aq aF ai ac;rintro a b at' who ⟨⟨-,hab⟩,⟨hbm,hb⟩,⟨t0,t1⟩,⟨w0,w1⟩,-⟩ -
  (repeat (refine bO ?_;repeat refine bP ?_));refine av (λh=>h) (λh=>?_);have hbl:(b.length:Int)<=1600:=by
   have h:decide ((1600:Int)<(b.length:Int))=false:=h;have:=aO h;omega
  have hb:bytes b:=hb;have hw:bytes (if (a.length:Int)<=600 then a else a.take (toNat 600)):=by
   split
   .exact hab
   .exact zZ hab
  generalize (if (a.length:Int)<=600 then a else a.take (toNat 600))=l at hw;have hc0:ay (l,0):=⟨iE _,Int.natCast_nonneg _⟩
  have hB:cV (l,0):=⟨hc0,hw⟩
  have hdn:=Ro hB false;have hports:=λ(i:Nat)=>az7 hB false (i:=i);have hcB:=SI hB false;refine⟨bi,hc0,?_⟩;rintro ns ls hs l1 p1 ⟨hnet,hcod⟩;rw[← hnet] at hdn hports;rw[← hcod] at hcB;have hok:=hdn.newOk hports;have hchk:=hdn.right hports;have hcp:=Js hdn.nb bi;refine⟨hcB.1,hdn.nb,?_⟩;rintro ns2 ls2 hs2 l2 p2 ⟨hc2,hodd⟩;have hcp2:=Js (hodd _ bi hdn.nb) bi;refine⟨hcp2,?_⟩;rintro d x ⟨hd,hx⟩;refine⟨λc hc=>hcp2.2.2.2.2 c hc,?_⟩;intro b1 hb1;have hb1:b1=false:=by rw[hb1,hx];simp
  subst hb1
  (repeat refine⟨(by simp;done),?_⟩);intro b2 hb2
  (repeat refine⟨(by first|(simp;done)|(cases b2 <;> simp;done)),?_⟩);refine av (λh=>?_) (λ_=>?_)
  .cases b2 with
   | false=>exact absurd (show false=true from h) bi
   | true =>
    have hd:d=wL:=by
     rw[hd];refine af (λq=>?_);rw[q] at hx;rw[hx] at hb2;exact absurd hb2 bi
    rw[hd] at h;exact absurd h bi
  clear hb2 hd hx hodd;refine⟨hcp,?_⟩;rintro d3 x3 ⟨hd3,hx3⟩;refine⟨hcp,?_⟩;rintro d4 x4 ⟨hd4,hx4⟩;have hd3:d3=kq (ns,ls,hs):=by rw[hd3];exact am hchk
  have hd4:d4=kq (ns,ls,hs):=by rw[hd4];exact am hchk
  have hx3:x3=x4:=hx3.trans hx4.symm;subst hx3;rw[show decide (x3=x3)=true from dM rfl,hd3,hd4,show gB (kq (ns,ls,hs)) (kq (ns,ls,hs))=true from Ax.2 rfl];refine av (λh=>absurd h bi) (λ_=>?_);refine⟨⟨0,(l2,p2),kq (ns,ls,hs),⟨bi,bi,hc2,.inl (hok.more bi bi)⟩,aM⟩,?_⟩;clear hd3 hd4 hx4;rintro k c w ⟨k0,k1,hc,hw⟩;have hE:=hw.e;refine bt (λhk=>?_) (λhk=>?_)
  .refine⟨⟨hc,?_⟩,?_⟩
   .rintro op l4 p4 ⟨-,-,hc4⟩;refine av (λ_=>?_) (λ_=>av (λ_=>?_) (λ_=>av (λ_=>?_) (λ_=>?_)))
    .refine⟨hE,?_⟩;rintro d x ⟨rfl,rfl⟩;refine⟨hE,?_⟩;rintro d' x' ⟨rfl,rfl⟩;refine av (λh=>by simp at h) (λ_=>?_);exact⟨(l4,p4),o6 w,⟨hc4,hw.step.more ab ab⟩,aM⟩
    .refine⟨hc4,?_⟩;rintro t l5 p5 ⟨-,-,hc5⟩;refine⟨hE,?_⟩;rintro d x ⟨rfl,rfl⟩;refine⟨hE,?_⟩;rintro d' x' ⟨rfl,rfl⟩;refine av (λh=>?_) (λ_=>?_)
     .rw[show gB (jx w (IntKind.wrap IntKind.i64 (w.2.1+t))) (jx w (IntKind.wrap IntKind.i64 (w.2.1+t)))=true from Ax.2 rfl] at h;simp at h
     .exact⟨(l5,p5),jx w _,⟨hc5,hw.run.more ab ab⟩,aM⟩
    .refine⟨hE,ab,?_⟩;rintro d o x ⟨rfl,rfl,rfl⟩;refine⟨hE,ab,?_⟩;rintro d' o' x' ⟨rfl,rfl,rfl⟩;intro b1 hb1;have hb1:b1=false:=by rw[hb1];simp
     subst hb1
     (repeat refine⟨(by simp;done),?_⟩);refine av (λh=>?_) (λ_=>?_)
     .rw[show gB (gI w at' who b) (gI w at' who b)=true from Ax.2 rfl] at h;simp at h
     .refine bt (λh=>?_) (λ_=>?_)
      .exact⟨(l4,p4),gI w at' who b,⟨hc4,(hw.send ab h hb ab).more ab ab⟩,aM⟩
      .exact⟨(l4,p4),w,⟨hc4,hw.more ab ab⟩,aM⟩
    .refine⟨hc4,?_⟩;rintro pk l5 p5 ⟨hc5,hb5,hl5⟩;refine⟨hc5,?_⟩;rintro t l6 p6 ⟨-,-,hc6⟩;refine⟨hc6,?_⟩;rintro n l7 p7 ⟨-,-,hc7⟩;refine⟨⟨hc7,?_⟩,?_⟩
     .rintro f l8 p8 ⟨-,-,hc8⟩;refine av (λ_=>?_) (λ_=>?_)
      .exact⟨0,(l8,p8),hc8,aM⟩
      .exact⟨n,(l8,p8),hc8,aM⟩
     rintro i c2 hc8;have hc8:ay c2:=hc8;refine⟨hE,ab,?_⟩;rintro d o x ⟨rfl,rfl,rfl⟩;refine⟨hE,ab,?_⟩;rintro d' o' x' ⟨rfl,rfl,rfl⟩;intro b1 hb1;have hb1:b1=false:=by rw[hb1];simp
     subst hb1
     (repeat refine⟨(by simp;done),?_⟩);refine av (λh=>?_) (λ_=>?_)
     .rw[show gB (gI w (IntKind.wrap IntKind.i64 (w.2.1+t)) i pk) (gI w (IntKind.wrap IntKind.i64 (w.2.1+t)) i pk)=true from Ax.2 rfl] at h;simp at h
     .refine bt (λh=>?_) (λ_=>?_)
      .exact⟨c2,gI w _ i pk,⟨hc8,(hw.send ab h hb5 ab).more ab ab⟩,aM⟩
      .exact⟨c2,w,⟨hc8,hw.more ab ab⟩,aM⟩
   .rintro c w ⟨hc,hw⟩;intro b1 hb1;have hb1:b1=false:=by rw[hb1];simp
    subst hb1
    (repeat refine⟨(by simp;done),?_⟩);intro b2 hb2;have hb2:b2=false:=by rw[hb2];simp
    subst hb2
    (repeat refine⟨(by simp;done),?_⟩);rw[show gB w w=true from Ax.2 rfl,aQ ab ab];refine av (λh=>absurd h bi) (λ_=>?_);exact⟨k+1,c,w,⟨ab,ab,hc,hw.more ab ab⟩,ab,aM⟩
  .refine⟨hE,?_⟩;rintro d x ⟨rfl,rfl⟩;refine⟨hE,?_⟩;rintro d' x' ⟨rfl,rfl⟩;have hnow:0<=w.2.1/\w.2.1<=1125899906842624:=by rcases hw with q|q;exact q.s.now;exact q.2
   (repeat (refine bO ?_;repeat refine bP ?_));by_cases h:w.2.1<=at'
   .rw[dM h];rfl
   .rw[dw h,aQ (n:=w.2.1-1) ab ab,show min at' (w.2.1-1)=at' by omega];exact dM rfl
theorem ok_law15_SimulateExact:aD 3 PD.spec:=aH Tryz.func3 (au (au (au (au (au (au (au (au (au (au (au (au (au (au (au (au (au (au (au aE aa7) ZE) (Ct.named UU)) WF) (Ct.named Qs)) Ms) (Ct.named ao9)) aY3) ra) (Ct.named Wv)) (Ct.named XK)) (Ct.named N3)) (Ct.named am2)) (Ct.named R8)) (Ct.named av6)) Zz) QP) ae3) Ry) ar8 TY
end Go.RS
