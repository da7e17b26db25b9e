/- Topx: letting time pass in two parts is letting it pass at once. -/
import Derived.Test.YtoipogagjfkjlaaGreatDoorPlx
import Derived.Test.YtoipogagjfkjlaaGreatDoorSim1
set_option maxRecDepth 100000
set_option linter.unusedVariables false
open List (length take drop)
namespace Go.RS
open Go.SX Go.Proofs
abbrev Ud:CT := .pair (.sl rW) (.pair (.sl cI) (.pair jY .bool))
def qo(v:bT)(d:Del):bT:=if d.2.1=0 then kf v d.1 d.2.2 else v
theorem SF(v:bT)(t:Int)(b:ac):(vW (kf v t b)).length+(vR (kf v t b)).length=(vW v).length+(vR v).length:=by
 have h:(vW (dN v t)).length+(vR (dN v t)).length=(vW v).length+(vR v).length:=by
  show ((vW v).filter _).length+(vR v++((vW v).filter _).map (nG v)).length=_;have:∀(o:dD->Bool)(l:List dD),(l.filter λx => !o x).length+(l.filter o).length=l.length:=by
   intro o l
   induction l with
   | nil=>rfl
   | cons x l ih=>cases e:o x <;> simp[List.filter_cons,e] <;> omega
  grind
 unfold kf
 split
 .show (List.set _ _ _).length+(vR (dN v t)).length=_;rw[fF];exact h
 .exact h
theorem af1{α:Type} [Inhabited α] {l:List α} {j:Int} (h0:0<=j) (h1:j<l.length):l.drop j.toNat=l.getD j.toNat default::l.drop (j+1).toNat:=by
 rw[show (j+1).toNat=j.toNat+1 by omega,ct,cM (show j.toNat<l.length by omega)]
 simp_all
def UK:Ct:=⟨[.agg iT,.agg jY,.val cI],[.agg iT,.val cI],λd=>[0<=d.2.2.1,d.2.2.1<=(bh d.2.1).length,∀ x∈bh d.2.1,(x.2.2.length:Int)<=1000000,(vW d.1).length+(vR d.1).length<=1000,((bh d.2.1).length:Int)<=1000000000000],λd=>((((bh d.2.1).drop d.2.2.1.toNat).foldl qo d.1,(bh d.2.1).length,()),())⟩
def ba5:bp UK.ps->bI:=(λd=>{loops:=(bt 1 (λS=>{ι:=bT×Int,qn:=eO,μ:=λi=>((bh d.2.1).length-i.2).toNat,inv:=λi=>0<=i.2/\i.2<=(bh d.2.1).length/\((bh d.2.1).drop i.2.toNat).foldl qo i.1=((bh d.2.1).drop d.2.2.1.toNat).foldl qo d.1/\(vW i.1).length+(vR i.1).length<=1000,keep:=[3,4,6,7],slots:=λi=>[(2,.int .i64 i.2)],keepN:=[80,112],names:=λi=>[(64,.live (.cells 60 (cQ iT i.1)))]}) bZ)})
def Gi(a:bT):=length (vW a)+length (vR a)<=1000
def EZ(a:Int)(b:aU8)(c:bT)(d:bT)(e:Int):=bM a (ae (bh b)) (List.foldl qo c (drop a.toNat (bh b))=List.foldl qo d (drop e.toNat (bh b))) (Gi c)
def yJ(a:bT)(b:List gJ)(c:Int):=kf a (af b c).1 (af b c).2.2
theorem a36:
 ∀(a:bT)(b:aU8)(c:Int),CT.wf iT a/\CT.wf jY b/\ai (aq c)->bM c (ae (bh b)) (zl b) (length (vW a)+length (vR a)<=1000/\j6 (ae (bh b)))->(∃(d:bT) (e:Int),EZ e b d a c/\c=e/\aA 0 (b.1.1=b.1.1) (b.1.2.1=b.1.2.1/\b.1.2.2=b.1.2.2/\d6 b.2.1 b.2.2.1 b.2.2.2.1 (b.2.2.2.2.1=b.2.2.2.2.1) (mq b.2.2.2.2.2.1 b.2.2.2.2.2.2.1 b.2.2.2.2.2.2.2.1 (b.2.2.2.2.2.2.2.2=b.2.2.2.2.2.2.2.2) (pt (a.1=d.1) (a.2.1=d.2.1/\a.2.2.1=d.2.2.1/\a.2.2.2.1=d.2.2.2.1/\a.2.2.2.2.1=d.2.2.2.2.1/\a.2.2.2.2.2.1=d.2.2.2.2.2.1/\ai
 (a.2.2.2.2.2.2=d.2.2.2.2.2.2))))))/\ ∀(d:bT)(e:Int),EZ e b d a c->fE e (ae b.2.2.2.2.2.2.2.1) (e<ae b.2.2.2.2.2.2.2.1) (au (eG (af b.2.2.2.2.2.2.2.1 e).2.1) (jb d/\bY (af b.2.2.2.2.2.2.2.1 e).2.2/\ ∃(f:bT) (g:Int),EZ g b f a c/\aZ (ae (bh b)) g e/\aY e g/\aA 0 (b.1.1=b.1.1) (b.1.2.1=b.1.2.1/\b.1.2.2=b.1.2.2/\d6 b.2.1 b.2.2.1 b.2.2.2.1 (b.2.2.2.2.1=b.2.2.2.2.1) (mq b.2.2.2.2.2.1 b.2.2.2.2.2.2.1 b.2.2.2.2.2.2.2.1 (b.2.2.2.2.2.2.2.2=b.2.2.2.2.2.2.2.2) (pt ((yJ d b.2.2.2.2.2.2.2.1 e).1=f.1) ((yJ d b.2.2.2.2.2.2.2.1 e).2.1=f.2.1/\(yJ d b.2.2.2.2.2.2.2.1 e).2.2.1=f.2.2.1/\(yJ d b.2.2.2.2.2.2.2.1 e).2.2.2.1=f.2.2.2.1/\(yJ d b.2.2.2.2.2.2.2.1 e).2.2.2.2.1=f.2.2.2.2.1/\(yJ d b.2.2.2.2.2.2.2.1 e).2.2.2.2.2.1=f.2.2.2.2.2.1/\ai ((yJ d b.2.2.2.2.2.2.2.1 e).2.2.2.2.2.2=f.2.2.2.2.2.2)))))) (∃(f:bT) (g:Int),EZ g b f a c/\aZ (ae
 (bh b)) g e/\aY e g/\aA 0 (b.1.1=b.1.1) (b.1.2.1=b.1.2.1/\b.1.2.2=b.1.2.2/\d6 b.2.1 b.2.2.1 b.2.2.2.1 (b.2.2.2.2.1=b.2.2.2.2.1) (mq b.2.2.2.2.2.1 b.2.2.2.2.2.2.1 b.2.2.2.2.2.2.2.1 (b.2.2.2.2.2.2.2.2=b.2.2.2.2.2.2.2.2) (pt (d.1=f.1) (d.2.1=f.2.1/\d.2.2.1=f.2.2.1/\d.2.2.2.1=f.2.2.2.1/\d.2.2.2.2.1=f.2.2.2.2.1/\d.2.2.2.2.2.1=f.2.2.2.2.2.1/\ai (d.2.2.2.2.2.2=f.2.2.2.2.2.2))))))) (d=List.foldl qo a (drop c.toNat (bh b))) (e=ae (bh b)):= by
  delta af ae ap aq aI aU aA aZ cu ao bY fE pt EZ aY ce ai mq bM j6 yJ av eG d6 zl Gi
  rintro v w r-⟨r0,r1,hd,hv,hl⟩
  refine⟨⟨v,r,⟨r0,r1,rfl,hv⟩,aK⟩,?_⟩
  rintro u k ⟨b,k1,a,hu⟩
  refine bP (λh=>?_) (λh=>?_)
  .have h:k<(bh w).length:=h
   have hx:=hd _ (cA b h)
   have nx:(bh w).drop k.toNat=_:=af1 b h
   rw[nx,List.foldl_cons] at a
   refine⟨b,h,?_⟩
   rw[show w.2.2.2.2.2.2.2.1=bh w from rfl]
   generalize List.getD (bh w) k.toNat default=x at *
   refine bP (λq=>?_) (λq=>?_)
   .have q:x.2.1=0:=q
    have e:qo u x=kf u x.1 x.2.2:=by unfold qo;rw[aj q]
    rw[e] at a
    have hz:=SF u x.1 x.2.2
    refine⟨⟨ab,ab⟩,hx,_,k+1,⟨ab,ab,a,ab⟩,ab,aL ab ab,aK⟩
   .have q:¬ x.2.1=0:=q
    have e:qo u x=u:=by unfold qo;rw[ah q]
    rw[e] at a
    exact⟨u,k+1,⟨ab,ab,a,hu⟩,ab,aL ab ab,aK⟩
  .have h:¬ k<(bh w).length:=h
   rw[List.drop_eq_nil_of_le ab] at a
   exact⟨a,ab⟩
theorem YI:aB 31 UK.spec:=aF Tryz.func31 (am aC V8) ba5 a36
def kI:Net:=sS true ([],0)
def yF:lm.D:=([((gu kI).2,17,0,1,0,1,1)],(0,0))
def s8:bT:=nW 0 0 (gu kI).1 100
def Ar:aJ:=j9 (mM kI) 0
def xG:bT:=oo s8 0 (gu kI).2 17 0 1
def Xj:ac:=nU s8 0 (gu kI).2 17 0 1
def Ah:aJ:=tC Ar 0 0 Xj
def Ey:aJ:=j9 Ah 100100
def vQ:bT:=(bh Ey).foldl qo xG
def C6:Ud.D:=(vR (wQ vQ),[0],Ey,true)
theorem ME:dF (([],0):bm):=⟨⟨by decide,by decide⟩,λx hx=>by cases hx⟩
theorem C4:po kI:=⟨KZ ME true,λi hi=>QT ME true hi⟩
theorem Sd:iB kI=0:=C4.d.right C4.p
theorem Mj:dZ 4000 (mM kI):=C4.d.newOk C4.p
theorem Wp:i9 yF:=⟨bo,λt ht=>by
 rw[nz.1 ht]
 exact⟨Ta C4,.inr (.inr rfl),bo,bo,bo,bo,bo⟩,rfl⟩
theorem bo9:lV yF=[(0,0,0)]:=by
 have e:jc yF=[(0,0,0)]:=by
  have e0:mG yF.1 yF.1.length=[(0,0,0)]:=rfl;unfold jc xP;rw[e0,List.mergeSort_singleton]
 unfold lV
 rw[e]
 decide +kernel
theorem QF:m8 0 0 (gu kI).1 100=0:=by decide +kernel
theorem yj:bh Ar=[]/\cV Ar=0/\mj Ar 0 0=0/\bf Ar=0:=by decide +kernel
theorem SQ:kz s8 0 (gu kI).2 17 0 1=0:=by decide +kernel
theorem Mr:(vR (wQ vQ)).length=1/\((vR (wQ vQ)).getD 0 default).2.2.2.2.2.2.2.2.1=true/\((vR (wQ vQ)).getD 0 default).2.2.2.2.2.2.2.2.2.2.2.2.1=1/\bf Ah=0:=by decide +kernel
theorem bS8:(build (1,(gu kI).2,17,0,0,1)).length=30:=by decide +kernel
theorem TU:dZ 4000 Ar:=Mj.runs ⟨by decide,by decide⟩
theorem U9:dZ 8000 Ah:=by
 obtain⟨b1,b2⟩:=IU s8 0 (gu kI).2 17 0 1
 exact (TU.send (by decide) yj.2.2.1 b1 b2).1
theorem VC:dZ 8000 Ey:=U9.runs ⟨by decide,by decide⟩
theorem aj2(l:List Del):∀ v:bT,(vW (l.foldl qo v)).length+(vR (l.foldl qo v)).length=(vW v).length+(vR v).length:=by
 induction l with
 | nil=>exact λv=>rfl
 | cons d l ih =>
  intro v;rw[List.foldl_cons,ih];unfold qo;split
  .exact SF _ _ _
  .rfl
theorem HF:s8=(0,0,0,(gu kI).1,100,[],[]):=by unfold s8 nW;rw[aj QF]
theorem be9:(vW xG).length+(vR xG).length=1:=by
 unfold xG oo
 rw[aj SQ,HF]
 rfl
def WO:Ct:=⟨[.agg kJ,.agg lm,.val cI],[.agg Ud],λd=>[d.1=kI,d.2.1=yF,d.2.2.1=100],λ_=>((C6,()),())⟩
def aK9:bp WO.ps->bI:=(λd=>{loops:=(bt 10 (λS=>{ι:=Int×aJ×bT×Int×ac,qn:=⟨λk_=>∀(i:Int)(w:aJ)(v:bT)(r:Int)(o:ac),k_ (i,w,v,r,o),λk_ h_ i=>h_ i.1 i.2.1 i.2.2.1 i.2.2.2.1 i.2.2.2.2,λk_=>∃ (i:Int) (w:aJ) (v:bT) (r:Int) (o:ac),k_ (i,w,v,r,o),λk_ ⟨i,w,v,r,o,h_⟩=>⟨_,h_⟩⟩,μ:=λi=>(1-i.1).toNat,inv:=λi=>(i.1=0/\i.2.1=mM kI/\i.2.2.1=s8/\i.2.2.2.1=0/\i.2.2.2.2=[])∨(i.1=1/\i.2.1=Ah/\i.2.2.1=xG/\i.2.2.2.1=0/\i.2.2.2.2=[0]),keep:=[2,4,6,7,11,13,16],slots:=λi=>[(14,.int .i64 i.2.2.2.1),(15,.int .i64 0),(17,.int .i64 i.1)],keepN:=[80,112,960],names:=λi=>[(128,.live (.cells 37 (cQ jY i.2.1))),(192,.live (.cells 60 (cQ iT i.2.2.1))),(224,.live (.cells 75 [.nilsl,.own 524288 1,.nilsl,.nilsl,.nilsl,.int .i64 0,.int .i64 0,.int .i64 0,.nilsl,.nilsl,.nilsl,.nilsl,.nilsl,.bool true])),(524288,.live (.row 3 cI i.2.2.2.2))]}) bZ)})
def D2(a:Int)(b:aJ)(c:bT)(d:Int)(e:ac):=a=0/\b=mM kI/\c=s8/\d=0/\e=[]∨a=1/\b=Ah/\c=xG/\d=0/\e=pm
def FG:=([],[],qe,false)=C6
theorem aW6:
 ∀(a:List ar)(b:List bc)(c:List bV)(d:List jh)(e f g:Int),f7 a b c/\(pg d/\aq e/\aq f)/\ai (aq g)->(a,b,c)=kI/\(d,e,f)=yF/\g=100->um (a,b,c)/\ ∀(h:aU8)(i:Int),h=Bc (a,b,c)/\i=iB (a,b,c)-> ∀(j:Int),oD (j=(gu (a,b,c)).1) (gu (a,b,c)).2 (∀(k:bT)(l:Int),k=nW 0 0 j g/\l=m8 0 0 j g-> ∀(m:Bool),m=bJ i->bO m/\br m/\BL (bn m (bJ l)) (d.length<=9/\td d/\ai (iX (e,f)=0)) ( !decide ((0:Int)=(0:Int))) FG (i9 (d,e,f)/\ ∀(n:List fS),n=lV (d,e,f)->(∃(o:Int) (p:aJ) (q:bT) (r:Int)
 (s:ac),D2 o p q r s/\aA g (0=r) (aA 0 (0=o) (d=d/\ce e f 0 0 0 (false=false) (n=n/\h.1.1=p.1.1/\h.1.2.1=p.1.2.1/\h.1.2.2=p.1.2.2/\h.2.1=p.2.1/\h.2.2.1=p.2.2.1/\h.2.2.2.1=p.2.2.2.1/\h.2.2.2.2.1=p.2.2.2.2.1/\h.2.2.2.2.2.1=p.2.2.2.2.2.1/\h.2.2.2.2.2.2.1=p.2.2.2.2.2.2.1/\h.2.2.2.2.2.2.2.1=p.2.2.2.2.2.2.2.1/\h.2.2.2.2.2.2.2.2=p.2.2.2.2.2.2.2.2/\k.1=q.1/\k.2.1=q.2.1/\k.2.2.1=q.2.2.1/\k.2.2.2.1=q.2.2.2.1/\k.2.2.2.2.1=q.2.2.2.2.1/\k.2.2.2.2.2.1=q.2.2.2.2.2.1/\k.2.2.2.2.2.2=q.2.2.2.2.2.2/\pS true (ai (s=[]))))))/\ ∀(o:Int)(p:aJ)(q:bT)(r:Int)(s:ac),D2 o p q r s->fE o (ae n) (o<ae n) (ao (af n o).1 ((af n o).1<ae d) (bu o (ae n) (oQ p) (∀(t:bT8×Int×Int×Int×List (List
 (bT2×ac×Int)×Int×ac×bT2×Int)×ac×List bU4×List bT7×List bU2)(u:Int),t=mK p (af n o).2.2/\u=oe p (af n o).2.2->au (bJ u) FG (bM r (ae (bh t)) (zl t) (Gi q/\j6 (ae (bh t))/\ ∀(v:bT)(w:Int),v=List.foldl qo q (drop r.toNat (bh t))/\w=ae (bh t)->jb v/\0<=v.2.2.1/\ ∀(x:bT)(y:ac)(z:Int),x=oo v (af n o).2.2 (af d (af n o).1).1 (af d (af n o).1).2.1 (af d (af n o).1).2.2.1 (af d (af n o).1).2.2.2.1/\y=nU v (af n o).2.2 (af d (af n o).1).1 (af d (af n o).1).2.1 (af d (af n o).1).2.2.1 (af d (af n o).1).2.2.2.1/\z=kz v (af n o).2.2 (af d (af n o).1).1 (af d (af n o).1).2.1 (af d (af n o).1).2.2.1 (af d (af n o).1).2.2.2.1->au (bJ z) (∃(A:Int) (B:aJ) (C:bT) (D:Int) (E:ac),D2 A B C D E/\aZ 1 A o/\aA g (w=D) ((af
 n o).2.2=0/\aY o A/\d=d/\ce e f 0 0 0 (false=false) (n=n/\t.1.1=B.1.1/\t.1.2.1=B.1.2.1/\t.1.2.2=B.1.2.2/\t.2.1=B.2.1/\t.2.2.1=B.2.2.1/\t.2.2.2.1=B.2.2.2.1/\t.2.2.2.2.1=B.2.2.2.2.1/\t.2.2.2.2.2.1=B.2.2.2.2.2.1/\t.2.2.2.2.2.2.1=B.2.2.2.2.2.2.1/\t.2.2.2.2.2.2.2.1=B.2.2.2.2.2.2.2.1/\t.2.2.2.2.2.2.2.2=B.2.2.2.2.2.2.2.2/\v.1=C.1/\v.2.1=C.2.1/\v.2.2.1=C.2.2.1/\v.2.2.2.1=C.2.2.2.1/\v.2.2.2.2.1=C.2.2.2.2.1/\v.2.2.2.2.2.1=C.2.2.2.2.2.1/\v.2.2.2.2.2.2=C.2.2.2.2.2.2/\pS true (ai (s=E))))) (oQ t/\bY y/\ ∀(A:aU8)(B C:Int),A=rL t (af
 n o).2.2 0 y/\B=sR t (af n o).2.2 0/\C=mj t (af n o).2.2 0->au (bJ C) FG (wY s (bN B)/\ ∃(D:Int) (E:aJ) (F:bT) (G:Int) (H:ac),D2 D E F G H/\aZ 1 D o/\aA g (w=G) ((af n o).2.2=0/\aY o D/\d=d/\ce e f 0 0 0 (false=false) (n=n/\A.1.1=E.1.1/\A.1.2.1=E.1.2.1/\A.1.2.2=E.1.2.2/\A.2.1=E.2.1/\A.2.2.1=E.2.2.1/\A.2.2.2.1=E.2.2.2.1/\A.2.2.2.2.1=E.2.2.2.2.1/\A.2.2.2.2.2.1=E.2.2.2.2.2.1/\A.2.2.2.2.2.2.1=E.2.2.2.2.2.2.1/\A.2.2.2.2.2.2.2.1=E.2.2.2.2.2.2.2.1/\A.2.2.2.2.2.2.2.2=E.2.2.2.2.2.2.2.2/\x.1=F.1/\x.2.1=F.2.1/\x.2.2.1=F.2.2.1/\x.2.2.2.1=F.2.2.2.1/\x.2.2.2.2.1=F.2.2.2.2.1/\x.2.2.2.2.2.1=F.2.2.2.2.2.1/\x.2.2.2.2.2.2=F.2.2.2.2.2.2/\pS true (ai (s++bN B=H))))))))))) (oQ p) (∀(t:(List bT3×List bU3×List
 bU6)×Int×Int×Int×List bT9×ac×List bU4×List bT7×List bU2)(u:Int),t=mK p (ap (ap (0+g)+100000))/\u=oe p (ap (ap (0+g)+100000))->au (bJ u) FG (bM r (ae (bh t)) (zl t) (Gi q/\j6 (ae (bh t))/\ ∀(v:bT),oD (v=List.foldl qo q (drop r.toNat (bh t))) (ae (bh t)) (jb v/\ ∀(w:bT),w=wQ v->(w.2.2.2.2.2.2,s,t,decide (ae w.2.2.2.2.2.2=ae s))=C6)))))):= by
  delta af ae ap aq aI bO aQ aT f7 kF cO cS cB aU ji bG aA bn aZ jt cu qe pg ao br bv bJ bY pm bN fE aY ce ai kC D2 td aD bW bu bM j6 av BL pS d6 wY FG oD zl jW Gi fB
  rintro ns ls hs ts b1 b2 t-⟨hn,hp,rfl⟩
  rw[hn,hp]
  refine⟨Lp C4.d.nb bo,?_⟩
  rintro w e ⟨hw,he⟩
  have he:e=0:=he.trans Sd
  have hw:w=mM kI:=hw.trans (aj Sd)
  subst he hw
  rintro x y ⟨rfl,rfl⟩
  rintro v e ⟨hv,he⟩
  have he:e=0:=he.trans QF
  have hv:v=s8:=hv
  subst he hv
  rintro c hc
  have hc:c=false:=hc
  subst hc
  (repeat refine⟨λ_=>(by first|rfl|exact⟨λ_=>rfl,aN⟩|exact⟨λ_=>rfl,λ_=>rfl,aN⟩),?_⟩)
  rintro c hc
  have hc:c=false:=hc
  subst hc
  have hpl:i9 (ts,b1,b2):=by rw[hp];exact Wp
  have hts:ts=[((gu kI).2,17,0,1,0,1,1)]:=fj Prod.fst hp
  (repeat refine⟨λ_=>(by first|rfl|exact⟨λ_=>rfl,aN⟩|exact⟨λ_=>rfl,hpl.1,hpl.2.1,hpl.2.2,aN⟩),?_⟩)
  refine ml.2 ⟨Wp,?_⟩
  rintro l hl
  have hl:l=[(0,0,0)]:=hl.trans bo9
  subst hl
  subst hts
  refine⟨⟨0,mM kI,s8,0,[],.inl ⟨rfl,rfl,rfl,rfl,rfl⟩,aK⟩,?_⟩
  rintro i w v r o (⟨rfl,rfl,rfl,rfl,rfl⟩|⟨rfl,rfl,rfl,rfl,rfl⟩)
  .refine Eh.2 ⟨bo,bo,bo,bo,bo,bo,.inl Mj.sim,?_⟩
   rintro d e ⟨hd,he⟩
   have he:e=0:=he
   have hd:d=Ar:=hd
   subst he hd
   refine ml.2 ⟨bo,ab,λx hx=>(by rw[yj.1] at hx;cases hx),by rw[HF];decide,by rw[yj.1];decide,?_⟩
   rintro u k ⟨hu,hk⟩
   have hu:u=s8:=by rw[hu,yj.1];rfl
   have hk:k=0:=by rw[hk,yj.1];rfl
   subst hu hk
   refine⟨by rw[HF];exact⟨bo,bo⟩,by rw[HF];decide,?_⟩
   rintro u b e ⟨hu,hb,he⟩
   have hu:u=xG:=hu
   have hb:b=Xj:=hb
   have he:e=0:=he.trans SQ
   subst hu hb he
   refine ml.2 ⟨.inl TU.sim,by have:=(IU s8 0 (gu kI).2 17 0 1).2;show ((nU s8 0 (gu kI).2 17 0 1).length:Int)<=1000000;omega,?_⟩
   rintro d g e ⟨hd,hg,he⟩
   have he:e=0:=he.trans yj.2.2.1
   have hg:g=0:=hg.trans ((aj yj.2.2.1).trans yj.2.1)
   have hd:d=Ah:=hd.trans (aj yj.2.2.1)
   subst he hg hd
   exact ml.2 ⟨bo,1,Ah,xG,0,[0],.inr ⟨rfl,rfl,rfl,rfl,rfl⟩,bo,aK⟩
  .refine ml.2 ⟨.inl U9.sim,?_⟩
   rintro d e ⟨hd,he⟩
   have he0:oe Ah 100100=0:=by unfold oe;rw[Mr.2.2.2];decide
   have he:e=0:=he.trans he0
   have hd:d=Ey:=hd.trans (aj he0)
   subst he hd
   have k1:=be9
   have k2:=VC.d
   refine ml.2 ⟨bo,ab,λx hx=>by have:=VC.dd x hx;omega,ab,ab,?_⟩
   rintro u k ⟨hu,-⟩
   have hu:u=vQ:=hu
   subst hu
   have k3:=aj2 (bh Ey) xG
   have k3:(vW vQ).length+(vR vQ).length=_:=k3
   refine⟨⟨ab,ab⟩,?_⟩
   rintro u hu
   subst hu
   have k4:=Mr.1
   unfold C6
   show (vR (wQ vQ),_,_,decide (((vR (wQ vQ)).length:Int)=((1:Nat):Int)))=_
   rw[k4]
   rfl
theorem ZR:aB 11 WO.spec:=aF Tryz.func11 (am (am (am (am (am (am (am (am (am (am aC (Ct.named Q6)) (Ct.named M7)) (Ct.named Xz)) Ue) (Ct.named T2)) (Ct.named Tt)) (Ct.named YI)) (Ct.named VX)) (Ct.named QA)) (Ct.named bb6)) aK9 aW6
def bt1:Ct:=⟨[],[.val .bool],λ_=>[],λ_=>((true,()),())⟩
theorem bK7:
 True->True->(0:Int)<=(0:Int)/\ ∀(a:ac)(b:Int),(a,b)=(if (↑((0:Nat)):Int)<=0 then ([]:ac) else take (Int.toNat 0) ([]:ac),(0:Int))->bH (a,b)/\ ∀(c:List ar)(d:List bc)(e:List bV)(f:ac)(g:Int),(c,d,e)=sS true (a,b)/\(f,g)=Bs true (a,b)-> ∀(h i:Int),h=(gu (c,d,e)).1/\i=(gu (c,d,e)).2->(c,d,e)=kI/\([(i,17,0,1,0,1,1)],0,0)=yF/\(100:Int)=(100:Int)/\ ∀(j:List bT0×ac×aU8×Bool),j=C6-> ∀(k:ac),oD (k=build
 (1,i,17,0,0,1)) (cP (1,i,17,0,0,1)) (∀(l:Bool),l=j.2.2.2->cG l l (aT l) (l->l) (∀(m:Bool),m=m5 l (ae k) 30->ia m m (aT m) (m->m) (∀(n:Bool),n=bw m (iO (ae j.1))->cG n n (vI n (ae j.1)) (n->aT n) ((n->aT n)/\(n->n)/\ ∀(o:Bool),o=bw n (af j.1 0).2.2.2.2.2.2.2.2.1->cG o o (vI o (ae j.1)) (o->aT o) (ia o o (aT o) (o->o) (bw o (iO (af j.1 0).2.2.2.2.2.2.2.2.2.2.2.2.1))))))):= by
  delta af ae aT cG bw ao ia ai oD iO m5 vI
  rintro - -
  refine⟨bo,?_⟩
  rintro l p hc
  have hc:(l,p)=(([],0):bm):=hc
  refine⟨by rw[hc];exact ME.at',?_⟩
  rintro ns ls hs l2 p2 ⟨hn,-⟩
  rw[hc] at hn
  have hn:(ns,ls,hs)=kI:=hn
  rintro x y ⟨rfl,rfl⟩
  rw[hn]
  refine⟨rfl,rfl,rfl,?_⟩
  rintro d rfl
  rintro b e ⟨rfl,-⟩
  obtain⟨e1,e2,e3,-⟩:=Mr
  have e4:=bS8
  rintro c hc
  have hc:c=true:=hc
  subst hc
  (repeat refine⟨λ_=>(by first|rfl|exact⟨λ_=>rfl,aN⟩|exact⟨λ_=>rfl,λ_=>rfl,aN⟩),?_⟩)
  rintro c hc
  have hc:c=true:=by rw[hc,e4];rfl
  subst hc
  (repeat refine⟨λ_=>(by first|rfl|exact⟨λ_=>rfl,aN⟩|exact⟨λ_=>rfl,λ_=>rfl,aN⟩),?_⟩)
  have e1:(C6.1.length:Int)=1:=by show ((vR (wQ vQ)).length:Int)=1;omega
  rintro c hc
  have hc:c=true:=hc.trans (fm e1)
  subst hc
  (repeat refine⟨λ_=>(by first|rfl|exact⟨λ_=>rfl,aN⟩|exact⟨bo,ab,aN⟩|exact⟨λ_=>rfl,bo,ab,aN⟩),?_⟩)
  rintro c hc
  have hc:c=true:=hc.trans e2
  subst hc
  (repeat refine⟨λ_=>(by first|rfl|exact⟨λ_=>rfl,aN⟩|exact⟨bo,ab,aN⟩|exact⟨λ_=>rfl,bo,ab,aN⟩),?_⟩)
  exact fm e3
theorem Zb:aB 4 bt1.spec:=aF Tryz.func4 (am (am (am (am (am aC (Ct.named VZ)) (Ct.named SK)) (Ct.named M7)) (Ct.named ZR)) (Ct.named a44)) aS bK7
structure D8 (p:dY):Prop where
 o:PO 0 p
 s:∀ s∈p.2.2.1,iZ s=0
 n:bf p.1=0
theorem bA1:D8 (mM kI,0,[],[]) :=
 ⟨⟨Mj,⟨gH _,bo⟩,bo,rfl,rfl,bo,λs hs=>(by cases hs)⟩,λs hs=>(by cases hs),rfl⟩
theorem bA5{i a t:Int}(h:m8 i 0 a t=0)(ht:1<=t/\t<=1073741824):mC (nW i 0 a t) [] 0 0/\(nW i 0 a t).2.2.1=0:=by
 have e:nW i 0 a t=(i,0,0,a,t,[],[]):=by unfold nW;rw[aj h]
 rw[e]
 exact⟨⟨rfl,rfl,eT _,rfl,ht,⟨gH _,bo⟩,λx hx=>(by cases hx),λi j hj=>(by cases hj),λi hi=>(by cases hi),λx hx=>(by cases hx)⟩,rfl⟩
theorem Yn{n:Net}(h:po n){l:List ie}(hl:rf n l){ss:List ck}(hn:ss.length=l.length)(hs:∀ k:Nat,k<l.length->oW l k (ss.getD k default)):D8 (mM n,0,ss,[]):=by
 have all:∀ s∈ss,∃ k:Nat,k<l.length/\oW l k s:=λs hq=>by
  obtain⟨k,hk,rfl⟩:=List.mem_iff_getElem.1 hq;have:=hs k ab;rw[ct,cM hk] at this;exact⟨k,ab,this⟩
 refine⟨⟨h.d.newOk h.p,⟨gH _,bo⟩,by show (0:Int)<=1000;decide,rfl,rfl,by show ss.length<=2;rw[hn];exact hl.1,λs hq=>?_⟩,λs hq=>?_,rfl⟩
 .obtain⟨k,hk,q⟩:=all s hq;have o:=hl.2 k hk;have l2:=hl.1;have st:=q.st;rw[Int.toNat_natCast] at st;rw[← st] at o;have vn:=o.vn h (i:=(k:Int)) (Int.natCast_nonneg _) ab;have tm:=o.tm;obtain⟨v1,v2⟩:=bA5 vn ⟨ab,ab⟩;have va:=q.va;rw[← va] at v1 v2;exact⟨o.nd.1,o.pl,⟨_,_,v1⟩,by rw[v2];decide,by rw[q.se];decide,q.cp⟩
 .obtain⟨k,hk,q⟩:=all s hq;exact q.se
def a79:Cn:=⟨[.box 88 j7,.val .bool],[.agg vq,.agg kJ,.val .bool],λd=>[bH d.1],λd y=>y.1.2.2.1=true/\D8 y.1.1,λd h=>⟨(((mM kI,0,[],[]),kI,true,()),(d.1,())),rfl,bA1⟩⟩
theorem aU6:
 ∀(a:ac)(b:Int)(c:Bool),(aV a/\aq b)/\ai True->aD b (ae a)->bH (a,b)/\ ∀(d:List ar)(e:List bc)(f:List bV)(g:ac)(h:Int),(d,e,f)=sS c (a,b)/\(g,h)=Bs c (a,b)->bH (g,h)/\po (d,e,f)/\ ∀(i:List ie)(j:ac)(k:Int),bH (j,k)/\rf (d,e,f) i/\0<i.length->po (d,e,f)/\rf (d,e,f) i/\ ∀(l:aU8×Int×List (bT5×(Int×Int×Int×Int×Int×List bT4×List
 bT0)×Int×bU7×Int×Int×Int×Int×List ac×Int×List ac×List bU0×List bT7×List bT7)×List bT6)(m:Int),(m=0/\l=(mM (d,e,f),0,l.2.2.1,[])/\l.2.2.1.length=i.length/\ ∀(n:Nat),n<i.length->oW i (n:Int) (yp l.2.2.1 n))->eG m/\D8 l:= by
  delta yp ae aq aI aV ai aD eG
  rintro l p b ⟨⟨⟨-,hw⟩,-⟩,-⟩ hc
  have hB:dF (l,p):=⟨hc,hw⟩
  have hdn:=KZ hB b
  have hports:=λ(i:Nat)=>QT hB b (i:=i)
  have hcB:=Zu hB b
  refine⟨hc,?_⟩
  rintro ns ls hs l1 p1 ⟨hnet,hcod⟩
  rw[← hnet] at hdn hports
  rw[← hcod] at hcB
  have hN:po (ns,ls,hs):=⟨hdn,hports⟩
  refine⟨hcB.1,hN,?_⟩
  rintro sl l2 p2 ⟨-,hS,-⟩
  refine⟨hN,hS,?_⟩
  rintro d e ⟨he,hd,hl,hk⟩
  refine⟨fm he,?_⟩
  rw[hd]
  exact Yn hN hS hl hk
theorem an3:aB 6 a79.spec:=nB Tryz.func6 (am (am (am aC (Ct.named SK)) aR3) ac9) aS aU6
def VK:Ct:=⟨[.val (.sl rW),.val (.sl rW)],[.val .bool],λd=>[d.1=d.2.1],λd=>((true,()),())⟩
def Z5:bp VK.ps->bI:=(λd=>{loops:=(bt 4 (λS=>{ι:=Int,μ:=λi=>(d.1.length-i).toNat,inv:=λi=>0<=i/\i<=d.1.length,keep:=[0,1,2,3],slots:=λi=>[(5,.int .i64 i)]}) bZ)})
theorem aP6:
 ∀(a b:List kG),(a.length<=maxLen/\ ∀(c:kG),c∈a->CT.wf rW c)/\ai (b.length<=maxLen/\ ∀(c:kG),c∈b->CT.wf rW c)->a=b->au (bW (ae a) (ae b)) false ((∃(c:Int),aD c (ae a)/\a=a/\b=b/\ai (0=c))/\ ∀(c:Int),aD c (ae a)->au (av c (ae a)) (ao c (c<ae a) (fw c (ae b) ( !pn (af a c).1 (af b c).1 (af a c).2.1 (af b c).2.1 (decide ((af a c).2.2.1=(af b c).2.2.1)) (pn (af a c).2.2.2.1 (af b c).2.2.2.1 (af a c).2.2.2.2.1 (af b c).2.2.2.2.1 (decide ((af a c).2.2.2.2.2.1=(af b c).2.2.2.2.2.1)) (pn (af a c).2.2.2.2.2.2.1 (af b c).2.2.2.2.2.2.1 (af a c).2.2.2.2.2.2.2.1 (af b c).2.2.2.2.2.2.2.1 (BEq.beq (af a c).2.2.2.2.2.2.2.2.1 (af b c).2.2.2.2.2.2.2.2.1) (BEq.beq (af a c).2.2.2.2.2.2.2.2.2.1 (af b c).2.2.2.2.2.2.2.2.2.1&&(decide ((af a c).2.2.2.2.2.2.2.2.2.2.1=(af b c).2.2.2.2.2.2.2.2.2.2.1)&&(pn (af a c).2.2.2.2.2.2.2.2.2.2.2.1 (af b
 c).2.2.2.2.2.2.2.2.2.2.2.1 (af a c).2.2.2.2.2.2.2.2.2.2.2.2.1 (af b c).2.2.2.2.2.2.2.2.2.2.2.2.1 (decide ((af a c).2.2.2.2.2.2.2.2.2.2.2.2.2.1=(af b c).2.2.2.2.2.2.2.2.2.2.2.2.2.1)) (pn (af a c).2.2.2.2.2.2.2.2.2.2.2.2.2.2.1 (af b c).2.2.2.2.2.2.2.2.2.2.2.2.2.2.1 (af a c).2.2.2.2.2.2.2.2.2.2.2.2.2.2.2.1 (af b c).2.2.2.2.2.2.2.2.2.2.2.2.2.2.2.1 (decide ((af a c).2.2.2.2.2.2.2.2.2.2.2.2.2.2.2.2=(af b c).2.2.2.2.2.2.2.2.2.2.2.2.2.2.2.2)) true)&&true)))))) false (∃(d:Int),aD d (ae a)/\aZ (ae a) d c/\a=a/\b=b/\ai (aY c d)))) true):= by
  delta af ae ap aZ cu ao pn aY ai aD bW av fw
  rintro l m ⟨⟨hl,-⟩,-⟩ h
  have h:l=m:=h
  subst h
  simp only[maxLen] at hl
  rw[fm rfl]
  refine ml.2 ⟨⟨0,⟨ab,ab⟩,aK⟩,?_⟩
  rintro i ⟨i0,i1⟩
  refine ay (λhi=>?_) (λ_=>rfl)
  have hi:=aX hi
  refine⟨i0,hi,i0,hi,?_⟩
  simp only[decide_true,beq_self_eq_true,Bool.and_self,Bool.not_true]
  exact ml.2 ⟨i+1,⟨ab,ab⟩,ab,aK⟩
theorem aY9:aB 20 VK.spec:=aF Tryz.func20 aC Z5 aP6
def Rq:Ct:=⟨[.agg iT,.agg iT],[.val .bool],λd=>[d.1=d.2.1],λd=>((true,()),())⟩
def bK3:bp Rq.ps->bI:=(λd=>{loops:=(bt 4 (λS=>{ι:=Int,μ:=λi=>((vW d.1).length-i).toNat,inv:=λi=>0<=i/\i<=(vW d.1).length,keep:=[0,1,2,3],slots:=λi=>[(5,.int .i64 i)],keepN:=[48,64]}) bZ)})
theorem ay3:
 ∀(a b:bT),CT.wf iT a/\ai (CT.wf iT b)->a=b-> ∀(c:Bool),c=bW a.1 b.1->cX c (fZ c) (br c/\ ∀(d:Bool),d=bn c (bW a.2.1 b.2.1)->cX d (fZ d) (br d/\ ∀(e:Bool),e=bn d (bW a.2.2.1 b.2.2.1)->cX e (fZ e) (br e/\ ∀(f:Bool),f=bn e (bW a.2.2.2.1 b.2.2.2.1)->cX f (fZ f) (br f/\ ∀(g:Bool),g=bn f (bW a.2.2.2.2.1 b.2.2.2.2.1)->lR g (bO g) (fZ g/\br g/\ ∀(h:Bool),h=bn g (bW (ae a.2.2.2.2.2.1) (ae b.2.2.2.2.2.1))->cX h ( !h->( !h-> !h)/\( !h-> !h)/\ai (a.2.2.2.2.2.2=b.2.2.2.2.2.2)) (jW h (bn h ( !true)) false ((∃(i:Int),aD i (ae (vW a))/\ce a.1 a.2.1 a.2.2.1 a.2.2.2.1 a.2.2.2.2.1 (a.2.2.2.2.2.1=a.2.2.2.2.2.1) (a.2.2.2.2.2.2=a.2.2.2.2.2.2/\ce b.1 b.2.1 b.2.2.1 b.2.2.2.1 b.2.2.2.2.1 (b.2.2.2.2.2.1=b.2.2.2.2.2.1) (b.2.2.2.2.2.2=b.2.2.2.2.2.2/\0=i/\ce a.1 a.2.1 a.2.2.1 a.2.2.2.1 a.2.2.2.2.1
 (a.2.2.2.2.2.1=a.2.2.2.2.2.1) (a.2.2.2.2.2.2=a.2.2.2.2.2.2/\ce b.1 b.2.1 b.2.2.1 b.2.2.2.1 b.2.2.2.2.1 (b.2.2.2.2.2.1=b.2.2.2.2.2.1) (ai (b.2.2.2.2.2.2=b.2.2.2.2.2.2))))))/\ ∀(i:Int),aD i (ae (vW a))->au (av i (ae a.2.2.2.2.2.1)) (ao i (i<ae a.2.2.2.2.2.1) (fw i (ae b.2.2.2.2.2.1) ( !(pn (af a.2.2.2.2.2.1 i).1.1 (af b.2.2.2.2.2.1 i).1.1 (af a.2.2.2.2.2.1 i).1.2.1 (af b.2.2.2.2.2.1 i).1.2.1 (decide ((af a.2.2.2.2.2.1 i).1.2.2.1=(af b.2.2.2.2.2.1 i).1.2.2.1)) (pn (af a.2.2.2.2.2.1 i).1.2.2.2.1 (af b.2.2.2.2.2.1 i).1.2.2.2.1 (af a.2.2.2.2.2.1 i).1.2.2.2.2.1 (af b.2.2.2.2.2.1 i).1.2.2.2.2.1 (decide ((af a.2.2.2.2.2.1 i).1.2.2.2.2.2=(af b.2.2.2.2.2.1 i).1.2.2.2.2.2)) true)&&pn (af a.2.2.2.2.2.1 i).2.1 (af b.2.2.2.2.2.1 i).2.1 (af a.2.2.2.2.2.1 i).2.2.1 (af b.2.2.2.2.2.1 i).2.2.1 (BEq.beq (af a.2.2.2.2.2.1 i).2.2.2.1 (af b.2.2.2.2.2.1 i).2.2.2.1)
 (BEq.beq (af a.2.2.2.2.2.1 i).2.2.2.2.1 (af b.2.2.2.2.2.1 i).2.2.2.2.1&&(decide ((af a.2.2.2.2.2.1 i).2.2.2.2.2.1=(af b.2.2.2.2.2.1 i).2.2.2.2.2.1)&&(pn (af a.2.2.2.2.2.1 i).2.2.2.2.2.2.1 (af b.2.2.2.2.2.1 i).2.2.2.2.2.2.1 (af a.2.2.2.2.2.1 i).2.2.2.2.2.2.2.1 (af b.2.2.2.2.2.1 i).2.2.2.2.2.2.2.1 (decide ((af a.2.2.2.2.2.1 i).2.2.2.2.2.2.2.2.1=(af b.2.2.2.2.2.1 i).2.2.2.2.2.2.2.2.1)) (pn (af a.2.2.2.2.2.1 i).2.2.2.2.2.2.2.2.2.1 (af b.2.2.2.2.2.1 i).2.2.2.2.2.2.2.2.2.1 (af a.2.2.2.2.2.1 i).2.2.2.2.2.2.2.2.2.2.1 (af b.2.2.2.2.2.1 i).2.2.2.2.2.2.2.2.2.2.1 (decide ((af a.2.2.2.2.2.1 i).2.2.2.2.2.2.2.2.2.2.2=(af b.2.2.2.2.2.1 i).2.2.2.2.2.2.2.2.2.2.2)) true)&&true))))) false (∃(j:Int),aD j (ae (vW a))/\aZ (ae (vW a)) j i/\ce a.1 a.2.1 a.2.2.1 a.2.2.2.1 a.2.2.2.2.1 (a.2.2.2.2.2.1=a.2.2.2.2.2.1) (a.2.2.2.2.2.2=a.2.2.2.2.2.2/\ce b.1 b.2.1 b.2.2.1 b.2.2.2.1
 b.2.2.2.2.1 (b.2.2.2.2.2.1=b.2.2.2.2.2.1) (b.2.2.2.2.2.2=b.2.2.2.2.2.2/\aY i j/\ce a.1 a.2.1 a.2.2.1 a.2.2.2.1 a.2.2.2.2.1 (a.2.2.2.2.2.1=a.2.2.2.2.2.1) (a.2.2.2.2.2.2=a.2.2.2.2.2.2/\ce b.1 b.2.1 b.2.2.1 b.2.2.2.1 b.2.2.2.2.1 (b.2.2.2.2.2.1=b.2.2.2.2.2.1) (ai (b.2.2.2.2.2.2=b.2.2.2.2.2.2)))))))) true))))))):= by
  delta af ae ap bO aT aU aA bn aZ cu cX ao br fZ pn aY ce ai aD bW d7 av jW fw lR
  rintro d e ⟨hw,-⟩ h
  have h:d=e:=h
  subst h
  have hl:(vW d).length<=9223372036854775807:=hw.2.2.2.2.2.1.1
  simp only[decide_true,Bool.not_true]
  iterate 6
   rintro c hc
   have hc:c=false:=hc
   subst hc
   (repeat refine⟨λ_=>(by first|rfl|exact⟨λ_=>rfl,aN⟩|exact⟨λ_=>rfl,λ_=>rfl,aN⟩|exact⟨λ_=>rfl,λ_=>rfl,aN,aN⟩),?_⟩)
  refine ml.2 ⟨⟨0,⟨ab,ab⟩,aK⟩,?_⟩
  rintro i ⟨i0,i1⟩
  refine ay (λhi=>?_) (λ_=>trivial)
  have hi:i<(vW d).length:=aX hi
  refine⟨i0,hi,i0,hi,?_⟩
  simp only[beq_self_eq_true,Bool.and_self]
  exact ml.2 ⟨i+1,⟨ab,ab⟩,ab,aK⟩
theorem aX4:aB 8 Rq.spec:=aF Tryz.func8 (am aC aY9) bK3 ay3
def ag5:qY:=[(false,.sl bq),(false,bq),(false,bq)]
def Wh:Ct:=Ep ag5
def bi5:bp Wh.ps->bI:=(λd=>{loops:=(bt 13 (λS=>{ι:=Int,μ:=λi=>((S.c vq 192).2.2.1.length-i).toNat,inv:=λi=>0<=i/\i<=(S.c vq 192).2.2.1.length,keep:=[11,14],slots:=λi=>[(16,.int .i64 i)],keepN:=[192,240]}) bZ)})
theorem bC2:
 ∀(a:ac)(b c:Int),aV a/\aD b 255/\ai (aD c 255)->True->(0:Int)<=(900:Int)/\ ∀(d:ac)(e:Int),(d,e)=(if ae a<=900 then a else take (Int.toNat 900) a,(0:Int))->bH (d,e)/\ ∀(f:aU8×Int×List (bT5×bV0×Int×bU7×Int×Int×Int×Int×List ac×Int×List (List
 Int)×List bU0×List bT7×List bT7)×List bT6)(g:List ar)(h:List bc)(i:List bV)(j:Bool)(k:ac)(l:Int),j/\D8 f->au ( !j) false ((∃(m:Int),m<=1000/\PO m f)/\bf f.1<=ap b/\ap b<=1000/\ ∀(m:aU8×Int×List (bT5×(Int×Int×Int×Int×Int×List
 bT4×List bT0)×Int×bU7×Int×Int×Int×Int×List ac×Int×List ac×List bU0×List bT7×List bT7)×List bT6)(n:Int),m=o8 f (ap b)/\n=0->(∃(o:Int),o<=1000/\PO o m)/\bf m.1<=vz b c/\vz b c<=1000/\ ∀(o:(bT8×Int×Int×Int×List bT9×ac×List (Int×Int×Int×Int×Int×List
 Int)×List bT7×List bU2)×Int×List bJ4×List bT6)(p:Int),o=o8 m (vz b c)/\p=0->(∃(q:Int),q<=1000/\PO q f)/\bf f.1<=vz b c/\vz b c<=1000/\ ∀(q:((List bT3×List
 bU3×List bU6)×Int×Int×Int×List bT9×ac×List bU4×List bT7×List bU2)×Int×List bJ4×List bT6)(r:Int),q=o8 f (vz b c)/\r=0-> ∀(s:Bool),s=bJ n->bO
 s/\br s/\ ∀(t:Bool),t=bn s (bJ p)->bO t/\br t/\ ∀(u:Bool),u=bn t (bJ r)->lR u (bO u) (fZ u/\br u/\au (bn u (bW (ae o.2.2.1) (ae q.2.2.1))) false ((∃(v:Int),aD v (ae o.2.2.1)/\0=v/\cT o.1.1.1 o.1.1.2.1 (o.1.1.2.2=o.1.1.2.2) (d6 o.1.2.1 o.1.2.2.1 o.1.2.2.2.1 (o.1.2.2.2.2.1=o.1.2.2.2.2.1) (mq o.1.2.2.2.2.2.1 o.1.2.2.2.2.2.2.1 o.1.2.2.2.2.2.2.2.1 (o.1.2.2.2.2.2.2.2.2=o.1.2.2.2.2.2.2.2.2) (aA o.2.1 (o.2.2.1=o.2.2.1) (o.2.2.2=o.2.2.2/\cT q.1.1.1 q.1.1.2.1 (q.1.1.2.2=q.1.1.2.2) (d6 q.1.2.1 q.1.2.2.1 q.1.2.2.2.1 (q.1.2.2.2.2.1=q.1.2.2.2.2.1) (mq q.1.2.2.2.2.2.1 q.1.2.2.2.2.2.2.1 q.1.2.2.2.2.2.2.2.1 (q.1.2.2.2.2.2.2.2.2=q.1.2.2.2.2.2.2.2.2) (aA q.2.1 (q.2.2.1=q.2.2.1) (ai (q.2.2.2=q.2.2.2))))))))))/\ ∀(v:Int),aD v (ae o.2.2.1)->au (av v (ae o.2.2.1)) (ao v (v<ae o.2.2.1) (bu v (ae q.2.2.1) ((af o.2.2.1 v).2.1=(af q.2.2.1
 v).2.1) (∀(w:Bool),w=( !true)->bO w/\( !w->iM ( !w) ( !w) v (v<ae o.2.2.1))/\lR w ( !w->iM ( !w) ( !w) v (v<ae q.2.2.1)) (cX w (fZ w) (br w/\au (bn w (bW (af o.2.2.1 v).2.2.1 (af q.2.2.1 v).2.2.1)) false (∃(x:Int),aD x (ae o.2.2.1)/\aZ (ae o.2.2.1) x v/\aY v x/\cT o.1.1.1 o.1.1.2.1 (o.1.1.2.2=o.1.1.2.2) (d6 o.1.2.1 o.1.2.2.1 o.1.2.2.2.1 (o.1.2.2.2.2.1=o.1.2.2.2.2.1) (mq o.1.2.2.2.2.2.1 o.1.2.2.2.2.2.2.1 o.1.2.2.2.2.2.2.2.1 (o.1.2.2.2.2.2.2.2.2=o.1.2.2.2.2.2.2.2.2) (aA o.2.1 (o.2.2.1=o.2.2.1) (o.2.2.2=o.2.2.2/\cT q.1.1.1 q.1.1.2.1 (q.1.1.2.2=q.1.1.2.2) (d6 q.1.2.1 q.1.2.2.1 q.1.2.2.2.1 (q.1.2.2.2.2.1=q.1.2.2.2.2.1) (mq q.1.2.2.2.2.2.1 q.1.2.2.2.2.2.2.1 q.1.2.2.2.2.2.2.2.1 (q.1.2.2.2.2.2.2.2.2=q.1.2.2.2.2.2.2.2.2) (aA q.2.1 (q.2.2.1=q.2.2.1) (ai (q.2.2.2=q.2.2.2))))))))))))))) (∀(w:Bool),w=decide (o.1.2.1=q.1.2.1)->ia w w
 (d7 w) (w->w) (∀(x:Bool),x=m5 w o.2.1 q.2.1->cG x x (aT x) (x->aT x) (ia x x (aT x) (x->d7 x) ((x->x)/\m5 x (ae o.1.2.2.2.2.2.2.2.2) (ae q.1.2.2.2.2.2.2.2.2)))))))):= by
  delta af ae ap bO aV aT aU aA bn cG aZ bw cu cX ao br fZ bJ cT ia iM aY ai mq aD bW bu d7 av d6 m5 vz lR
  rintro cl a b ⟨⟨hcl,hcw⟩,⟨a0,a1⟩,⟨b0,b1⟩,-⟩ -
  rw[aL (n:=a) ab ab,aL (n:=b) ab ab,aL (n:=a+b) ab ab]
  refine⟨bo,?_⟩
  rintro l0 p0 hc
  have hB:dF (l0,p0):=by rw[hc];exact bs4 hcw
  refine⟨hB.at',?_⟩
  rintro p ns ls hs k l1 p1 ⟨hk,hp⟩
  have hk:k=true:=hk
  subst hk
  have hn:=hp.n
  have r1:=hp.o.run (t:=a) bo ab ab
  have r2:=r1.1.run (t:=a+b) bo ab ab
  have two:=ax0 hp.o (c:=a) (t:=a+b) bo hp.s ab ab ab
  refine ml.2 ⟨⟨0,bo,hp.o⟩,ab,ab,?_⟩
  rintro p1 e ⟨rfl,rfl⟩
  refine⟨⟨_,bo,r1.1⟩,by have:=r1.2;omega,ab,?_⟩
  rintro p2 e ⟨h2,rfl⟩
  rw[two] at h2
  refine⟨⟨0,bo,hp.o⟩,ab,ab,?_⟩
  rintro p3 e ⟨h3,rfl⟩
  have e23:p3=p2:=h3.trans h2.symm
  subst e23
  have n2:p3.2.2.1.length<=2:=by rw[h3];rw[two] at r2;exact r2.1.n2
  clear h2 h3 two r1 r2
  rintro c hc
  have hc:c=false:=hc
  subst hc
  (repeat refine⟨λ_=>(by first|rfl|exact⟨λ_=>rfl,aN⟩|exact⟨λ_=>rfl,λ_=>rfl,aN⟩),?_⟩)
  rintro c hc
  have hc:c=false:=hc
  subst hc
  (repeat refine⟨λ_=>(by first|rfl|exact⟨λ_=>rfl,aN⟩|exact⟨λ_=>rfl,λ_=>rfl,aN⟩),?_⟩)
  rintro c hc
  have hc:c=false:=hc
  subst hc
  (repeat refine⟨λ_=>(by first|rfl|exact⟨λ_=>rfl,aN⟩|exact⟨λ_=>rfl,λ_=>rfl,aN⟩),?_⟩)
  rw[show (bif false then true else !decide ((p3.2.2.1.length:Int)=(p3.2.2.1.length:Int)))=false by rw[fm rfl];rfl]
  refine ml.2 ⟨⟨0,⟨ab,ab⟩,aK⟩,?_⟩
  rintro i ⟨i0,i1⟩
  refine bP (λhi=>?_) (λhi=>?_)
  .refine⟨i0,hi,i0,hi,rfl,?_⟩
   rintro c hc
   have hc:c=false:=hc
   subst hc
   (repeat refine⟨λ_=>(by first|rfl|exact⟨λ_=>rfl,aN⟩|exact⟨λ_=>rfl,λ_=>rfl,aN⟩|exact⟨i0,hi,aN⟩|exact⟨λ_=>rfl,i0,hi,aN⟩|exact⟨λ_=>rfl,λ_=>rfl,i0,hi,aN⟩),?_⟩)
   rw[fm rfl]
   exact ml.2 ⟨i+1,⟨ab,ab⟩,ab,aL ab ab,aK⟩
  .rintro c hc
   have hc:c=true:=hc.trans (fm rfl)
   subst hc
   (repeat refine⟨λ_=>(by first|rfl|exact⟨λ_=>rfl,aN⟩|exact⟨λ_=>rfl,λ_=>rfl,aN⟩),?_⟩)
   rintro c hc
   have hc:c=true:=hc.trans (fm rfl)
   subst hc
   (repeat refine⟨λ_=>(by first|rfl|exact⟨λ_=>rfl,aN⟩|exact⟨λ_=>rfl,λ_=>rfl,aN⟩),?_⟩)
   exact fm rfl
theorem ok_top_TopParts:aB 3 Wh.spec:=aF Tryz.func3 (am (am (am (am (am aC Zb) (Ct.named VZ)) an3) (Ct.named at3)) aX4) bi5 bC2
end Go.RS
