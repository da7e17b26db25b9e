/- Netdraw: the program text that draws networks does what Netd says. -/
import Derived.Test.YtoipogagjfkjlaaGreatDoorNetg
import Derived.Test.YtoipogagjfkjlaaGreatDoorNodek
set_option maxRecDepth 100000
set_option linter.unusedVariables false
open Int (toNat)
open List (length take getD set replicate range)
namespace Go.RS
open Go.SX Go.Proofs
abbrev Cc:OT := .pair (.pair (.row 117 dK) (.pair (.row 164 rb) (.row 178 kO))) (.ref 88 j7)
def sL(s:bU):List cj:=s.1.2.1
def tX(s:bU):Prop:=bH s.2/\(s.1.1.length:Int)<=1000/\(s.1.2.1.length:Int)<=1000/\(s.1.2.2.length:Int)<=1000∧∀ x∈s.1.1,(x.1.length:Int)<=1000
def inN(ns:List ar)(a:Int):Prop:=0<=a/\a<ns.length
def bb8:Ct:=⟨[.box 88 j7,.val cI],[.val cI],λd=>[bH d.1,d.2.1<=256],λd=>(((qc d.1 d.2.1).1,()),((qc d.1 d.2.1).2,()))⟩
theorem aa4:
 ∀(a:ac)(b c:Int),(aV a/\aq b)/\ai (aq c)->bH (a,b)/\c<=256->nt (decide (ae a<=b)) (av c 1) (0=(qc (a,b) c).1/\(a,b)=(qc (a,b) c).2) (fw b (ae a) (av 256 c) False (c≠0/\Int.tmod (ap (af a b)) c=(qc (a,b) c).1/\(a,ap (b+1))=(qc (a,b) c).2)):= by
  delta af ae ap aq aI bO aV aT bn ao br nt ai aD av jW fw
  rintro l p n ⟨⟨⟨hl,hw⟩,h0,h1⟩,⟨h2,h3⟩,-⟩⟨⟨a,f⟩,hn⟩
  simp only[maxLen] at hl a f
  (repeat (refine dq ?_;repeat refine dm ?_))
  refine vL (λc=>?_) (λd e=>?_)
  .have c:(l.length:Int)<=p∨n<1:=by simpa using c
   rw[qc,aj c];exact⟨rfl,rfl⟩
  .have d:=bi d
   have e:=bi e
   have c:¬ ((l.length:Int)<=p∨n<1):=ab
   obtain⟨hm0,hm1⟩:=hw _ (cA a (show p<l.length by omega))
   refine⟨a,ab,ay (λk=>?_) (λ_=>⟨ab,?_⟩)⟩
   .grind
   .rw[qc,ah c,aL ab ab,aL ab ab];exact⟨rfl,rfl⟩
theorem au7:aB 22 bb8.spec:=aF Tryz.func22 aC aS aa4
def bp0:Ct:=⟨[.box 88 j7,.val cI],[.val cI],λd=>[bH d.1],λd=>(((ax d.1 d.2.1).1,()),((ax d.1 d.2.1).2,()))⟩
theorem ad6:
 ∀(a:ac)(b c:Int),(aV a/\aq b)/\ai (aq c)->aD b (ae a)->nt (decide (ae a<=b)) (av c 1) (0=(ax (a,b) c).1/\(a,b)=(ax (a,b) c).2) (fw b (ae a) (av 256 c) (bH (a,ap (b+1))/\(256:Int)<=(256:Int)/\c≠0/\Int.tmod (ap (ap (256*ap (af a b))+(qc (a,ap (b+1)) 256).1)) c=(ax (a,b) c).1/\(qc (a,ap (b+1)) 256).2=(ax (a,b) c).2) (c≠0/\Int.tmod (ap (af a b)) c=(ax (a,b) c).1/\(a,ap (b+1))=(ax (a,b) c).2)):= by
  delta af ae ap aq aI bO aV aT bn ao br nt ai aD av jW fw
  rintro l p n ⟨⟨⟨hl,h⟩,h0,h1⟩,⟨h2,h3⟩,-⟩⟨a,g⟩
  simp only[maxLen] at hl a g
  (repeat (refine dq ?_;repeat refine dm ?_))
  refine vL (λc=>?_) (λd e=>?_)
  .have c:(l.length:Int)<=p∨n<1:=by simpa using c
   rw[ax,aj c];exact⟨rfl,rfl⟩
  .have d:=bi d
   have e:=bi e
   have c:¬ ((l.length:Int)<=p∨n<1):=ab
   obtain⟨hm0,hm1⟩:=h _ (cA a (show p<l.length by omega))
   rw[aL ab ab,aL (n:=l.getD p.toNat default) ab ab]
   refine⟨a,ab,ay (λk=>?_) (λk=>⟨ab,?_⟩)⟩
   .have k:=aX k
    have f:dF (l,p+1):=⟨⟨by show 0<=p+1;omega,by show p+1<=l.length;omega⟩,h⟩
    have hr:=X5 f 256
    refine⟨f.at',ab,ab,?_⟩
    rw[ax,ah c,aj k,aL (n:=256*_) ab ab,aL ab ab]
    exact⟨rfl,rfl⟩
   .rw[ax,ah c,ah (bi k)];exact⟨rfl,rfl⟩
theorem Cd:aB 22 bp0.spec:=aF Tryz.func22 (am aC au7) aS ad6
def ab9:Ct:=⟨[.box 109 Cc,.val .bool],[.val cI],λd=>[tX d.1],λd=>(((d.1.1.1.length:Int),()),(mv d.1 d.2.1,()))⟩
def ui(a:List ar)(b:List bc)(c:List bV)(d:ac)(e:Int):=((a.length<=maxLen/\ ∀(f:ar),f∈a->CT.wf dK f)/\ji b/\c.length<=maxLen/\ ∀(f:bV),f∈c->CT.wf kO f)/\aV d/\aq e
def F5(a:Int×bm):=ax a.2 256
def Na:=(64:Int)::(255:Int)::bN 128
def Ly(a:List ar)(b:Bool)(c:ac)(d:Int):=[(([]:List bT2),(0:Int),ap (1+ap (Int.tdiv (ae a) 3)),b,([]:List ci),(1:Int),(0:Int),(0:Int),(0:Int),(0:Int),((0:Int),(0:Int)),false,false,af Na (ax (c,d) 3).1,(F5 (ax (c,d) 3)).1)]
theorem am8:
 ∀(a:List ar)(b:List bc)(c:List bV)(d:ac)(e:Int)(f:Bool),ui a b c d e/\ai True->(bH (d,e)/\ae a<=1000/\ae b<=1000/\ae c<=1000/\ ∀(g:ar),g∈a->ae g.1<=1000)->bH (d,e)/\bu (ax (d,e) 3).1 (ae Na) (bH (ax (d,e) 3).2) ((3:Int)≠(0:Int)/\bv ((a.length+length (Ly a f d e))*152)/\ae a=ae a/\((a++Ly a f d e,b,c),(F5 (ax (d,e) 3)).2)=mv ((a,b,c),d,e) f):= by
  delta af ae ap aq aI aV ji bG ao bv ui bN ai F5 aD bu Ly fB Na
  rintro ns ls hs l p b ⟨⟨-,⟨hl,hw⟩,-⟩,-,-⟩⟨c,h1,h2,h3,h4⟩
  have a:dF (l,p):=⟨c,hw⟩
  have r1:=dV a 3
  have r2:=f5 a (n:=3) ab
  have e:Int.tdiv (ns.length:Int) 3=(ns.length:Int)/3:=KG ab
  refine⟨c,r2.1,by simpa using r2.2,r1.1.at',ab,by simp;omega,rfl,?_⟩
  rw[e,aL (n:=(ns.length:Int)/3) ab ab,aL ab ab]
  rfl
theorem a71:aB 21 ab9.spec:=aF Tryz.func21 (am aC Cd) aS am8
def sr(ns:List ar)(a b l k:Int):List ar:=if k=0 then ns else if k=1 then mB ns a (ip l+1,l) else mB (mB ns a (ip l+1,l)) b (ip l+2,l)
def TG:Ct:=⟨[.box 109 Cc,.val cI,.val cI],[.val cI],λd=>[tX d.1,inN d.1.1.1 d.2.1,inN d.1.1.1 d.2.2.1],λd=>(((d.1.1.2.1.length:Int),()),(kU d.1 d.2.1 d.2.2.1,()))⟩
def av3:bp TG.ps->bI:=(λd=>{loops:=(bt 5 (λS=>{ι:=Int×(List ar),qn:=eO,μ:=λi=>(2-i.1).toNat,inv:=λi=>0<=i.1/\i.1<=2/\i.2=sr d.1.1.1 d.2.1 d.2.2.1 d.1.1.2.1.length i.1,keep:=[0,1,2,6,7,8],slots:=λi=>[(9,.int .i64 i.1)],keepN:=[1048577,2097154],names:=λi=>[(1048576,.live (.cells 109 [.own 524288 16,.own 524289 6,.own 2097154 7,.ptr 1048577 0])),(524288,.live (.row 117 dK i.2)),(524289,.live (.row 164 rb (sL (kU d.1 d.2.1 d.2.2.1))))]}) bZ)})
def EJ(a:List bc):=IntKind.wrap IntKind.u32 (ap (167837696+ap (4*ae a)))
def wC(a:Int×bm):=ap (1+a.1)
def w8(a:ac)(b:Int):=F5 (ax (a,b) 20)
theorem bL1:
 ∀(a:List ar)(b:List bc)(c:List bV)(d:ac)(e f g:Int),ui a b c d e/\dI f g->tX ((a,b,c),d,e)/\inN a f/\0<=g/\g<ae a->bH (d,e)/\bH (ax (d,e) 20).2/\bv ((b.length+length [(f,g,wC (ax (d,e) 20),(0:Int),(0:Int),(w8 d e).1)])*48)/\(∃(h:Int) (i:List ar),ao h (h<=2) (i=sr a f g (ae b) h)/\ce f g 0 (ae b) (EJ b) (0=h) ((w8 d e).2.1=(w8 d e).2.1/\aA (w8 d e).2.2 (c=c) (a=i/\ai (b++[(f,g,wC (ax (d,e) 20),0,0,(w8 d e).1)]=sL (kU ((a,b,c),d,e) f g)))))/\ ∀(h:Int)(i:List ar),ao h (h<=2) (i=sr a f g (ae b) h)->fE h 2 (h<ae (f::bN g)) (bu (af (f::bN g) h) (ae i) (bv (length (af i (af (f::bN g) h)).1*16)) (bv ((length (af i (af (f::bN g) h)).1+length [(IntKind.wrap IntKind.u32 (IntKind.wrap IntKind.u32 (EJ b+1)+IntKind.wrap IntKind.u32 h),ae b)])*16)/\ao (af
 (f::bN g) h) (af (f::bN g) h<ae i) (∃(j:Int) (k:List ar),ao j (j<=2) (k=sr a f g (ae b) j)/\aZ 2 j h/\ce f g 0 (ae b) (EJ b) (aY h j) ((w8 d e).2.1=(w8 d e).2.1/\aA (w8 d e).2.2 (c=c) (set i (toNat (af (f::bN g) h)) ((af i (af (f::bN g) h)).1++[(IntKind.wrap IntKind.u32 (IntKind.wrap IntKind.u32 (EJ b+1)+IntKind.wrap IntKind.u32 h),ae b)],(af i (af (f::bN g) h)).2)=k/\ai (sL (kU ((a,b,c),d,e) f g)=sL (kU ((a,b,c),d,e) f g))))))) (ae b=ae b) (((i,sL (kU ((a,b,c),d,e) f g),c),(w8 d e).2)=kU ((a,b,c),d,e) f g):= by
  delta af ae ap aq aI aV aU ji bG aA aZ cu ao bv ui bN fE dI aY ce ai F5 aD bu av EJ wC fB w8
  rintro ns ls hs l p a b ⟨⟨-,⟨hl,hw⟩,-⟩,⟨ha1,ha2⟩,⟨hb1,hb2⟩,-⟩⟨⟨o,h1,h2,h3,q⟩,⟨e,d⟩,b0,f⟩
  simp only at h1 h2 h3 q d
  have g:dF (l,p):=⟨o,hw⟩
  have r1:=dV g 20
  have e1:IntKind.i64.wrap (1+(ax (l,p) 20).1)=1+(ax (l,p) 20).1:=aL ab ab
  rw[e1,aL (n:=4*(ls.length:Int)) ab ab,aL ab ab,wZ ab ab,wZ ab ab]
  refine⟨o,r1.1.at',by simp only[gC];omega,⟨0,ns,⟨ab,ab,by rw[sr,aj rfl]⟩,?_⟩,?_⟩
  ·(repeat refine tW ?_)
   exact⟨rfl,aN⟩
  rintro k ms ⟨k0,k2,rfl⟩
  have hlen:∀ m:Int,(sr ns a b ls.length m).length=ns.length:=λm=>by
   unfold sr mB;split
   .rfl
   .split <;> simp
  refine bP (λhk=>?_) (λhk=>?_)
  .rw[hlen]
   have h:k=0∨k=1:=ab
   have hports:∀ x:Int,0<=x->x<ns.length->((ns.getD x.toNat default).1.length:Int)<=1000:=λx x0 x1=>q _ (cA x0 x1)
   rcases h with rfl|rfl
   .have i:sr ns a b ls.length 0=ns:=by rw[sr,aj rfl]
    rw[i]
    have:=hports a e d
    have j:([a,b]:ac).getD (toNat 0) default=a:=rfl
    rw[j]
    refine⟨ab,aw,e,d,ab,by simp only[gC];omega,e,d,1,_,⟨ab,ab,rfl⟩,ab,?_⟩
    (repeat refine tW ?_)
    refine⟨aL ab ab,?_⟩
    (repeat refine tW ?_)
    refine⟨?_,?_⟩
    .rw[sr,ah ab,aj rfl]
     have:IntKind.u32.wrap (167837696+4*(ls.length:Int)+1+IntKind.u32.wrap 0)=ip ls.length+1:=by
      rw[wZ (n:=0) ab ab,wZ ab ab];unfold ip;omega
     rw[this];rfl
    .exact⟨rfl,aN⟩
   .have i:sr ns a b ls.length 1=mB ns a (ip ls.length+1,ls.length):=by rw[sr,ah ab,aj rfl]
    rw[i]
    have j:([a,b]:ac).getD (toNat 1) default=b:=rfl
    rw[j]
    have hpb:(((mB ns a (ip ls.length+1,ls.length)).getD b.toNat default).1.length:Int)<=1001:=by
     unfold mB
     by_cases c:a.toNat=b.toNat
     .rw[c,lD ab]
      grind
     .rw[o5 c]
      have:=hports b b0 f;omega
    refine⟨ab,aw,b0,f,ab,by simp only[gC];omega,b0,f,2,_,⟨ab,ab,rfl⟩,ab,?_⟩
    (repeat refine tW ?_)
    refine⟨aL ab ab,?_⟩
    (repeat refine tW ?_)
    refine⟨?_,?_⟩
    .rw[sr,ah ab,ah ab]
     have:IntKind.u32.wrap (167837696+4*(ls.length:Int)+1+IntKind.u32.wrap 1)=ip ls.length+2:=by
      rw[wZ (n:=1) ab ab,wZ ab ab];unfold ip;omega
     rw[this];rfl
    .exact⟨rfl,aN⟩
  .have:k=2:=ab
   subst this
   refine⟨rfl,?_⟩
   rfl
theorem bt9:aB 23 TG.spec:=aF Tryz.func23 (am aC Cd) av3 bL1
def Ui(k:Int)(done:ac)(f:Bool)(l:ac):Prop:=(f=false/\l=done∧∀ x∈done,¬ k<x)∨(f=true/\l=mW k done∧∃ x∈done,k<x)
def Ra:Ct:=⟨[.box 109 Cc,.val cI,.agg p8,.val cI,.val cI],[],λd=>[inN d.1.1.1 d.2.1,dS (bL (d.1.1.1.getD d.2.1.toNat default)),okL (bL (d.1.1.1.getD d.2.1.toNat default)),∀ r∈bL (d.1.1.1.getD d.2.1.toNat default),(r.2.1.length:Int)<=1000],λd=>((),(((vB d.1.1.1 d.2.1 d.2.2.1 d.2.2.2.1 d.2.2.2.2.1,d.1.1.2),d.1.2),()))⟩
def aN7:bp Ra.ps->bI:=(λd=>{loops:=(bt 3 (λS=>{ι:=Int,μ:=λi=>((bL (d.1.1.1.getD d.2.1.toNat default)).length-i).toNat,inv:=λi=>0<=i/\i<=(bL (d.1.1.1.getD d.2.1.toNat default)).length∧∀ r∈(bL (d.1.1.1.getD d.2.1.toNat default)).take i.toNat,decide (r.1=d.2.2.1)=false,keep:=[0,1,3,4,7,8,9,10],slots:=λi=>[(11,.int .i64 i)],keepN:=[1048576,1048577,2097152,2097153,2097154,128]}) (bt 7 (λS=>{ι:=Int,μ:=λi=>(((bL (d.1.1.1.getD d.2.1.toNat default)).getD (S.i 11).toNat default).2.1.length-i).toNat,inv:=λi=>0<=i/\i<=((bL (d.1.1.1.getD d.2.1.toNat default)).getD (S.i 11).toNat default).2.1.length∧∀ x∈((bL (d.1.1.1.getD d.2.1.toNat default)).getD (S.i 11).toNat default).2.1.take i.toNat,x≠d.2.2.2.1,keep:=[0,1,3,4,7,8,9,10,11],slots:=λi=>[(12,.int .i64 i)],keepN:=[1048576,1048577,2097152,2097153,2097154,128]}) (bt 13 (λS=>{ι:=Int×Bool×ac,qn:=pI,μ:=λi=>(((bL (d.1.1.1.getD d.2.1.toNat default)).getD (S.i 11).toNat default).2.1.length-i.1).toNat,inv:=λi=>0<=i.1/\i.1<=((bL (d.1.1.1.getD d.2.1.toNat default)).getD (S.i 11).toNat default).2.1.length/\Ui d.2.2.2.1 (((bL (d.1.1.1.getD d.2.1.toNat default)).getD (S.i 11).toNat default).2.1.take i.1.toNat) i.2.1 i.2.2,keep:=[0,1,3,4,7,8,9,10,11,13],slots:=λi=>[(14,.bool i.2.1),(15,.int .i64 i.1)],keepN:=[1048576,1048577,2097152,2097153,2097154,128],names:=λi=>[(224,.live (.cells 176 [.int .u32 d.2.2.1.1,.int .i64 d.2.2.1.2,.own 524288 1,.int .i64 ((bL (d.1.1.1.getD d.2.1.toNat default)).getD (S.i 11).toNat default).2.2])),(524288,.live (.row 3 cI i.2.2))]}) bZ)))})
def lu(a:List ar)(b:Int):=(af a b).2.2.2.2.1
def rq(a:Int):=a.toNat=a.toNat
def tF(a:List ar)(b c:Int):=(af (bL (af a b)) c).2.1
def IC(a:Int)(b:List ar)(c d e:Int):=ao a (a<=ae (bL (af b c))) (∀(f:ci),f∈take a.toNat (bL (af b c))->decide (f.1=(d,e))=false)
def rz(a:ac)(b:Int)(c:List ar)(d:List bc)(e f:Prop):=a=a/\aA b (c=c) (d=d/\e/\f)
def HC(a:List ar)(b:Int)(c:bT2)(d:bm):=((af a b).1,(af a b).2.1,(af a b).2.2.1,(af a b).2.2.2.1,iu (lu a b) (c,d),(af a b).2.2.2.2.2)
def Fg(a:Int)(b:List ar)(c d e:Int)(f:Bool)(g:ac):=ao a (a<=ae (tF b c d)) (Ui e (take a.toNat (tF b c d)) f g)
def sJ(a:List ar)(b c:Int):=(af (lu a b) c).2.1
theorem ZX:
 ∀(a:List ar)(b:List bc)(c:List bV)(d:ac)(e f g h i j:Int),ui a b c d e/\aq f/\(aQ g/\aq h)/\dI i j->(inN a f/\dS (bL (af a f))/\okL (bL (af a f))/\ ∀(k:ci),k∈bL (af a f)->ae k.2.1<=1000)->bu f (ae a) (∃(k:Int),IC k a f g h/\d6 f i j (rq f) (0=k/\rz d e a b (c=c) (jC g h))) (∀(k:Int),IC k a f g h->fE k (ae (lu a f)) (k<ae (lu a f)) (au (decide ((af (lu a f) k).1.1=g)&&(decide ((af (lu a f) k).1.2=h)&&true)) ((∃(l:Int),yX l (tF a f k) (take l.toNat (tF a f k)) i/\d6 f i j (rq f) (aA k (0=l) (rz d e a b (c=c) (jC g h))))/\ ∀(l:Int),yX l (tF a f k) (take l.toNat (tF a f k)) i->fw k (ae (lu a f)) (av l (ae (sJ a f k))) (ao k (k<ae (lu a f)) (fw l (ae (sJ a f k)) (decide (af (sJ a f k) l=i)) (((a,b,c),d,e)=((vB a f (g,h) i
 j,b,c),d,e)) (∃(m:Int),yX m (tF a f k) (take m.toNat (tF a f k)) i/\aZ (ae (tF a f k)) m l/\d6 f i j (rq f) (aA k (aY l m) (rz d e a b (c=c) (jC g h)))))) (bu k (ae (lu a f)) (∃(m:Int) (n:Bool) (o:ac),Fg m a f k i n o/\d6 f i j (rq f) (aA k (false=n) (0=m/\rz d e a b (c=c) (gQ g h g h ((af (lu a f) k).2.2=(af (bL (af a f)) k).2.2) (ai (o=[])))))) (∀(m:Int)(n:Bool)(o:ac),Fg m a f k i n o->fw k (ae (lu a f)) (av m (ae (sJ a f k))) (∀(p:Bool),p=( !n)->ia p p (aT p) (p->iM p p k (k<ae (lu a f))) (cG p p (aT p) (p->iM p p m (m<ae (sJ a f k))) (cG p p (d7 p) (p->p) (au (bw p (av i (af (sJ a f k) m))) (wY o (bN i)/\ao k (k<ae (lu a f)) (bu m (ae (sJ a f k)) (wY (o++bN i) (bN (af (sJ a f k) m))) (∃(q:Int) (r:Bool) (s:List
 Int),Fg q a f k i r s/\aZ (ae (tF a f k)) q m/\d6 f i j (rq f) (aA k (true=r) (aY m q/\rz d e a b (c=c) (ce g h g h (af (bL (af a f)) k).2.2 (o++bN i++bN (af (sJ a f k) m)=s) True)))))) (ao k (k<ae (lu a f)) (bu m (ae (sJ a f k)) (wY o (bN (af (sJ a f k) m))) (∃(q:Int) (r:Bool) (s:ac),Fg q a f k i r s/\aZ (ae (tF a f k)) q m/\d6 f i j (rq f) (aA k (n=r) (aY m q/\rz d e a b (c=c) (ce g h g h (af (bL (af a f)) k).2.2 (o++bN (af (sJ a f k) m)=s) True)))))))))) (au ( !n) (wY o (bN i)/\dS (lu a f)/\okL (lu a f)/\aG (o++bN i)/\((set a f.toNat (HC a f (g,h) (o++bN i,(af (bL (af a f)) k).2.2)),b,c),d,e)=((vB a f (g,h) i j,b,c),d,e)) (dS (lu a f)/\okL (lu a f)/\aG o/\((set a f.toNat (HC a f (g,h) (o,(af (bL (af a f))
 k).2.2)),b,c),d,e)=((vB a f (g,h) i j,b,c),d,e)))))) (∃(l:Int),IC l a f g h/\aZ (ae (bL (af a f))) l k/\d6 f i j (rq f) (aY k l/\rz d e a b (c=c) (jC g h)))) (dS (lu a f)) (okL (lu a f)/\aG (bN i)/\((set a f.toNat (HC a f (g,h) (bN i,j)),b,c),d,e)=((vB a f (g,h) i j,b,c),d,e))):= by
  delta af ae ap aq aI aV aQ aT aU ji aG bG cH aA cG aZ bw cu ao bv ui bN fE lu ia dI iM rq aY ce ai tF gQ IC rz HC aD yX bu d7 av Fg d6 wY sJ jC fw fB
  rintro ns ls hs cl cp n a pl k way-⟨⟨n0,n1⟩,hsr,hol,hnx⟩
  have eR:(ns.getD n.toNat default).2.2.2.2.1=bL (ns.getD n.toNat default):=rfl
  simp only[eR]
  have fin:∀ l',zD (bL (ns.getD n.toNat default)) (a,pl) k way=l'→((ns.set n.toNat ((ns.getD n.toNat default).1,(ns.getD n.toNat default).2.1,(ns.getD n.toNat default).2.2.1,(ns.getD n.toNat default).2.2.2.1,l',(ns.getD n.toNat default).2.2.2.2.2),ls,hs),cl,cp)=((vB ns n (a,pl) k way,ls,hs),cl,cp):=by
   rintro _ rfl;rfl
  have same:zD (bL (ns.getD n.toNat default)) (a,pl) k way=bL (ns.getD n.toNat default)->((ns,ls,hs),cl,cp)=((vB ns n (a,pl) k way,ls,hs),cl,cp):=λh=>by
   have h2:=fin _ h
   rw[← h2]
   have e:((ns.getD n.toNat default).1,(ns.getD n.toNat default).2.1,(ns.getD n.toNat default).2.2.1,(ns.getD n.toNat default).2.2.2.1,bL (ns.getD n.toNat default),(ns.getD n.toNat default).2.2.2.2.2)=ns.getD n.toNat default:=rfl
   simp_all
  generalize bL (ns.getD n.toNat default)=R at *
  have hlR:=hol.1
  refine⟨n0,n1,⟨0,⟨ab,ab,aw⟩,aK⟩,?_⟩
  rintro i ⟨i0,i1,hi⟩
  refine ay (λhk=>?_) (λhk=>?_)
  rotate_left
  .have hk:=bi hk
   rw[fH ab] at hi
   refine⟨hsr,hol,aw,fin _ ?_⟩
   have e:vE R (a,pl)=R.length:=List.findIdx_eq_length_of_false hi
   rw[zD,e,ah (Nat.lt_irrefl _)]
  have hk:=aX hk
  refine⟨i0,hk,ay (λhm=>?_) (λhm=>?_)⟩
  rotate_left
  .have hf:decide ((R.getD i.toNat default).1=(a,pl))=false:=by
    grind
   exact⟨i+1,⟨ab,ab,xV i0 hk hi hf⟩,ab,aK⟩
  have hm:decide ((R.getD i.toNat default).1=(a,pl))=true:=by
   grind
  have hfi:i=if vE R (a,pl)<R.length then (vE R (a,pl):Int) else -1:=EA i0 hk hi hm
  have hfl:vE R (a,pl)<R.length:=i5 λq=>by rw[ah q] at hfi;omega
  rw[aj hfl] at hfi
  have hfe:vE R (a,pl)=i.toNat:=ab
  have hrl:=hnx _ (cA i0 hk)
  have eL:zD R (a,pl) k way=if k∈(R.getD i.toNat default).2.1 then R else iu R ((a,pl),mW k (R.getD i.toNat default).2.1,(R.getD i.toNat default).2.2):=by
   rw[zD,aj hfl,hfe]
  generalize hZ:R.getD i.toNat default=Z at *
  refine⟨⟨0,⟨ab,ab,aw⟩,aK⟩,?_⟩
  rintro j ⟨j0,j1,hj⟩
  refine⟨i0,hk,ay (λhjk=>?_) (λhjk=>?_)⟩
  .have hjk:=aX hjk
   refine⟨i0,hk,j0,hjk,ay (λhe=>same ?_) (λhe=>?_)⟩
   .have he:=aX he
    rw[eL,aj (he▸cA j0 hjk)]
   .exact⟨j+1,⟨ab,ab,xV (P:=λx=>x≠k) j0 hjk hj (bi he)⟩,ab,aK⟩
  have hjk:=bi hjk
  rw[fH ab] at hj
  have hnk:¬ k∈Z.2.1:=λq=>hj k q rfl
  rw[ah hnk] at eL
  refine⟨i0,hk,⟨0,false,[],⟨ab,ab,.inl ⟨rfl,aw,aw⟩⟩,aK⟩,?_⟩
  rintro m f l ⟨m0,m1,hins⟩
  have hll:(l.length:Int)<=1001:=by
   rcases hins with⟨-,rfl,-⟩|⟨-,rfl,-⟩
   .grind
   .rw[LU,dG];omega
  refine⟨i0,hk,ay (λhmk=>?_) (λhmk=>?_)⟩
  .have hmk:=aX hmk
   (repeat (intro (b_:Bool) (hb_:b_=_);(repeat refine⟨(by first|(simp +contextual;done)|(rw[hb_];simp +contextual;done)|(rw[hb_];simp;omega)|(rw[hb_];simp;intros;omega)|(rw[hb_];simp +contextual;intros;omega)|(intros;simp_all;done)|(intros;simp_all;omega)),?_⟩)));(repeat (subst hb_))
   refine z8 (λh1 h2=>?_) (λh1=>?_)
   .have h1:f=false:=by simpa using h1
    have h2:=aX h2
    subst h1
    rcases hins with⟨-,rfl,hin⟩|⟨q,-⟩
    .refine⟨by simp only[gC];omega,i0,hk,m0,hmk,by simp only[cL,gC];omega,m+1,true,_,⟨ab,ab,.inr ⟨rfl,rfl,Z.2.1.getD m.toNat default,?_,h2⟩⟩,ab,?_⟩
     .rw[oG m0 hmk];exact jD _ aw
     ·(repeat refine fR ?_)
      refine⟨?_,aN⟩
      rw[oG m0 hmk,Xv hin h2]
    .cases q
   .refine⟨i0,hk,m0,hmk,by simp only[gC];omega,m+1,f,l++[Z.2.1.getD m.toNat default],⟨ab,ab,?_⟩,ab,aK⟩
    rw[oG m0 hmk]
    rcases hins with⟨rfl,rfl,hin⟩|⟨rfl,rfl,hin⟩
    .refine .inl ⟨rfl,rfl,λx hx=>?_⟩
     rcases fC.1 hx with hx|hx
     .exact hin x hx
     .rw[nz.1 hx]
      grind
    .obtain⟨x,hx,hx2⟩:=hin
     exact .inr ⟨rfl,(RG ⟨x,hx,hx2⟩).symm,x,iA _ hx,hx2⟩
  have hmk:=bi hmk
  rw[fH ab] at hins
  refine ay (λhf=>?_) (λhf=>?_)
  .have hf:f=false:=by simpa using hf
   rcases hins with⟨-,rfl,hin⟩|⟨q,-⟩
   .refine⟨by simp only[gC];omega,hsr,hol,by simp only[cL,gC];omega,fin _ ?_⟩
    rw[eL,Ro hin]
   .rw[hf] at q;cases q
  .have hf:f=true:=by simpa using hf
   rcases hins with⟨q,-⟩|⟨-,rfl,hin⟩
   .rw[hf] at q;cases q
   .exact⟨hsr,hol,ab,fin _ eL⟩
theorem a08:aB 54 Ra.spec:=aF Tryz.func54 (am aC bO4) aN7 ZX
def bJ1(n:Nat)(to:Int):ac:=(replicate n (1000:Int)).set to.toNat 0
def wh(n:Nat)(ls:List cj)(to:Int)(k:Nat):ac:=(range k).foldl (λd _=>ls.foldl yb d) (bJ1 n to)
theorem a88{n:Nat}{i:Int}(h0:0<=i)(h1:i<n):(replicate i.toNat (1000:Int)++replicate (n-i.toNat) 0).set i.toNat 1000=replicate (i+1).toNat 1000++replicate (n-(i+1).toNat) 0:=by
 have e:(i+1).toNat=i.toNat+1:=ab
 have e2:n-i.toNat=(n-(i.toNat+1))+1:=ab
 rw[e,e2,List.set_append_right _ _ aw,wa,Nat.sub_self,List.replicate_succ,List.set_cons_zero,List.replicate_succ',je]
 rfl
def u4(n:Nat)(d:ac):Prop:=d.length=n∧∀ x∈d,0<=x/\x<=1000
theorem Pd{n:Nat}{d:ac}{i:Nat}{v:Int}(h:u4 n d)(h0:0<=v)(h1:v<=1000):u4 n (d.set i v):=by
 refine⟨by rw[fF];exact h.1,λx a=>?_⟩
 rcases zt a with a|rfl
 .exact h.2 x a
 .exact⟨h0,h1⟩
theorem X1{n:Nat}{d:ac}(h:u4 n d){i:Int}(h0:0<=i)(h1:i<n):0<=d.getD i.toNat default/\d.getD i.toNat default<=1000:=h.2 _ (cA h0 (by rw[h.1];exact h1))
theorem bu4{n:Nat}{d:ac}{l:cj}(h:u4 n d)(a:0<=l.1/\l.1<n/\0<=l.2.1/\l.2.1<n):u4 n (yb d l):=by
 have ha:=X1 h a.1 a.2.1
 have hb:=X1 h a.2.2.1 a.2.2.2
 unfold yb lA lB
 exact Pd (Pd h ab ab) ab ab
theorem PS{n:Nat}:∀{ls:List cj}{d:ac},jO n ls->u4 n d->u4 n (ls.foldl yb d)
 | [],d,_,h=>h
 | l::ls,d,a,h=>PS (ls:=ls) (λx hx=>a x (fu _ hx)) (bu4 h (a l fp))
theorem aI5{n:Nat}{ls:List cj}{d:ac}(hg:jO n ls)(h:u4 n d)(j:Nat):u4 n ((ls.take j).foldl yb d) :=
 PS (λx hx=>hg x (qr hx)) h
theorem Pk(n:Nat)(ls:List cj)(to:Int)(a:jO n ls):∀ k,u4 n (wh n ls to k)
 | 0=>Pd ⟨wa,λx hx=>by rw[(List.mem_replicate.1 hx).2];omega⟩ ab ab
 | k+1=>by
  have:=PS a (Pk n ls to a k);unfold wh at this ⊢;rw[lP,ld];exact this
def Wi:Ct:=⟨[.box 109 Cc,.val cI],[.own 3 cI],λd=>[(d.1.1.1.length:Int)<=1000,(d.1.1.2.1.length:Int)<=1000,inN d.1.1.1 d.2.1,jO d.1.1.1.length d.1.1.2.1],λd=>((kM d.1.1.1.length d.1.1.2.1 d.2.1,()),(d.1,()))⟩
def bc5:bp Wi.ps->bI:=(λd=>{loops:=(bt 3 (λS=>{ι:=Int×ac,qn:=eO,μ:=λi=>(d.1.1.1.length-i.1).toNat,inv:=λi=>0<=i.1/\i.1<=d.1.1.1.length/\i.2=replicate i.1.toNat 1000++replicate (d.1.1.1.length-i.1.toNat) 0,keep:=[0,1],slots:=λi=>[(6,.int .i64 i.1),(5,.own 524288 1)],keepN:=[1048576,1048577,2097152,2097153,2097154],names:=λi=>[(524288,.live (.row 3 cI i.2))]}) (bt 8 (λS=>{ι:=Int×ac,qn:=eO,μ:=λi=>(d.1.1.1.length-i.1).toNat,inv:=λi=>0<=i.1/\i.1<=d.1.1.1.length/\i.2=wh d.1.1.1.length d.1.1.2.1 d.2.1 i.1.toNat,keep:=[0,1],slots:=λi=>[(7,.int .i64 i.1),(5,.own 524288 1)],keepN:=[1048576,1048577,2097152,2097153,2097154],names:=λi=>[(524288,.live (.row 3 cI i.2))]}) (bt 11 (λS=>{ι:=Int×ac,qn:=eO,μ:=λi=>(d.1.1.2.1.length-i.1).toNat,inv:=λi=>0<=i.1/\i.1<=d.1.1.2.1.length/\i.2=(d.1.1.2.1.take i.1.toNat).foldl yb (wh d.1.1.1.length d.1.1.2.1 d.2.1 (S.i 7).toNat),keep:=[0,1,7],slots:=λi=>[(8,.int .i64 i.1),(5,.own 524288 1)],keepN:=[1048576,1048577,2097152,2097153,2097154],names:=λi=>[(524288,.live (.row 3 cI i.2))]}) bZ)))})
def G6(a:Int)(b:List ar)(c:ac):=ao a (a<=ae b) (c=replicate a.toNat 1000++replicate (b.length -a.toNat) 0)
def IB(a:Int)(b:List bc)(c:ac)(d:List ar)(e f:Int):=ao a (a<=ae b) (c=List.foldl yb (wh d.length b e f.toNat) (take a.toNat b))
def Nd(a:ac)(b:List bc)(c:Int):=set a (toNat (af b c).1) (min (af a (af b c).1) (ap (af a (af b c).2.1+1)))
theorem aB7:
 ∀(a:List ar)(b:List bc)(c:List bV)(d:ac)(e f:Int),ui a b c d e/\ai (aq f)->(ae a<=1000/\ae b<=1000/\inN a f/\ ∀(g:cj),g∈b->bu g.1 (ae a) (0<=g.2.1) (g.2.1<ae a))->bM (ae a) (ae a) (tE ((↑((8:Nat)):Int)*ae a)) ((∃(g:Int) (h:ac),G6 g a h/\aA f (0=g) (rz d e a b (c=c) (ai (replicate (toNat (ae a)) 0=h))))/\ ∀(g:Int)(h:ac),G6 g a h->au (av g (ae h)) (ao g (g<ae h) (∃(i:Int) (j:ac),G6 i a j/\aZ (ae a) i g/\aA f (aY g i) (rz d e a b (c=c) (ai (set h g.toNat 1000=j))))) (bu f (ae h) (∃(i:Int) (j:ac),ao i (i<=ae a) (j=wh a.length b f i.toNat)/\aA f (0=i) (rz d e a b (c=c) (ai (set h f.toNat 0=j)))) (∀(i:Int)(j:ac),ao i (i<=ae a) (j=wh a.length b f i.toNat)->au (av i (ae j)) ((∃(k:Int) (l:ac),IB k b l a f i/\aU f i (0=k) (rz d e
 a b (c=c) (ai (j=l))))/\ ∀(k:Int)(l:ac),IB k b l a f i->au (av k (ae b)) (ao k (k<ae b) (ao (af b k).1 ((af b k).1<ae l) (ao (af b k).2.1 ((af b k).2.1<ae l) (ao (af b k).2.1 ((af b k).2.1<ae l) (ao (af b k).1 ((af b k).1<ae l) (ao (af b k).1 ((af b k).1<ae l) (ao (af b k).2.1 ((af b k).2.1<ae (Nd l b k)) (∃(m:Int) (n:ac),IB m b n a f i/\aZ (ae b) m k/\aU f i (aY k m) (rz d e a b (c=c) (ai (set (Nd l b k) (toNat (af b k).2.1) (min (af l (af b k).2.1) (ap (af l (af b k).1+1)))=n))))))))))) (∃(m:Int) (n:ac),ao m (m<=ae a) (n=wh a.length b f m.toNat)/\aZ (ae a) m i/\aA f (aY i m) (rz d e a b (c=c) (ai (l=n))))) (j=kM a.length b f/\((a,b,c),d,e)=((a,b,c),d,e))))):= by
  delta af ae ap aq aI aV aU ji bG aA aZ cu ao ui aY ai rz aD bu bM av G6 IB Nd fB tE
  rintro ns ls hs l p to-⟨h1,h2,⟨t0,t1⟩,q⟩
  refine⟨ab,ab,ab,⟨0,_,⟨ab,ab,rfl⟩,?_⟩,?_⟩
  .simp_all
  rintro i d ⟨s,i1,rfl⟩
  have g:(replicate i.toNat (1000:Int)++replicate (ns.length-i.toNat) 0).length=ns.length:=by
   simp_all
  rw[g]
  refine ay (λc=>?_) (λc=>?_)
  .have c:=aX c
   refine⟨s,c,i+1,_,⟨ab,ab,rfl⟩,ab,?_⟩
   (repeat refine tW ?_)
   refine⟨aL ab ab,?_⟩
   (repeat refine tW ?_)
   refine⟨?_,aN⟩
   exact a88 s c
  have c:=bi c
  have e:i.toNat=ns.length:=ab
  rw[e,Nat.sub_self,List.replicate_zero,kY]
  refine⟨t0,t1,⟨0,_,⟨ab,ab,rfl⟩,?_⟩,?_⟩
  ·(repeat refine tW ?_)
   exact⟨rfl,aN⟩
  rintro k d ⟨k0,k1,rfl⟩
  have t:=Pk (ns.length) ls to q
  rw[(t k.toNat).1]
  refine ay (λa=>?_) (λa=>?_)
  rotate_left
  .have a:=bi a
   have e:k.toNat=ns.length:=ab
   rw[e];exact⟨rfl,rfl⟩
  have a:=aX a
  refine⟨⟨0,_,⟨ab,ab,rfl⟩,?_⟩,?_⟩
  .simp_all
  rintro j d ⟨r,j1,rfl⟩
  have f:=aI5 q (t k.toNat) j.toNat
  refine ay (λb=>?_) (λb=>?_)
  rotate_left
  .have b:=bi b
   refine⟨k+1,_,⟨ab,ab,rfl⟩,ab,?_⟩
   (repeat refine tW ?_)
   refine⟨aL ab ab,?_⟩
   (repeat refine tW ?_)
   refine⟨?_,aN⟩
   rw[fH ab,show (k+1).toNat=k.toNat+1 by omega]
   unfold wh
   rw[lP,ld];rfl
  have b:=aX b
  obtain⟨h,m,n,o⟩:=q _ (cA r b)
  generalize hX:List.foldl yb (wh ns.length ls to k.toNat) (ls.take j.toNat)=X at f
  have xa:=f.2 _ (cA h (show _<(X.length:Int) by rw[f.1];exact m))
  have xb:=f.2 _ (cA n (show _<(X.length:Int) by rw[f.1];exact o))
  simp only[fF]
  rw[f.1]
  refine⟨r,b,h,m,n,o,n,o,h,m,h,m,n,o,j+1,_,⟨ab,ab,rfl⟩,ab,?_⟩
  (repeat refine fR ?_)
  refine⟨?_,aN⟩
  rw[aL ab ab,aL ab ab,oG r b,ld,hX]
  rfl
theorem a14:aB 52 Wi.spec:=aF Tryz.func52 aC bc5 aB7
def bK1:Ct:=⟨[.val (.sl d8),.agg p8],[.val .bool],λd=>[okL d.1],λd=>((rB d.1 d.2.1,()),())⟩
theorem aP2:
 ∀(a:List ci)(b c:Int),cO a/\ai (aQ b/\aq c)->uF a->okL a/\rB a (b,c)=rB a (b,c):= by
  delta ae aq aI aQ cO cS cB aG cH uF ai aD mX
  rintro l a n-h
  exact⟨h,rfl⟩
theorem a16:aB 53 bK1.spec:=aF Tryz.func53 (am aC bL2) aS aP2
def bM5:Ct:=⟨[.box 88 j7],[.val db],λd=>[bH d.1],λd=>((IntKind.u32.wrap (167837696+(ax d.1 40).1),()),((ax d.1 40).2,()))⟩
theorem ar8:
 ∀(a:ac)(b:Int),ai (aV a/\aq b)->aD b (ae a)->bH (a,b)/\IntKind.wrap IntKind.u32 (ap (167837696+(ax (a,b) 40).1))=IntKind.wrap IntKind.u32 (167837696+(ax (a,b) 40).1)/\(ax (a,b) 40).2=(ax (a,b) 40).2:= by
  delta ae ap aq aI aV ai aD
  rintro l p ⟨⟨⟨hl,hw⟩,-⟩,-⟩ b
  have a:dF (l,p):=⟨b,hw⟩
  have r2:=f5 a (n:=40) ab
  refine⟨b,?_,rfl⟩
  rw[aL ab ab]
theorem YA:aB 55 bM5.spec:=aF Tryz.func55 (am aC Cd) aS ar8
def r7(d:ac)(to:Int)(p:fD)(plain:Bool)(k way:Int)(ns:List ar)(l:cj)(e:Int):List ar :=
 if e=0 then ns else if e=1 then uK d to p plain k way ns (lA l) (lB l) else uK d to p plain k way (uK d to p plain k way ns (lA l) (lB l)) (lB l) (lA l)
structure preR (s:bU):Prop where
 c:bH s.2
 n:(s.1.1.length:Int)<=1000
 l:(s.1.2.1.length:Int)<=1000
 g:jO s.1.1.length s.1.2.1
 r:∀ x∈s.1.1,bL x=[]
 a:((kq s.1.1).length:Int)<=100000
theorem bM8{ns:List ar}{i:Nat}(hi:i<ns.length):(aM (ns.getD i default)).length<=(kq ns).length:=by
 have hx:ns.getD i default∈ns:=by
  simp_all
 unfold kq
 obtain⟨u,v,e⟩:=List.append_of_mem hx
 grind
theorem RI.pre{ls:List cj}{ns0 ns:List ar}(h:RI ls (kq ns0) ns0 ns)(ha:((kq ns0).length:Int)<=100000)(hl:(ls.length:Int)<=1000){u:Int}(u0:0<=u)(u1:u<ns0.length) :
  inN ns u/\dS (bL (ns.getD u.toNat default))/\okL (bL (ns.getD u.toNat default))∧∀ r∈bL (ns.getD u.toNat default),(r.2.1.length:Int)<=1000:=by
 have t:=h.t u.toNat ab
 have tl:=Lu t
 have b:∀ r∈bL (ns.getD u.toNat default),(r.2.1.length:Int)<=1000:=λr a=>by have:=NM (t.2 r a);omega
 refine⟨⟨u0,by rw[h.n];exact u1⟩,t.1,⟨ab,λr a=>?_⟩,b⟩
 have:=b r a;omega
def Sf:Ct:=⟨[.box 109 Cc,.val .bool],[],λd=>[preR d.1],λd=>((),(Fw d.1 d.2.1,()))⟩
def aB1:bp Sf.ps->bI:=(λd=>{loops:=(bt 1 (λS=>{ι:=Int×(List ar)×bm,qn:=pI,μ:=λi=>(d.1.1.1.length-i.1).toNat,inv:=λi=>0<=i.1/\i.1<=d.1.1.1.length/\(i.2.1,i.2.2)=(range i.1.toNat).foldl (stepT d.1.1.2.1 d.2.1) (d.1.1.1,d.1.2),keep:=[0,1],slots:=λi=>[(4,.int .i64 i.1)],names:=λi=>[(1048576,.live (.cells 109 [.own 524288 16,.own 524289 6,.own 524290 7,.ptr 1048577 0])),(524288,.live (.row 117 dK i.2.1)),(524289,.live (.row 164 rb d.1.1.2.1)),(524290,.live (.row 178 kO d.1.1.2.2)),(1048577,.live (.cells 88 (cQ j7 i.2.2)))]}) (bt 9 (λS=>{ι:=Int×(List ar),qn:=eO,μ:=λi=>((S.l wB 7).length-i.1).toNat,inv:=λi=>0<=i.1/\i.1<=(S.l wB 7).length/\i.2=((S.l wB 7).take i.1.toNat).foldl (stepP d.1.1.2.1 (kM d.1.1.1.length d.1.1.2.1 (S.i 4)) (S.i 4) d.2.1 (S.i 6)) (S.r dK 449),keep:=[0,1,4,5,6,7],slots:=λi=>[(8,.int .i64 i.1)],keepN:=[448,1048577],names:=λi=>[(1048576,.live (.cells 109 [.own 524288 16,.own 524289 6,.own 524290 7,.ptr 1048577 0])),(524288,.live (.row 117 dK i.2)),(524289,.live (.row 164 rb d.1.1.2.1)),(524290,.live (.row 178 kO d.1.1.2.2))]}) (bt 13 (λS=>{ι:=Int×(List ar),qn:=eO,μ:=λi=>(d.1.1.2.1.length-i.1).toNat,inv:=λi=>0<=i.1/\i.1<=d.1.1.2.1.length/\i.2=(range i.1.toNat).foldl (stepK d.1.1.2.1 (kM d.1.1.1.length d.1.1.2.1 (S.i 4)) (S.i 4) (S.c p8 160) d.2.1 (S.i 6)) (S.r dK 524288),keep:=[0,1,4,5,6,7,8,9],slots:=λi=>[(10,.int .i64 i.1)],keepN:=[160,448,1048577],names:=λi=>[(1048576,.live (.cells 109 [.own 524288 16,.own 524289 6,.own 524290 7,.ptr 1048577 0])),(524288,.live (.row 117 dK i.2)),(524289,.live (.row 164 rb d.1.1.2.1)),(524290,.live (.row 178 kO d.1.1.2.2))]}) (bt 18 (λS=>{ι:=Int×(List ar),qn:=eO,μ:=λi=>(2-i.1).toNat,inv:=λi=>0<=i.1/\i.1<=2/\i.2=r7 (kM d.1.1.1.length d.1.1.2.1 (S.i 4)) (S.i 4) (S.c p8 160) d.2.1 (S.i 10) (S.i 6) (S.r dK 524288) (S.c rb 192) i.1,keep:=[0,1,4,5,6,7,8,9,10,11,12],slots:=λi=>[(13,.int .i64 i.1)],keepN:=[160,192,448,1504,1048577],names:=λi=>[(1048576,.live (.cells 109 [.own 524288 16,.own 524289 6,.own 524290 7,.ptr 1048577 0])),(524288,.live (.row 117 dK i.2)),(524289,.live (.row 164 rb d.1.1.2.1)),(524290,.live (.row 178 kO d.1.1.2.2))]}) bZ)))),cuts:=(bt 7 (λS=>{ι:=Int×bm,qn:=eO,inv:=λi=>(i.1,i.2)=qS ((range (S.i 4).toNat).foldl (stepT d.1.1.2.1 d.2.1) (d.1.1.1,d.1.2)).2,keep:=[0,1,4,5],slots:=λi=>[(6,.int .i64 i.1)],keepN:=[448,1048576,449,450,451],names:=λi=>[(1048577,.live (.cells 88 (cQ j7 i.2)))]}) bZ)})
def rM(a:List bc)(b:Int):=[((af a b).1,(af a b).2.1),((af a b).2.1,(af a b).1)]
def Fq(a:List bc)(b:Int)(c:Nat)(d:Int)(e:bU1)(f g:Prop):=ce (af a b).2.1 (af a b).2.2.1 (af a b).2.2.2.1 (af a b).2.2.2.2.1 (af a b).2.2.2.2.2 (kM c a d=kM c a d) (e=e/\f/\g)
def xR(a:List ar)(b:List bc)(c:Int):=kM a.length b c=kM a.length b c
def qD(a:Int×bm)(b:ac)(c d:Int):=a.2.1=b/\ai (c=d)
def pA(a:List ar)(b c:Int):=(af (af a b).1 c).1
def xK(a:List ar)(b:Int):=(af a b).1=(af a b).1
def ug(a:Int):=range a.toNat
def te(a:List bc)(b c:Int):=(af (rM a b) c).1
def yn(a:Int)(b c:List ar)(d:List bc)(e:List bV):=aA a (b=c) (d=d/\ai (e=e))
theorem ZM:
 ∀(a:List ar)(b:List bc)(c:List bV)(d:ac)(e:Int)(f:Bool),ui a b c d e/\ai True->preR ((a,b,c),d,e)->(∃(g:Int) (h:List ar) (i:bm),ao g (g<=ae a) ((h,i)=List.foldl (stepT b f) (a,d,e) (ug g))/\f=f/\0=g/\a=h/\b=b/\c=c/\d=i.1/\ai (e=i.2))/\ ∀(g:Int)(h:List ar)(i:bm),ao g (g<=ae a) ((h,i)=List.foldl (stepT b f) (a,d,e) (ug g))->au (av g (ae h)) (ae h<=1000/\ae b<=1000/\inN h g/\jO h.length b/\bH i/\(∀(j:Bool),j=decide (wC (ax i 3)=3)->cG j j (aT j) (j->aT j) (pJ j j (bH (ax i 3).2) ((j->j)/\au (bw j (av 0 (ax (ax i 3).2 3).1)) (∃(k:Int) (l:bm),(k,l)=qS (List.foldl (stepT b f) (a,d,e) (ug g)).2/\f=f/\aA g (1=k) (xR h b g/\h=h/\b=b/\c=c/\qD (ax (ax i 3).2 3) l.1 (ax (ax i 3).2 3).2.2 l.2)) (∃(k:Int) (l:bm),(k,l)=qS (List.foldl (stepT b f) (a,d,e) (ug g)).2/\f=f/\aA g
 (wC (ax i 3)=k) (xR h b g/\h=h/\b=b/\c=c/\qD (ax (ax i 3).2 3) l.1 (ax (ax i 3).2 3).2.2 l.2))) (j->false) (au (bw j false) (∃(k:Int) (l:bm),(k,l)=qS (List.foldl (stepT b f) (a,d,e) (ug g)).2/\f=f/\aA g (1=k) (xR h b g/\h=h/\b=b/\c=c/\qD (ax i 3) l.1 (ax i 3).2.2 l.2)) (∃(k:Int) (l:bm),(k,l)=qS (List.foldl (stepT b f) (a,d,e) (ug g)).2/\f=f/\aA g (wC (ax i 3)=k) (xR h b g/\h=h/\b=b/\c=c/\qD (ax i 3) l.1 (ax i 3).2.2 l.2)))))/\ ∀(j:Int)(k:bm),(j,k)=qS (List.foldl (stepT b f) (a,d,e) (ug g)).2->bu g (ae h) (∃(l:Int) (m:List ar),ao l (l<=ae (af h g).1) (m=List.foldl (stepP b (kM a.length b g) g f j) h (take l.toNat (af h g).1))/\f=f/\aU g j (xK h g) (0=l/\xR h b g/\k.1=k.1/\yn k.2 h m b c)) (∀(l:Int)(m:List ar),ao l (l<=ae (af h g).1) (m=List.foldl (stepP b (kM
 a.length b g) g f j) h (take l.toNat (af h g).1))->au (av l (ae (af h g).1)) (bu l (ae (af h g).1) (∃(n:Int) (o:List ar),ao n (n<=ae b) (o=List.foldl (stepK b (kM a.length b g) g (pA h g l,32) f j) m (ug n))/\f=f/\aU g j (xK h g) (aA l (0=n) (aU (pA h g l) 32 (xR h b g) (k.1=k.1/\yn k.2 m o b c)))) (∀(n:Int)(o:List ar),ao n (n<=ae b) (o=List.foldl (stepK b (kM a.length b g) g (pA h g l,32) f j) m (ug n))->au (av n (ae b)) (bu n (ae b) (∃(p:Int) (q:List ar),ao p (p<=2) (q=r7 (kM a.length b g) g (pA h g l,32) f n j o (af b n) p)/\f=f/\aU g j (xK h g) (aU l n (0=p) (aU (pA h g l) 32 ((af b n).1=(af b n).1) (Fq b n h.length g (rM b n) (k.1=k.1) (yn k.2 o q b c))))) (∀(p:Int)(q:List ar),ao p (p<=2) (q=r7 (kM a.length b g) g (pA h g l,32) f n j o (af b n) p)->au (av p 2)
 (ao p (p<ae (rM b n)) (ao (te b n p) (te b n p<ae (kM h.length b g)) (ao (af (rM b n) p).2 ((af (rM b n) p).2<ae (kM h.length b g)) (∀(r:Bool),r=bW (af (kM h.length b g) (te b n p)) (ap (af (kM h.length b g) (af (rM b n) p).2+1))->bO r/\fZ r/\bO r/\ ∀(s:Bool),s=bW (af (rM b n) p).2 g->vl ( !r&&s) ( !r&&s) (aT ( !r&&s)) ( !r&&s->iM ( !r&&s) ( !r&&s) (af (rM b n) p).2 ((af (rM b n) p).2<ae q)) (cG ( !r&&s) ( !r&&s) (aT ( !r&&s)) (za r s) (br r/\au (bn r (bw s (af q (af (rM b n) p).2).2.2.2.1)) (∃(t:Int) (u:List ar),ao t (t<=2) (u=r7 (kM a.length b g) g (pA h g l,32) f n j o (af b n) t)/\aZ 2 t p/\f=f/\aU g j (xK h g) (aU l n (aY p t) (aU (pA h g l) 32 ((af b n).1=(af b n).1) (Fq b n h.length g (rM b n) (k.1=k.1) (yn k.2 q u b c))))) (∀(t:Bool),t=f->vl t t
 (aT t) (t->iM t t (te b n p) (te b n p<ae q)) (ia t t ((t->t)/\(t->t)/\ai (okL (af q (te b n p)).2.2.2.2.1)) (t->t) (au (bw t (rB (af q (te b n p)).2.2.2.2.1 (pA h g l,32))) (∃(u:Int) (v:List ar),ao u (u<=2) (v=r7 (kM a.length b g) g (pA h g l,32) f n j o (af b n) u)/\aZ 2 u p/\f=f/\aU g j (xK h g) (aU l n (aY p u) (aU (pA h g l) 32 ((af b n).1=(af b n).1) (Fq b n h.length g (rM b n) (k.1=k.1) (yn k.2 q v b c))))) (inN q (te b n p)/\dS (bL (af q (te b n p)))/\okL (bL (af q (te b n p)))/\(∀(u:ci),u∈bL (af q (te b n p))->ae u.2.1<=1000)/\ ∃(u:Int) (v:List ar),ao u (u<=2) (v=r7 (kM a.length b g) g (pA h g l,32) f n j o (af b n) u)/\aZ 2 u p/\f=f/\aU g j (xK h g) (aU l n (aY p u) (aU (pA h g l) 32 ((af b n).1=(af b n).1) (Fq b n h.length g (rM
 b n) (k.1=k.1) (yn k.2 (vB q (te b n p) (pA h g l,32) n j) v b c)))))))))))))) (∃(r:Int) (s:List ar),ao r (r<=ae b) (s=List.foldl (stepK b (kM a.length b g) g (pA h g l,32) f j) m (ug r))/\aZ (ae b) r n/\f=f/\aU g j (xK h g) (aA l (aY n r) (aU (pA h g l) 32 (xR h b g) (k.1=k.1/\yn k.2 q s b c)))))) (∃(p:Int) (q:List ar),ao p (p<=ae (af h g).1) (q=List.foldl (stepP b (kM a.length b g) g f j) h (take p.toNat (af h g).1))/\aZ (ae (af h g).1) p l/\f=f/\aU g j (xK h g) (aY l p/\xR h b g/\k.1=k.1/\yn k.2 o q b c)))) (∃(n:Int) (o:List ar) (p:bm),ao n (n<=ae a) ((o,p)=List.foldl (stepT b f) (a,d,e) (ug n))/\aZ (ae a) n g/\f=f/\aY g n/\m=o/\b=b/\c=c/\k.1=p.1/\ai (k.2=p.2)))) (((h,b,c),i)=Fw ((a,b,c),d,e) f):= by
  delta af ae ap aq aI bO aV aT aU ji bG aA bn cG rM aZ bw cu ao br fZ ui Fq xR ia iM aY ce qD ai pA pJ aD bW bu d7 xK av vl za ug wC te fB yn
  rintro ns0 ls hs l p plain ⟨⟨-,⟨hl,hw⟩,-⟩,-⟩⟨hc,h1,h2,hg,hr,ha⟩
  dsimp only at hc h1 h2 hg hr ha
  have hB:dF (l,p):=⟨hc,hw⟩
  have base:∀ n,n<=ns0.length->RI ls (kq ns0) ns0 ((range n).foldl (stepT ls plain) (ns0,(l,p))).1/\dF ((range n).foldl (stepT ls plain) (ns0,(l,p))).2:=λn hn=>RI.stepTs (ns0:=ns0) (s:=(ns0,(l,p))) ⟨RI.start hr,hB⟩ hg hn
  refine⟨⟨0,ns0,(l,p),⟨ab,ab,rfl⟩,aK⟩,?_⟩
  rintro to ns cs ⟨t0,t1,hF⟩
  obtain⟨R,hcs⟩:=base to.toNat ab
  have e1:=(fj Prod.fst hF).symm
  have e2:=(fj Prod.snd hF).symm
  dsimp only at e1 e2
  rw[e1] at R
  rw[e2] at hcs ⊢
  have hn:=R.n
  simp only[hn]
  refine ay (λht=>?_) (λht=>?_)
  rotate_left
  .have ht:=bi ht
   have e:to.toNat=ns0.length:=ab
   rw[e] at e1 e2
   unfold Fw
   dsimp only
   rw[e1,e2]
  have ht:=aX ht
  have v3:=f5 hcs (n:=3) ab
  have k1:=(dV hcs 3).1
  have k2:=(dV k1 3).1
  refine⟨h1,h2,⟨t0,by rw[hn];exact ht⟩,hg,hcs.at',?_,?_⟩
  .rw[aL (n:=1+_) ab ab]
   (repeat (refine dq ?_;repeat refine dm ?_))
   refine ay (λkb=>?_) (λkb=>?_)
   .simp only[kb,cond_true]
    have kb:=aX kb
    refine⟨λh=>h,k1.at',λh=>h,bP (λkc=>?_) (λkc=>?_)⟩
    .refine⟨1,_,?_,aK⟩
     rw[qS,aj kb,aj kc]
    .refine⟨_,_,?_,aK⟩
     rw[qS,aj kb,ah kc,kb]
   .simp only[kb,sg]
    have kb:=bi kb
    refine⟨aN,λh=>h,?_⟩
    rw[ml]
    refine⟨_,_,?_,aK⟩
    rw[qS,ah kb]
  rintro way cs' hW
  have hw3:=TN hcs
  rw[← hW] at hw3
  obtain⟨hcs',w0,w1⟩:=hw3
  dsimp only at hcs' w0 w1
  have hD:u4 ns0.length (kM ns0.length ls to):=Pk ns0.length ls to hg _
  generalize eD:kM ns0.length ls to=D at hD ⊢
  have hP:∀ q∈(ns.getD to.toNat default).1,q.1∈kq ns0:=λq hq=>by
   have:aM (ns.getD to.toNat default)=aM (ns0.getD to.toNat default):=R.ports ab
   refine Uj (i:=to.toNat) ab (q:=q) ?_
   rw[← this];exact hq
  have hPl:((ns.getD to.toNat default).1.length:Int)<=100000:=by
   have:aM (ns.getD to.toNat default)=aM (ns0.getD to.toNat default):=R.ports ab
   have e:(ns.getD to.toNat default).1=aM (ns0.getD to.toNat default):=this
   rw[e]
   have:=bM8 (ns:=ns0) (i:=to.toNat) ab
   omega
  generalize eP:(ns.getD to.toNat default).1=P at hP hPl ⊢
  refine⟨t0,ht,⟨0,ns,⟨ab,ab,rfl⟩,aK⟩,?_⟩
  rintro i ns1 ⟨i0,i1,hn1⟩
  have R1:RI ls (kq ns0) ns0 ns1:=by
   rw[hn1];exact R.stepPs hg w0 w1 λq hq=>hP q (qr hq)
  refine ay (λhi=>?_) (λhi=>?_)
  rotate_left
  .have hi:=bi hi
   refine⟨to+1,ns1,cs',⟨ab,ab,?_⟩,ab,aK⟩
   rw[show (to+1).toNat=to.toNat+1 by omega,lP,ld,← hF,List.foldl_cons,List.foldl_nil,stepT]
   dsimp only
   rw[← hW,hn,show ((to.toNat:Nat):Int)=to by omega,eD,hn1,fH ab,← eP]
   rfl
  have hi:=aX hi
  have hq:=hP _ (cA i0 hi)
  generalize eq:(P.getD i.toNat default).1=q at hq ⊢
  refine⟨i0,hi,⟨0,ns1,⟨ab,ab,rfl⟩,aK⟩,?_⟩
  rintro k ns2 ⟨k0,kl,hn2⟩
  have R2:RI ls (kq ns0) ns0 ns2:=by
   rw[hn2];exact R1.stepKs (p:=(q,32)) hg rfl hq w0 w1 ab
  refine ay (λhk=>?_) (λhk=>?_)
  rotate_left
  .have hk:=bi hk
   refine⟨i+1,ns2,⟨ab,ab,?_⟩,ab,aK⟩
   rw[oG i0 hi,ld,← hn1,List.foldl_cons,List.foldl_nil,stepP,hn2,eq,show k.toNat=ls.length by omega]
  have hk:=aX hk
  have hh:=hg.at' (k:=k.toNat) ab
  have la:=XQ (ls:=ls) (k:=k.toNat) ab
  have lb:=Si (ls:=ls) (k:=k.toNat) ab
  rw[show ((k.toNat:Nat):Int)=k by omega] at la lb
  refine⟨k0,hk,⟨0,ns2,⟨ab,ab,rfl⟩,aK⟩,?_⟩
  rintro e ns3 ⟨e0,el,hn3⟩
  refine ay (λhe=>?_) (λhe=>?_)
  rotate_left
  .have he:=bi he
   have he:e=2:=ab
   subst he
   refine⟨k+1,ns3,⟨ab,ab,?_⟩,ab,aK⟩
   rw[show (k+1).toNat=k.toNat+1 by omega,lP,ld,← hn2,List.foldl_cons,List.foldl_nil,stepK,hn3,r7,ah ab,ah ab,show ((k.toNat:Nat):Int)=k by omega]
  have he:=aX he
  obtain⟨u,v,hL,hS,hu,hv,hk',R3⟩:∃ u v,([((ls.getD k.toNat default).1,(ls.getD k.toNat default).2.1),((ls.getD k.toNat default).2.1,(ls.getD k.toNat default).1)]:List bT2).getD e.toNat default=(u,v) ∧
    r7 D to (q,32) plain k way ns2 (ls.getD k.toNat default) (e+1)=uK D to (q,32) plain k way ns3 u v/\(0<=u/\u<ns0.length)/\(0<=v/\v<ns0.length)/\lnk ls u k/\RI ls (kq ns0) ns0 ns3:=by
   rcases (show e=0∨e=1 by omega) with rfl|rfl
   .refine⟨_,_,rfl,?_,hh.1,hh.2,la,?_⟩
    .rw[hn3,r7,r7,ah ab,aj ab,aj rfl];rfl
    .rw[hn3,r7,aj rfl];exact R2
   .refine⟨_,_,rfl,?_,hh.2,hh.1,lb,?_⟩
    .rw[hn3,r7,r7,ah ab,ah ab,ah ab,aj rfl];rfl
    .rw[hn3,r7,ah ab,aj rfl]
     exact R2.step (p:=(q,32)) hh.1.1 hh.1.2 rfl hq la w0 w1
  have hn3':=R3.n
  simp only[hL,hn3',hD.1]
  have dv:=hD.2 _ (cA hv.1 (show v<D.length by rw[hD.1];exact hv.2))
  rw[aL (n:=D.getD v.toNat default+1) ab ab]
  have pr:=R3.pre ha h2 hu.1 hu.2
  refine⟨e0,by simp only[dP,List.length_nil];omega,hu.1,hu.2,hv.1,hv.2,?_⟩
  intro b hb
  refine⟨aw,aw,aw,?_⟩
  intro b1 hb1
  refine⟨aw,aw,aw,aw,aw,λh=>⟨λ_=>h,λ_=>h,hv.1,hv.2,aN⟩,aw,aw,λh=>⟨λ_=>h,λh1=>by simp only[h,h1];rfl,aN⟩,λh=>by rw[h];rfl,?_⟩
  refine vL (λho=>?_) (λho1 ho2=>?_)
  .refine⟨e+1,ns3,⟨ab,ab,?_⟩,ab,aK⟩
   rw[hS,uK,aj]
   rcases ho with ho|ho
   .rw[hb] at ho;exact .inl (ke ho)
   .rcases b1 with _|_
    .cases ho
    .exact .inr ⟨ke hb1.symm,ho⟩
  have hN:¬ (D.getD u.toNat default≠D.getD v.toNat default+1∨(v≠to/\pv (ns3.getD v.toNat default)=true)):=by
   rw[hb] at ho1
   rintro (h|⟨h,h'⟩)
   .exact h (kS ho1)
   .rw[hb1,fh h] at ho2
    rw[show pv (ns3.getD v.toNat default)=(ns3.getD v.toNat default).2.2.2.1 from rfl] at h'
    rw[h'] at ho2;cases ho2
  intro b2 hb2
  subst hb2
  refine⟨aw,aw,aw,aw,aw,λh=>⟨λ_=>h,λ_=>h,hu.1,hu.2,aN⟩,aw,aw,λh=>⟨λ_=>h,λ_=>h,pr.2.2.1,aN⟩,λh=>h,?_⟩
  refine z8 (λha1 ha2=>?_) (λhna=>?_)
  .refine⟨e+1,ns3,⟨ab,ab,?_⟩,ab,aK⟩
   rw[hS,uK,ah hN,aj ⟨ha1,ha2⟩]
  .refine⟨pr.1,pr.2.1,pr.2.2.1,pr.2.2.2,e+1,_,⟨ab,ab,?_⟩,ab,aK⟩
   rw[hS,uK,ah hN,ah]
   rintro⟨x1,x2⟩
   rcases hna with h|h
   .rw[h] at x1;cases x1
   .rw[show bL (ns3.getD u.toNat default)=(ns3.getD u.toNat default).2.2.2.2.1 from rfl,h] at x2;cases x2
theorem aF0:aB 24 Sf.spec:=aF Tryz.func24 (am (am (am (am aC a14) Cd) a16) a08) aB1 ZM
structure preO (s:bU):Prop where
 c:bH s.2
 n0:0<s.1.1.length
 n:(s.1.1.length:Int)<=1000
 l:(s.1.2.1.length:Int)<=1000
 g:jO s.1.1.length s.1.2.1
 h:s.1.2.2=[]
 a:((kq s.1.1).length:Int)<=100000
 p:∀ x∈s.1.1,bL x≠[]->0<(aM x).length/\(aM x).length<=1000/\(bL x).length<=100000
def oN(s:bU)(i:Int):List ar×bm:=(range i.toNat).foldl Bv (s.1.1,s.2)
def oL(s:bU)(i:Int):(List ar×List cj)×bm:=(range i.toNat).foldl ww (((oN s s.1.1.length).1,s.1.2.1),(oN s s.1.1.length).2)
def oC(s:bU)(i:Nat):List bV×Int×bm:=(range i).foldl (λc _=>tv (oL s s.1.2.1.length).1.1 c) ([],0,(ax (oL s s.1.2.1.length).2 4).2)
def oK(s:bU):Int:=(ax (oL s s.1.2.1.length).2 4).1
structure AG (ns0 ns:List ar):Prop where
 n:ns.length=ns0.length
 e:∀ i:Nat,i<ns0.length->aM (ns.getD i default)=aM (ns0.getD i default)/\bL (ns.getD i default)=bL (ns0.getD i default)
theorem AG.set{ns0 ns:List ar}(h:AG ns0 ns){i:Nat}(hi:i<ns0.length){x:ar}(b:aM x=aM (ns.getD i default)/\bL x=bL (ns.getD i default)):AG ns0 (ns.set i x):=by
 refine⟨by rw[fF];exact h.n,λj a=>?_⟩
 by_cases e:i=j
 .subst e;rw[lD (by rw[h.n];exact hi)];exact⟨b.1.trans (h.e _ a).1,b.2.trans (h.e _ a).2⟩
 .rw[o5 e];exact h.e _ a
theorem bq6(x:ar)(i:Int)(c:bm):aM (jp x i c).1=aM x/\bL (jp x i c).1=bL x:=by
 unfold jp
 dsimp only
 repeat' split
 all_goals exact⟨rfl,rfl⟩
theorem PU{x:ar}{i:Int}{c:bm}(h:dF c):dF (jp x i c).2:=by
 unfold jp
 dsimp only
 repeat' split
 all_goals first|exact (dV h _).1|exact (dV (dV h _).1 _).1|exact (dV (dV (dV h _).1 _).1 _).1
theorem aJ1(x:ar)(i:Int)(c:bm):aM (Bz x i c).1=aM x/\bL (Bz x i c).1=bL x:=bq6 x i c
theorem bP5{x:ar}{i:Int}{c:bm}(h:dF c):dF (Bz x i c).2:=by
 have k:=PU (x:=x) (i:=i) h
 exact (dV (dV (dV k _).1 _).1 _).1
theorem Np(s:bU)(h:dF s.2){i:Int}(hi:i<=s.1.1.length):AG s.1.1 (oN s i).1/\dF (oN s i).2:=by
 refine DC (λc:List ar×bm=>AG s.1.1 c.1/\dF c.2) _ ⟨⟨rfl,λ_ _=>⟨rfl,rfl⟩⟩,h⟩ λk a c b=>?_
 have a:=List.mem_range.1 a
 exact⟨b.1.set ab (aJ1 _ _ _),bP5 b.2⟩
theorem R6(s:bU){i:Int}(h0:0<=i):oN s (i+1)=Bv (oN s i) i.toNat:=by
 unfold oN
 rw[show (i+1).toNat=i.toNat+1 by omega,lP,ld];rfl
theorem RJ(l:cj)(c:bm):lA (odLink l c).1=lA l/\lB (odLink l c).1=lB l:=by
 unfold odLink
 dsimp only
 repeat' split
 all_goals exact⟨rfl,rfl⟩
theorem bi1{l:cj}{c:bm}(h:dF c):dF (odLink l c).2:=by
 unfold odLink
 dsimp only
 repeat' split
 all_goals first|exact (dV h _).1|exact (dV (dV h _).1 _).1
theorem jO.set{n:Nat}{ls:List cj}(h:jO n ls){x:cj}(hx:0<=x.1/\x.1<n/\0<=x.2.1/\x.2.1<n)(i:Nat):jO n (ls.set i x):=λy a=>by
 rcases zt a with a|rfl
 .exact h y a
 .exact hx
theorem jO.odLink{n:Nat}{ls:List cj}(h:jO n ls){i:Nat}(hi:i<ls.length)(c:bm):jO n (ls.set i (odLink (ls.getD i default) c).1):=by
 have k:=RJ (ls.getD i default) c
 have g:=h.at' hi
 refine h.set ?_ i
 show 0<=lA _/\lA _<_/\0<=lB _/\lB _<_
 simp_all
theorem a41{ns0 ns:List ar}(h:AG ns0 ns){l:cj}(hl:0<=lB l/\lB l<ns0.length):AG ns0 (vG ns l):=by
 unfold vG
 split
 .exact h.set ab ⟨rfl,rfl⟩
 .exact h
theorem AL(s:bU)(h:dF s.2)(hg:jO s.1.1.length s.1.2.1){i:Int}(hi:i<=s.1.2.1.length) :
  AG s.1.1 (oL s i).1.1/\dF (oL s i).2/\jO s.1.1.length (oL s i).1.2/\(oL s i).1.2.length=s.1.2.1.length:=by
 have b:=Np s h (i:=s.1.1.length) ab
 refine DC (λc:(List ar×List cj)×bm=>AG s.1.1 c.1.1/\dF c.2/\jO s.1.1.length c.1.2/\c.1.2.length=s.1.2.1.length) _ ⟨b.1,b.2,hg,rfl⟩ λk d c hc=>?_
 have d:=List.mem_range.1 d
 obtain⟨c1,c2,f,c4⟩:=hc
 have a:k<c.1.2.length:=ab
 have g:=f.at' a
 have e:=RJ (c.1.2.getD k default) c.2
 refine⟨a41 c1 ?_,bi1 c2,f.odLink a _,by simp only[ww,fF];exact c4⟩
 rw[e.2];exact g.2
theorem Ru(s:bU){i:Int}(h0:0<=i):oL s (i+1)=ww (oL s i) i.toNat:=by
 unfold oL
 rw[show (i+1).toNat=i.toNat+1 by omega,lP,ld];rfl
theorem MN(s:bU)(i:Nat):oC s (i+1)=tv (oL s s.1.2.1.length).1.1 (oC s i):=by
 unfold oC
 rw[lP,ld];rfl
theorem bI7{ns:List ar}{s:List bV×Int×bm}(h:dF s.2.2):dF (tv ns s).2.2/\s.2.1<=(tv ns s).2.1/\(tv ns s).2.1<=s.2.1+60/\(tv ns s).1.length<=s.1.length+1:=by
 have a:=f5 h (n:=60) ab
 have k1:=(dV h 60).1
 have k2:=(dV k1 ns.length).1
 unfold tv
 dsimp only
 split
 .grind
 .exact⟨(dV (dV (dV k2 _).1 _).1 _).1,by dsimp only;omega,by simp;omega⟩
theorem PJ(s:bU)(h:dF s.2)(a:jO s.1.1.length s.1.2.1):∀ i:Nat,dF (oC s i).2.2/\0<=(oC s i).2.1/\(oC s i).2.1<=60*i/\(oC s i).1.length<=i
 | 0=>⟨(dV (AL s h a (gH _)).2.1 4).1,gH _,gH _,eT _⟩
 | i+1=>by
  have k:=PJ s h a i;have m:=bI7 (ns:=(oL s s.1.2.1.length).1.1) k.1;rw[MN];grind
def Ss:Ct:=⟨[.box 109 Cc],[],λd=>[preO d.1],λd=>((),(rK d.1,()))⟩
def at5:bp Ss.ps->bI:=(λd=>{loops:=(bt 2 (λS=>{ι:=Int×(List ar)×bm,qn:=pI,μ:=λi=>(d.1.1.1.length-i.1).toNat,inv:=λi=>0<=i.1/\i.1<=d.1.1.1.length/\(i.2.1,i.2.2)=oN d.1 i.1,keep:=[0,2],slots:=λi=>[(3,.int .i64 i.1)],keepN:=[1048576,2097153,2097154],names:=λi=>[(2097152,.live (.row 117 dK i.2.1)),(1048577,.live (.cells 88 (cQ j7 i.2.2)))]}) (bt 20 (λS=>{ι:=Int×(List ar)×(List cj)×bm,qn:=HJ,μ:=λi=>(d.1.1.2.1.length-i.1).toNat,inv:=λi=>0<=i.1/\i.1<=d.1.1.2.1.length/\((i.2.1,i.2.2.1),i.2.2.2)=oL d.1 i.1,keep:=[0,2],slots:=λi=>[(5,.int .i64 i.1)],keepN:=[1048576,2097154],names:=λi=>[(2097152,.live (.row 117 dK i.2.1)),(2097153,.live (.row 164 rb i.2.2.1)),(1048577,.live (.cells 88 (cQ j7 i.2.2.2)))]}) (bt 32 (λS=>{ι:=Int×Int×(List bV)×bm,qn:=HJ,μ:=λi=>i.1.toNat,inv:=λi=>0<=i.1/\i.1<=oK d.1/\(i.2.2.1,i.2.1,i.2.2.2)=oC d.1 (oK d.1-i.1).toNat,keep:=[0,2],slots:=λi=>[(8,.int .i64 i.1),(7,.int .i64 i.2.1)],keepN:=[2097152,2097153],names:=λi=>[(1048576,.live (.cells 109 [.own 2097152 16,.own 2097153 6,.own 524288 7,.ptr 1048577 0])),(524288,.live (.row 178 kO i.2.2.1)),(1048577,.live (.cells 88 (cQ j7 i.2.2.2)))]}) bZ))),cuts:=(bt 18 (λS=>{ι:=(List ar)×bm,qn:=eO,inv:=λi=>i.1=(oN d.1 (S.i 3)).1.set (S.i 3).toNat (jp ((oN d.1 (S.i 3)).1.getD (S.i 3).toNat default) (S.i 3) (oN d.1 (S.i 3)).2).1/\i.2=(jp ((oN d.1 (S.i 3)).1.getD (S.i 3).toNat default) (S.i 3) (oN d.1 (S.i 3)).2).2,keep:=[0,2,3,4],slots:=λi=>[],keepN:=[1048576,2097153,2097154],names:=λi=>[(2097152,.live (.row 117 dK i.1)),(1048577,.live (.cells 88 (cQ j7 i.2)))]}) (bt 28 (λS=>{ι:=(List cj)×bm,qn:=eO,inv:=λi=>i.1=(oL d.1 (S.i 5)).1.2.set (S.i 5).toNat (odLink ((oL d.1 (S.i 5)).1.2.getD (S.i 5).toNat default) (oL d.1 (S.i 5)).2).1/\i.2=(odLink ((oL d.1 (S.i 5)).1.2.getD (S.i 5).toNat default) (oL d.1 (S.i 5)).2).2,keep:=[0,2,5,6],slots:=λi=>[],keepN:=[1048576,2097152,2097154],names:=λi=>[(2097153,.live (.row 164 rb i.1)),(1048577,.live (.cells 88 (cQ j7 i.2)))]}) bZ))})
def Fk(a:List ar)(b:Int)(c:ar)(d:Int)(e:Int×Int×bT2×Bool×Bool×Int×Int):=((af a b).2.1,(af a b).2.2.1,(af a b).2.2.2.1,(af a b).2.2.2.2.1,(af a b).2.2.2.2.2.1,c.2.2.2.2.2.2.1,d,e)
def BK(a:List ar)(b:Int)(c:bm):=set a b.toNat ((af a b).1,Fk a b (af a b) (ax c 6).1 (af a b).2.2.2.2.2.2.2.2)
def TW(a:List ar)(b:Int)(c:bm):=((af (BK a b c) b).1,Fk (BK a b c) b (af (BK a b c) b) (af (BK a b c) b).2.2.2.2.2.2.2.1 ((ax (ax c 6).2 65536).1,(af (BK a b c) b).2.2.2.2.2.2.2.2.2))
def y8(a:List ar)(b:Int)(c:bm):=set (BK a b c) b.toNat (TW a b c)
def Yg(a:List ar)(b:Int)(c:ar)(d:Int)(e:Int×Int×Int×bT2×Bool×Bool×Int×Int):=((af a b).1,(af a b).2.1,(af a b).2.2.1,(af a b).2.2.2.1,(af a b).2.2.2.2.1,c.2.2.2.2.2.1,d,e)
def H1(a:List ar)(b:Int)(c:ar)(d:Int)(e:Int×Int×Int×Int×bT2×Bool×Bool×Int×Int):=set a b.toNat ((af a b).1,(af a b).2.1,(af a b).2.2.1,(af a b).2.2.2.1,c.2.2.2.2.1,d,e)
def yh(a:bm)(b:List ar):=ax (ax a 60).2 (ae b)
def Fu(a:List ar)(b:bm):=af a (yh b a).1
def zj(a:List ar)(b:bm):=(Fu a b).2.2.2.2.1
def yO(a:bm)(b:List ar):=ax (yh a b).2 (ae (zj b a))
def vO(a:List ar)(b:List bc)(c:List bV)(d:ac)(e f:Int):=jp (af (oN ((a,b,c),d,e) f).1 f) f (oN ((a,b,c),d,e) f).2
def Dx(a:List ar)(b:List bc)(c:List bV)(d:ac)(e f:Int):=odLink (af (oL ((a,b,c),d,e) f).1.2 f) (oL ((a,b,c),d,e) f).2
def xI(a:List ar)(b:List bc)(c:List bV)(d:ac)(e f:Int):=set (oN ((a,b,c),d,e) f).1 f.toNat (vO a b c d e f).1
def xq(a:bm)(b:List ar):=ax (yO a b).2 (ae (Fu b a).1)
def Gu(a:List ar)(b:Int)(c:ar)(d:bT2)(e:Bool×Bool×Int×Int)(f:List ar):=set a b.toNat ((af a b).1,Fk a b (af a b) (af a b).2.2.2.2.2.2.2.1 ((af a b).2.2.2.2.2.2.2.2.1,c.2.2.2.2.2.2.2.2.2.1,d,e))=f
def JA(a:List ar)(b:Int)(c:bm):=set a b.toNat (Yg a b (af a b) (IntKind.wrap IntKind.u32 (167837696+(ax (ax c 10).2 40).1)) (af a b).2.2.2.2.2.2.2)
def NX(a:Int)(b:bm)(c:List ar):=[(ap (a+(ax b 60).1),(yh b c).1,false,(af (zj c b) (yO b c).1).1,bN (af (Fu c b).1 (xq b c).1).2,(af (zj c b) (yO b c).1).2.2)]
def HP(a:List ar)(b:Int):=set a b.toNat ((af a b).1,IntKind.wrap IntKind.u32 (ap (167903232+b)),(af a b).2.2)
def Gp(a:List ar)(b:List bc)(c:List bV)(d:ac)(e f:Int):=set (oL ((a,b,c),d,e) f).1.2 f.toNat (Dx a b c d e f).1
def LB(a:Int)(b:bm)(c:List ar):=[(ap (a+(ax b 60).1),(yh b c).1,false,(af (zj c b) (yO b c).1).1,([]:ac),(af (zj c b) (yO b c).1).2.2)]
def Cb(a:List ar)(b:List bc)(c:List bV)(d:ac)(e f:Int):=oC ((a,b,c),d,e) (toNat (oK ((a,b,c),d,e) -f))
def IN(a:Int)(b:List bc)(c:List bV)(d e:Prop):=aA a (rq a) (b=b/\c=c/\d/\e)
def Ng(a:bm)(b:ac)(c:Int):=qD (ax a 10) b (ax a 10).2.2 c
def Da(a:Prop)(b:bm)(c:Int)(d:List bc)(e:List bV)(f:Prop)(g:bm):=∃(h:bm),(a/\h=b)/\IN c d e f (Ng g h.1 h.2)
def JD(a:bm):=ax (ax (ax a 6).2 65536).2 1000
theorem bd3:
 ∀(a:List ar)(b:List bc)(c:List bV)(d:ac)(e:Int),ai (ui a b c d e)->preO ((a,b,c),d,e)->(∃(f:Int) (g:List ar) (h:bm),ao f (f<=ae a) ((g,h)=oN ((a,b,c),d,e) f)/\0=f/\b=b/\c=c/\a=g/\d=h.1/\ai (e=h.2))/\ ∀(f:Int)(g:List ar)(h:bm),ao f (f<=ae a) ((g,h)=oN ((a,b,c),d,e) f)->fE f (ae g) (f<ae g) ((bH h/\au (iO (ax h 10).1) (∃(i:List ar),Da (i=xI a b c d e f) (vO a b c d e f).2 f b c (Gu g f (af g f) (af g f).2.2.2.2.2.2.2.2.2.2.1 (true,(af g f).2.2.2.2.2.2.2.2.2.2.2.2) i) h) (au (decide ((ax h 10).1=2)) (bH (ax h 10).2/\bH (ax (ax h 10).2 3).2/\ ∃(i:List ar) (j:bm),(i=xI a b c d e f/\j=(vO a b c d e f).2)/\IN f b c (Gu g f (af g f) (wC (ax (ax h 10).2 3),wC (ax (ax (ax h 10).2 3).2 200)) (af g f).2.2.2.2.2.2.2.2.2.2.2 i) (qD (ax (ax (ax h 10).2 3).2 200) j.1 (ax
 (ax (ax h 10).2 3).2 200).2.2 j.2)) (au (decide ((ax h 10).1=3)) (∀(i:Bool),i=( !(af g f).2.2.2.1)->(i->(i->i)/\ai ((2:Int)≠(0:Int)))/\(i->aT i)/\(i->i)/\ ∃(j:List ar),Da (j=xI a b c d e f) (vO a b c d e f).2 f b c (Gu g f (af g f) (af g f).2.2.2.2.2.2.2.2.2.2.1 ((af g f).2.2.2.2.2.2.2.2.2.2.2.1,bw i (iO (Int.tmod f 2)),(af g f).2.2.2.2.2.2.2.2.2.2.2.2.2) j) h) (au (decide ((ax h 10).1=4)) (∃(i:List ar),Da (i=xI a b c d e f) (vO a b c d e f).2 f b c (H1 g f (af g f) 2 (af g f).2.2.2.2.2.2=i) h) (au (decide ((ax h 10).1=5)) (∃(i:List ar),Da (i=xI a b c d e f) (vO a b c d e f).2 f b c (H1 (HP g f) f (af (HP g f) f) 3 (af (HP g f) f).2.2.2.2.2.2=i) h) (au (decide ((ax h 10).1=6)) (bH (ax h 10).2/\ ∃(i:List ar) (j:bm),(i=xI a b c d e f/\j=(vO a b c d e f).2)/\IN f b c (H1 (JA g f h) f
 (af (JA g f h) f) 4 (af (JA g f h) f).2.2.2.2.2.2=i) (qD (ax (ax h 10).2 40) j.1 (ax (ax h 10).2 40).2.2 j.2)) (∃(i:List ar),Da (i=xI a b c d e f) (vO a b c d e f).2 f b c (g=i) h)))))))/\ ∀(i:List ar)(j:bm),i=xI a b c d e f/\j=(vO a b c d e f).2->bH j/\bH (ax j 6).2/\bH (ax (ax j 6).2 65536).2/\ ∃(k:Int) (l:List ar) (m:bm),ao k (k<=ae a) ((l,m)=oN ((a,b,c),d,e) k)/\aZ (ae a) k f/\aY f k/\b=b/\c=c/\set (y8 i f j) f.toNat ((af (y8 i f j) f).1,Fk (y8 i f j) f (af (y8 i f j) f) (af (y8 i f j) f).2.2.2.2.2.2.2.1 ((af (y8 i f j) f).2.2.2.2.2.2.2.2.1,(JD j).1,(af (y8 i f j) f).2.2.2.2.2.2.2.2.2.2))=l/\qD (JD j) m.1 (JD j).2.2 m.2) (∃(i:Int) (j:List ar) (k:List cj) (l:bm),ao i (i<=ae b) (((j,k),l)=oL ((a,b,c),d,e) i)/\0=i/\c=c/\g=j/\b=k/\h.1=l.1/\ai (h.2=l.2)) (∀(i:Int)(j:List
 ar)(k:List cj)(l:bm),ao i (i<=ae b) (((j,k),l)=oL ((a,b,c),d,e) i)->fE i (ae k) (i<ae k) ((bH l/\au (iO (ax l 6).1) (bH (ax l 6).2/\ ∃(m:List cj) (n:bm),(m=Gp a b c d e i/\n=(Dx a b c d e i).2)/\aA i (rq i) (j=j/\c=c/\set k i.toNat ((af k i).1,(af k i).2.1,(af k i).2.2.1,(ax (ax l 6).2 10).1,(af k i).2.2.2.2)=m/\Ng (ax l 6).2 n.1 n.2)) (au (decide ((ax l 6).1=2)) (bH (ax l 6).2/\ao (ax (ax l 6).2 3).1 ((ax (ax l 6).2 3).1<ae ((65536:Int)::(20000:Int)::bN 3)) (∃(m:List cj) (n:bm),(m=Gp a b c d e i/\n=(Dx a b c d e i).2)/\aA i (rq i) (j=j/\c=c/\set k i.toNat ((af k i).1,(af k i).2.1,(af k i).2.2.1,(af k i).2.2.2.1,af ((65536:Int)::(20000:Int)::bN 3) (ax (ax l 6).2 3).1,(af k i).2.2.2.2.2)=m/\qD (ax (ax l 6).2 3) n.1 (ax (ax l 6).2 3).2.2 n.2))) (∃(m:List
 cj) (n:bm),(m=Gp a b c d e i/\n=(Dx a b c d e i).2)/\aA i (rq i) (j=j/\c=c/\k=m/\qD (ax l 6) n.1 (ax l 6).2.2 n.2))))/\ ∀(m:List cj)(n:bm),m=Gp a b c d e i/\n=(Dx a b c d e i).2->ao (af m i).1 ((af m i).1<ae j) (∀(o:Bool),o=(af j (af m i).1).2.2.2.2.2.2.2.2.2.2.2.2.1->vl o o (aT o) (o->aT o) (cG o o (iM o o (af m i).2.1 ((af m i).2.1<ae j)) (o->aT o) ((o->aT o)/\(o->o)/\au (bw o (af j (af m i).2.1).2.2.2.2.2.2.2.2.2.2.2.2.1) (ao (af m i).2.1 ((af m i).2.1<ae j) (∃(p:Int) (q:List ar) (r:List cj) (s:bm),ao p (p<=ae b) (((q,r),s)=oL ((a,b,c),d,e) p)/\aZ (ae b) p i/\aY i p/\c=c/\Gu j (af m i).2.1 (af j (af m i).2.1) (af j (af m i).2.1).2.2.2.2.2.2.2.2.2.2.1 ((af j (af m i).2.1).2.2.2.2.2.2.2.2.2.2.2.1,false,(af j (af m i).2.1).2.2.2.2.2.2.2.2.2.2.2.2.2) q/\m=r/\n.1=s.1/\ai (n.2=s.2)))
 (∃(p:Int) (q:List ar) (r:List cj) (s:bm),ao p (p<=ae b) (((q,r),s)=oL ((a,b,c),d,e) p)/\aZ (ae b) p i/\aY i p/\c=c/\j=q/\m=r/\n.1=s.1/\ai (n.2=s.2)))))) (bH l) ((∃(m n:Int) (o:List bV) (p:bm),ao m (m<=oK ((a,b,c),d,e)) ((o,n,p)=Cb a b c d e m)/\0=n/\(ax l 4).1=m/\j=j/\k=k/\c=o/\qD (ax l 4) p.1 (ax l 4).2.2 p.2)/\ ∀(m n:Int)(o:List bV)(p:bm),ao m (m<=oK ((a,b,c),d,e)) ((o,n,p)=Cb a b c d e m)->au (av 0 m) (bH p/\bH (ax p 60).2/\fw (yh p j).1 (ae j) (eG (ae (zj j p))) (∃(q r:Int) (s:List bV) (t:bm),ao q (q<=oK ((a,b,c),d,e)) ((s,r,t)=Cb a b c d e q)/\cu q m/\ap (n+(ax p 60).1)=r/\ap (m -1)=q/\j=j/\k=k/\o=s/\qD (yh p j) t.1 (yh p j).2.2 t.2) (bH (yh p j).2/\bu (yO p j).1 (ae (zj j p)) (bH (yO p j).2) (bu (xq p j).1 (ae (Fu j p).1) (bH (xq p j).2) (au (decide
 ((ax (xq p j).2 4).1=3)) (bv ((o.length+length (LB n p j))*72)/\ ∃(q r:Int) (s:List bV) (t:bm),ao q (q<=oK ((a,b,c),d,e)) ((s,r,t)=Cb a b c d e q)/\cu q m/\ap (n+(ax p 60).1)=r/\ap (m -1)=q/\j=j/\k=k/\o++LB n p j=s/\qD (ax (xq p j).2 4) t.1 (ax (xq p j).2 4).2.2 t.2) (bv ((o.length+length (NX n p j))*72)/\ ∃(q r:Int) (s:List bV) (t:bm),ao q (q<=oK ((a,b,c),d,e)) ((s,r,t)=Cb a b c d e q)/\cu q m/\ap (n+(ax p 60).1)=r/\ap (m -1)=q/\j=j/\k=k/\o++NX n p j=s/\qD (ax (xq p j).2 4) t.1 (ax (xq p j).2 4).2.2 t.2))))) (((j,k,o),p)=rK ((a,b,c),d,e)))):= by
  delta af ae ap aq aI y8 TW BK Fk Yg H1 aV aT ji bG aA cG aZ yO bw cu zj Fu yh ao vO bv ui bN fE Dx xI iM rq xq aY qD ai Gu JA NX aD bu HP av vl Gp LB eG Cb IN Ng iO Da fw wC fB JD
  rintro ns0 ls0 hs0 l p ⟨⟨⟨hnl,hnw⟩,⟨hl,hw⟩,-⟩,-⟩⟨hc,n0,h1,h2,hg,hh,ha,hp⟩
  dsimp only at hc n0 h1 h2 hg hh ha hp
  subst hh
  have hB:dF (l,p):=⟨hc,hw⟩
  generalize eS:(((ns0,ls0,[]),l,p):bU)=Z
  have z1:Z.1.1=ns0:=by rw[← eS]
  have z2:Z.1.2.1=ls0:=by rw[← eS]
  have z3:Z.2=(l,p):=by rw[← eS]
  have zB:dF Z.2:=by rw[z3];exact hB
  have zG:jO Z.1.1.length Z.1.2.1:=by rw[z1,z2];exact hg
  refine⟨⟨0,ns0,(l,p),⟨ab,ab,by rw[← eS];rfl⟩,aK⟩,?_⟩
  rintro i ns cs ⟨i0,il,hF⟩
  obtain⟨A1,hcs⟩:=Np Z zB (i:=i) (by rw[z1];exact il)
  rw[← hF] at A1 hcs
  dsimp only at A1 hcs
  rw[← hF]
  dsimp only
  have hn:=A1.n
  rw[z1] at hn
  refine ay (λhi=>?_) (λhi=>?_)
  .have hi:=aX hi
   have hi':i.toNat<ns.length:=ab
   have k10:=(dV hcs 10).1
   refine⟨i0,hi,⟨hcs.at',?_⟩,?_⟩
   .simp only[List.set_set,lD hi']
    refine ay (λc=>?_) (λc1=>?_)
    .have c:=aX c
     refine⟨_,_,⟨?_,?_⟩,aK⟩
     .rw[jp,aj c];rfl
     .rw[jp,aj c]
    have c1:=bi c1
    refine ay (λc=>?_) (λc2=>?_)
    .have c:=aX c
     have k3:=f5 k10 (n:=3) ab
     have k11:=(dV k10 3).1
     have k4:=f5 k11 (n:=200) ab
     refine⟨k10.at',k11.at',_,_,⟨?_,?_⟩,aK⟩
     .rw[jp,ah c1,aj c,aL (n:=1+_) ab ab,aL (n:=1+_) ab ab];rfl
     .rw[jp,ah c1,aj c]
    have c2:=bi c2
    refine ay (λc=>?_) (λc3=>?_)
    .have c:=aX c
     intro b hb
     refine⟨aw,aw,aw,_,_,⟨?_,?_⟩,aK⟩
     .have eb:(bif b then decide (i%2=1) else false)=(!pv (ns.getD i.toNat default)&&decide (i%2=1)):=by
       rw[show b = !pv (ns.getD i.toNat default) from hb]
       cases pv (ns.getD i.toNat default) <;> rfl
      rw[jp,ah c1,ah c2,aj c,Gn i0,eb];rfl
     .rw[jp,ah c1,ah c2,aj c]
    have c3:=bi c3
    refine ay (λc=>?_) (λc4=>?_)
    .have c:=aX c
     refine⟨_,_,⟨?_,?_⟩,aK⟩
     .rw[jp,ah c1,ah c2,ah c3,aj c];rfl
     .rw[jp,ah c1,ah c2,ah c3,aj c]
    have c4:=bi c4
    refine ay (λc=>?_) (λc5=>?_)
    .have c:=aX c
     refine⟨_,_,⟨?_,?_⟩,aK⟩
     .rw[jp,ah c1,ah c2,ah c3,ah c4,aj c,aL (n:=167903232+i) ab ab,wZ (n:=167903232+i) ab ab];rfl
     .rw[jp,ah c1,ah c2,ah c3,ah c4,aj c]
    have c5:=bi c5
    refine ay (λc=>?_) (λc6=>?_)
    .have c:=aX c
     have k4:=f5 k10 (n:=40) ab
     refine⟨k10.at',_,_,⟨?_,?_⟩,aK⟩
     .rw[jp,ah c1,ah c2,ah c3,ah c4,ah c5,aj c,wZ (n:=167837696+_) ab ab];rfl
     .rw[jp,ah c1,ah c2,ah c3,ah c4,ah c5,aj c]
    have c6:=bi c6
    refine⟨ns,_,⟨?_,?_⟩,aK⟩
    .rw[jp,ah c1,ah c2,ah c3,ah c4,ah c5,ah c6]
     exact (yw i0 hi).symm
    .rw[jp,ah c1,ah c2,ah c3,ah c4,ah c5,ah c6]
   .rintro nsx csx ⟨hx1,hx2⟩
    have kc:=PU (x:=ns.getD i.toNat default) (i:=i) hcs
    rw[← hx2] at kc
    have ka:=(dV kc 6).1
    have kb:=(dV ka 65536).1
    have hxl:i.toNat<nsx.length:=by rw[hx1,fF];exact hi'
    simp only[List.set_set,lD hxl]
    refine⟨kc.at',ka.at',kb.at',i+1,_,_,⟨ab,ab,?_⟩,ab,aK⟩
    rw[R6 Z i0,← hF]
    unfold Bv Bz
    dsimp only
    rw[show ((i.toNat:Nat):Int)=i by omega,← hx2,hx1,lD hi',List.set_set]
    rfl
  have hi:=bi hi
  have e:i=Z.1.1.length:=by rw[z1];omega
  subst e
  refine⟨⟨0,ns,ls0,cs,⟨ab,ab,?_⟩,aK⟩,?_⟩
  .unfold oL
   rw[← hF,z2];rfl
  clear hF A1 hcs hn hi i0 il
  rintro i ns ls cs ⟨i0,il,hF⟩
  obtain⟨A1,hcs,lg,ll⟩:=AL Z zB zG (i:=i) (by rw[z2];exact il)
  rw[← hF] at A1 hcs lg ll
  dsimp only at A1 hcs lg ll
  rw[← hF]
  dsimp only
  have hn:=A1.n
  rw[z1] at hn lg
  rw[z2] at ll
  refine ay (λhi=>?_) (λhi=>?_)
  .have hi:=aX hi
   have hi':i.toNat<ls.length:=ab
   have k6:=(dV hcs 6).1
   refine⟨i0,hi,⟨hcs.at',?_⟩,?_⟩
   .refine ay (λc=>?_) (λc1=>?_)
    .have c:=aX c
     refine⟨k6.at',_,_,⟨?_,?_⟩,aK⟩
     .rw[odLink,aj c]
     .rw[odLink,aj c]
    have c1:=bi c1
    refine ay (λc=>?_) (λc2=>?_)
    .have c:=aX c
     have k3:=f5 k6 (n:=3) ab
     refine⟨k6.at',k3.1,k3.2,_,_,⟨?_,?_⟩,aK⟩
     .rw[odLink,ah c1,aj c]
     .rw[odLink,ah c1,aj c]
    have c2:=bi c2
    refine⟨ls,_,⟨?_,?_⟩,aK⟩
    .rw[odLink,ah c1,ah c2]
     exact (yw i0 hi).symm
    .rw[odLink,ah c1,ah c2]
   .rintro lsx csx ⟨hx1,hx2⟩
    have lgx:=lg.odLink hi' cs
    rw[← hx1] at lgx
    have lxl:i.toNat<lsx.length:=by rw[hx1,fF];exact hi'
    have g:=lgx.at' lxl
    have e1:(odLink (ls.getD i.toNat default) cs).1=lsx.getD i.toNat default:=by rw[hx1,lD hi']
    have nx:((vG ns (lsx.getD i.toNat default),lsx),csx)=oL Z (i+1):=by
     rw[Ru Z i0,← hF]
     unfold ww
     dsimp only
     rw[← hx1,← hx2,e1]
    unfold vG at nx
    refine⟨g.1.1,by rw[hn];exact g.1.2,?_⟩
    intro b hb
    refine⟨aw,aw,aw,aw,aw,aw,aw,λh=>⟨λ_=>h,λ_=>h,g.2.1,by rw[hn];exact g.2.2,aN⟩,aw,aw,λh=>h,?_⟩
    refine z8 (λha1 ha2=>?_) (λhna=>?_)
    .refine⟨g.2.1,by rw[hn];exact g.2.2,i+1,_,_,_,⟨ab,ab,?_⟩,ab,aK⟩
     rw[← nx,aj ⟨hb.symm.trans ha1,ha2⟩];rfl
    .refine⟨i+1,_,_,_,⟨ab,ab,?_⟩,ab,aK⟩
     rw[← nx,ah]
     rintro⟨x1,x2⟩
     rcases hna with h|h
     .rw[hb] at h
      rw[show gG (ns.getD (lA (lsx.getD i.toNat default)).toNat default)=(ns.getD (lsx.getD i.toNat default).1.toNat default).2.2.2.2.2.2.2.2.2.2.2.2.1 from rfl,h] at x1
      cases x1
     .rw[show gG (ns.getD (lB (lsx.getD i.toNat default)).toNat default)=(ns.getD (lsx.getD i.toNat default).2.1.toNat default).2.2.2.2.2.2.2.2.2.2.2.2.1 from rfl,h] at x2
      cases x2
  have hi:=bi hi
  have e:i=Z.1.2.1.length:=by rw[z2];omega
  subst e
  have k4:=f5 hcs (n:=4) ab
  have eK:oK Z=(ax cs 4).1:=by unfold oK;rw[← hF]
  refine⟨hcs.at',⟨_,0,[],(ax cs 4).2,⟨k4.1,by rw[eK];exact gH _,?_⟩,aK⟩,?_⟩
  .rw[eK,Int.sub_self]
   unfold oC
   rw[← hF];rfl
  clear i0 il hi
  rintro k a hs cs2 ⟨k0,kl,hC⟩
  have cok:=PJ Z zB zG (oK Z-k).toNat
  rw[← hC] at cok
  dsimp only at cok
  obtain⟨ok2,a0,al,hsl⟩:=cok
  rw[eK] at kl al hsl
  refine ay (λhk=>?_) (λhk=>?_)
  rotate_left
  .have hk:=bi hk
   have e:k=0:=ab
   subst e
   rw[Int.sub_zero] at hC
   have:rK Z=(((oL Z Z.1.2.1.length).1.1,(oL Z Z.1.2.1.length).1.2,(oC Z (oK Z).toNat).1),(oC Z (oK Z).toNat).2.2):=by
    unfold rK oC oK oL oN
    rfl
   rw[this,← hC,← hF]
  have hk:=aX hk
  have q1:=f5 ok2 (n:=60) ab
  have b1:=(dV ok2 60).1
  have q2:=f5 b1 (n:=(ns.length:Int)) ab
  have b2:=(dV b1 (ns.length:Int)).1
  have en:oC Z (oK Z-(k-1)).toNat=tv ns (hs,a,cs2):=by
   rw[show (oK Z-(k-1)).toNat=(oK Z-k).toNat+1 by omega,MN,← hC,← hF]
  unfold tv at en
  dsimp only at en
  generalize eW:(ax (ax cs2 60).2 (ns.length:Int))=W at q2 b2 en ⊢
  generalize eX:ns.getD W.1.toNat default=X at en ⊢
  have hX:aM X=aM (ns0.getD W.1.toNat default)/\bL X=bL (ns0.getD W.1.toNat default):=by
   have:=A1.e W.1.toNat (by rw[z1];omega)
   rw[z1,eX] at this;exact this
  have hM:ns0.getD W.1.toNat default∈ns0:=cA q2.1 ab
  rw[aL (n:=a+_) ab ab,aL (n:=k-1) ab ab]
  refine⟨ok2.at',b1.at',q2.1,q2.2,?_⟩
  refine ay (λhr=>?_) (λhr=>?_)
  .have hr:((bL X).length:Int)=0:=aX hr
   refine⟨k-1,_,_,_,⟨ab,ab,?_⟩,ab,aK⟩
   rw[en,aj (show (bL X).length=0 from by omega)]
  have hr:=bi hr
  have hr':¬ (bL X).length=0:=λe=>hr (by rw[show X.2.2.2.2.1=bL X from rfl,e];rfl)
  have hpp:=hp _ hM (by rw[← hX.2];exact λe=>hr' (by rw[e];rfl))
  rw[← hX.1,← hX.2] at hpp
  have q3:=f5 b2 (n:=((bL X).length:Int)) ab
  have b3:=(dV b2 ((bL X).length:Int)).1
  have q4:=f5 b3 (n:=((aM X).length:Int)) ab
  have b4:=(dV b3 ((aM X).length:Int)).1
  rw[ah hr'] at en
  refine⟨b2.at',q3.1,q3.2,b3.at',q4.1,q4.2,b4.at',?_⟩
  refine bP (λhz=>?_) (λhz=>?_)
  .have hz:(ax (ax (ax W.2 ((bL X).length:Int)).2 ((aM X).length:Int)).2 4).1=3:=hz
   refine⟨by simp only[dP,List.length_nil];omega,k-1,_,_,_,⟨ab,ab,?_⟩,ab,aK⟩
   rw[en,aj hz];rfl
  .have hz:¬ (ax (ax (ax W.2 ((bL X).length:Int)).2 ((aM X).length:Int)).2 4).1=3:=hz
   refine⟨by simp only[dP,List.length_nil];omega,k-1,_,_,_,⟨ab,ab,?_⟩,ab,aK⟩
   rw[en,ah hz];rfl
theorem bE4:aB 25 Ss.spec:=aF Tryz.func25 (am (am aC Cd) YA) at5 bd3
theorem GI.small{s:bU}{a b:Nat}(h:GI s a b)(hn:a<=100)(hl:b<=100):tX s :=
 ⟨h.c.at',by rw[h.n];omega,by rw[h.l];omega,by rw[h.h];decide,λx hx=>by have:=h.plen x hx;omega⟩
theorem GI.inN{s:bU}{nn nl:Nat}(h:GI s nn nl){a:Int}(h0:0<=a)(h1:a<nn):inN s.1.1 a:=⟨h0,by rw[h.n];exact h1⟩
theorem GI.preR{s:bU}{b a:Nat}(h:GI s b a)(hn:b<=100)(hl:a<=100):preR s:=by
 refine⟨h.c.at',by rw[h.n];omega,by rw[h.l];omega,h.ends,h.routes,?_⟩
 have:=Jq h.plen
 rw[h.n] at this
 have:=Nat.mul_le_mul hn (show 2*a<=200 by omega)
 omega
structure RS (s:bU) (nn nl:Nat) (r:bU):Prop where
 g:GI s nn nl
 i:RI s.1.2.1 (kq s.1.1) s.1.1 r.1.1
 c:dF r.2
 l:r.1.2=s.1.2
theorem GI.rs{s:bU}{a b:Nat}(h:GI s a b)(plain:Bool):RS s a b (Fw s plain):=by
 have:=RI.stepTs (s:=(s.1.1,s.2)) ⟨RI.start h.routes,h.c⟩ h.ends (plain:=plain) (eT _)
 exact⟨h,this.1,this.2,rfl⟩
theorem RS.ports{s r:bU}{a nl:Nat}(h:RS s a nl r){i:Nat}(b:i<a):aM (r.1.1.getD i default)=portsF i 0 s.1.2.1 :=
 (h.i.ports (by rw[h.g.n];exact b)).trans (h.g.p i b)
theorem RS.mem{s r:bU}{a nl:Nat}(h:RS s a nl r){x:ar}(hx:x∈r.1.1):∃ i,i<a/\r.1.1.getD i default=x:=by
 obtain⟨i,hi,e⟩:=List.mem_iff_getElem.1 hx
 exact⟨i,by have:=h.i.n;have:=h.g.n;omega,by rw[ct,cM hi,e];rfl⟩
theorem RS.tab{s r:bU}{a nl:Nat}(h:RS s a nl r){i:Nat}(hi:i<a):qB s.1.2.1 (kq s.1.1) i (bL (r.1.1.getD i default)):=h.i.t i (by rw[h.g.n];exact hi)
theorem RS.preO{s r:bU}{d a:Nat}(h:RS s d a r)(hn:d<=100)(hl:a<=100)(h0:0<d):preO r:=by
 have m:∀ x∈r.1.1,x.1.length<=2*a:=λx f=>by
  obtain⟨i,j,rfl⟩:=h.mem f;have:=FJ i 0 s.1.2.1;rw[← h.ports j,h.g.l] at this;exact this
 have o:r.1.1.length=d:=h.i.n.trans h.g.n
 have al:=Jq h.g.plen
 rw[h.g.n] at al
 have al2:=Nat.mul_le_mul hn (show 2*a<=200 by omega)
 refine⟨h.c.at',ab,ab,?_,?_,?_,?_,λx f hr=>?_⟩
 .rw[h.l,h.g.l];omega
 .have:=h.g.ends;rw[h.l,o,← h.g.n];exact this
 .rw[h.l];exact h.g.h
 .have:=Jq m;rw[o] at this;omega
 .have hp:=m x f;obtain⟨i,j,rfl⟩:=h.mem f;have t:=h.tab j;have tl:=Lu t;refine⟨?_,by have:(aM (r.1.1.getD i default)).length<=2*a:=hp;omega,ab⟩;obtain⟨y,ys,e⟩:=List.exists_cons_of_ne_nil hr;have ty:=t.2 y (by rw[e];exact fp);obtain⟨k,ks,ek⟩:=List.exists_cons_of_ne_nil ty.ne;obtain⟨k0,k1,b⟩:=ty.ln k (by rw[ek];exact fp);rw[h.ports j];rcases b with b|b
  .exact List.length_pos_of_mem (Gl.2 ⟨k.toNat,ab,.inl ⟨b,rfl⟩⟩)
  .exact List.length_pos_of_mem (Gl.2 ⟨k.toNat,ab,.inr ⟨b,rfl⟩⟩)
def DT(plain:Bool)(c:bm):bU:=Di plain (qq c).1 (qq c).2
def kN(c:bm):Int:=(ax (qq c).2.2 4).1
def tz(plain:Bool)(c:bm)(k:Int):bU:=ur plain (cJ c) (qq c).2 (kN c-k).toNat
theorem a46(l m:List ar):(List.brecOn.go (motive:=λ(x:List ar)=>List ar->List ar) l List.append._f).1 m=l++m:=by kernel_rfl
theorem ay6{plain:Bool}{c:bm}{k:Int}(k0:0<k)(k1:k<=kN c)(a:1<cJ c)(b:plain=false):tz plain c (k-1)=wp (cJ c) (tz plain c k):=by
 unfold tz ur
 rw[aj ⟨a,b⟩,aj ⟨a,b⟩,show (kN c-(k-1)).toNat=(kN c-k).toNat+1 by omega,lP,ld];rfl
theorem aY5{plain:Bool}{c:bm}{k:Int}(h:k=0∨¬ (1<cJ c/\plain=false)):tz plain c k=ur plain (cJ c) (qq c).2 (ax (qq c).2.2 4).1.toNat:=by
 rcases h with h|h
 .subst h;unfold tz kN;rw[Int.sub_zero]
 .unfold tz ur;rw[ah h,ah h]
theorem bK5{c:bm}(h:dF c)(plain:Bool)(k:Int)(k0:0<=k):∃ m,m<=9/\GI (tz plain c k) ((cJ c).toNat+2) m:=by
 have hn:=zH h
 have a:=Jm h
 have h4:=f5 a.c (n:=4) ab
 obtain⟨m,m0,m1,hm⟩:=Se a hn.1 ab (kN c-k).toNat
 unfold kN at m1
 exact⟨m,ab,hm⟩
def VE:Ct:=⟨[.box 88 j7,.val .bool],[.agg kJ],λd=>[bH d.1],λd=>((sS d.2.1 d.1,()),(Bs d.2.1 d.1,()))⟩
def ap4:bp VE.ps->bI:=(λd=>{loops:=(bt 6 (λS=>{ι:=Int×bU,qn:=eO,μ:=λi=>(cJ d.1-i.1).toNat,inv:=λi=>0<=i.1/\i.1<=cJ d.1/\i.2=(range i.1.toNat).foldl uN (zk d.1),keep:=[0,1,4,5],slots:=λi=>[(7,.int .i64 (cJ d.1)),(9,.int .i64 i.1),(8,.int .i64 i.1)],keepN:=[80],names:=λi=>[(288,.live (.cells 109 [.own 524288 16,.own 524289 6,.own 524290 7,.ptr 1048576 0])),(524288,.live (.row 117 dK i.2.1.1)),(524289,.live (.row 164 rb i.2.1.2.1)),(524290,.live (.row 178 kO i.2.1.2.2)),(1048576,.live (.cells 88 (cQ j7 i.2.2)))]}) (bt 14 (λS=>{ι:=Int×bU,qn:=eO,μ:=λi=>i.1.toNat,inv:=λi=>0<=i.1/\i.1<=kN d.1/\i.2=tz d.2.1 d.1 i.1,keep:=[0,1,4,5],slots:=λi=>[(7,.int .i64 (cJ d.1)),(12,.int .i64 i.1)],keepN:=[80],names:=λi=>[(288,.live (.cells 109 [.own 524288 16,.own 524289 6,.own 524290 7,.ptr 1048576 0])),(524288,.live (.row 117 dK i.2.1.1)),(524289,.live (.row 164 rb i.2.1.2.1)),(524290,.live (.row 178 kO i.2.1.2.2)),(1048576,.live (.cells 88 (cQ j7 i.2.2)))]}) bZ)),cuts:=(bt 21 (λS=>{ι:=bU,inv:=λi=>i=DT d.2.1 d.1,keep:=[0,1,4,5],slots:=λi=>[],keepN:=[80],names:=λi=>[(288,.live (.cells 109 [.own 524288 16,.own 524289 6,.own 524290 7,.ptr 1048576 0])),(524288,.live (.row 117 dK i.1.1)),(524289,.live (.row 164 rb i.1.2.1)),(524290,.live (.row 178 kO i.1.2.2)),(1048576,.live (.cells 88 (cQ j7 i.2)))]}) bZ)})
def xA(c:Bool)(j:bU) :=
 List.foldl (stepT j.1.2.1 c) (j.1.1,j.2) (range j.1.1.length)
def Dt(c:Bool)(j:bU) :=
 List.foldl ww (((List.foldl Bv (xA c j) (range (length (xA c j).1))).1,j.1.2.1),(List.foldl Bv (xA c j) (range (length (xA c j).1))).2) (range j.1.2.1.length)
def F9(e:bU) :=
 getD [(64:Int),(255:Int),(128:Int)] (toNat (ax e.2 3).1) default
def wT(e:bU) :=
 ax (ax e.2 3).2 (256:Int)
def tL(a:ac)(b:Int)(g:bU) :=
 ax (ax g.2 (cJ (a,b))).2 (cJ (a,b))
def xZ(e:bU) :=
 ax (ax (wT e).2 (20:Int)).2 (256:Int)
def xE(a:ac)(b:Int)(g:bU) :=
 ax (ax g.2 2).2 (ap (cJ (a,b) -1))
def OU(c:Bool)(j:bU) :=
 List.foldl (λ(k:List bV×Int×bm) (l:Nat)=>tv (Dt c j).1.1 k) (([]:List bV),(0:Int),(ax (Dt c j).2 (4:Int)).2) (range (toNat (ax (Dt c j).2 (4:Int)).1))
def xW(a:ac)(b:Int)(g:bU) :=
 ax g.2 (ap (cJ (a,b) -1))
def CQ(a:ac)(b:Int) :=
 ax (ax (a,b) (3:Int)).2 (256:Int)
def HB(e:bU) :=
 e.1.1++[vF (ae e.1.1) false (F9 e) (wT e).1]
def HL(e:bU) :=
 e.1.1++[vF (ae e.1.1) true (F9 e) (wT e).1]
theorem Z0 :
 ∀(a:ac)(b:Int)(c:Bool),((a.length<=maxLen/\ ∀(d:Int),d∈a->0<=d/\d<=255)/\Ju b)/\True/\True->0<=b/\b<=(ae a)->tX ((([]:List ar),([]:List cj),([]:List bV)),a,b)/\bH (CQ a b).2/\(∃(d:Int) (e:bU),(0<=d/\d<=cJ (a,b)/\e=List.foldl uN (zk (a,b)) (range d.toNat))/\c=c/\ap ((1:Int)+(ax (CQ a b).2 (5:Int)).1)=cJ (a,b)/\(↑(0:Nat):Int)=d/\0=d/\[vF (↑(0:Nat):Int) true (getD [(64:Int),(255:Int),(128:Int)] (toNat (ax (a,b) (3:Int)).1) default) (CQ a b).1]=e.1.1/\([]:List cj)=e.1.2.1/\([]:List bV)=e.1.2.2/\(ax (CQ a b).2 (5:Int)).2.1=e.2.1/\(ax (CQ a b).2 (5:Int)).2.2=e.2.2/\True)/\ ∀(d:Int)(e:bU),0<=d/\d<=cJ (a,b)/\e=List.foldl uN (zk (a,b)) (range d.toNat)->au (decide (d<cJ (a,b))) (tX e/\tX (((List.brecOn.go (motive:=λ(f:List ar)=>List ar->List ar) e.1.1 List.append._f).1
 [vF (ae e.1.1) false (F9 e) (wT e).1],e.1.2),(wT e).2)/\inN (HB e) d/\inN (HB e) (ae e.1.1)/\ ∃(f:Int) (g:bU),(0<=f/\f<=cJ (a,b)/\g=List.foldl uN (zk (a,b)) (range f.toNat))/\toNat (cJ (a,b) -f)<toNat (cJ (a,b) -d)/\c=c/\cJ (a,b)=cJ (a,b)/\(ae e.1.1)=f/\ap (d+1)=f/\mB (mB (HB e) d (ip (ae e.1.2.1)+1,(ae e.1.2.1))) (ae e.1.1) (ip (ae e.1.2.1)+2,(ae e.1.2.1))=g.1.1/\e.1.2.1++[(d,(ae e.1.1),(1:Int)+(ax (wT e).2 (20:Int)).1,(0:Int),(0:Int),(xZ e).1)]=g.1.2.1/\e.1.2.2=g.1.2.2/\(xZ e).2.1=g.2.1/\(xZ e).2.2=g.2.2/\True) (tX e/\tX (((List.brecOn.go (motive:=λ(f:List ar)=>List ar->List ar) e.1.1 List.append._f).1 [vF (ae e.1.1) true (F9 e) (wT e).1],e.1.2),(wT e).2)/\inN (HL e) d/\inN (HL e) (ae e.1.1)/\bH (xZ e).2/\(∃(f:Int) (g:bU),(0<=f/\f<=kN (a,b)/\g=tz c
 (a,b) f)/\c=c/\cJ (a,b)=cJ (a,b)/\(ax (xZ e).2 (4:Int)).1=f/\mB (mB (HL e) d (ip (ae e.1.2.1)+1,(ae e.1.2.1))) (ae e.1.1) (ip (ae e.1.2.1)+2,(ae e.1.2.1))=g.1.1/\e.1.2.1++[(d,(ae e.1.1),(1:Int)+(ax (wT e).2 (20:Int)).1,(0:Int),(0:Int),(xZ e).1)]=g.1.2.1/\e.1.2.2=g.1.2.2/\(ax (xZ e).2 (4:Int)).2.1=g.2.1/\(ax (xZ e).2 (4:Int)).2.2=g.2.2/\True)/\ ∀(f:Int)(g:bU),0<=f/\f<=kN (a,b)/\g=tz c (a,b) f-> ∀(h:Bool),h=decide (0<f)->(si h)/\(rA h)/\ ∀(i:Bool),(i=bif h then decide (1<cJ (a,b)) else false)->(si i)/\(rA i)/\au (bif i then ! c else false) (bH g.2/\bH (ax g.2 (cJ (a,b))).2/\au (! decide (ap ((1:Int)+(ax g.2 (cJ (a,b))).1)=ap ((1:Int)+(tL a b g).1))) (tX (g.1,(tL a b g).2)/\inN g.1.1 (ap ((1:Int)+(ax g.2 (cJ (a,b))).1))/\inN g.1.1 (ap ((1:Int)+(tL a b g).1))/\ ∃(j:Int)
 (k:bU),(0<=j/\j<=kN (a,b)/\k=tz c (a,b) j)/\j.toNat<f.toNat/\c=c/\cJ (a,b)=cJ (a,b)/\ap (f -1)=j/\mB (mB g.1.1 (ap ((1:Int)+(ax g.2 (cJ (a,b))).1)) (ip (ae g.1.2.1)+1,(ae g.1.2.1))) (ap ((1:Int)+(tL a b g).1)) (ip (ae g.1.2.1)+2,(ae g.1.2.1))=k.1.1/\g.1.2.1++[(ap ((1:Int)+(ax g.2 (cJ (a,b))).1),ap ((1:Int)+(tL a b g).1),(1:Int)+(ax (tL a b g).2 (20:Int)).1,(0:Int),(0:Int),(ax (ax (tL a b g).2 (20:Int)).2 (256:Int)).1)]=k.1.2.1/\g.1.2.2=k.1.2.2/\(ax (ax (tL a b g).2 (20:Int)).2 (256:Int)).2.1=k.2.1/\(ax (ax (tL a b g).2 (20:Int)).2 (256:Int)).2.2=k.2.2/\True) (∃(j:Int) (k:bU),(0<=j/\j<=kN (a,b)/\k=tz c (a,b) j)/\j.toNat<f.toNat/\c=c/\cJ (a,b)=cJ (a,b)/\ap (f -1)=j/\g.1.1=k.1.1/\g.1.2.1=k.1.2.1/\g.1.2.2=k.1.2.2/\(tL a b g).2.1=k.2.1/\(tL a b g).2.2=k.2.2/\True)) ((∀(j:Bool),j=c->(si j)/\(rA
 j)/\ ∀(k:Bool),(k=bif j then decide (2<cJ (a,b)) else false)->au k ((rA k)/\bH g.2/\(rA k)/\au (bif k then decide ((ax g.2 2).1=1) else false) (bH (ax g.2 2).2/\tX (g.1,(xE a b g).2)/\inN g.1.1 (ap ((1:Int)+(xE a b g).1))/\inN g.1.1 (cJ (a,b))/\ ∃(l:bU),l=DT c (a,b)/\c=c/\mB (mB g.1.1 (ap ((1:Int)+(xE a b g).1)) (ip (ae g.1.2.1)+1,(ae g.1.2.1))) (cJ (a,b)) (ip (ae g.1.2.1)+2,(ae g.1.2.1))=l.1.1/\g.1.2.1++[(ap ((1:Int)+(xE a b g).1),cJ (a,b),(1:Int)+(ax (xE a b g).2 (20:Int)).1,(0:Int),(0:Int),(ax (ax (xE a b g).2 (20:Int)).2 (256:Int)).1)]=l.1.2.1/\g.1.2.2=l.1.2.2/\(ax (ax (xE a b g).2 (20:Int)).2 (256:Int)).2.1=l.2.1/\(ax (ax (xE a b g).2 (20:Int)).2 (256:Int)).2.2=l.2.2/\True) (∃(l:bU),l=DT c (a,b)/\c=c/\g.1.1=l.1.1/\g.1.2.1=l.1.2.1/\g.1.2.2=l.1.2.2/\(ax g.2 2).2.1=l.2.1/\(ax g.2
 2).2.2=l.2.2/\True)) (k=false/\(k->false=true)/\au (bif k then false else false) (bH g.2/\tX (g.1,(xW a b g).2)/\inN g.1.1 (ap ((1:Int)+(xW a b g).1))/\inN g.1.1 (cJ (a,b))/\ ∃(l:bU),l=DT c (a,b)/\c=c/\mB (mB g.1.1 (ap ((1:Int)+(xW a b g).1)) (ip (ae g.1.2.1)+1,(ae g.1.2.1))) (cJ (a,b)) (ip (ae g.1.2.1)+2,(ae g.1.2.1))=l.1.1/\g.1.2.1++[(ap ((1:Int)+(xW a b g).1),cJ (a,b),(1:Int)+(ax (xW a b g).2 (20:Int)).1,(0:Int),(0:Int),(ax (ax (xW a b g).2 (20:Int)).2 (256:Int)).1)]=l.1.2.1/\g.1.2.2=l.1.2.2/\(ax (ax (xW a b g).2 (20:Int)).2 (256:Int)).2.1=l.2.1/\(ax (ax (xW a b g).2 (20:Int)).2 (256:Int)).2.2=l.2.2/\True) (∃(l:bU),l=DT c (a,b)/\c=c/\g.1.1=l.1.1/\g.1.2.1=l.1.2.1/\g.1.2.2=l.1.2.2/\g.2.1=l.2.1/\g.2.2=l.2.2/\True)))/\ ∀(j:bU),j=DT c (a,b)->preR j/\au (! c) (preO (((xA c j).1,j.1.2),(xA c
 j).2)/\((Dt c j).1.1,(Dt c j).1.2,(OU c j).1)=sS c (a,b)/\(OU c j).2.2=Bs c (a,b)) (((xA c j).1,j.1.2)=sS c (a,b)/\(xA c j).2=Bs c (a,b)))):=by
  delta Dt F9 wT xA tL xZ xE OU xW CQ HB HL si rA ap ae;rintro l p plain ⟨⟨⟨hl,hw⟩,-⟩,-⟩ hc;have hB:dF (l,p):=⟨hc,hw⟩
  generalize ((l,p):bm)=c at hB hc ⊢;have hN:=zH hB;have g0:=GI.start hB;have g1:=g0.node true;have hw5:IntKind.i64.wrap (1+(ax (ax (ax c 3).2 256).2 5).1)=cJ c:=aL (n:=cJ c) ab ab;rw[hw5];refine⟨g0.small ab ab,g1.c.at',⟨0,zk c,⟨ab,ab,rfl⟩,aK⟩,?_⟩;rintro i s ⟨i0,il,hs⟩;have hg:GI s (i.toNat+1) i.toNat:=by rw[hs];exact (RH hB).chain _
  have e1:(s.1.1.length:Int)=i+1:=by rw[hg.n];omega
  simp only[a46];refine ay (λhi=>?_) (λhi=>?_)
  .have hi:=aX hi;have hg2:=hg.node false;refine⟨hg.small ab ab,hg2.small ab ab,hg2.inN i0 ab,hg2.inN ab ab,i+1,kU (mv s false) i s.1.1.length,⟨ab,ab,?_⟩,ab,?_⟩
   .rw[show (i+1).toNat=i.toNat+1 by omega,lP,ld,← hs,List.foldl_cons,List.foldl_nil,uN,show ((i.toNat:Nat):Int)=i by omega,e1]
   .repeat' first|exact trivial|refine⟨aN,?_⟩|refine⟨(by with_reducible rfl),?_⟩|refine⟨e1,?_⟩|refine⟨aL ab ab,?_⟩|refine⟨rfl,?_⟩
  have hi:=bi hi;have hi:i=cJ c:=ab;subst hi;have hg2:=hg.node true;have eL:kU (mv s true) (cJ c) s.1.1.length=(qq c).2:=by rw[PP,← hs,e1]
  have gL:=Jm hB;rw[← eL] at gL;have h4:=f5 gL.c (n:=4) ab;have eK:(ax (kU (mv s true) (cJ c) s.1.1.length).2 4).1=kN c:=by rw[eL];rfl
  refine⟨hg.small ab ab,hg2.small ab ab,hg2.inN i0 ab,hg2.inN ab ab,gL.c.at',⟨(ax (kU (mv s true) (cJ c) s.1.1.length).2 4).1,((kU (mv s true) (cJ c) s.1.1.length).1,(ax (kU (mv s true) (cJ c) s.1.1.length).2 4).2),⟨h4.1,ab,?_⟩,aK⟩,?_⟩
  .rw[eK];unfold tz ur;simp_all
  clear hs hg e1 hg2 eL gL h4 eK il i0;clear s;rintro k s ⟨k0,k1,hs⟩;obtain⟨m,hm,hg⟩:=bK5 hB plain k k0;rw[← hs] at hg;have hkN:kN c<=4:=by
   have:=f5 (Jm hB).c (n:=4) ab;unfold kN;omega
  have ka:=f5 hg.c (n:=cJ c) ab;have ca:=(dV hg.c (cJ c)).1;have kb:=f5 ca (n:=cJ c) ab;have cb:=(dV ca (cJ c)).1;intro b hb;refine⟨aw,aw,?_⟩;intro b1 hb1;refine⟨aw,aw,?_⟩;refine z8 (λx1 x2=>?_) (λhno=>?_)
  .have hk:0<k/\1<cJ c:=by
    simp_all
   have hpl:plain=false:=by simpa using x2
   have nx:=ay6 (plain:=plain) hk.1 k1 hk.2 hpl;rw[← hs] at nx;unfold wp at nx;dsimp only at nx;rw[aL (n:=1+(ax s.2 (cJ c)).1) ab ab,aL (n:=1+(ax (ax s.2 (cJ c)).2 (cJ c)).1) ab ab,aL (n:=k-1) ab ab];refine⟨hg.c.at',ca.at',?_⟩;have hgc:=hg.codes cb;refine ay (λhne=>?_) (λhne=>?_)
   .have hne:=ke hne;rw[ah ab] at nx;exact⟨hgc.small ab ab,hgc.inN ab ab,hgc.inN ab ab,k-1,_,⟨ab,ab,nx.symm⟩,ab,aK⟩
   .grind
  have he:k=0∨¬ (1<cJ c/\plain=false):=by
   grind
  rw[aY5 he] at hs;clear hno hb1 hb b1 b k0 k1 he;have hF:=NA plain (cJ c) (qq c).2;dsimp only at hF;rw[← hs] at hF;have c2:=(dV hg.c 2).1;refine⟨?_,?_⟩
  .intro b hb
   (repeat refine⟨aw,?_⟩);intro b2 hb2;refine ay (λh=>?_) (λh=>?_)
   .have hk:plain=true/\2<cJ c:=by
     simp_all
    simp only[h,cond_true];rw[aj hk] at hF;refine⟨λh=>h,hg.c.at',λh=>h,bP (λh2=>?_) (λh2=>?_)⟩
    .rw[aj h2] at hF;have kd:=f5 c2 (n:=cJ c-1) ab;have cd:=(dV c2 (cJ c-1)).1;have hgc:=hg.codes cd;rw[aL (n:=cJ c-1) ab ab,aL (n:=1+(ax (ax s.2 2).2 (cJ c-1)).1) ab ab];exact⟨c2.at',hgc.small ab ab,hgc.inN ab ab,hgc.inN ab ab,_,hF.symm,aK⟩
    .rw[ah h2] at hF;exact⟨_,hF.symm,aK⟩
   .have hk:¬ (plain=true/\2<cJ c):=by
     simp_all
    simp only[h,sg];rw[ah hk] at hF;refine⟨aN,λh=>h,?_⟩;rw[ml];exact⟨s,hF.symm,aK⟩
  rintro t ht;obtain⟨m',-,m1,hG⟩:=JX hB plain;have hG:GI t ((cJ c).toNat+2) m':=by rw[ht];exact hG
  refine⟨hG.preR ab ab,?_⟩;have hR:=hG.rs plain;have hO:=hR.preO ab ab ab;subst ht;rcases plain with _|_
  .rw[show (!false)=true from rfl,Eh];exact⟨hO,rfl,rfl⟩
  .rw[show (!true)=false from rfl,ml];exact⟨rfl,rfl⟩
theorem SK:aB 9 VE.spec:=aF Tryz.func9 (am (am (am (am (am aC a71) Cd) bt9) aF0) bE4) ap4 Z0
structure NP (i:Int) (x:ar):Prop where
 own:Ur x=1+i/3
 loop:kT x=0∨kT x=167903232+i
 src:(oJ x=1∨oJ x=2)∨(oJ x=3/\kT x=167903232+i)∨(oJ x=4/\167837696<=uf x)
 fix:uf x=0∨(167837696<=uf x/\uf x<167837736)
 id:(0<=uJ x/\uJ x<=5)/\(0<=pC x/\pC x<=65535)/\0<=CK x/\CK x<=1000000
 lim:mw x=(0,0)∨(1<=(mw x).1/\(mw x).1<=3/\1<=(mw x).2/\(mw x).2<=200)
 first:lN x=64∨lN x=255∨lN x=128
 seed:0<=GU x/\GU x<=255
theorem NP.new{i:Int}{host:Bool}{f sd:Int}(hf:f=64∨f=255∨f=128)(h0:0<=sd)(h1:sd<=255):NP i (vF i host f sd) :=
 ⟨rfl,.inl rfl,.inl (.inl rfl),.inl rfl,⟨⟨by show (0:Int)<=0;decide,by show (0:Int)<=5;decide⟩,⟨by show (0:Int)<=0;decide,by show (0:Int)<=65535;decide⟩,by show (0:Int)<=0;decide,by show (0:Int)<=1000000;decide⟩,.inl rfl,hf,h0,h1⟩
theorem NP.same{i:Int}{x y:ar}(h:NP i x)(e:x.2=y.2):NP i y:=by
 obtain⟨p,x⟩:=x
 obtain⟨q,y⟩:=y
 cases e
 exact⟨h.own,h.loop,h.src,h.fix,h.id,h.lim,h.first,h.seed⟩
theorem NP.routes{i:Int}{x y:ar}(h:NP i x)(e:Do x []=Do y []):NP i y:=by
 have k:NP i (Do x []):=⟨h.own,h.loop,h.src,h.fix,h.id,h.lim,h.first,h.seed⟩
 rw[e] at k
 exact⟨k.own,k.loop,k.src,k.fix,k.id,k.lim,k.first,k.seed⟩
theorem NP.way{i:Int}{x:ar}(h:NP i x){c:bm}(hc:dF c):NP i (jp x i c).1:=by
 have a:=f5 hc (n:=10) ab
 have ca:=(dV hc 10).1
 have b:=f5 ca (n:=3) ab
 have cb:=(dV ca 3).1
 have e:=f5 cb (n:=200) ab
 have f:=f5 ca (n:=40) ab
 unfold jp
 dsimp only
 split
 .exact⟨h.own,h.loop,h.src,h.fix,h.id,h.lim,h.first,h.seed⟩
 split
 .refine⟨h.own,h.loop,h.src,h.fix,h.id,.inr ?_,h.first,h.seed⟩;show 1<=1+_/\1+_<=(3:Int)/\1<=1+_/\1+_<=(200:Int)
  omega
 split
 .exact⟨h.own,h.loop,h.src,h.fix,h.id,h.lim,h.first,h.seed⟩
 split
 .exact⟨h.own,h.loop,.inl (.inr rfl),h.fix,h.id,h.lim,h.first,h.seed⟩
 split
 .exact⟨h.own,.inr rfl,.inr (.inl ⟨rfl,rfl⟩),h.fix,h.id,h.lim,h.first,h.seed⟩
 split
 .refine⟨h.own,h.loop,.inr (.inr ⟨rfl,?_⟩),.inr ⟨?_,?_⟩,h.id,h.lim,h.first,h.seed⟩
  .show 167837696<=167837696+_;omega
  .show 167837696<=167837696+_;omega
  .show 167837696+_<167837736;omega
 .exact h
theorem NP.od{i:Int}{x:ar}(h:NP i x){c:bm}(hc:dF c):NP i (Bz x i c).1:=by
 have k:=h.way hc
 have kc:=PU (x:=x) (i:=i) hc
 have a:=f5 kc (n:=6) ab
 have ca:=(dV kc 6).1
 have b:=f5 ca (n:=65536) ab
 have cb:=(dV ca 65536).1
 have e:=f5 cb (n:=1000) ab
 refine⟨k.own,k.loop,k.src,k.fix,?_,k.lim,k.first,k.seed⟩
 show (0<=(ax (jp x i c).2 6).1/\(ax (jp x i c).2 6).1<=5)/\(0<=(ax (ax (jp x i c).2 6).2 65536).1/\(ax (ax (jp x i c).2 6).2 65536).1<=65535)/\0<=(ax (ax (ax (jp x i c).2 6).2 65536).2 1000).1/\(ax (ax (ax (jp x i c).2 6).2 65536).2 1000).1<=1000000
 omega
theorem NP.opq{i:Int}{x:ar}(h:NP i x)(b:Bool):NP i (Jc x b):=⟨h.own,h.loop,h.src,h.fix,h.id,h.lim,h.first,h.seed⟩
def u3(ns:List ar):Prop:=∀ i:Nat,i<ns.length->NP i (ns.getD i default)
theorem u3.set{ns:List ar}(h:u3 ns){i:Nat}{x:ar}(hx:i<ns.length->NP i x):u3 (ns.set i x):=λj hj=>by
 rw[fF] at hj
 by_cases e:i=j
 .subst e;rw[lD hj];exact hx hj
 .rw[o5 e];exact h j hj
structure LK (l0 l:cj):Prop where
 a:lA l=lA l0
 b:lB l=lB l0
 d:qi l=qi l0
 s:zg l=zg l0
 j:0<=me l/\me l<=9
 o:0<=wn l/\wn l<=65536
theorem LK.od{l0 l:cj}(h:LK l0 l){c:bm}(hc:dF c):LK l0 (odLink l c).1:=by
 have a:=f5 hc (n:=6) ab
 have ca:=(dV hc 6).1
 have b:=f5 ca (n:=10) ab
 have e:=f5 ca (n:=3) ab
 unfold odLink
 dsimp only
 split
 .refine⟨h.a,h.b,h.d,h.s,?_,h.o⟩;show 0<=(ax (ax c 6).2 10).1/\(ax (ax c 6).2 10).1<=9;omega
 split
 .refine⟨h.a,h.b,h.d,h.s,h.j,?_⟩;show 0<=([65536,20000,3]:ac).getD (ax (ax c 6).2 3).1.toNat default/\([65536,20000,3]:ac).getD (ax (ax c 6).2 3).1.toNat default<=65536;rcases (show (ax (ax c 6).2 3).1=0∨(ax (ax c 6).2 3).1=1∨(ax (ax c 6).2 3).1=2 by omega) with e|e|e <;> rw[e] <;> decide
 .exact h
structure sU (ls0 ls:List cj):Prop where
 n:ls.length=ls0.length
 k:∀ i:Nat,i<ls0.length->LK (ls0.getD i default) (ls.getD i default)
theorem sU.set{ls0 ls:List cj}(h:sU ls0 ls){i:Nat}{x:cj}(hx:i<ls0.length->LK (ls0.getD i default) x):sU ls0 (ls.set i x):=by
 refine⟨by rw[fF];exact h.n,λj hj=>?_⟩
 by_cases e:i=j
 .subst e;rw[lD (by rw[h.n];exact hj)];exact hx hj
 .rw[o5 e];exact h.k j hj
theorem sU.mem{ls0 ls:List cj}(h:sU ls0 ls){l:cj}(hl:l∈ls):∃ l0∈ls0,LK l0 l:=by
 obtain⟨i,hi,e⟩:=List.mem_iff_getElem.1 hl
 have:=h.k i (by rw[← h.n];exact hi)
 rw[ct (l:=ls),cM hi,e] at this
 exact⟨_,qj (by rw[← h.n];exact hi),this⟩
theorem sU.lnk{ls0 ls:List cj}(h:sU ls0 ls){i k:Int}(hk:lnk ls0 i k):lnk ls i k:=by
 obtain⟨k0,k1,k2⟩:=hk
 have e:=h.k k.toNat ab
 exact⟨k0,by rw[h.n];exact k1,by rw[e.a,e.b];exact k2⟩
theorem VL(i:Int):∀(k:Nat)(ls ls':List cj),ls'.length=ls.length->(∀ j:Nat,j<ls.length->lA (ls'.getD j default)=lA (ls.getD j default)/\lB (ls'.getD j default)=lB (ls.getD j default))->portsF i k ls'=portsF i k ls
 | k,[],[],_,_=>rfl
 | k,x::r,[],h,_=>by cases h
 | k,[],x::r,h,_=>by cases h
 | k,x::r,y::t,h,e=>by
  have e0:=e 0 aw;rw[List.getD_cons_zero,List.getD_cons_zero] at e0;rw[portsF,portsF,sP,sP,e0.1,e0.2,VL i (k+1) r t (by simpa using h) λj hj=>by
   have:=e (j+1) (by simp;omega);rw[List.getD_cons_succ,List.getD_cons_succ] at this;exact this]
theorem sU.portsF{ls0 ls:List cj}(h:sU ls0 ls)(i:Int)(k:Nat):portsF i k ls=Go.RS.portsF i k ls0 :=
 VL i k ls0 ls h.n λj hj=>⟨(h.k j hj).a,(h.k j hj).b⟩
theorem qB.lk{ls0 ls:List cj}(h:sU ls0 ls){aa:ac}{i:Int}{t:List Rt}(k:qB ls0 aa i t):qB ls aa i t :=
 ⟨k.1,λr hr=>by
  have q:=k.2 r hr;exact⟨q.len,q.mem,q.ne,q.pw,λx hx=>h.lnk (q.ln x hx),q.w0,q.w1⟩⟩
structure CH (ns:List ar) (c:bV):Prop where
 at':0<=jP c/\jP c<=180
 w:0<=cZ c/\cZ c<ns.length
 r:xw c=false
 p:∃ r∈bL (ns.getD (cZ c).toNat default),(gE c).1=r.1/\(gE c).2.2=r.2.2
 x:(gE c).2.1=[]∨∃ q∈aM (ns.getD (cZ c).toNat default),(gE c).2.1=[q.2]
def Kc:ac:=(range 10).flatMap λ(k:Nat)=>[ip k+1,ip k+2]
theorem UY{a:Int}{k:Nat}(hk:k<10)(h:a=ip k+1∨a=ip k+2):a∈Kc:=by
 refine List.mem_flatMap.2 ⟨k,List.mem_range.2 hk,?_⟩
 rcases h with h|h <;> rw[h] <;> simp
theorem qB.sub{ls:List cj}{aa bb:ac}{i:Int}{t:List Rt}(h:qB ls aa i t)(hs:∀ a∈aa,a∈bb):qB ls bb i t :=
 ⟨h.1,λr hr=>by
  have q:=h.2 r hr;exact⟨q.len,hs _ q.mem,q.ne,q.pw,q.ln,q.w0,q.w1⟩⟩
structure DN (n:Net):Prop where
 n3:3<=n.1.length
 n7:n.1.length<=7
 l2:2<=n.2.1.length
 l10:n.2.1.length<=10
 h3:n.2.2.length<=3
 g:∀ x∈n.2.1,(0<=lA x/\lA x<n.1.length)/\(0<=lB x/\lB x<n.1.length)/\lA x≠lB x/\(1<=qi x/\qi x<=20)/\(0<=me x/\me x<=9)/\(0<=wn x/\wn x<=65536)/\0<=zg x/\zg x<=255
 p:∀ i:Nat,i<n.1.length->aM (n.1.getD i default)=portsF i 0 n.2.1
 d:u3 n.1
 t:∀ i:Nat,i<n.1.length->qB n.2.1 Kc i (bL (n.1.getD i default))
 o:∀ x∈n.2.1,nQ n.1 x=false
 c:∀ x∈n.2.2,CH n.1 x
 s:n.2.2.Pairwise λa b=>jP a<=jP b
theorem R4{s:bU}(h:u3 s.1.1)(hc:dF s.2):∀{i:Nat},i<=s.1.1.length->u3 (oN s i).1
 | 0,_=>h
 | i+1,hi=>by
  have k:=R4 h hc (i:=i) ab;have b:=(Np s hc (i:=i) ab).2;rw[show ((i+1:Nat):Int)=(i:Int)+1 by omega,R6 s ab];unfold Bv;refine k.set λhl=>?_;have e:((i:Int).toNat:Nat)=i:=ab;rw[e] at hl ⊢;exact (k i hl).od b
theorem aI7{ns:List ar}(h:u3 ns){l:cj}(hl:0<=lB l):u3 (vG ns l):=by
 unfold vG
 split
 .exact h.set λhi=>(h _ hi).opq _
 .exact h
theorem bo0{ns:List ar}{l:cj}(hb:0<=lB l/\lB l<ns.length):nQ (vG ns l) l=false:=by
 unfold vG
 split
 .unfold nQ;rw[lD ab];exact Bool.and_false _
 next h=>unfold nQ;cases h1:gG (ns.getD (lA l).toNat default) <;> cases h2:gG (ns.getD (lB l).toNat default) <;> simp_all
theorem bP6{ns:List ar}{l m:cj}(h:nQ ns m=false):nQ (vG ns l) m=false:=by
 unfold vG
 split
 .have set_op:∀(i j:Nat),gG (ns.getD j default)=false->gG ((ns.set i (Jc (ns.getD i default) false)).getD j default)=false:=λi j hj=>by
   by_cases e:i=j
   .subst e;by_cases hl:i<ns.length
    .rw[lD hl];rfl
    .rw[List.set_eq_of_length_le ab];exact hj
   .rw[o5 e];exact hj
  unfold nQ at h ⊢;rw[Bool.and_eq_false_iff] at h ⊢;exact h.imp (set_op _ _) (set_op _ _)
 .exact h
theorem TO{ns:List ar}{l m:cj}(ha:lA l=lA m)(hb:lB l=lB m):nQ ns l=nQ ns m:=by unfold nQ;rw[ha,hb]
structure VN (s:bU) (i:Nat):Prop where
 np:u3 (oL s i).1.1
 lk:sU s.1.2.1 (oL s i).1.2
 df:∀ k:Nat,k<i->nQ (oL s i).1.1 (s.1.2.1.getD k default)=false
theorem Pj{s:bU}(h:u3 s.1.1)(hc:dF s.2)(hg:jO s.1.1.length s.1.2.1)(hl:sU s.1.2.1 s.1.2.1):∀{i:Nat},i<=s.1.2.1.length->VN s i
 | 0,_=>⟨R4 h hc (eT _),hl,λk hk=>ab⟩
 | i+1,hi=>by
  have k:=Pj h hc hg hl (i:=i) ab;obtain⟨ag,cb,ge,ll⟩:=AL s hc hg (i:=i) ab;have hb:=hg.at' (k:=i) ab;have e:((i:Int).toNat:Nat)=i:=ab;have lk1:=(k.lk.k i ab).od cb;have hn:=ag.n;have step:oL s ((i+1:Nat):Int)=ww (oL s i) i:=by
   rw[show ((i+1:Nat):Int)=(i:Int)+1 by omega,Ru s ab,e]
  have fin:VN s (i+1):=by
   refine⟨?_,?_,λj hj=>?_⟩
   .rw[step];unfold ww;dsimp only;refine aI7 k.np ?_;rw[lk1.b];exact hb.2.1
   .rw[step];unfold ww;dsimp only;exact k.lk.set λ_=>lk1
   .rw[step];unfold ww;dsimp only;by_cases q:j=i
    .subst q;rw[← TO (l:=(odLink ((oL s j).1.2.getD j default) (oL s j).2).1) lk1.a lk1.b];refine bo0 ?_;rw[lk1.b,hn];exact hb.2
    .exact bP6 (k.df j ab)
  exact fin
structure KD (ns:List ar) (m:Nat) (x:List bV×Int×bm):Prop where
 c:dF x.2.2
 a:0<=x.2.1/\x.2.1<=60*m
 n:x.1.length<=m
 h:∀ y∈x.1,CH ns y/\jP y<=x.2.1
 s:x.1.Pairwise λa b=>jP a<=jP b
theorem KD.next{ns:List ar}{m:Nat}{x:List bV×Int×bm}(h:KD ns m x)(hm:m<3)(h0:0<ns.length)(hp:∀ x∈ns,bL x≠[]->0<(aM x).length):KD ns (m+1) (tv ns x):=by
 have a:=f5 h.c (n:=60) ab
 have k1:=(dV h.c 60).1
 have w:=f5 k1 (n:=(ns.length:Int)) ab
 have k2:=(dV k1 (ns.length:Int)).1
 have ha:=h.a
 have hn:=h.n
 unfold tv
 dsimp only
 have hX:=cA (xs:=ns) w.1 w.2
 generalize eX:ns.getD (ax (ax x.2.2 60).2 (ns.length:Int)).1.toNat default=X at hX ⊢
 split
 .refine⟨k2,?_,?_,λy hy=>⟨(h.h y hy).1,?_⟩,h.s⟩
  .show 0<=x.2.1+_/\x.2.1+_<=60*((m+1:Nat):Int);omega
  .show x.1.length<=m+1;omega
  .have:=(h.h y hy).2;show jP y<=x.2.1+_;omega
 next hr=>
  have hr':bL X≠[]:=λe=>hr (by rw[e];rfl);have q3:=f5 k2 (n:=((bL X).length:Int)) ab;have b3:=(dV k2 ((bL X).length:Int)).1;have hpp:=hp X hX hr';have q4:=f5 b3 (n:=((aM X).length:Int)) ab;have b4:=(dV b3 ((aM X).length:Int)).1;have b5:=(dV b4 4).1;refine⟨b5,?_,?_,λy hy=>?_,?_⟩
  .show 0<=x.2.1+_/\x.2.1+_<=60*((m+1:Nat):Int);omega
  .show (x.1++[_]).length<=m+1;rw[cL,gC];omega
  .rcases fC.1 hy with hy|hy
   .refine⟨(h.h y hy).1,?_⟩;have:=(h.h y hy).2;show jP y<=x.2.1+_;omega
   .rw[nz.1 hy];refine⟨⟨?_,w,rfl,?_,?_⟩,gH _⟩
    .show 0<=x.2.1+_/\x.2.1+_<=180;omega
    .refine⟨(bL X).getD (ax (ax (ax x.2.2 60).2 (ns.length:Int)).2 ((bL X).length:Int)).1.toNat default,?_,rfl,rfl⟩;show _∈bL (ns.getD (ax (ax x.2.2 60).2 (ns.length:Int)).1.toNat default);rw[eX];exact cA q3.1 q3.2
    .by_cases hz:(ax (ax (ax (ax (ax x.2.2 60).2 (ns.length:Int)).2 ((bL X).length:Int)).2 ((aM X).length:Int)).2 4).1=3
     .exact .inl (aj hz)
     .refine .inr ⟨(aM X).getD (ax (ax (ax (ax x.2.2 60).2 (ns.length:Int)).2 ((bL X).length:Int)).2 ((aM X).length:Int)).1.toNat default,?_,ah hz⟩;show _∈aM (ns.getD (ax (ax x.2.2 60).2 (ns.length:Int)).1.toNat default);rw[eX];exact cA q4.1 q4.2
  .refine List.pairwise_append.2 ⟨h.s,List.pairwise_singleton _ _,λy hy z hz=>?_⟩;have:=(h.h y hy).2;rw[nz.1 hz];show jP y<=x.2.1+_;omega
theorem F7{α:Type} [Inhabited α] {l:List α} {x:α} (h:x∈l):∃ i:Nat,i<l.length/\l.getD i default=x:=by
 obtain⟨i,hi,e⟩:=List.mem_iff_getElem.1 h
 exact⟨i,hi,by rw[ct,cM hi,e];rfl⟩
theorem RS.np{s r:bU}{nn nl:Nat}(h:RS s nn nl r):u3 r.1.1:=λi hi=>by
 have hi':i<nn:=by have:=h.i.n;have:=h.g.n;omega
 obtain⟨host,f,sd,hd,hf,h0,h1⟩:=h.g.d i hi'
 have e:=h.i.e i (by rw[h.g.n];exact hi')
 exact NP.routes (NP.same (NP.new (host:=host) hf h0 h1) hd.symm) e.symm
theorem RS.opq{s r:bU}{nn nl:Nat}(h:RS s nn nl r){i:Nat}(hi:i<nn):gG (r.1.1.getD i default)=false:=by
 obtain⟨host,f,sd,hd,-⟩:=h.g.d i hi
 have e:=fj gG (h.i.e i (by rw[h.g.n];exact hi))
 have e2:gG (s.1.1.getD i default)=gG (vF i host f sd):=fj (λz=>gG (([]:List bT2),z)) hd
 exact e.trans e2
theorem RS.adr{s r:bU}{nn nl:Nat}(h:RS s nn nl r)(hl:nl<=10):∀ a∈kq s.1.1,a∈Kc:=λa ha=>by
 unfold kq at ha
 obtain⟨x,hx,ha⟩:=List.mem_flatMap.1 ha
 obtain⟨q,hq,rfl⟩:=List.mem_map.1 ha
 obtain⟨i,hi,rfl⟩:=F7 hx
 rw[h.g.p i (by rw[← h.g.n];exact hi)] at hq
 obtain⟨j,hj,e⟩:=Gl.1 hq
 rw[h.g.l] at hj
 rw[gI] at e
 rcases e with⟨-,rfl⟩|⟨-,rfl⟩
 .exact UY (k:=j) ab (.inl rfl)
 .exact UY (k:=j) ab (.inr rfl)
theorem RS.links{s r:bU}{nn nl:Nat}(h:RS s nn nl r):r.1.2.1=s.1.2.1:=fj Prod.fst h.l
theorem RS.lk{s r:bU}{nn nl:Nat}(h:RS s nn nl r):sU r.1.2.1 r.1.2.1:=⟨rfl,λi hi=>by
 rw[h.links] at hi ⊢
 have:=h.g.g _ (qj hi)
 exact⟨rfl,rfl,rfl,rfl,ab,ab⟩⟩
theorem RS.dn{s r:bU}{nn nl:Nat}(h:RS s nn nl r)(n3:3<=nn)(n7:nn<=7)(l2:2<=nl)(l10:nl<=10):DN r.1:=by
 have rn:r.1.1.length=nn:=h.i.n.trans h.g.n
 have rl:=h.links
 have rh:r.1.2.2=[]:=(fj Prod.snd h.l).trans h.g.h
 refine⟨ab,ab,by rw[rl,h.g.l];exact l2,by rw[rl,h.g.l];exact l10,by rw[rh];exact Nat.zero_le _,λx hx=>?_,λi hi=>?_,h.np,λi hi=>?_,λx hx=>?_,λx hx=>?_,?_⟩
 .rw[rl] at hx;have:=h.g.g x hx;rw[rn];omega
 .rw[rl];exact h.ports ab
 .rw[rl];exact (h.tab ab).sub (h.adr l10)
 .rw[rl] at hx;have g:=h.g.g x hx;unfold nQ;rw[h.opq (i:=(lA x).toNat) ab];rfl
 .rw[rh] at hx;cases hx
 .rw[rh];exact List.Pairwise.nil
theorem WE{s:bU}(h:dF s.2)(hg:jO s.1.1.length s.1.2.1)(h0:0<s.1.1.length)(hp:∀ x∈(oL s s.1.2.1.length).1.1,bL x≠[]->0<(aM x).length):∀ i:Nat,i<=3->KD (oL s s.1.2.1.length).1.1 i (oC s i)
 | 0,_=>⟨(dV (AL s h hg (gH _)).2.1 4).1,⟨gH _,gH _⟩,eT _,λy hy=>(by cases hy),List.Pairwise.nil⟩
 | i+1,hi=>by
  rw[MN];exact (WE h hg h0 hp i ab).next ab (by rw[(AL s h hg (gH _)).1.n];exact h0) hp
theorem RS.odd{s r:bU}{nn nl:Nat}(h:RS s nn nl r)(n3:3<=nn)(n7:nn<=7)(l2:2<=nl)(l10:nl<=10):DN (rK r).1:=by
 have rn:r.1.1.length=nn:=h.i.n.trans h.g.n
 have rl:=h.links
 have pre:=h.preO ab ab ab
 have ok:=AL r h.c pre.g (i:=r.1.2.1.length) (gH _)
 have inv:=Pj h.np h.c pre.g h.lk (i:=r.1.2.1.length) (eT _)
 have ag:=ok.1
 have e:(rK r).1=((oL r r.1.2.1.length).1.1,(oL r r.1.2.1.length).1.2,(oC r (oK r).toNat).1):=by
  unfold rK oC oK oL oN;rfl
 have kk:=f5 ok.2.1 (n:=4) ab
 have hp:∀ x∈(oL r r.1.2.1.length).1.1,bL x≠[]->0<(aM x).length:=λx hx hr=>by
  obtain⟨i,hi,rfl⟩:=F7 hx;have q:=ag.e i (by rw[← ag.n];exact hi);rw[q.1];rw[q.2] at hr;exact (pre.p _ (qj (by rw[← ag.n];exact hi)) hr).1
 have oc:=WE h.c pre.g pre.n0 hp (oK r).toNat (by unfold oK;omega)
 rw[e]
 have ln:(oL r r.1.2.1.length).1.1.length=nn:=ag.n.trans rn
 have ll:(oL r r.1.2.1.length).1.2.length=nl:=by rw[inv.lk.n,rl,h.g.l]
 refine⟨by rw[ln];exact n3,by rw[ln];exact n7,by rw[ll];exact l2,by rw[ll];exact l10,?_,λx hx=>?_,λi hi=>?_,inv.np,λi hi=>?_,λx hx=>?_,λx hx=>(oc.h x hx).1,oc.s⟩
 .have:=oc.n;have:(oK r).toNat<=3:=by unfold oK;omega
  dsimp only;omega
 .obtain⟨l0,hl0,k⟩:=inv.lk.mem hx;rw[rl] at hl0;have g:=h.g.g l0 hl0;have ka:=k.a;have kb:=k.b;have kd:=k.d;have ks:=k.s;have kj:=k.j;have ko:=k.o;rw[ln,ka,kb,kd,ks];omega
 .dsimp only at hi ⊢;rw[(ag.e i ab).1,h.ports ab,inv.lk.portsF,rl]
 .dsimp only at hi ⊢;rw[(ag.e i ab).2];refine qB.sub (qB.lk inv.lk ?_) (h.adr l10);rw[rl];exact h.tab ab
 .dsimp only at hx ⊢;obtain⟨i,hi,rfl⟩:=F7 hx;have hi':i<r.1.2.1.length:=by rw[← inv.lk.n];exact hi
  have k:=inv.lk.k i hi';rw[TO k.a k.b];exact inv.df i hi'
theorem KZ{c:bm}(h:dF c)(plain:Bool):DN (sS plain c):=by
 have hn:=zH h
 obtain⟨m,m2,m10,G⟩:=JX h plain
 have R:=G.rs plain
 unfold sS FE
 cases plain with
 | true=>exact R.dn ab ab m2 m10
 | false=>exact R.odd ab ab m2 m10
theorem Zu{c:bm}(h:dF c)(plain:Bool):dF (Bs plain c):=by
 obtain⟨m,m2,m10,G⟩:=JX h plain
 have R:=G.rs plain
 unfold Bs FE
 cases plain with
 | true=>exact R.c
 | false =>
  have hn:=zH h;have pre:=R.preO ab ab ab;exact (PJ _ R.c pre.g _).1
theorem bs4{l:ac}{m:Int}(h:∀ x∈l,0<=x/\x<=255):dF (if (l.length:Int)<=m then l else l.take m.toNat,0):=by
 refine⟨⟨gH _,by dsimp only;omega⟩,λx hx=>?_⟩
 dsimp only at hx
 split at hx
 .exact h x hx
 .exact h x (qr hx)
theorem DN.port{n:Net}(h:DN n){i:Nat}(hi:i<n.1.length){q:rC}:q∈aM (n.1.getD i default)↔∃ j:Nat,j<n.2.1.length/\((lA (n.2.1.getD j default)=i/\q=(ip j+1,(j:Int)))∨(lB (n.2.1.getD j default)=i/\q=(ip j+2,(j:Int)))):=by
 rw[h.p i hi,Gl];simp only[gI]
theorem DN.links{n:Net}(h:DN n){i:Nat}(hi:i<n.1.length){k:Int}:k∈c8 (n.1.getD i default)↔lnk n.2.1 i k:=by
 unfold c8 lnk
 rw[List.mem_map]
 constructor
 .rintro⟨q,hq,rfl⟩;obtain⟨j,hj,e⟩:=(h.port hi).1 hq;rcases e with⟨e,rfl⟩|⟨e,rfl⟩
  .exact⟨by dsimp only;omega,by dsimp only;omega,.inl (by simpa using e)⟩
  .exact⟨by dsimp only;omega,by dsimp only;omega,.inr (by simpa using e)⟩
 .rintro⟨k0,k1,e⟩;have ek:((k.toNat:Nat):Int)=k:=ab;rcases e with e|e
  .exact⟨_,(h.port hi).2 ⟨k.toNat,ab,.inl ⟨e,rfl⟩⟩,ek⟩
  .exact⟨_,(h.port hi).2 ⟨k.toNat,ab,.inr ⟨e,rfl⟩⟩,ek⟩
theorem DN.uniq{n:Net}(h:DN n){i j:Nat}(hi:i<n.1.length)(hj:j<n.1.length){q p:rC}(hq:q∈aM (n.1.getD i default))(hp:p∈aM (n.1.getD j default))(e:q.1=p.1):i=j/\q.2=p.2:=by
 obtain⟨a,ha,ea⟩:=(h.port hi).1 hq
 obtain⟨b,hb,eb⟩:=(h.port hj).1 hp
 unfold ip at ea eb
 rcases ea with⟨ea,rfl⟩|⟨ea,rfl⟩ <;> rcases eb with⟨eb,rfl⟩|⟨eb,rfl⟩ <;> dsimp only at e ⊢
 .have:a=b:=ab;subst this;omega
 .omega
 .omega
 .have:a=b:=ab;subst this;omega
theorem DN.padr{n:Net}(h:DN n){i:Nat}(hi:i<n.1.length){a:Int}(ha:a∈vd (n.1.getD i default)):167837697<=a/\a<=167837734:=by
 obtain⟨q,hq,rfl⟩:=List.mem_map.1 ha
 obtain⟨b,hb,eb⟩:=(h.port hi).1 hq
 have:=h.l10
 unfold ip at eb
 rcases eb with⟨eb,rfl⟩|⟨eb,rfl⟩ <;> dsimp only <;> omega
theorem DN.loop{n:Net}(h:DN n){i:Nat}(hi:i<n.1.length):kT (n.1.getD i default)=0∨kT (n.1.getD i default)=167903232+i:=(h.d i hi).loop
theorem MG{x:ar}{a:Int}:a∈ga x↔a∈vd x∨(kT x≠0/\a=kT x):=by
 unfold ga
 rw[fC]
 by_cases e:kT x=0
 .rw[aj e];simp[e]
 .rw[ah e];simp[e]
theorem DN.apart{n:Net}(h:DN n){i j:Nat}(hi:i<n.1.length)(hj:j<n.1.length){a:Int}(ha:a∈ga (n.1.getD i default))(hb:a∈ga (n.1.getD j default)):i=j:=by
 rw[MG] at ha hb
 have li:=h.loop hi
 have lj:=h.loop hj
 rcases ha with ha|ha <;> rcases hb with hb|hb
 .obtain⟨q,hq,e⟩:=List.mem_map.1 ha;obtain⟨p,hp,e2⟩:=List.mem_map.1 hb;exact (h.uniq hi hj hq hp (e.trans e2.symm)).1
 .have:=h.padr hi ha;omega
 .have:=h.padr hj hb;omega
 .omega
theorem Re{ls:List cj}{i:Int}{t:List Rt}(h:qB ls Kc i t):t.length<=20:=Lu h
theorem bq5{ls:List cj}{k:Int}(k0:0<=k)(k1:k<ls.length):jG ls k (lA (ls.getD k.toNat default))=lB (ls.getD k.toNat default):=by
 unfold jG;rw[ah ab,aj rfl]
theorem bD8{ls:List cj}{k:Int}(k0:0<=k)(k1:k<ls.length)(hn:lA (ls.getD k.toNat default)≠lB (ls.getD k.toNat default)):jG ls k (lB (ls.getD k.toNat default))=lA (ls.getD k.toNat default):=by
 unfold jG;rw[ah ab,ah (λe=>hn e.symm),aj rfl]
theorem ax9{l:List Rt}{c:bV}{r:Rt}(h:r∈jw l c):r=gE c∨r∈l:=by
 unfold jw at h
 split at h
 .exact .inr (List.mem_filter.1 h).1
 .rcases XM.1 h with h|h
  .exact .inl h
  .exact .inr h.1
theorem bN6{n:Net}{who at':Int}(w0:0<=who)(w1:who<n.1.length){P:Rt->Prop}(h0:∀ r∈bL (n.1.getD who.toNat default),P r)(hc:∀ c∈n.2.2,cZ c=who->P (gE c)):∀ r∈LV n who at',P r:=by
 unfold LV Qx
 rw[ah ab]
 have e:∀(l:List bV)(t:List Rt),(∀ c∈l,cZ c=who->P (gE c))->(∀ r∈t,P r)→∀ r∈l.foldl (O0 who at') t,P r:=by
  intro l
  induction l with
  | nil=>intro t _ h;exact h
  | cons c l ih =>
   intro t hl ht;rw[List.foldl_cons];refine ih _ (λx hx=>hl x (fu _ hx)) λr hr=>?_;unfold O0 at hr;split at hr
   .rename_i q;rcases ax9 hr with rfl|hr
    .exact hl c fp q.1
    .exact ht r hr
   .exact ht r hr
 exact e _ _ (λc hc'=>hc c (qr hc')) h0
theorem DN.next{n:Net}(h:DN n){who at':Int}(w0:0<=who)(w1:who<n.1.length):∀ r∈LV n who at',∀ k∈r.2.1,lnk n.2.1 who k:=by
 have ew:((who.toNat:Nat):Int)=who:=ab
 refine bN6 w0 w1 (λr hr k hk=>?_) (λc hc hw k hk=>?_)
 .have:=((h.t who.toNat ab).2 r hr).ln k hk;rw[ew] at this;exact this
 .have q:=(h.c c hc).x;rw[hw] at q;rcases q with e|⟨q,hq,e⟩
  .rw[e] at hk;cases hk
  .rw[e] at hk;rw[nz.1 hk];have:=(h.links (i:=who.toNat) ab).1 (List.mem_map.2 ⟨q,hq,rfl⟩);rw[ew] at this;exact this
theorem DN.other{n:Net}(h:DN n){who k:Int}(hk:lnk n.2.1 who k):0<=jG n.2.1 k who/\jG n.2.1 k who<n.1.length:=by
 obtain⟨k0,k1,e⟩:=hk
 have g:=h.g _ (cA k0 k1)
 rcases e with e|e
 .rw[← e,bq5 k0 k1];exact g.2.1
 .rw[← e,bD8 k0 k1 g.2.2.1];exact g.1
def m6(ls:List cj)(i:Int):Prop:=∃ l∈ls,lA l=i∨lB l=i
theorem m6.app{ls:List cj}{i:Int}(h:m6 ls i)(m:List cj):m6 (ls++m) i:=by
 obtain⟨l,hl,e⟩:=h
 exact⟨l,iA _ hl,e⟩
theorem m6.link{s:bU}{i:Int}(h:m6 s.1.2.1 i)(a b:Int):m6 (kU s a b).1.2.1 i:=h.app _
theorem XS(s:bU)(a b:Int):m6 (kU s a b).1.2.1 a:=⟨_,jD _ fp,.inl rfl⟩
theorem aT7(s:bU)(a b:Int):m6 (kU s a b).1.2.1 b:=⟨_,jD _ fp,.inr rfl⟩
theorem W2(s:bU):∀ k j:Nat,j<k->m6 ((range k).foldl uN s).1.2.1 j
 | 0,j,h=>absurd h (Nat.not_lt_zero _)
 | k+1,j,h=>by
  rw[lP,ld];by_cases e:j<k
  .exact (W2 s k j e).link (s:=mv ((range k).foldl uN s) false) _ _
  .have:j=k:=ab;subst this;exact XS _ _ _
theorem bh7{c:bm}(h:dF c){j:Nat}(hj:j<(cJ c).toNat+2):m6 (qq c).2.1.2.1 j:=by
 have hn:=zH h
 rw[PP]
 by_cases e:j<(cJ c).toNat
 .exact (W2 _ _ _ e).link (s:=mv ((range (cJ c).toNat).foldl uN (zk c)) true) _ _
 by_cases e2:j=(cJ c).toNat
 .rw[show ((j:Nat):Int)=cJ c by omega];exact XS _ _ _
 .rw[show ((j:Nat):Int)=cJ c+1 by omega];exact aT7 _ _ _
theorem ak9{s:bU}{i:Int}(h:m6 s.1.2.1 i)(n:Int):m6 (wp n s).1.2.1 i:=by
 unfold wp
 dsimp only
 split
 .exact h
 .exact m6.app h _
theorem UG{n i:Int}:∀(k:Nat){s:bU},m6 s.1.2.1 i->m6 ((range k).foldl (λs _=>wp n s) s).1.2.1 i
 | 0,s,h=>h
 | k+1,s,h=>by
  rw[lP,ld];exact ak9 (UG k h) n
theorem au1{s:bU}{i:Int}(h:m6 s.1.2.1 i)(plain:Bool)(n:Int):m6 (Di plain n s).1.2.1 i:=by
 rw[NA]
 dsimp only
 have h1:m6 (ur plain n s (ax s.2 4).1.toNat).1.2.1 i:=by
  unfold ur;split
  .exact UG _ h
  .exact h
 generalize ur plain n s (ax s.2 4).1.toNat=t at h1 ⊢
 split
 .split
  .exact m6.app h1 _
  .exact h1
 .exact h1
theorem aX2{s r:bU}{nn nl:Nat}(h:RS s nn nl r)(n3:3<=nn)(n7:nn<=7)(l10:nl<=10){i:Int}(ht:m6 r.1.2.1 i):m6 (rK r).1.2.1 i:=by
 have pre:=h.preO ab ab ab
 have inv:=Pj h.np h.c pre.g h.lk (i:=r.1.2.1.length) (eT _)
 have e:(rK r).1.2.1=(oL r r.1.2.1.length).1.2:=by
  unfold rK oL oN;rfl
 rw[e]
 obtain⟨l,hl,q⟩:=ht
 obtain⟨j,hj,rfl⟩:=F7 hl
 have k:=inv.lk.k j hj
 refine⟨_,qj (by rw[inv.lk.n];exact hj),?_⟩
 rw[k.a,k.b];exact q
theorem ap7{s r:bU}{nn nl:Nat}(h:RS s nn nl r)(n3:3<=nn)(n7:nn<=7)(l10:nl<=10):(rK r).1.1.length=r.1.1.length:=by
 have pre:=h.preO ab ab ab
 have ok:=AL r h.c pre.g (i:=r.1.2.1.length) (gH _)
 have e:(rK r).1.1=(oL r r.1.2.1.length).1.1:=by
  unfold rK oL oN;rfl
 rw[e]
 exact ok.1.n
theorem Yv{c:bm}(h:dF c)(plain:Bool){i:Nat}(hi:i<(sS plain c).1.length):m6 (sS plain c).2.1 i:=by
 have hn:=zH h
 obtain⟨m,m2,m10,G⟩:=JX h plain
 have R:=G.rs plain
 have rn:=R.i.n.trans R.g.n
 have t:=λj=>λ(hj:j<(cJ c).toNat+2)=>au1 (bh7 h hj) plain (qq c).1
 unfold sS FE at hi ⊢
 dsimp only at hi ⊢
 cases plain with
 | true =>
  rw[aj rfl] at hi ⊢;rw[R.links];exact t i (by rw[← rn];exact hi)
 | false =>
  rw[ah bo] at hi ⊢;have ol:=ap7 R ab ab m10;refine aX2 R ab ab m10 ?_;rw[R.links];exact t i (by rw[← rn];omega)
theorem QT{c:bm}(h:dF c)(plain:Bool){i:Nat}(hi:i<(sS plain c).1.length):0<(aM ((sS plain c).1.getD i default)).length:=by
 have D:=KZ h plain
 obtain⟨l,hl,q⟩:=Yv h plain hi
 obtain⟨j,hj,rfl⟩:=F7 hl
 rcases q with q|q
 .exact List.length_pos_of_mem ((D.port hi).2 ⟨j,hj,.inl ⟨q,rfl⟩⟩)
 .exact List.length_pos_of_mem ((D.port hi).2 ⟨j,hj,.inr ⟨q,rfl⟩⟩)
def BD(x:ar):Prop:=(∀ y∈aM x,u32 y.1)/\u32 (kT x)/\u32 (uf x)
theorem as2{n:Net}(h:DN n){i:Nat}(hi:i<n.1.length):BD (n.1.getD i default):=by
 have d:=h.d i hi
 have l10:=h.l10
 have n7:=h.n7
 refine⟨λy hy=>?_,?_,?_⟩
 .obtain⟨j,hj,q⟩:=(h.port hi).1 hy;unfold ip at q;rcases q with⟨-,rfl⟩|⟨-,rfl⟩ <;> (constructor <;> simp only <;> omega)
 .rcases d.loop with q|q <;> (rw[q];constructor <;> omega)
 .rcases d.fix with q|q
  .rw[q];constructor <;> omega
  .constructor <;> omega
def bK6:Ct:=⟨[.agg r8],[.val (.sl bq),.val cI],λd=>[],λd=>((build d.1,cP d.1,()),())⟩
theorem Zz:
 JK:= by
 delta ae aq aI aQ bG OY bJ dj ai aD bW rg JK fM
 rintro s d pr f t l - -
 refine ay (λh=>?_) (λh=>?_)
 .have h:¬ cP (s,d,pr,f,t,l)=0:=by simpa using h
  rw[build,ah h];exact⟨rfl,rfl⟩
 have h:cP (s,d,pr,f,t,l)=0:=by simpa using h
 have e0:=LO h
 have hl:=Dw h
 refine⟨h,ab,?_⟩
 rw[build,aj h,h]
 exact⟨rfl,e0⟩
theorem a44:aB 12 bK6.spec:=aF Tryz.func12 (am (am (am aC bt5) bt0) bc0) aS Zz
theorem WI{B:Int->Int->ac}{F:Int->Int}{w:fi}{own:Int}(h:F 0≠0):(fT B F w own).2.2≠2:=by
 by_cases k:own=0/\oH w.1=true
 .rw[A5 k];show (4:Int)≠2;decide
 .rw[Bj k h];show (6:Int)≠2;decide
theorem KI{b:ac}(h:¬ fq b)(k c i t:Int):iW b k c i t≠0:=by
 unfold iW
 by_cases g:uI k c i t
 .rw[ah (by simpa using g),ah h];decide
 .rw[aj g];decide
theorem Vb{b:ac}(h:¬ fq b)(i t:Int):jn b i t≠0:=by
 unfold jn
 by_cases g:kv i t
 .rw[ah (by simpa using g),ah (λk=>h k.1)];decide
 .rw[aj g];decide
theorem aX3{x:ar}{s:NState}{lk t:Int}{b:ac}(h:¬ fq b):(gO x s lk t b).2.2≠2:=by
 unfold gO ir
 split
 .show (6:Int)≠2;decide
 split
 .unfold kA;rw[aj (.inr (by exact Vb h _ _))];show (1:Int)≠2;decide
 split
 .show (6:Int)≠2;decide
 unfold gS
 split
 .exact WI (KI h _ _ _ _)
 split
 .split
  .show (8:Int)≠2;decide
  .exact WI (KI h _ _ _ _)
 .show (0:Int)≠2;decide
theorem NZ{B:Int->Int->ac}{F:Int->Int}{w:fi}{own:Int}:(fT B F w own).2.2≠0/\(fT B F w own).2.2≠1:=by
 by_cases k:own=0/\oH w.1=true
 .rw[A5 k];exact⟨(by show (4:Int)≠0;decide),(by show (4:Int)≠1;decide)⟩
 by_cases k1:F 0≠0
 .rw[Bj k k1];exact⟨(by show (6:Int)≠0;decide),(by show (6:Int)≠1;decide)⟩
 by_cases k2:iG w.2.1 (pj w.2.2.2.2.2)=false
 .rw[BN k k1 k2];exact⟨(by show (8:Int)≠0;decide),(by show (8:Int)≠1;decide)⟩
 by_cases k3:(om w).2=false
 .rw[Cz k k1 k2 k3];exact⟨(by show (5:Int)≠0;decide),(by show (5:Int)≠1;decide)⟩
 .rw[Df k k1 k2 k3];exact⟨(by show (2:Int)≠0;decide),(by show (2:Int)≠1;decide)⟩
structure WX (x:ar) (s:NState) (lk:Int) (b:ac):Prop where
 dec:dE b=0
 own:¬ mD x (mh (cD b).1)=true
 host:¬ (pv x=true/\lk ≠ -1)
 ttl:¬ (lk ≠ -1/\gG x=false/\DA (cD b).1<2)
 way:¬ iG s (mh (cD b).1)=false
def Je(s:NState)(b:ac):Rt:=cN (cR s) (mh (cD b).1)
theorem N9{x:ar}{s:NState}{lk t:Int}{b:ac}(h:WX x s lk b):gO x s lk t b=(jv s (Je s b),(lW x s (Je s b) (iR b),if lk ≠ -1/\gG x=false then lL b else b),0):=by
 show ir (x,s,lk,t,b,sy)=_
 unfold ir
 rw[ah (by simpa using h.dec),ah h.own,ah h.host]
 have e:∀ w:fi,w.1=x->w.2.1=s->w.2.2.1=lk->w.2.2.2.2.1=b->w.2.2.2.2.2=(cD b).1->gS w=(jv s (Je s b),(lW x s (Je s b) (iR b),if lk ≠ -1/\gG x=false then lL b else b),0):=by
  intro w e1 e2 e3 e4 e5;unfold gS;rw[e1,e2,e3,e4,e5,ah h.ttl,ah h.way];rfl
 exact e _ rfl rfl rfl rfl rfl
theorem N6{x:ar}{s:NState}{lk t:Int}{b:ac}(h:(gO x s lk t b).2.2=0):WX x s lk b:=by
 have h:(ir (x,s,lk,t,b,sy)).2.2=0:=h
 unfold ir at h
 by_cases k1:dE b≠0
 .rw[aj k1] at h;exact absurd h (by show (6:Int)≠0;decide)
 rw[ah k1] at h
 by_cases k2:mD x (mh (cD b).1)=true
 .rw[aj k2] at h;unfold kA at h;split at h
  .exact absurd h (by show (1:Int)≠0;decide)
  .exact absurd h NZ.1
 rw[ah k2] at h
 by_cases k4:pv x=true/\lk ≠ -1
 .rw[aj k4] at h;exact absurd h (by show (6:Int)≠0;decide)
 rw[ah k4] at h
 unfold gS at h
 split at h
 .exact absurd h NZ.1
 rename_i k5
 split at h
 .split at h
  .exact absurd h (by show (8:Int)≠0;decide)
  .exact absurd h NZ.1
 rename_i k6
 exact⟨by simpa using k1,k2,k4,k5,k6⟩
theorem ag3{p:bc}(g:fb p):dE (build p)=0/\(cD (build p)).1=wG p:=by
 have h:=W8 g.ok g.s g.d
 exact⟨h.2.1,by rw[cD,aj h.2.1];exact h.1⟩
def Mh(x:ar)(s s':NState)(t why:Int):Prop :=
 cR s'=cR s/\(mE s').length=(mE s).length ∧
  ((why≠2/\sA s'=sA s/\(wD s'=wD s∨(wD s'=(gw (mw x) (wD s) t).1/\(gw (mw x) (wD s) t).2=false))) ∨
    (why=2/\sA s'=IntKind.i64.wrap (sA s+1)/\wD s'=(gw (mw x) (wD s) t).1/\(gw (mw x) (wD s) t).2=true))
theorem BB{x:ar}{s:NState}{t why:Int}(h:why≠2):Mh x s s t why:=⟨rfl,rfl,.inl ⟨h,rfl,.inl rfl⟩⟩
theorem aM0(l:ac)(i:Int):(uq l i).length=l.length:=by
 unfold uq;split
 .exact fF
 .rfl
theorem OE{B:Int->Int->ac}{F:Int->Int}{w:fi}{own:Int}:Mh w.1 w.2.1 (fT B F w own).1 w.2.2.2.1 (fT B F w own).2.2:=by
 by_cases k:own=0/\oH w.1=true
 .rw[A5 k];exact BB (by show (4:Int)≠2;decide)
 by_cases k1:F 0≠0
 .rw[Bj k k1];exact BB (by show (6:Int)≠2;decide)
 by_cases k2:iG w.2.1 (pj w.2.2.2.2.2)=false
 .rw[BN k k1 k2];exact BB (by show (8:Int)≠2;decide)
 by_cases k3:(om w).2=false
 .rw[Cz k k1 k2 k3];exact⟨rfl,rfl,.inl ⟨(by show (5:Int)≠2;decide),rfl,.inr ⟨rfl,k3⟩⟩⟩
 .rw[Df k k1 k2 k3];have k4:(om w).2=true:=by simpa using k3
  refine⟨?_,?_,.inr ⟨rfl,?_,?_,k4⟩⟩
  .rw[CD];rfl
  .rw[CD];exact aM0 _ _
  .rw[CD];rfl
  .rw[CD];rfl
theorem SE(x:ar)(s:NState)(lk t:Int)(b:ac):Mh x s (gO x s lk t b).1 t (gO x s lk t b).2.2:=by
 unfold gO ir
 split
 .exact BB (by show (6:Int)≠2;decide)
 split
 .unfold kA;split
  .exact BB (by show (1:Int)≠2;decide)
  .exact OE (w:=yW (x,s,lk,t,b,sy) (cD b).1)
 split
 .exact BB (by show (6:Int)≠2;decide)
 unfold gS
 split
 .exact OE (w:=yW (x,s,lk,t,b,sy) (cD b).1)
 split
 .split
  .exact BB (by show (8:Int)≠2;decide)
  .exact OE (w:=yW (x,s,lk,t,b,sy) (cD b).1)
 .refine⟨?_,?_,.inl ⟨(by show (0:Int)≠2;decide),?_,.inl ?_⟩⟩ <;> (rw[CD];rfl)
theorem Uv{n:ar}{s:NState}{port a asked dst:Int}(hb:0<=pC n/\pC n<=65535)(ha:0<=asked/\asked<=65535):0<=oP n s port a asked dst/\oP n s port a asked dst<=65535:=by
 have hc:∀ x,0<=uV n x a/\uV n x a<=65535:=λx=>by unfold uV;omega
 have hh:0<=rO (pC n) (0,dst,0,sA s,0)%65536/\rO (pC n) (0,dst,0,sA s,0)%65536<=65535:=ab
 unfold oP
 split
 .exact hb
 split
 .exact hc _
 split
 .split <;> exact hc _
 split
 .exact ha
 split
 .exact hh
 .omega
theorem I9{x:ar}(A:BD x){i:Int}(h0:0<=i)(h1:i<(aM x).length):u32 (adr x i)/\mD x (adr x i)=true:=by
 have hm:=cA h0 h1
 rw[UC h0 h1]
 refine⟨A.1 _ hm,?_⟩
 have:0<=ph x ((aM x).getD i.toNat default).1:=WA hm (by simp[oA])
 unfold mD
 rw[fm this];rfl
theorem as0{x:ar}{lk L:Int}(N:tA x)(A:BD x)(hi:0<=fG x lk)(hL:0<=fG x L) :
  u32 (ob x (dR x lk) L)/\(mD x (ob x (dR x lk) L)=true∨(oJ x=4/\ob x (dR x lk) L=uf x))/\(oJ x=1->ob x (dR x lk) L=((aM x).getD (fG x lk).toNat default).1):=by
 have e:dR x lk=fG x lk:=by unfold dR;omega
 have i1:fG x lk<(aM x).length:=(yg hi).1
 have l1:fG x L<(aM x).length:=(yg hL).1
 rw[e]
 unfold ob
 by_cases s2:oJ x=2
 .rw[aj s2];have k:=I9 A hL l1;exact⟨k.1,.inl k.2,λq=>ab⟩
 rw[ah s2]
 by_cases s3:oJ x=3
 .rw[aj s3];have hne:kT x≠0:=λq=>N.form (.inr (.inr (.inl ⟨s3,q⟩)));refine⟨A.2.1,.inl ?_,λq=>ab⟩;unfold mD;simp[hne]
 rw[ah s3]
 by_cases s4:oJ x=4
 .rw[aj s4];exact⟨A.2.2,.inr ⟨s4,rfl⟩,λq=>ab⟩
 rw[ah s4]
 have k:=I9 A hi i1
 exact⟨k.1,.inl k.2,λ_=>UC hi i1⟩
theorem L8{B:Int->Int->ac}{F:Int->Int}{w:fi}{own:Int}(h:(fT B F w own).2.2=2) :
  F 0=0∧¬ iG w.2.1 (pj w.2.2.2.2.2)=false/\fT B F w own=(jv (oq w) (nL w),(mo B w,B (lE B w own) (jk w)),2):=by
 by_cases k:own=0/\oH w.1=true
 .rw[A5 k] at h;exact absurd h (by show (4:Int)≠2;decide)
 by_cases k1:F 0≠0
 .rw[Bj k k1] at h;exact absurd h (by show (6:Int)≠2;decide)
 by_cases k2:iG w.2.1 (pj w.2.2.2.2.2)=false
 .rw[BN k k1 k2] at h;exact absurd h (by show (8:Int)≠2;decide)
 by_cases k3:(om w).2=false
 .rw[Cz k k1 k2 k3] at h;exact absurd h (by show (5:Int)≠2;decide)
 .exact⟨by simpa using k1,k2,Df k k1 k2 k3⟩
theorem Mt{x:ar}{s:NState}{lk t:Int}{b:ac}(h:(gO x s lk t b).2.2=2) :
  ∃ ki,gO x s lk t b=vX (Jb x s lk t b) ki/\((ki=0/\mD x (mh (cD b).1)=true/\Fh (cD b).1≠17)∨(ki=1/\Fh (cD b).1=17)∨ki=2∨ki=3):=by
 have e0:gO x s lk t b=ir (x,s,lk,t,b,sy):=rfl
 rw[e0] at h ⊢
 unfold ir at h ⊢
 by_cases k1:dE b≠0
 .rw[aj k1] at h;exact absurd h (by show (6:Int)≠2;decide)
 rw[ah k1] at h ⊢
 by_cases k2:mD x (mh (cD b).1)=true
 .rw[aj k2] at h ⊢;unfold kA at h ⊢;split at h
  .exact absurd h (by show (1:Int)≠2;decide)
  rename_i k3;rw[ah k3];by_cases k4:Fh (cD b).1=17
  .exact⟨1,by rw[aD1];exact fj (fT _ _ _) (aj k4),.inr (.inl ⟨rfl,k4⟩)⟩
  .exact⟨0,by rw[ZJ];exact fj (fT _ _ _) (ah k4),.inl ⟨rfl,k2,k4⟩⟩
 rw[ah k2] at h ⊢
 by_cases k4:pv x=true/\lk ≠ -1
 .rw[aj k4] at h;exact absurd h (by show (6:Int)≠2;decide)
 rw[ah k4] at h ⊢
 unfold gS at h ⊢
 split at h
 next k5=>exact⟨2,by rw[aj k5,ak1];rfl,.inr (.inr (.inl rfl))⟩
 rename_i k5
 rw[ah k5]
 split at h
 next k6=>
  rw[aj k6];split at h
  .exact absurd h (by show (8:Int)≠2;decide)
  rename_i k7;exact⟨3,by rw[ah k7,Y0];rfl,.inr (.inr (.inr rfl))⟩
 .exact absurd h (by show (0:Int)≠2;decide)
theorem LD{w:fi}{ki:Int}(h:kE ki w 0=0):fq w.2.2.2.2.1:=i5 λk=>by
 unfold kE at h
 split at h
 .exact KI k _ _ _ _ h
 split at h
 .exact KI k _ _ _ _ h
 .exact Vb k _ _ h
structure bb2 (x:ar) (lk:Int) (p:bc) (a:qE) (r:qL):Prop where
 is:Gm p a r.2.1.2
 left:a.2.2.2.1=lN x
 quoted:a.2.2.2.2.2=0∨a.2.2.2.2.2=p.2.2.2.2.2
 out:0<=fG x r.2.1.1
 exc:a.2.1=1->oJ x=1->a.1=((aM x).getD (fG x lk).toNat default).1
 own:mD x a.1=true∨(oJ x=4/\a.1=uf x)
 cnt:(mE r.1).getD (fG x lk).toNat default=1
theorem Oz{x:ar}{lk:Int}{p:bc}(N:tA x)(A:BD x)(g:fb p)(hlk:lk∈c8 x)(h:(gO x (pX x) lk 0 (build p)).2.2=2):∃ a,bb2 x lk p a (gO x (pX x) lk 0 (build p)):=by
 have st:=Ux N
 obtain⟨ki,e,hk⟩:=Mt h
 rw[e] at h ⊢
 obtain⟨d1,d2⟩:=ag3 g
 obtain⟨w,hw⟩:∃ w,w=Jb x (pX x) lk 0 (build p):=⟨_,rfl⟩
 rw[← hw] at h ⊢
 obtain⟨a1,a2,a3⟩:=L8 h
 have w1:w.1=x:=by rw[hw];rfl
 have w2:w.2.1=pX x:=by rw[hw];rfl
 have w3:w.2.2.1=lk:=by rw[hw];rfl
 have w5:w.2.2.2.2.1=build p:=by rw[hw];rfl
 have w6:w.2.2.2.2.2=wG p:=by rw[hw];exact d2
 have hu:f9 p.1:=by
  have:=LD a1;rw[w5] at this;exact (OJ g).1 this
 have hi:=NY hlk
 have hin:dR x lk=fG x lk:=by unfold dR;omega
 have i1:fG x lk<(aM x).length:=(yg hi).1
 have hL:0<=fG x (mo (kB ki w) w):=by
  have:=ac1 st (a:=pj w.2.2.2.2.2) (by rw[← w2];exact a2) (oq w) (iR (kB ki w (adr w.1 (dR w.1 w.2.2.1)) 0));unfold mo nL;rw[w1,w2];rw[w1] at this;exact this
 obtain⟨s1,s2,s3⟩:=as0 N A hi hL
 have hr:=(qJ.1 g.ok).2
 obtain⟨hf,ht,-⟩:=id hr
 have hb:0<=pC x/\pC x<=65535:=by
  have h:=N.id;unfold pU at h;split at h
  next k=>have:=aX k;omega
  .cases h
 have hid:kv (jk w) (lN x):=by
  have f:=N.form;unfold qU at f;refine⟨?_,ab,ab⟩;unfold jk;rw[w1,w6];exact Uv hb ⟨by show 0<=p.2.2.2.2.1;omega,by show p.2.2.2.2.1<=65535;omega⟩
 have hc:(mE (vX w ki).1).getD (fG x lk).toNat default=1:=by
  have e1:(vX w ki).1=jv (oq w) (nL w):=fj (λr:qL=>r.1) a3;have e2:mE (vX w ki).1=uq (replicate (aM x).length 0) (fG x lk):=by
   rw[e1,CD];show uq (mE w.2.1) (dR w.1 w.2.2.1)=_;rw[w1,w2,w3,hin];rfl
  rw[e2,Pf (by rw[wa];exact i1)];have:(fG x lk).toNat<(replicate (aM x).length (0:Int)).length:=by rw[wa];omega
  rw[ct,List.getElem?_set_self this,jo,ct,cM this,jo,List.getElem_replicate];decide
 have ho:(vX w ki).2.1=(mo (kB ki w) w,kB ki w (lE (kB ki w) w (rV ki w)) (jk w)):=fj (λr:qL=>r.2.1) a3
 have hsrc:ob w.1 (dR w.1 w.2.2.1) (mo (kB ki w) w)=ob x (dR x lk) (mo (kB ki w) w):=by rw[w1,w3]
 have hF:rV ki w=0->lE (kB ki w) w (rV ki w)=ob x (dR x lk) (mo (kB ki w) w):=λq=>by unfold lE;rw[aj q,hsrc]
 generalize hid2:jk w=id at hid ho
 generalize hLL:mo (kB ki w) w=L at hL s1 s2 s3 ho hF
 generalize ob x (dR x lk) L=F at s1 s2 s3 hF
 have hp17:Fh (cD (build p)).1=p.2.2.1:=by rw[d2];rfl
 rcases hk with⟨rfl,q1,q2⟩|⟨rfl,q1⟩|rfl|rfl
 .have hd:mh (cD (build p)).1=p.2.1:=by rw[d2];rfl
  have ko:rV 0 w=p.2.1:=by show mh w.2.2.2.2.2=_;rw[w6];rfl
  rw[hd] at q1;have hne:=bo2 N q1;have ef:lE (kB 0 w) w (rV 0 w)=p.2.1:=by unfold lE;rw[ko,ah hne]
  rw[ef] at ho;have eB:kB 0 w p.2.1 id=lS (build p) p.2.1 id (lN x):=by show jE w _ _=_;unfold jE;rw[w5,w1]
  rw[eB] at ho;have I:=(Sg g hu hid).2;refine⟨wt p id (lN x),by rw[ho];exact I,?_,?_,by rw[ho];exact hL,?_,.inl ?_,hc⟩
  .unfold wt;split
   .rfl
   .split <;> rfl
  .unfold wt;split
   .exact .inl rfl
   .split
    .exact .inr rfl
    .exact .inl rfl
  .intro k;exfalso;unfold wt at k;split at k
   .exact absurd k (by show (4:Int)≠1;decide)
   .split at k
    .exact absurd k (by show (3:Int)≠1;decide)
    .exact absurd k (by show (2:Int)≠1;decide)
  .have:(wt p id (lN x)).1=p.2.1:=by unfold wt;split;rfl;split <;> rfl
   rw[this];exact q1
 .rw[hF rfl] at ho;rw[hp17] at q1;have hpr:d5 (build p)=17:=by rw[d5,g.dec.1];exact q1
  have eB:kB 1 w F id=lv (build p) F 3 3 id (lN x):=by
   show jE w _ _=_;unfold jE lS;rw[w5,w1,aj (Sg g hu hid).1,ah (by rw[hpr];decide),aj hpr]
  rw[eB] at ho;have I:=(H7 g hu s1 (kind:=3) (code:=3) ⟨.inr rfl,ab,hid⟩).2.1;exact⟨(F,yN 3 3,3,lN x,id,p.2.2.2.2.2),by rw[ho];exact I,rfl,.inr rfl,by rw[ho];exact hL,λk=>absurd k (by show yN 3 3≠1;decide),s2,hc⟩
 .rw[hF rfl] at ho;have eB:kB 2 w F id=lv (build p) F 11 0 id (lN x):=by show gT w 11 0 _ _=_;unfold gT;rw[w5,w1]
  rw[eB] at ho;have I:=(H7 g hu s1 (kind:=11) (code:=0) ⟨.inl rfl,ab,hid⟩).2.1;exact⟨(F,yN 11 0,0,lN x,id,p.2.2.2.2.2),by rw[ho];exact I,rfl,.inr rfl,by rw[ho];exact hL,λ_ k=>s3 k,s2,hc⟩
 .rw[hF rfl] at ho;have eB:kB 3 w F id=lv (build p) F 3 0 id (lN x):=by show gT w 3 0 _ _=_;unfold gT;rw[w5,w1]
  rw[eB] at ho;have I:=(H7 g hu s1 (kind:=3) (code:=0) ⟨.inr rfl,ab,hid⟩).2.1;exact⟨(F,yN 3 0,0,lN x,id,p.2.2.2.2.2),by rw[ho];exact I,rfl,.inr rfl,by rw[ho];exact hL,λk=>absurd k (by show yN 3 0≠1;decide),s2,hc⟩
theorem PQ{B:Int->Int->ac}{F:Int->Int}{w:fi}{own:Int}(h:(fT B F w own).2.2≠2):(fT B F w own).2.1=lF:=by
 by_cases k:own=0/\oH w.1=true
 .rw[A5 k]
 by_cases k1:F 0≠0
 .rw[Bj k k1]
 by_cases k2:iG w.2.1 (pj w.2.2.2.2.2)=false
 .rw[BN k k1 k2]
 by_cases k3:(om w).2=false
 .rw[Cz k k1 k2 k3]
 .rw[Df k k1 k2 k3] at h;exact absurd rfl h
theorem a04{x:ar}{s:NState}{lk t:Int}{b:ac}(h:(gO x s lk t b).2.2≠2)(h0:(gO x s lk t b).2.2≠0):(gO x s lk t b).2.1=lF:=by
 unfold gO ir at h h0 ⊢
 split at h
 next k=>rw[aj k]
 rename_i k1
 rw[ah k1] at h0 ⊢
 split at h
 next k2=>
  rw[aj k2];unfold kA at h ⊢;split at h
  next k=>rw[aj k]
  next k=>rw[ah k];exact PQ h
 rename_i k2
 rw[ah k2] at h0 ⊢
 split at h
 next k=>rw[aj k]
 rename_i k3
 rw[ah k3] at h0 ⊢
 unfold gS at h h0 ⊢
 split at h
 next k=>rw[aj k];exact PQ h
 rename_i k4
 rw[ah k4] at h0 ⊢
 split at h
 next k=>
  rw[aj k];split at h
  next k=>rw[aj k]
  next k=>rw[ah k];exact PQ h
 rename_i k5
 rw[ah k5] at h0
 exact absurd rfl h0
theorem JP{p:nH}(h:gv p=0):(fN p).length=20+p.2.length/\(bytes p.2->bytes (fN p)):=by
 rw[fN,aj h]
 refine⟨by rw[cL,vu],λhb=>jN (OX ?_) hb⟩
 exact i5 λk=>by rw[gv,aj k] at h;cases h
theorem Ce{b:ac}(hb:bytes b)(h:dE b=0):nh (cy b)/\20<=b.length/\b.length<=1500:=by
 have hp:=I4 h
 have hl:=H9 hp
 have hd:=DJ h
 have w:=rY hb 4
 have g:∀ i:Nat,0<=b.getD i default/\b.getD i default<=255:=λi=>by
  by_cases k:i<b.length
  .have:=hb _ (cA (i:=(i:Int)) ab ab);simpa using this
  .rw[ct,AS ab];decide
 exact⟨⟨g 1,g 8,g 9,w.1,w.2⟩,ab,ab⟩
theorem ah8{b:ac}(hb:bytes b)(h:j4 b=0):(lL b).length=b.length/\bytes (lL b):=by
 have hd:dE b=0:=i5 λk=>by rw[j4,aj k] at h;exact k h
 have ht:¬ (cy b).2.2.1<2:=λk=>by rw[j4,ah (λq=>q hd),aj k] at h;cases h
 obtain⟨⟨h1,⟨h2,h2'⟩,h3,h4,h5⟩,l1,l2⟩:=Ce hb hd
 have e:gv (BT (cy b),b.drop 20)=0:=by
  rw[gv,ah,ah (by simp only[ib];omega)];rw[sI];exact⟨h1,⟨by show 0<=(cy b).2.2.1-1;omega,by show (cy b).2.2.1-1<=255;omega⟩,h3,h4,h5⟩
 have k:=JP e
 rw[lL,aj h]
 refine⟨?_,k.2 (Bh hb)⟩
 rw[k.1];simp only[ib];omega
theorem Pr{b:ac}{f kind code id ttl:Int}(hb:bytes b)(h:iW b kind code id ttl=0):0<(lv b f kind code id ttl).length/\bytes (lv b f kind code id ttl):=by
 have hg:uI kind code id ttl:=i5 λk=>by rw[iW,aj k] at h;cases h
 have ha:fq b:=i5 λk=>by rw[iW,ah (λq=>q hg),ah k] at h;cases h
 obtain⟨-,e,en,ei⟩:=Jd (src:=f) hg ha
 have k:=JP ei
 rw[e]
 exact⟨by rw[k.1];omega,k.2 (NQ en (Ms hb))⟩
theorem RB{e:qk}(h:bytes e.2.2.2)(hl:(e.2.2.2.length:Int)<=1472):((fP e).length:Int)<=1480/\bytes (fP e):=by
 unfold fP
 split
 .exact⟨by rw[ng,JY];omega,wJ (BF h)⟩
 .exact⟨aw,qw⟩
theorem WW{s d:Int}{e:mI}(h:e.2.2.2.2.2.2=[]):((gc s d e).length:Int)<=1480/\bytes (gc s d e):=by
 unfold gc
 split
 next k=>
  have ok:rJ e:=i5 λq=>by rw[mO,aj q] at k;cases k
  exact⟨by rw[ng,ET,h];simp,wJ (CZ ok (by rw[h];exact qw))⟩
 .exact⟨aw,qw⟩
theorem bk3{b:ac}{f id ttl:Int}(hb:bytes b)(h:jn b id ttl=0):0<(lS b f id ttl).length/\bytes (lS b f id ttl):=by
 have hn:kv id ttl:=i5 λk=>by rw[jn,aj k] at h;cases h
 have hg:yB b:=i5 λk=>by rw[jn,ah (λq=>q hn),ah k] at h;cases h
 obtain⟨-,l1,l2⟩:=Ce hb hg.1.1
 have hd:=Bh (n:=20) hb
 rcases hg with⟨ha,⟨g1,g2⟩|⟨g1,g2⟩|⟨g1,g2,g3,g4⟩⟩
 .rw[(In (src:=f) hn ha g1 g2).1];have hl:=SA (b.drop 20);have hE:((fP (true,(g7 (b.drop 20)).2)).length:Int)<=1480/\bytes (fP (true,(g7 (b.drop 20)).2)):=by
   have e:(g7 (b.drop 20)).2.2.2=(b.drop 20).drop 8:=by unfold g7;rw[aj g2]
   refine RB ?_ ?_
   .show bytes (g7 (b.drop 20)).2.2.2;rw[e];exact Bh hd
   .show ((g7 (b.drop 20)).2.2.2.length:Int)<=1472;rw[e];simp only[ib];omega
  have k:=JP (DK (src:=f) (dst:=dC b) hn (proto:=1) ab hE.1);exact⟨by rw[k.1];omega,k.2 hE.2⟩
 .rw[(II (src:=f) hn ha g1 g2).1];exact Pr hb (Pa hn ha)
 .rw[(Kw (src:=f) hn ha g1 g2 g3 g4).1];have hE:((gc f (dC b) (oI (gF (dC b) (g9 b) (b.drop 20)))).length:Int)<=1480/\bytes (gc f (dC b) (oI (gF (dC b) (g9 b) (b.drop 20)))):=WW rfl;have k:=JP (DK (src:=f) (dst:=dC b) hn (proto:=6) ab hE.1);exact⟨by rw[k.1];omega,k.2 hE.2⟩
theorem a91{ki:Int}{w:fi}{f id:Int}(hb:bytes w.2.2.2.2.1)(hn:kv id (lN w.1))(h:kE ki w 0=0):0<(kB ki w f id).length/\bytes (kB ki w f id):=by
 have ha:=LD h
 unfold kB
 split
 .exact Pr hb (by rw[iW,ah (λk=>k ⟨.inl rfl,ab,hn⟩),aj ha])
 split
 .exact Pr hb (by rw[iW,ah (λk=>k ⟨.inr rfl,ab,hn⟩),aj ha])
 next k2 k3=>
  have h:jn w.2.2.2.2.1 0 (lN w.1)=0:=by
   unfold kE at h;rw[ah k2,ah k3] at h;exact h
  have hg:yB w.2.2.2.2.1:=i5 λq=>by
   rw[jn] at h;split at h
   .cases h
   .cases h
  exact bk3 hb (D7 hn hg)
structure Yb (x:ar) (s:NState) (r:qL):Prop where
 some:r.2.2=0∨r.2.2=2->0<r.2.1.2.length/\r.2.1.2.length<=1500/\0<=fG x r.2.1.1
 none:r.2.2≠0->r.2.2≠2->r.2.1=lF
 byt:bytes r.2.1.2
 rt:cR r.1=cR s
theorem Vj{w:fi}(hid:pU w.1=0)(hf:¬ qU w.1)(hI:0<=vh w.2.2.2.2.2/\vh w.2.2.2.2.2<=65535):kv (jk w) (lN w.1):=by
 have hb:0<=pC w.1/\pC w.1<=65535:=by
  unfold pU at hid;split at hid
  next k=>have:=aX k;omega
  .cases hid
 unfold qU at hf
 refine⟨?_,ab,ab⟩
 unfold jk
 exact Uv hb hI
theorem Nq{x:ar}{s:NState}(hrt:∀ r∈cR s,oU r (c8 x)){a:Int}(hw:¬ iG s a=false)(s':NState)(k:kx):0<=fG x (lW x s' (cN (cR s) a) k) :=
 NY (Wc (hrt _ (V6 hw)) _ (VD (Fp hw)))
theorem Mp{x:ar}{s:NState}{lk t:Int}{b:ac}(N:tA x)(hs:∀ r∈cR s,oU r (c8 x))(hb:bytes b):Yb x s (gO x s lk t b):=by
 have T:=(SE x s lk t b).1
 by_cases h0:(gO x s lk t b).2.2=0
 .have F:=N6 h0;have e:=N9 (t:=t) F;obtain⟨-,l1,l2⟩:=Ce hb F.dec;have hlow:lk ≠ -1/\gG x=false->j4 b=0:=λk=>by
   have ht:=F.ttl;have e1:(cD b).1=cy b:=by rw[cD,aj F.dec]
   rw[e1] at ht;rw[j4,ah (λq=>q F.dec)];exact ah (λq=>ht ⟨k.1,k.2,q⟩)
  have key:(if lk ≠ -1/\gG x=false then lL b else b).length=b.length/\bytes (if lk ≠ -1/\gG x=false then lL b else b):=by
   split
   next k=>exact ah8 hb (hlow k)
   .exact⟨rfl,hb⟩
  refine⟨λ_=>?_,λk=>absurd h0 k,?_,T⟩
  .rw[e];exact⟨by show 0<length _;rw[key.1];omega,by show length _<=1500;rw[key.1];omega,Nq hs F.way _ _⟩
  .rw[e];exact key.2
 by_cases h2:(gO x s lk t b).2.2=2
 .obtain⟨ki,e,hk⟩:=Mt h2;rw[e] at h2;obtain⟨w,hw⟩:∃ w,w=Jb x s lk t b:=⟨_,rfl⟩
  rw[← hw] at h2 e;obtain⟨a1,a2,a3⟩:=L8 h2;have w1:w.1=x:=by rw[hw];rfl
  have w2:w.2.1=s:=by rw[hw];rfl
  have w5:w.2.2.2.2.1=b:=by rw[hw];rfl
  have hI:0<=vh w.2.2.2.2.2/\vh w.2.2.2.2.2<=65535:=by
   have:w.2.2.2.2.2=(cD b).1:=by rw[hw];rfl
   rw[this];unfold cD;split
   .exact rY hb 4
   .exact⟨by show (0:Int)<=0;omega,by show (0:Int)<=65535;omega⟩
  have hn:=Vj (w:=w) (by rw[w1];exact N.id) (by rw[w1];exact N.form) hI;have ho:(gO x s lk t b).2.1=(mo (kB ki w) w,kB ki w (lE (kB ki w) w (rV ki w)) (jk w)):=by rw[e];exact fj (λr:qL=>r.2.1) a3
  have k:=a91 (f:=lE (kB ki w) w (rV ki w)) (by rw[w5];exact hb) hn a1;have kl:=ai0 ki w (lE (kB ki w) w (rV ki w)) (jk w);have hL:0<=fG x (mo (kB ki w) w):=by
   have:=Nq hs (a:=pj w.2.2.2.2.2) (by rw[← w2];exact a2) (oq w) (iR (kB ki w (adr w.1 (dR w.1 w.2.2.1)) 0));unfold mo nL;rw[w1,w2];rw[w1] at this;exact this
  refine⟨λ_=>?_,λ_ q=>absurd (by rw[e];exact h2) q,?_,T⟩
  .rw[ho];exact⟨k.1,by have:((kB ki w (lE (kB ki w) w (rV ki w)) (jk w)).length:Int)<=1500:=kl;show (kB ki w (lE (kB ki w) w (rV ki w)) (jk w)).length<=1500;omega,hL⟩
  .rw[ho];exact k.2
 .have e:=a04 h2 h0;refine⟨λk=>?_,λ_ _=>e,by rw[e];exact qw,T⟩;rcases k with k|k
  .exact absurd k h0
  .exact absurd k h2
abbrev mP:CT := .pair cI (.pair cI (.pair cI (.pair cI (.pair cI (.sl bq)))))
abbrev Flight:Type:=Int×Int×Int×Int×Int×ac
abbrev tf:CT := .pair cI (.pair cI (.sl bq))
abbrev Del:Type:=Int×Int×ac
abbrev Bg:CT := .pair cI (.pair cI (.pair cI (.pair cI cI)))
abbrev EndR:Type:=Int×Int×Int×Int×Int
abbrev jY:CT := .pair kJ (.pair cI (.pair cI (.pair cI (.pair (.sl pi) (.pair (.sl cI) (.pair (.sl mP) (.pair (.sl tf) (.sl Bg))))))))
abbrev aJ:Type:=Net×Int×Int×Int×List NState×ac×List Flight×List Del×List EndR
def aW(f:Flight):Int:=f.1
def pK(f:Flight):Int:=f.2.1
def bR(f:Flight):Int:=f.2.2.1
def js(f:Flight):Int:=f.2.2.2.1
def pk(f:Flight):Int:=f.2.2.2.2.1
def io(f:Flight):ac:=f.2.2.2.2.2
def aH(w:aJ):Net:=w.1
def bf(w:aJ):Int:=w.2.1
def cV(w:aJ):Int:=w.2.2.1
def dU(w:aJ):Int:=w.2.2.2.1
def dc(w:aJ):List NState:=w.2.2.2.2.1
def iI(w:aJ):ac:=w.2.2.2.2.2.1
def aP(w:aJ):List Flight:=w.2.2.2.2.2.2.1
def bh(w:aJ):List Del:=w.2.2.2.2.2.2.2.1
def dX(w:aJ):List EndR:=w.2.2.2.2.2.2.2.2
def cK(w:aJ)(t:Int):aJ:=(w.1,t,w.2.2)
def jU(w:aJ)(l:List NState):aJ:=(w.1,w.2.1,w.2.2.1,w.2.2.2.1,l,w.2.2.2.2.2)
def sZ(w:aJ)(k:Int):aJ:=(w.1,w.2.1,w.2.2.1,k,w.2.2.2.2)
def ya(w:aJ)(l:ac):aJ:=(w.1,w.2.1,w.2.2.1,w.2.2.2.1,w.2.2.2.2.1,l,w.2.2.2.2.2.2)
def gB(w:aJ)(l:List Flight):aJ:=(w.1,w.2.1,w.2.2.1,w.2.2.2.1,w.2.2.2.2.1,w.2.2.2.2.2.1,l,w.2.2.2.2.2.2.2)
def zc(w:aJ)(l:List Del):aJ:=(w.1,w.2.1,w.2.2.1,w.2.2.2.1,w.2.2.2.2.1,w.2.2.2.2.2.1,w.2.2.2.2.2.2.1,l,w.2.2.2.2.2.2.2.2)
def Nj(w:aJ)(l:List EndR):aJ:=(w.1,w.2.1,w.2.2.1,w.2.2.2.1,w.2.2.2.2.1,w.2.2.2.2.2.1,w.2.2.2.2.2.2.1,w.2.2.2.2.2.2.2.1,l)
def WM(w:aJ)(k:Int):aJ:=(w.1,w.2.1,k,w.2.2.2)
def Ny(s:NState)(l:List Rt):NState:=(l,s.2)
def iJ(l:List Flight)(f:Flight):List Flight:=(l.takeWhile λx=>decide (aW x<=aW f))++f::l.dropWhile λx=>decide (aW x<=aW f)
def DB(w:aJ)(f:Flight):aJ:=gB (WM w (IntKind.i64.wrap (cV w+1))) (iJ (aP w) (aW f,cV w,f.2.2))
def lY(w:aJ):bV:=(aH w).2.2.getD (dU w).toNat default
def nS(w:aJ):Bool:=decide (dU w<(aH w).2.2.length)&&decide (jP (lY w)<=bf w)
def jX(w:aJ):aJ :=
 sZ (jU w ((dc w).set (cZ (lY w)).toNat (Ny ((dc w).getD (cZ (lY w)).toNat default) (jw (cR ((dc w).getD (cZ (lY w)).toNat default)) (lY w))))) (IntKind.i64.wrap (dU w+1))
def eU:Nat->aJ->aJ
 | 0,w=>w
 | n+1,w=>if nS w=true then eU n (jX w) else w
def cY(w:aJ):aJ:=eU ((aH w).2.2.length-(dU w).toNat) w
def qC(w:aJ)(f:Flight)(link why:Int):aJ:=Nj w (dX w++[(pk f,aW f,bR f,link,why)])
def xo(l:cj)(c:Int):Int:=oz (bits .xor .u64 (oz (IntKind.wrap .u64 (zg l))) (IntKind.wrap .u64 c))
def fU(w:aJ)(k:Int):cj:=(aH w).2.1.getD k.toNat default
def oY(w:aJ)(k:Int):Int:=(iI w).getD k.toNat default
def D9(w:aJ)(k:Int):Int:=IntKind.i64.wrap (Int.tmod (Int.tdiv (xo (fU w k) (oY w k)) 65536) (IntKind.wrap .u64 (IntKind.i64.wrap (me (fU w k)+1))))
def o9(w:aJ)(k:Int):Int:=IntKind.i64.wrap (IntKind.i64.wrap (bf w+qi (fU w k))+D9 w k)
def iw(w:aJ)(f:Flight)(out:bU0):aJ :=
 let v:=ya w ((iI w).set out.1.toNat (IntKind.i64.wrap (oY w out.1+1)))
 if Int.tmod (xo (fU w out.1) (oY w out.1)) 65536<IntKind.wrap .u64 (wn (fU w out.1)) then qC v f out.1 3
 else if 1125899906842624<o9 w out.1∨(4096:Int)<=(aP w).length then qC v f out.1 7
 else DB v (o9 w out.1,0,jG (aH w).2.1 out.1 (bR f),out.1,pk f,out.2)
def bQ(w:aJ)(f:Flight):qL:=gO ((aH w).1.getD (bR f).toNat default) ((dc w).getD (bR f).toNat default) (js f) (aW f) (io f)
def jV(w:aJ)(f:Flight):aJ :=
 let r:=bQ w f
 let a:=jU w ((dc w).set (bR f).toNat r.1)
 let b:=if r.2.2=1 then zc a (bh a++[(aW f,bR f,io f)]) else a
 let c:=if r.2.2≠0 then qC b f (js f) r.2.2 else b
 if 0<r.2.1.2.length then iw c f r.2.1 else c
def eJ(w:aJ):aJ:=jV (cY (cK (gB w (aP w).tail) (aW ((aP w).headD default)))) ((aP w).headD default)
def fI(w:aJ)(to:Int):Bool:=match aP w with
 | []=>false
 | f::_=>decide (aW f<=to)
def jy:Nat->aJ->Int->aJ
 | 0,w,_=>w
 | n+1,w,to=>if fI w to=true then jy n (eJ w) to else w
def gh(to:Int)(l:List Flight):Nat:=(l.map λf=>(to+1-aW f).toNat).sum
def j9(w:aJ)(to:Int):aJ:=cY (cK (jy (gh to (aP w)) w to) to)
theorem GQ{l:List Flight}{f x:Flight}:x∈iJ l f↔x=f∨x∈l:=by
 unfold iJ
 rw[fC,eZ]
 have e:=xu (p:=λx=>decide (aW x<=aW f)) (l:=l)
 constructor
 .rintro (h|h|h)
  .right;rw[← e];exact iA _ h
  .exact .inl h
  .right;rw[← e];exact jD _ h
 .rintro (h|h)
  .exact .inr (.inl h)
  .rw[← e] at h;rcases fC.1 h with h|h
   .exact .inl h
   .exact .inr (.inr h)
theorem O5(l:List Flight)(f:Flight):(iJ l f).length=l.length+1:=by
 have e:=fj length (xu (p:=λx=>decide (aW x<=aW f)) (l:=l))
 rw[cL] at e
 unfold iJ
 rw[cL,dP];omega
theorem XO(to:Int)(l:List Flight)(f:Flight):gh to (iJ l f)=gh to l+(to+1-aW f).toNat:=by
 have e:gh to l=gh to ((l.takeWhile λx=>decide (aW x<=aW f))++(l.dropWhile λx=>decide (aW x<=aW f))):=by rw[xu]
 rw[e]
 unfold gh iJ
 simp only[lx,fV,List.sum_append,List.sum_cons]
 omega
def iS(a b:Flight):Prop:=aW a<aW b∨aW a=aW b/\pK a<pK b
theorem QK{l:List Flight}{f:Flight}(h:l.Pairwise iS)(hn:∀ x∈l,pK x<pK f):(iJ l f).Pairwise iS:=by
 have e:=xu (p:=λx=>decide (aW x<=aW f)) (l:=l)
 have h2:=h
 rw[← e] at h2
 obtain⟨a,b,c⟩:=List.pairwise_append.1 h2
 have hd:∀ x∈l.dropWhile (λx=>decide (aW x<=aW f)),aW f<aW x:=by
  intro x hx;cases hh:l.dropWhile (λx=>decide (aW x<=aW f)) with
  | nil=>rw[hh] at hx;cases hx
  | cons y r =>
   have hy:¬ aW y<=aW f:=by
    have:=List.head_dropWhile_not (p:=λx=>decide (aW x<=aW f)) (l:=l) (by rw[hh];simp);simp only[hh,List.head_cons] at this;simpa using this
   rw[hh] at hx b;rcases eZ.1 hx with rfl|hx
   .omega
   .rcases (List.pairwise_cons.1 b).1 x hx with k|k <;> omega
 unfold iJ
 refine List.pairwise_append.2 ⟨a,List.pairwise_cons.2 ⟨λx hx=>.inl (hd x hx),b⟩,λx hx y hy=>?_⟩
 have hxl:x∈l:=by rw[← e];exact iA _ hx
 have hxf:aW x<=aW f:=by
  have:=List.all_eq_true.1 (List.all_takeWhile (p:=λx=>decide (aW x<=aW f)) (l:=l)) x hx;simpa using this
 rcases eZ.1 hy with rfl|hy
 .have:=hn x hxl;unfold iS;omega
 .exact .inl (by have:=hd y hy;omega)
end Go.RS
