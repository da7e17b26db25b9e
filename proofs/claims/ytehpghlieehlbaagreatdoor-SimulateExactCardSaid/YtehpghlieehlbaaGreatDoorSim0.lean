/- Netdraw: the program text that draws networks does what Netd says. -/
import Derived.Test.YtehpghlieehlbaaGreatDoorTopod
import Derived.Test.YtehpghlieehlbaaGreatDoorNodek
import Derived.Test.YtehpghlieehlbaaGreatDoorNetg
set_option maxRecDepth 100000
set_option linter.unusedVariables false
open Int (toNat)
open List (length take getD set replicate range)
namespace Go.RS
open Go.SX Go.Proofs
abbrev yq:OT := .pair (.pair (.row 103 bN) (.pair (.row 95 gh) (.row 118 ft))) (.ref 105 iA)
def sL(s:bG):List aN:=s.1.2.1
def qp(s:bG):Prop:=ay s.2/\(s.1.1.length:Int)<=1000/\(s.1.2.1.length:Int)<=1000/\(s.1.2.2.length:Int)<=1000∧∀ x∈s.1.1,(x.1.length:Int)<=1000
def inN(ns:List ar)(a:Int):Prop:=0<=a/\a<ns.length
def aO6:Ct:=⟨[.box 105 iA,.val cI],[.val cI],λd=>[ay d.1,d.2.1<=256],λd=>(((mW d.1 d.2.1).1,()),((mW d.1 d.2.1).2,()))⟩
theorem ad3 :
 ∀(a:ad)(b c:Int),((a.length<=maxLen/\ ∀(d:Int),d∈a->0<=d/\d<=255)/\aj b)/\aj c/\True->ay (a,b)/\c<=256-> ∀(d:Bool),d=decide ((ac a)<=b)->(ae (! d))/\(aF d)/\ao (bif d then true else decide (c<1)) (0=(mW (a,b) c).1/\(a,b)=(mW (a,b) c).2) (0<=b/\b<(ac a)/\ao (decide (256<c)) False (c≠(0:Int)/\Int.tmod (ai (ah a b)) c=(mW (a,b) c).1/\(a,ai (b+1))=(mW (a,b) c).2)):=by
  delta ae aF ai ah ac;rintro l p n ⟨⟨⟨hl,hw⟩,h0,h1⟩,⟨h2,h3⟩,-⟩⟨⟨hc1,hc2⟩,hn⟩;simp only[maxLen] at hl hc1 hc2
  (repeat (refine bO ?_;repeat refine bP ?_));refine oT (λhb=>?_) (λhb1 hb2=>?_)
  .have hb:(l.length:Int)<=p∨n<1:=by simpa using hb
   rw[mW,am hb];exact⟨rfl,rfl⟩
  .have hb1:=aO hb1;have hb2:=aO hb2;have hb:¬ ((l.length:Int)<=p∨n<1):=ab;obtain⟨hm0,hm1⟩:=hw _ (bW hc1 (show p<l.length by omega));refine⟨hc1,ab,av (λk=>?_) (λ_=>⟨ab,?_⟩)⟩
   .have:=aL k;omega
   .rw[mW,af hb,aQ ab ab,aQ ab ab];exact⟨rfl,rfl⟩
theorem aC6:aD 13 aO6.spec:=aH Tryz.func13 aE aR ad3
def ah3:Ct:=⟨[.box 105 iA,.val cI],[.val cI],λd=>[ay d.1],λd=>(((aw d.1 d.2.1).1,()),((aw d.1 d.2.1).2,()))⟩
theorem aQ3 :
 ∀(a:ad)(b c:Int),((a.length<=maxLen/\ ∀(d:Int),d∈a->0<=d/\d<=255)/\aj b)/\aj c/\True->0<=b/\b<=(ac a)-> ∀(d:Bool),d=decide ((ac a)<=b)->(ae (! d))/\(aF d)/\ao (bif d then true else decide (c<1)) (0=(aw (a,b) c).1/\(a,b)=(aw (a,b) c).2) (0<=b/\b<(ac a)/\ao (decide (256<c)) (ay (a,ai (b+1))/\(256:Int)<=256/\c≠(0:Int)/\Int.tmod (ai (ai ((256:Int)*ai (ah a b))+(mW (a,ai (b+1)) (256:Int)).1)) c=(aw (a,b) c).1/\(mW (a,ai (b+1)) (256:Int)).2=(aw (a,b) c).2) (c≠(0:Int)/\Int.tmod (ai (ah a b)) c=(aw (a,b) c).1/\(a,ai (b+1))=(aw (a,b) c).2)):=by
  delta ae aF ai ah ac;rintro l p n ⟨⟨⟨hl,hw⟩,h0,h1⟩,⟨h2,h3⟩,-⟩⟨hc1,hc2⟩;simp only[maxLen] at hl hc1 hc2
  (repeat (refine bO ?_;repeat refine bP ?_));refine oT (λhb=>?_) (λhb1 hb2=>?_)
  .have hb:(l.length:Int)<=p∨n<1:=by simpa using hb
   rw[aw,am hb];exact⟨rfl,rfl⟩
  .have hb1:=aO hb1;have hb2:=aO hb2;have hb:¬ ((l.length:Int)<=p∨n<1):=ab;obtain⟨hm0,hm1⟩:=hw _ (bW hc1 (show p<l.length by omega));rw[aQ (n:=p+1) ab ab,aQ (n:=l.getD p.toNat default) ab ab];refine⟨hc1,ab,av (λk=>?_) (λk=>⟨ab,?_⟩)⟩
   .have k:=aL k;have hok:cV (l,p+1):=⟨⟨by show 0<=p+1;omega,by show p+1<=l.length;omega⟩,hw⟩
    have hr:=Kp hok 256;refine⟨hok.at',ab,ab,?_⟩;rw[aw,af hb,am k,aQ (n:=256*_) ab ab,aQ ab ab];exact⟨rfl,rfl⟩
   .rw[aw,af hb,af (aO k)];exact⟨rfl,rfl⟩
theorem xZ:aD 13 ah3.spec:=aH Tryz.func13 (au aE aC6) aR aQ3
def aH4:Ct:=⟨[.box 108 yq,.val .bool],[.val cI],λd=>[qp d.1],λd=>(((d.1.1.1.length:Int),()),(j4 d.1 d.2.1,()))⟩
def zx(a:List ar)(b:List aN)(c:List aT)(d:ad)(e:Int) :=
 ((a.length<=maxLen/\ ∀(g:ar),g∈a->CT.wf bN g)/\(b.length<=maxLen/\ ∀(g:aN),g∈b->CT.wf gh g)/\c.length<=maxLen/\ ∀(g:aT),g∈c->CT.wf ft g)/\(d.length<=maxLen/\ ∀(g:Int),g∈d->0<=g/\g<=255)/\aj e
def FU(a:List ar)(d:ad)(e:Int)(f:Bool) :=
 (([]:List (Int×Int)),(0:Int),ai ((1:Int)+ai (Int.tdiv (ac a) (3:Int))),f,([]:List aG),(1:Int),(0:Int),(0:Int),(0:Int),(0:Int),((0:Int),(0:Int)),false,false,getD [(64:Int),(255:Int),(128:Int)] (toNat (aw (d,e) (3:Int)).1) default,(aw (aw (d,e) (3:Int)).2 (256:Int)).1)
def oh :=
 (140737488355328:Nat)
theorem SY :
 ∀(a:List ar)(b:List aN)(c:List aT)(d:ad)(e:Int)(f:Bool),(zx a b c d e)/\True/\True->(ay (d,e)/\(ac a)<=1000/\(ac b)<=1000/\(ac c)<=1000/\ ∀(g:ar),g∈a->(ac g.1)<=1000)->ay (d,e)/\0<=(aw (d,e) (3:Int)).1/\(aw (d,e) (3:Int)).1<((length [(64:Int),(255:Int),(128:Int)]):Int)/\ay (aw (d,e) (3:Int)).2/\(3:Int)≠(0:Int)/\(a.length+length [(FU a d e f)])*(152:Nat)<=(oh)/\(ac a)=(ac a)/\((a++[(FU a d e f)],b,c),(aw (aw (d,e) (3:Int)).2 (256:Int)).2)=j4 ((a,b,c),d,e) f:=by
  delta zx FU oh ai ac;rintro ns ls hs l p b ⟨⟨-,⟨hl,hw⟩,-⟩,-,-⟩⟨hc,h1,h2,h3,h4⟩;have hok:cV (l,p):=⟨hc,hw⟩
  have r1:=dk hok 3;have r2:=fp hok (n:=3) ab;have e:Int.tdiv (ns.length:Int) 3=(ns.length:Int)/3:=Aj ab;refine⟨hc,r2.1,by simpa using r2.2,r1.1.at',ab,by simp only[eU];omega,rfl,?_⟩;rw[e,aQ (n:=(ns.length:Int)/3) ab ab,aQ ab ab];rfl
theorem ZZ:aD 39 aH4.spec:=aH Tryz.func39 (au aE xZ) aR SY
def oY(ns:List ar)(a b l k:Int):List ar:=if k=0 then ns else if k=1 then j5 ns a (gA l+1,l) else j5 (j5 ns a (gA l+1,l)) b (gA l+2,l)
def P8:Ct:=⟨[.box 108 yq,.val cI,.val cI],[.val cI],λd=>[qp d.1,inN d.1.1.1 d.2.1,inN d.1.1.1 d.2.2.1],λd=>(((d.1.1.2.1.length:Int),()),(ji d.1 d.2.1 d.2.2.1,()))⟩
def aI6:bu P8.ps->bS:=(λd=>{loops:=(bm 5 (λS=>{ι:=Int×(List ar),qn:=fj,μ:=λi=>(2-i.1).toNat,inv:=λi=>0<=i.1/\i.1<=2/\i.2=oY d.1.1.1 d.2.1 d.2.2.1 d.1.1.2.1.length i.1,keep:=[0,1,2,6,7,8],slots:=λi=>[(9,.int .i64 i.1)],keepN:=[1048577,2097154],names:=λi=>[(1048576,.live (.cells 108 [.own 524288 16,.own 524289 6,.own 2097154 7,.ptr 1048577 0])),(524288,.live (.row 103 bN i.2)),(524289,.live (.row 95 gh (sL (ji d.1 d.2.1 d.2.2.1))))]}) ci)})
def qC(d:ad)(e:Int) :=
 aw (aw (d,e) (20:Int)).2 (256:Int)
def wb(b:List aN) :=
 ai ((167837696:Int)+ai ((4:Int)*(ac b)))
theorem aq9 :
 ∀(a:List ar)(b:List aN)(c:List aT)(d:ad)(e f g:Int),(((a.length<=maxLen/\ ∀(h:ar),h∈a->CT.wf bN h)/\(b.length<=maxLen/\ ∀(h:aN),h∈b->CT.wf gh h)/\c.length<=maxLen/\ ∀(h:aT),h∈c->CT.wf ft h)/\(d.length<=maxLen/\ ∀(h:Int),h∈d->0<=h/\h<=255)/\aj e)/\aj f/\aj g/\True->qp ((a,b,c),d,e)/\inN a f/\0<=g/\g<(ac a)->ay (d,e)/\ay (aw (d,e) (20:Int)).2/\(b.length+length [(f,g,ai ((1:Int)+(aw (d,e) (20:Int)).1),(0:Int),(0:Int),(qC d e).1)])*(48:Nat)<=(oh)/\(∃(h:Int) (i:List ar),(0<=h/\h<=2/\i=oY a f g (ac b) h)/\f=f/\g=g/\(0:Int)=0/\(ac b)=(ac b)/\IntKind.wrap .u32 (wb b)=IntKind.wrap .u32 (wb b)/\0=h/\(qC d e).2.1=(qC d e).2.1/\(qC d e).2.2=(qC d e).2.2/\c=c/\a=i/\b++[(f,g,ai ((1:Int)+(aw (d,e) (20:Int)).1),(0:Int),(0:Int),(qC d e).1)]=sL (ji ((a,b,c),d,e) f g)/\True)/\ ∀(h:Int) (i:List
 ar),0<=h/\h<=2/\i=oY a f g (ac b) h->ao (decide (h<2)) (0<=h/\h<((length [f,g]):Int)/\0<=getD [f,g] h.toNat default/\getD [f,g] h.toNat default<(ac i)/\length (ah i (getD [f,g] h.toNat default)).1*(16:Nat)<=(oh)/\(length (ah i (getD [f,g] h.toNat default)).1+length [(IntKind.wrap .u32 (IntKind.wrap .u32 (IntKind.wrap .u32 (wb b)+1)+IntKind.wrap .u32 h),(ac b))])*(16:Nat)<=(oh)/\0<=getD [f,g] h.toNat default/\getD [f,g] h.toNat default<(ac i)/\ ∃(j:Int) (k:List ar),(0<=j/\j<=2/\k=oY a f g (ac b) j)/\toNat ((2:Int) -j)<toNat ((2:Int) -h)/\f=f/\g=g/\(0:Int)=0/\(ac b)=(ac b)/\IntKind.wrap .u32 (wb b)=IntKind.wrap .u32 (wb b)/\ai (h+1)=j/\(qC d e).2.1=(qC d e).2.1/\(qC d e).2.2=(qC d e).2.2/\c=c/\set i (toNat (getD [f,g] h.toNat default)) ((ah i (getD [f,g] h.toNat
 default)).1++[(IntKind.wrap .u32 (IntKind.wrap .u32 (IntKind.wrap .u32 (wb b)+1)+IntKind.wrap .u32 h),(ac b))],(ah i (getD [f,g] h.toNat default)).2)=k/\sL (ji ((a,b,c),d,e) f g)=sL (ji ((a,b,c),d,e) f g)/\True) ((ac b)=(ac b)/\((i,sL (ji ((a,b,c),d,e) f g),c),(qC d e).2)=ji ((a,b,c),d,e) f g):=by
  delta qC wb oh ai ah ac;rintro ns ls hs l p a b ⟨⟨-,⟨hl,hw⟩,-⟩,⟨ha1,ha2⟩,⟨hb1,hb2⟩,-⟩⟨⟨hc,h1,h2,h3,h4⟩,⟨a0,a1⟩,b0,b1⟩;simp only at h1 h2 h3 h4 a1;have hok:cV (l,p):=⟨hc,hw⟩
  have r1:=dk hok 20;have r2:=fp hok (n:=20) ab;have e1:IntKind.i64.wrap (1+(aw (l,p) 20).1)=1+(aw (l,p) 20).1:=aQ ab ab;rw[e1,aQ (n:=4*(ls.length:Int)) ab ab,aQ (n:=167837696+4*(ls.length:Int)) ab ab,oW (n:=167837696+4*(ls.length:Int)) ab ab,oW (n:=167837696+4*(ls.length:Int)+1) ab ab];refine⟨hc,r1.1.at',by simp only[eU];omega,⟨0,ns,⟨ab,ab,by rw[oY,am rfl]⟩,?_⟩,?_⟩
  ·(repeat refine gB ?_);exact⟨rfl,bv⟩
  rintro k ms ⟨k0,k2,rfl⟩;have hlen:∀ m:Int,(oY ns a b ls.length m).length=ns.length:=λm=>by
   unfold oY j5;split
   .rfl
   .split <;> simp
  refine bt (λhk=>?_) (λhk=>?_)
  .rw[hlen];have hk':k=0∨k=1:=ab;have hports:∀ x:Int,0<=x->x<ns.length->((ns.getD x.toNat default).1.length:Int)<=1000:=λx x0 x1=>h4 _ (bW x0 x1);rcases hk' with rfl|rfl
   .have e0:oY ns a b ls.length 0=ns:=by rw[oY,am rfl]
    rw[e0];have:=hports a a0 a1;have e3:([a,b]:ad).getD (toNat 0) default=a:=rfl;rw[e3];refine⟨ab,aC,a0,a1,ab,by simp only[eU];omega,a0,a1,1,_,⟨ab,ab,rfl⟩,ab,?_⟩
    (repeat refine gB ?_);refine⟨aQ ab ab,?_⟩
    (repeat refine gB ?_);refine⟨?_,?_⟩
    .rw[oY,af ab,am rfl];have:IntKind.u32.wrap (167837696+4*(ls.length:Int)+1+IntKind.u32.wrap 0)=gA ls.length+1:=by
      rw[oW (n:=0) ab ab,oW ab ab];unfold gA;omega
     rw[this];rfl
    .exact⟨rfl,bv⟩
   .have e0:oY ns a b ls.length 1=j5 ns a (gA ls.length+1,ls.length):=by rw[oY,af ab,am rfl]
    rw[e0];have e3:([a,b]:ad).getD (toNat 1) default=b:=rfl;rw[e3];have hpb:(((j5 ns a (gA ls.length+1,ls.length)).getD b.toNat default).1.length:Int)<=1001:=by
     unfold j5;by_cases hab:a.toNat=b.toNat
     .rw[hab,jN ab];have:=hports b b0 b1;simp only[cD,eU];omega
     .rw[m7 hab];have:=hports b b0 b1;omega
    refine⟨ab,aC,b0,b1,ab,by simp only[eU];omega,b0,b1,2,_,⟨ab,ab,rfl⟩,ab,?_⟩
    (repeat refine gB ?_);refine⟨aQ ab ab,?_⟩
    (repeat refine gB ?_);refine⟨?_,?_⟩
    .rw[oY,af ab,af ab];have:IntKind.u32.wrap (167837696+4*(ls.length:Int)+1+IntKind.u32.wrap 1)=gA ls.length+2:=by
      rw[oW (n:=1) ab ab,oW ab ab];unfold gA;omega
     rw[this];rfl
    .exact⟨rfl,bv⟩
  .have:k=2:=ab;subst this;refine⟨rfl,?_⟩;rw[oY,af ab,af ab];rfl
theorem Wr:aD 40 P8.spec:=aH Tryz.func40 (au aE xZ) aI6 aq9
def Bw(k:Int)(done:ad)(f:Bool)(l:ad):Prop:=(f=false/\l=done∧∀ x∈done,¬ k<x)∨(f=true/\l=kK k done∧∃ x∈done,k<x)
def Md:Ct:=⟨[.box 108 yq,.val cI,.agg kW,.val cI,.val cI],[],λd=>[inN d.1.1.1 d.2.1,cK (bf (d.1.1.1.getD d.2.1.toNat default)),okL (bf (d.1.1.1.getD d.2.1.toNat default)),∀ r∈bf (d.1.1.1.getD d.2.1.toNat default),(r.2.1.length:Int)<=1000],λd=>((),(((qQ d.1.1.1 d.2.1 d.2.2.1 d.2.2.2.1 d.2.2.2.2.1,d.1.1.2),d.1.2),()))⟩
def aW1:bu Md.ps->bS:=(λd=>{loops:=(bm 3 (λS=>{ι:=Int,μ:=λi=>((bf (d.1.1.1.getD d.2.1.toNat default)).length-i).toNat,inv:=λi=>0<=i/\i<=(bf (d.1.1.1.getD d.2.1.toNat default)).length∧∀ r∈(bf (d.1.1.1.getD d.2.1.toNat default)).take i.toNat,decide (r.1=d.2.2.1)=false,keep:=[0,1,3,4,7,8,9,10],slots:=λi=>[(11,.int .i64 i)],keepN:=[1048576,1048577,2097152,2097153,2097154,128]}) (bm 7 (λS=>{ι:=Int,μ:=λi=>(((bf (d.1.1.1.getD d.2.1.toNat default)).getD (S.i 11).toNat default).2.1.length-i).toNat,inv:=λi=>0<=i/\i<=((bf (d.1.1.1.getD d.2.1.toNat default)).getD (S.i 11).toNat default).2.1.length∧∀ x∈((bf (d.1.1.1.getD d.2.1.toNat default)).getD (S.i 11).toNat default).2.1.take i.toNat,x≠d.2.2.2.1,keep:=[0,1,3,4,7,8,9,10,11],slots:=λi=>[(12,.int .i64 i)],keepN:=[1048576,1048577,2097152,2097153,2097154,128]}) (bm 13 (λS=>{ι:=Int×Bool×ad,qn:=qU,μ:=λi=>(((bf (d.1.1.1.getD d.2.1.toNat default)).getD (S.i 11).toNat default).2.1.length-i.1).toNat,inv:=λi=>0<=i.1/\i.1<=((bf (d.1.1.1.getD d.2.1.toNat default)).getD (S.i 11).toNat default).2.1.length/\Bw d.2.2.2.1 (((bf (d.1.1.1.getD d.2.1.toNat default)).getD (S.i 11).toNat default).2.1.take i.1.toNat) i.2.1 i.2.2,keep:=[0,1,3,4,7,8,9,10,11,13],slots:=λi=>[(14,.bool i.2.1),(15,.int .i64 i.1)],keepN:=[1048576,1048577,2097152,2097153,2097154,128],names:=λi=>[(224,.live (.cells 93 [.int .u32 d.2.2.1.1,.int .i64 d.2.2.1.2,.own 524288 1,.int .i64 ((bf (d.1.1.1.getD d.2.1.toNat default)).getD (S.i 11).toNat default).2.2])),(524288,.live (.row 3 cI i.2.2))]}) ci)))})
def nD(a:List ar)(f k:Int) :=
 getD (bf (ah a f)) k.toNat default
def rL(a:List ar)(f k:Int) :=
 getD (ah a f).2.2.2.2.1 k.toNat default
def ou(a:List ar)(f k:Int) :=
 ((length (nD a f k).2.1):Int)
def te(a:List ar)(f:Int) :=
 ((length (ah a f).2.2.2.2.1):Int)
def wa(a:List ar)(f k:Int) :=
 ((length (rL a f k).2.1):Int)
def xL(a:List ar)(f:Int) :=
 ((length (bf (ah a f))):Int)
theorem TN :
 ∀(a:List ar)(b:List aN)(c:List aT)(d:ad)(e f g h i j:Int),(((a.length<=maxLen/\ ∀(k:ar),k∈a->CT.wf bN k)/\(b.length<=maxLen/\ ∀(k:aN),k∈b->CT.wf gh k)/\c.length<=maxLen/\ ∀(k:aT),k∈c->CT.wf ft k)/\(d.length<=maxLen/\ ∀(k:Int),k∈d->0<=k/\k<=255)/\aj e)/\aj f/\((0<=g/\g<=4294967295)/\aj h)/\aj i/\aj j/\True->(inN a f/\cK (bf (ah a f))/\okL (bf (ah a f))/\ ∀(k:aG),k∈bf (ah a f)->(ac k.2.1)<=1000)->0<=f/\f<(ac a)/\(∃(k:Int),(0<=k/\k<=(xL a f)/\ ∀(l:aG),l∈take k.toNat (bf (ah a f))->decide (l.1=(g,h))=false)/\f=f/\i=i/\j=j/\f.toNat=f.toNat/\0=k/\d=d/\e=e/\a=a/\b=b/\c=c/\g=g/\h=h/\True)/\ ∀(k:Int),(0<=k/\k<=(xL a f)/\ ∀(l:aG),l∈take k.toNat (bf (ah a f))->decide (l.1=(g,h))=false)->ao (decide (k<(te a f))) (0<=k/\k<(te a f)/\ao (decide ((rL a f k).1.1=g)&&(decide ((rL a f
 k).1.2=h)&&true)) ((∃(l:Int),(0<=l/\l<=(ou a f k)/\ ∀(m:Int),m∈take l.toNat (nD a f k).2.1->m≠i)/\f=f/\i=i/\j=j/\f.toNat=f.toNat/\k=k/\0=l/\d=d/\e=e/\a=a/\b=b/\c=c/\g=g/\h=h/\True)/\ ∀(l:Int),(0<=l/\l<=(ou a f k)/\ ∀(m:Int),m∈take l.toNat (nD a f k).2.1->m≠i)->0<=k/\k<(te a f)/\ao (decide (l<(wa a f k))) (0<=k/\k<(te a f)/\0<=l/\l<(wa a f k)/\ao (decide (getD (rL a f k).2.1 l.toNat default=i)) (((a,b,c),d,e)=((qQ a f (g,h) i j,b,c),d,e)) (∃(m:Int),(0<=m/\m<=(ou a f k)/\ ∀(n:Int),n∈take m.toNat (nD a f k).2.1->n≠i)/\toNat ((ou a f k) -m)<toNat ((ou a f k) -l)/\f=f/\i=i/\j=j/\f.toNat=f.toNat/\k=k/\ai (l+1)=m/\d=d/\e=e/\a=a/\b=b/\c=c/\g=g/\h=h/\True)) (0<=k/\k<(te a f)/\(∃(m:Int) (n:Bool),∃(o:ad),(0<=m/\m<=(ou a f k)/\Bw i (take m.toNat (nD a f k).2.1) n
 o)/\f=f/\i=i/\j=j/\f.toNat=f.toNat/\k=k/\false=n/\0=m/\d=d/\e=e/\a=a/\b=b/\c=c/\g=g/\h=h/\g=g/\h=h/\(rL a f k).2.2=(nD a f k).2.2/\o=([]:ad)/\True)/\ ∀(m:Int)(n:Bool)(o:ad),0<=m/\m<=(ou a f k)/\Bw i (take m.toNat (nD a f k).2.1) n o->0<=k/\k<(te a f)/\ao (decide (m<(wa a f k))) (∀(p:Bool),p= ! n->(ae p)/\(ae p)/\(ae p)/\(p->(aq p)/\(aq p)/\0<=k/\k<(te a f)/\True)/\(ae p)/\(ae p)/\(p->(aq p)/\(aq p)/\0<=m/\m<(wa a f k)/\True)/\(ae p)/\(p->(aq p)/\(aq p)/\True)/\(aq p)/\ao (bif p then decide (i<getD (rL a f k).2.1 m.toNat default) else false) ((o.length+length [i])*(8:Nat)<=(oh)/\0<=k/\k<(te a f)/\0<=m/\m<(wa a f k)/\(length (o++[i])+length [getD (rL a f k).2.1 m.toNat default])*(8:Nat)<=(oh)/\ ∃(q:Int) (r:Bool),∃(s:ad),(0<=q/\q<=(ou a f k)/\Bw i (take q.toNat (nD a f
 k).2.1) r s)/\toNat ((ou a f k) -q)<toNat ((ou a f k) -m)/\f=f/\i=i/\j=j/\f.toNat=f.toNat/\k=k/\true=r/\ai (m+1)=q/\d=d/\e=e/\a=a/\b=b/\c=c/\g=g/\h=h/\g=g/\h=h/\(nD a f k).2.2=(nD a f k).2.2/\o++[i]++[getD (rL a f k).2.1 m.toNat default]=s/\True) (0<=k/\k<(te a f)/\0<=m/\m<(wa a f k)/\(o.length+length [getD (rL a f k).2.1 m.toNat default])*(8:Nat)<=(oh)/\ ∃(q:Int) (r:Bool),∃(s:ad),(0<=q/\q<=(ou a f k)/\Bw i (take q.toNat (nD a f k).2.1) r s)/\toNat ((ou a f k) -q)<toNat ((ou a f k) -m)/\f=f/\i=i/\j=j/\f.toNat=f.toNat/\k=k/\n=r/\ai (m+1)=q/\d=d/\e=e/\a=a/\b=b/\c=c/\g=g/\h=h/\g=g/\h=h/\(nD a f k).2.2=(nD a f k).2.2/\o++[getD (rL a f k).2.1 m.toNat default]=s/\True)) (ao (! n) ((o.length+length [i])*(8:Nat)<=(oh)/\cK (ah a f).2.2.2.2.1/\okL (ah a f).2.2.2.2.1/\((length
 (o++[i])):Int)<=1099511627776/\((set a f.toNat ((ah a f).1,(ah a f).2.1,(ah a f).2.2.1,(ah a f).2.2.2.1,f6 (ah a f).2.2.2.2.1 ((g,h),o++[i],(nD a f k).2.2),(ah a f).2.2.2.2.2),b,c),d,e)=((qQ a f (g,h) i j,b,c),d,e)) (cK (ah a f).2.2.2.2.1/\okL (ah a f).2.2.2.2.1/\(ac o)<=1099511627776/\((set a f.toNat ((ah a f).1,(ah a f).2.1,(ah a f).2.2.1,(ah a f).2.2.2.1,f6 (ah a f).2.2.2.2.1 ((g,h),o,(nD a f k).2.2),(ah a f).2.2.2.2.2),b,c),d,e)=((qQ a f (g,h) i j,b,c),d,e))))) (∃(l:Int),(0<=l/\l<=(xL a f)/\ ∀(m:aG),m∈take l.toNat (bf (ah a f))->decide (m.1=(g,h))=false)/\toNat ((xL a f) -l)<toNat ((xL a f) -k)/\f=f/\i=i/\j=j/\f.toNat=f.toNat/\ai (k+1)=l/\d=d/\e=e/\a=a/\b=b/\c=c/\g=g/\h=h/\True)) (cK (ah a f).2.2.2.2.1/\okL (ah a f).2.2.2.2.1/\((length [i]):Int)<=1099511627776/\((set a f.toNat ((ah a
 f).1,(ah a f).2.1,(ah a f).2.2.1,(ah a f).2.2.2.1,f6 (ah a f).2.2.2.2.1 ((g,h),[i],j),(ah a f).2.2.2.2.2),b,c),d,e)=((qQ a f (g,h) i j,b,c),d,e)):=by
  delta nD rL ou te oh wa xL ae aq ai ah ac;rintro ns ls hs cl cp n a pl k way-⟨⟨n0,n1⟩,hsr,hol,hnx⟩;have eR:(ns.getD n.toNat default).2.2.2.2.1=bf (ns.getD n.toNat default):=rfl;simp only[eR];have fin:∀ l',vp (bf (ns.getD n.toNat default)) (a,pl) k way=l'→((ns.set n.toNat ((ns.getD n.toNat default).1,(ns.getD n.toNat default).2.1,(ns.getD n.toNat default).2.2.1,(ns.getD n.toNat default).2.2.2.1,l',(ns.getD n.toNat default).2.2.2.2.2),ls,hs),cl,cp)=((qQ ns n (a,pl) k way,ls,hs),cl,cp):=by
   rintro _ rfl;rfl
  have same:vp (bf (ns.getD n.toNat default)) (a,pl) k way=bf (ns.getD n.toNat default)->((ns,ls,hs),cl,cp)=((qQ ns n (a,pl) k way,ls,hs),cl,cp):=λh=>by
   have h2:=fin _ h;rw[← h2];have hn:n.toNat<ns.length:=ab;have e:((ns.getD n.toNat default).1,(ns.getD n.toNat default).2.1,(ns.getD n.toNat default).2.2.1,(ns.getD n.toNat default).2.2.2.1,bf (ns.getD n.toNat default),(ns.getD n.toNat default).2.2.2.2.2)=ns.getD n.toNat default:=rfl;rw[e];have:ns.set n.toNat (ns.getD n.toNat default)=ns:=by
    rw[ce,cF hn,fu,List.set_getElem_self]
   rw[this]
  generalize bf (ns.getD n.toNat default)=R at *;have hlR:=hol.1;refine⟨n0,n1,⟨0,⟨ab,ab,aC⟩,aM⟩,?_⟩;rintro i ⟨i0,i1,hi⟩;refine av (λhk=>?_) (λhk=>?_)
  rotate_left
  .have hk:=aO hk;rw[dm ab] at hi;refine⟨hsr,hol,aC,fin _ ?_⟩;have e:rH R (a,pl)=R.length:=List.findIdx_eq_length_of_false hi;rw[vp,e,af (Nat.lt_irrefl _)]
  have hk:=aL hk;refine⟨i0,hk,av (λhm=>?_) (λhm=>?_)⟩
  rotate_left
  .have hf:decide ((R.getD i.toNat default).1=(a,pl))=false:=by
    refine dw λq=>?_;rw[q] at hm;simp at hm
   exact⟨i+1,⟨ab,ab,nY i0 hk hi hf⟩,ab,aM⟩
  have hm:decide ((R.getD i.toNat default).1=(a,pl))=true:=by
   generalize R.getD i.toNat default=z at hm;obtain⟨⟨z1,z2⟩,z3,z4⟩:=z;simp at hm;simp[hm]
  have hfi:i=if rH R (a,pl)<R.length then (rH R (a,pl):Int) else -1:=xY i0 hk hi hm;have hfl:rH R (a,pl)<R.length:=gC λq=>by rw[af q] at hfi;omega
  rw[am hfl] at hfi;have hfe:rH R (a,pl)=i.toNat:=ab;have hrl:=hnx _ (bW i0 hk);have eL:vp R (a,pl) k way=if k∈(R.getD i.toNat default).2.1 then R else f6 R ((a,pl),kK k (R.getD i.toNat default).2.1,(R.getD i.toNat default).2.2):=by
   rw[vp,am hfl,hfe]
  generalize hZ:R.getD i.toNat default=Z at *;refine⟨⟨0,⟨ab,ab,aC⟩,aM⟩,?_⟩;rintro j ⟨j0,j1,hj⟩;refine⟨i0,hk,av (λhjk=>?_) (λhjk=>?_)⟩
  .have hjk:=aL hjk;refine⟨i0,hk,j0,hjk,av (λhe=>same ?_) (λhe=>?_)⟩
   .have he:=aL he;rw[eL,am (he▸bW j0 hjk)]
   .exact⟨j+1,⟨ab,ab,nY (P:=λx=>x≠k) j0 hjk hj (aO he)⟩,ab,aM⟩
  have hjk:=aO hjk;rw[dm ab] at hj;have hnk:¬ k∈Z.2.1:=λq=>hj k q rfl;rw[af hnk] at eL;refine⟨i0,hk,⟨0,false,[],⟨ab,ab,.inl ⟨rfl,aC,aC⟩⟩,aM⟩,?_⟩;rintro m f l ⟨m0,m1,hins⟩;have hll:(l.length:Int)<=1001:=by
   rcases hins with⟨-,rfl,-⟩|⟨-,rfl,-⟩
   .rw[cW];omega
   .rw[FA,cW];omega
  refine⟨i0,hk,av (λhmk=>?_) (λhmk=>?_)⟩
  .have hmk:=aL hmk
   (repeat (intro (b_:Bool) (hb_:b_=_);(repeat refine⟨(by first|(simp +contextual;done)|(rw[hb_];simp +contextual;done)|(rw[hb_];simp;omega)|(rw[hb_];simp;intros;omega)|(rw[hb_];simp +contextual;intros;omega)|(intros;simp_all;done)|(intros;simp_all;omega)),?_⟩)));(repeat (subst hb_))
   refine pT (λh1 h2=>?_) (λh1=>?_)
   .have h1:f=false:=by simpa using h1
    have h2:=aL h2;subst h1;rcases hins with⟨-,rfl,hin⟩|⟨q,-⟩
    .refine⟨by simp only[eU];omega,i0,hk,m0,hmk,by simp only[cD,eU];omega,m+1,true,_,⟨ab,ab,.inr ⟨rfl,rfl,Z.2.1.getD m.toNat default,?_,h2⟩⟩,ab,?_⟩
     .rw[nK m0 hmk];exact jd _ aC
     ·(repeat refine iK ?_);refine⟨?_,bv⟩;rw[nK m0 hmk,LQ hin h2]
    .cases q
   .refine⟨i0,hk,m0,hmk,by simp only[eU];omega,m+1,f,l++[Z.2.1.getD m.toNat default],⟨ab,ab,?_⟩,ab,aM⟩;rw[nK m0 hmk];rcases hins with⟨rfl,rfl,hin⟩|⟨rfl,rfl,hin⟩
    .refine .inl ⟨rfl,rfl,λx hx=>?_⟩;rcases dH.1 hx with hx|hx
     .exact hin x hx
     .rw[jR.1 hx];rcases h1 with h1|h1
      .cases h1
      .exact aO h1
    .obtain⟨x,hx,hx2⟩:=hin;exact .inr ⟨rfl,(M0 ⟨x,hx,hx2⟩).symm,x,g7 _ hx,hx2⟩
  have hmk:=aO hmk;rw[dm ab] at hins;refine av (λhf=>?_) (λhf=>?_)
  .have hf:f=false:=by simpa using hf
   rcases hins with⟨-,rfl,hin⟩|⟨q,-⟩
   .refine⟨by simp only[eU];omega,hsr,hol,by simp only[cD,eU];omega,fin _ ?_⟩;rw[eL,Ot hin]
   .rw[hf] at q;cases q
  .have hf:f=true:=by simpa using hf
   rcases hins with⟨q,-⟩|⟨-,rfl,hin⟩
   .rw[hf] at q;cases q
   .exact⟨hsr,hol,ab,fin _ eL⟩
theorem ae7:aD 91 Md.spec:=aH Tryz.func91 (au aE PE) aW1 TN
def aC1(n:Nat)(to:Int):ad:=(replicate n (1000:Int)).set to.toNat 0
def qy(n:Nat)(ls:List aN)(to:Int)(k:Nat):ad:=(range k).foldl (λd _=>ls.foldl rN d) (aC1 n to)
theorem X4{n:Nat}{i:Int}(h0:0<=i)(h1:i<n):(replicate i.toNat (1000:Int)++replicate (n-i.toNat) 0).set i.toNat 1000=replicate (i+1).toNat 1000++replicate (n-(i+1).toNat) 0:=by
 have e:(i+1).toNat=i.toNat+1:=ab
 have e2:n-i.toNat=(n-(i.toNat+1))+1:=ab
 rw[e,e2,List.set_append_right _ _ aC,qT,Nat.sub_self,List.replicate_succ,List.set_cons_zero,List.replicate_succ',iN]
 rfl
def qY(n:Nat)(d:ad):Prop:=d.length=n∧∀ x∈d,0<=x/\x<=1000
theorem Jz{n:Nat}{d:ad}{i:Nat}{v:Int}(h:qY n d)(h0:0<=v)(h1:v<=1000):qY n (d.set i v):=by
 refine⟨by rw[fV];exact h.1,λx hx=>?_⟩
 rcases wz hx with hx|rfl
 .exact h.2 x hx
 .exact⟨h0,h1⟩
theorem NZ{n:Nat}{d:ad}(h:qY n d){i:Int}(h0:0<=i)(h1:i<n):0<=d.getD i.toNat default/\d.getD i.toNat default<=1000:=h.2 _ (bW h0 (by rw[h.1];exact h1))
theorem S5{n:Nat}{d:ad}{l:aN}(h:qY n d)(hl:0<=l.1/\l.1<n/\0<=l.2.1/\l.2.1<n):qY n (rN d l):=by
 have ha:=NZ h hl.1 hl.2.1
 have hb:=NZ h hl.2.2.1 hl.2.2.2
 unfold rN lA lB
 exact Jz (Jz h ab ab) ab ab
theorem J7{n:Nat}:∀{ls:List aN}{d:ad},iR n ls->qY n d->qY n (ls.foldl rN d)
 | [],d,_,h=>h
 | l::ls,d,hg,h=>J7 (ls:=ls) (λx hx=>hg x (fw _ hx)) (S5 h (hg l fF))
theorem aQ1{n:Nat}{ls:List aN}{d:ad}(hg:iR n ls)(h:qY n d)(j:Nat):qY n ((ls.take j).foldl rN d) :=
 J7 (λx hx=>hg x (oB hx)) h
theorem Jx(n:Nat)(ls:List aN)(to:Int)(hg:iR n ls):∀ k,qY n (qy n ls to k)
 | 0=>Jz ⟨qT,λx hx=>by rw[(List.mem_replicate.1 hx).2];omega⟩ ab ab
 | k+1=>by
  have:=J7 hg (Jx n ls to hg k);unfold qy at this ⊢;rw[mM,j9];exact this
def Lv:Ct:=⟨[.box 108 yq,.val cI],[.own 3 cI],λd=>[(d.1.1.1.length:Int)<=1000,(d.1.1.2.1.length:Int)<=1000,inN d.1.1.1 d.2.1,iR d.1.1.1.length d.1.1.2.1],λd=>((fc d.1.1.1.length d.1.1.2.1 d.2.1,()),(d.1,()))⟩
def Wh:bu Lv.ps->bS:=(λd=>{loops:=(bm 3 (λS=>{ι:=Int×ad,qn:=fj,μ:=λi=>(d.1.1.1.length-i.1).toNat,inv:=λi=>0<=i.1/\i.1<=d.1.1.1.length/\i.2=replicate i.1.toNat 1000++replicate (d.1.1.1.length-i.1.toNat) 0,keep:=[0,1],slots:=λi=>[(6,.int .i64 i.1),(5,.own 524288 1)],keepN:=[1048576,1048577,2097152,2097153,2097154],names:=λi=>[(524288,.live (.row 3 cI i.2))]}) (bm 8 (λS=>{ι:=Int×ad,qn:=fj,μ:=λi=>(d.1.1.1.length-i.1).toNat,inv:=λi=>0<=i.1/\i.1<=d.1.1.1.length/\i.2=qy d.1.1.1.length d.1.1.2.1 d.2.1 i.1.toNat,keep:=[0,1],slots:=λi=>[(7,.int .i64 i.1),(5,.own 524288 1)],keepN:=[1048576,1048577,2097152,2097153,2097154],names:=λi=>[(524288,.live (.row 3 cI i.2))]}) (bm 11 (λS=>{ι:=Int×ad,qn:=fj,μ:=λi=>(d.1.1.2.1.length-i.1).toNat,inv:=λi=>0<=i.1/\i.1<=d.1.1.2.1.length/\i.2=(d.1.1.2.1.take i.1.toNat).foldl rN (qy d.1.1.1.length d.1.1.2.1 d.2.1 (S.i 7).toNat),keep:=[0,1,7],slots:=λi=>[(8,.int .i64 i.1),(5,.own 524288 1)],keepN:=[1048576,1048577,2097152,2097153,2097154],names:=λi=>[(524288,.live (.row 3 cI i.2))]}) ci)))})
def FQ(b:List aN)(k:Int)(l:ad) :=
 set l (toNat (ah b k).1) (min (l.getD (toNat (ah b k).1) default) (ai (l.getD (toNat (ah b k).2.1) default+1)))
theorem aA9 :
 ∀(a:List ar)(b:List aN)(c:List aT)(d:ad)(e f:Int),(zx a b c d e)/\aj f/\True->((ac a)<=1000/\(ac b)<=1000/\inN a f/\ ∀(g:aN),g∈b->0<=g.1/\g.1<(ac a)/\0<=g.2.1/\g.2.1<(ac a))->0<=(ac a)/\(ac a)<=(ac a)/\(↑(8:Nat):Int)*(ac a)<=281474976710656/\(∃(g:Int) (h:ad),(0<=g/\g<=(ac a)/\h=replicate g.toNat (1000:Int)++replicate (a.length -g.toNat) (0:Int))/\f=f/\0=g/\d=d/\e=e/\a=a/\b=b/\c=c/\replicate (toNat (ac a)) (0:Int)=h/\True)/\ ∀(g:Int)(h:ad),0<=g/\g<=(ac a)/\h=replicate g.toNat (1000:Int)++replicate (a.length -g.toNat) (0:Int)->ao (decide (g<(ac h))) (0<=g/\g<(ac h)/\ ∃(i:Int) (j:ad),(0<=i/\i<=(ac a)/\j=replicate i.toNat (1000:Int)++replicate (a.length -i.toNat) (0:Int))/\toNat ((ac a) -i)<toNat ((ac a) -g)/\f=f/\ai (g+1)=i/\d=d/\e=e/\a=a/\b=b/\c=c/\set h g.toNat
 (1000:Int)=j/\True) (0<=f/\f<(ac h)/\(∃(i:Int) (j:ad),(0<=i/\i<=(ac a)/\j=qy a.length b f i.toNat)/\f=f/\0=i/\d=d/\e=e/\a=a/\b=b/\c=c/\set h f.toNat (0:Int)=j/\True)/\ ∀(i:Int)(j:ad),0<=i/\i<=(ac a)/\j=qy a.length b f i.toNat->ao (decide (i<(ac j))) ((∃(k:Int) (l:ad),(0<=k/\k<=(ac b)/\l=List.foldl rN (qy a.length b f i.toNat) (take k.toNat b))/\f=f/\i=i/\0=k/\d=d/\e=e/\a=a/\b=b/\c=c/\j=l/\True)/\ ∀(k:Int)(l:ad),0<=k/\k<=(ac b)/\l=List.foldl rN (qy a.length b f i.toNat) (take k.toNat b)->ao (decide (k<(ac b))) (0<=k/\k<(ac b)/\0<=(ah b k).1/\(ah b k).1<(ac l)/\0<=(ah b k).2.1/\(ah b k).2.1<(ac l)/\0<=(ah b k).2.1/\(ah b k).2.1<(ac l)/\0<=(ah b k).1/\(ah b k).1<(ac l)/\0<=(ah b k).1/\(ah b k).1<(ac l)/\0<=(ah b k).2.1/\(ah b k).2.1<((length (FQ b k l)):Int)/\ ∃(m:Int) (n:ad),(0<=m/\m<=(ac
 b)/\n=List.foldl rN (qy a.length b f i.toNat) (take m.toNat b))/\toNat ((ac b) -m)<toNat ((ac b) -k)/\f=f/\i=i/\ai (k+1)=m/\d=d/\e=e/\a=a/\b=b/\c=c/\set (FQ b k l) (toNat (ah b k).2.1) (min (l.getD (toNat (ah b k).2.1) default) (ai (l.getD (toNat (ah b k).1) default+1)))=n/\True) (∃(m:Int) (n:ad),(0<=m/\m<=(ac a)/\n=qy a.length b f m.toNat)/\toNat ((ac a) -m)<toNat ((ac a) -i)/\f=f/\ai (i+1)=m/\d=d/\e=e/\a=a/\b=b/\c=c/\l=n/\True)) (j=fc a.length b f/\((a,b,c),d,e)=((a,b,c),d,e))):=by
  delta zx FQ ai ah ac;rintro ns ls hs l p to-⟨h1,h2,⟨t0,t1⟩,hg⟩;have hn0:toNat (ns.length:Int)=ns.length:=ab;refine⟨ab,ab,ab,⟨0,_,⟨ab,ab,rfl⟩,?_⟩,?_⟩
  ·(repeat refine gB ?_);refine⟨?_,bv⟩;simp
  rintro i d ⟨i0,i1,rfl⟩;have hlen:(replicate i.toNat (1000:Int)++replicate (ns.length-i.toNat) 0).length=ns.length:=by
   simp only[cD,qT];omega
  rw[hlen];refine av (λhk=>?_) (λhk=>?_)
  .have hk:=aL hk;refine⟨i0,hk,i+1,_,⟨ab,ab,rfl⟩,ab,?_⟩
   (repeat refine gB ?_);refine⟨aQ ab ab,?_⟩
   (repeat refine gB ?_);refine⟨?_,bv⟩;exact X4 i0 hk
  have hk:=aO hk;have e:i.toNat=ns.length:=ab;rw[e,Nat.sub_self,List.replicate_zero,ke];refine⟨t0,t1,⟨0,_,⟨ab,ab,rfl⟩,?_⟩,?_⟩
  ·(repeat refine gB ?_);exact⟨rfl,bv⟩
  rintro k d ⟨k0,k1,rfl⟩;have dl:=Jx (ns.length) ls to hg;rw[(dl k.toNat).1];refine av (λhk2=>?_) (λhk2=>?_)
  rotate_left
  .have hk2:=aO hk2;have e:k.toNat=ns.length:=ab;rw[e];exact⟨rfl,rfl⟩
  have hk2:=aL hk2;refine⟨⟨0,_,⟨ab,ab,rfl⟩,?_⟩,?_⟩
  ·(repeat refine gB ?_);exact⟨rfl,bv⟩
  rintro j d ⟨j0,j1,rfl⟩;have fl:=aQ1 hg (dl k.toNat) j.toNat
  refine av (λhj=>?_) (λhj=>?_)
  rotate_left
  .have hj:=aO hj;refine⟨k+1,_,⟨ab,ab,rfl⟩,ab,?_⟩
   (repeat refine gB ?_);refine⟨aQ ab ab,?_⟩
   (repeat refine gB ?_);refine⟨?_,bv⟩;rw[dm ab,show (k+1).toNat=k.toNat+1 by omega];unfold qy;rw[mM,j9];rfl
  have hj:=aL hj;obtain⟨g1,g2,g3,g4⟩:=hg _ (bW j0 hj);generalize hX:List.foldl rN (qy ns.length ls to k.toNat) (ls.take j.toNat)=X at fl;have xa:=fl.2 _ (bW g1 (show _<(X.length:Int) by rw[fl.1];exact g2));have xb:=fl.2 _ (bW g3 (show _<(X.length:Int) by rw[fl.1];exact g4));simp only[fV];rw[fl.1];refine⟨j0,hj,g1,g2,g3,g4,g3,g4,g1,g2,g1,g2,g3,g4,j+1,_,⟨ab,ab,rfl⟩,ab,?_⟩
  (repeat refine iK ?_);refine⟨?_,bv⟩;rw[aQ ab ab,aQ ab ab,nK j0 hj,j9,hX];rfl
theorem aI0:aD 89 Lv.spec:=aH Tryz.func89 aE Wh aA9
def Tx:Ct:=⟨[.val (.sl cJ),.agg kW],[.val .bool],λd=>[okL d.1],λd=>((mz d.1 d.2.1,()),())⟩
theorem VM :
 ∀(a:List aG)(b c:Int),(a.length<=maxLen/\ ∀(d:aG),d∈a->((0<=d.1.1/\d.1.1<=4294967295)/\aj d.1.2)/\(d.2.1.length<=maxLen/\ ∀(e:Int),e∈d.2.1->aj e)/\aj d.2.2)/\((0<=b/\b<=4294967295)/\aj c)/\True->((ac a)<=134217728/\ ∀(d:Rt),d∈a->(ac d.2.1)<=1099511627776)->okL a/\mz a (b,c)=mz a (b,c):=by
  delta ac;rintro l a n-h;exact⟨h,rfl⟩
theorem YT:aD 90 Tx.spec:=aH Tryz.func90 (au aE PJ) aR VM
def Tw:Ct:=⟨[.box 105 iA],[.val cy],λd=>[ay d.1],λd=>((IntKind.u32.wrap (167837696+(aw d.1 40).1),()),((aw d.1 40).2,()))⟩
theorem aT5 :
 ∀(a:ad)(b:Int),((a.length<=maxLen/\ ∀(c:Int),c∈a->0<=c/\c<=255)/\aj b)/\True->0<=b/\b<=(ac a)->ay (a,b)/\IntKind.wrap .u32 (ai ((167837696:Int)+(aw (a,b) (40:Int)).1))=IntKind.wrap .u32 ((167837696:Int)+(aw (a,b) (40:Int)).1)/\(aw (a,b) (40:Int)).2=(aw (a,b) (40:Int)).2:=by
  delta ai ac;rintro l p ⟨⟨⟨hl,hw⟩,-⟩,-⟩ hc;have hok:cV (l,p):=⟨hc,hw⟩
  have r2:=fp hok (n:=40) ab;refine⟨hc,?_,rfl⟩;rw[aQ (n:=167837696+_) ab ab]
theorem aw9:aD 92 Tw.spec:=aH Tryz.func92 (au aE xZ) aR aT5
def oH(d:ad)(to:Int)(p:d8)(plain:Bool)(k way:Int)(ns:List ar)(l:aN)(e:Int):List ar :=
 if e=0 then ns else if e=1 then rI d to p plain k way ns (lA l) (lB l) else rI d to p plain k way (rI d to p plain k way ns (lA l) (lB l)) (lB l) (lA l)
structure preR (s:bG):Prop where
 c:ay s.2
 n:(s.1.1.length:Int)<=1000
 l:(s.1.2.1.length:Int)<=1000
 g:iR s.1.1.length s.1.2.1
 r:∀ x∈s.1.1,bf x=[]
 a:((jb s.1.1).length:Int)<=100000
theorem ak0{ns:List ar}{i:Nat}(hi:i<ns.length):(aA (ns.getD i default)).length<=(jb ns).length:=by
 have hx:ns.getD i default∈ns:=by
  have:=bW (xs:=ns) (i:=(i:Nat)) ab ab;simpa using this
 unfold jb
 generalize ns.getD i default=x at hx ⊢
 obtain⟨u,v,e⟩:=List.append_of_mem hx
 rw[e];simp only[List.flatMap_append,List.flatMap_cons,cD,qm];omega
theorem RI.pre{ls:List aN}{ns0 ns:List ar}(h:RI ls (jb ns0) ns0 ns)(ha:((jb ns0).length:Int)<=100000)(hl:(ls.length:Int)<=1000){u:Int}(u0:0<=u)(u1:u<ns0.length) :
  inN ns u/\cK (bf (ns.getD u.toNat default))/\okL (bf (ns.getD u.toNat default))∧∀ r∈bf (ns.getD u.toNat default),(r.2.1.length:Int)<=1000:=by
 have t:=h.t u.toNat ab
 have tl:=Fu t
 have rl:∀ r∈bf (ns.getD u.toNat default),(r.2.1.length:Int)<=1000:=λr hr=>by have:=HJ (t.2 r hr);omega
 refine⟨⟨u0,by rw[h.n];exact u1⟩,t.1,⟨ab,λr hr=>?_⟩,rl⟩
 have:=rl r hr;omega
def Kz:Ct:=⟨[.box 108 yq,.val .bool],[],λd=>[preR d.1],λd=>((),(BJ d.1 d.2.1,()))⟩
def Xt:bu Kz.ps->bS:=(λd=>{loops:=(bm 1 (λS=>{ι:=Int×(List ar)×aZ,qn:=qU,μ:=λi=>(d.1.1.1.length-i.1).toNat,inv:=λi=>0<=i.1/\i.1<=d.1.1.1.length/\(i.2.1,i.2.2)=(range i.1.toNat).foldl (stepT d.1.1.2.1 d.2.1) (d.1.1.1,d.1.2),keep:=[0,1],slots:=λi=>[(4,.int .i64 i.1)],names:=λi=>[(1048576,.live (.cells 108 [.own 524288 16,.own 524289 6,.own 524290 7,.ptr 1048577 0])),(524288,.live (.row 103 bN i.2.1)),(524289,.live (.row 95 gh d.1.1.2.1)),(524290,.live (.row 118 ft d.1.1.2.2)),(1048577,.live (.cells 105 (cR iA i.2.2)))]}) (bm 9 (λS=>{ι:=Int×(List ar),qn:=fj,μ:=λi=>((S.l su 7).length-i.1).toNat,inv:=λi=>0<=i.1/\i.1<=(S.l su 7).length/\i.2=((S.l su 7).take i.1.toNat).foldl (stepP d.1.1.2.1 (fc d.1.1.1.length d.1.1.2.1 (S.i 4)) (S.i 4) d.2.1 (S.i 6)) (S.r bN 449),keep:=[0,1,4,5,6,7],slots:=λi=>[(8,.int .i64 i.1)],keepN:=[448,1048577],names:=λi=>[(1048576,.live (.cells 108 [.own 524288 16,.own 524289 6,.own 524290 7,.ptr 1048577 0])),(524288,.live (.row 103 bN i.2)),(524289,.live (.row 95 gh d.1.1.2.1)),(524290,.live (.row 118 ft d.1.1.2.2))]}) (bm 13 (λS=>{ι:=Int×(List ar),qn:=fj,μ:=λi=>(d.1.1.2.1.length-i.1).toNat,inv:=λi=>0<=i.1/\i.1<=d.1.1.2.1.length/\i.2=(range i.1.toNat).foldl (stepK d.1.1.2.1 (fc d.1.1.1.length d.1.1.2.1 (S.i 4)) (S.i 4) (S.c kW 160) d.2.1 (S.i 6)) (S.r bN 524288),keep:=[0,1,4,5,6,7,8,9],slots:=λi=>[(10,.int .i64 i.1)],keepN:=[160,448,1048577],names:=λi=>[(1048576,.live (.cells 108 [.own 524288 16,.own 524289 6,.own 524290 7,.ptr 1048577 0])),(524288,.live (.row 103 bN i.2)),(524289,.live (.row 95 gh d.1.1.2.1)),(524290,.live (.row 118 ft d.1.1.2.2))]}) (bm 18 (λS=>{ι:=Int×(List ar),qn:=fj,μ:=λi=>(2-i.1).toNat,inv:=λi=>0<=i.1/\i.1<=2/\i.2=oH (fc d.1.1.1.length d.1.1.2.1 (S.i 4)) (S.i 4) (S.c kW 160) d.2.1 (S.i 10) (S.i 6) (S.r bN 524288) (S.c gh 192) i.1,keep:=[0,1,4,5,6,7,8,9,10,11,12],slots:=λi=>[(13,.int .i64 i.1)],keepN:=[160,192,448,1504,1048577],names:=λi=>[(1048576,.live (.cells 108 [.own 524288 16,.own 524289 6,.own 524290 7,.ptr 1048577 0])),(524288,.live (.row 103 bN i.2)),(524289,.live (.row 95 gh d.1.1.2.1)),(524290,.live (.row 118 ft d.1.1.2.2))]}) ci)))),cuts:=(bm 7 (λS=>{ι:=Int×aZ,qn:=fj,inv:=λi=>(i.1,i.2)=nZ ((range (S.i 4).toNat).foldl (stepT d.1.1.2.1 d.2.1) (d.1.1.1,d.1.2)).2,keep:=[0,1,4,5],slots:=λi=>[(6,.int .i64 i.1)],keepN:=[448,1048576,449,450,451],names:=λi=>[(1048577,.live (.cells 105 (cR iA i.2)))]}) ci)})
def rz(b:List aN)(n:Int) :=
 ((ah b n).1,(ah b n).2.1)
def rS(b:List aN)(n:Int) :=
 ((ah b n).2.1,(ah b n).1)
def lC(b:List aN)(n p:Int) :=
 getD [(rz b n),(rS b n)] p.toNat default
def oA(g:Int)(h:List ar)(l:Int) :=
 getD (ah h g).1 l.toNat default
def uZ(g:Int)(h:List ar) :=
 ((length (ah h g).1):Int)
def rp(g:Int)(h:List ar)(l:Int) :=
 ((oA g h l).1,(32:Int))
def yZ(i:aZ) :=
 aw (aw i 3).2 (3:Int)
theorem Tc :
 ∀(a:List ar)(b:List aN)(c:List aT)(d:ad)(e:Int)(f:Bool),(zx a b c d e)/\True/\True->preR ((a,b,c),d,e)->(∃(g:Int) (h:List ar),∃(i:aZ),(0<=g/\g<=(ac a)/\(h,i)=List.foldl (stepT b f) (a,d,e) (range g.toNat))/\f=f/\0=g/\a=h/\b=b/\c=c/\d=i.1/\e=i.2/\True)/\ ∀(g:Int)(h:List ar)(i:aZ),0<=g/\g<=(ac a)/\(h,i)=List.foldl (stepT b f) (a,d,e) (range g.toNat)->ao (decide (g<(ac h))) ((ac h)<=1000/\(ac b)<=1000/\inN h g/\iR h.length b/\ay i/\(∀(j:Bool),j=decide (ai ((1:Int)+(aw i 3).1)=3)->(ae j)/\(ae j)/\(ae j)/\ao j ((aq j)/\ay (aw i 3).2/\(aq j)/\ao (bif j then decide (0<(yZ i).1) else false) (∃(k:Int) (l:aZ),(k,l)=nZ (List.foldl (stepT b f) (a,d,e) (range g.toNat)).2/\f=f/\g=g/\1=k/\fc h.length b g=fc h.length b g/\h=h/\b=b/\c=c/\(yZ i).2.1=l.1/\(yZ i).2.2=l.2/\True) (∃(k:Int) (l:aZ),(k,l)=nZ
 (List.foldl (stepT b f) (a,d,e) (range g.toNat)).2/\f=f/\g=g/\ai ((1:Int)+(aw i 3).1)=k/\fc h.length b g=fc h.length b g/\h=h/\b=b/\c=c/\(yZ i).2.1=l.1/\(yZ i).2.2=l.2/\True)) (j=false/\(j->false=true)/\ao (bif j then false else false) (∃(k:Int) (l:aZ),(k,l)=nZ (List.foldl (stepT b f) (a,d,e) (range g.toNat)).2/\f=f/\g=g/\1=k/\fc h.length b g=fc h.length b g/\h=h/\b=b/\c=c/\(aw i 3).2.1=l.1/\(aw i 3).2.2=l.2/\True) (∃(k:Int) (l:aZ),(k,l)=nZ (List.foldl (stepT b f) (a,d,e) (range g.toNat)).2/\f=f/\g=g/\ai ((1:Int)+(aw i 3).1)=k/\fc h.length b g=fc h.length b g/\h=h/\b=b/\c=c/\(aw i 3).2.1=l.1/\(aw i 3).2.2=l.2/\True)))/\ ∀(j:Int)(k:aZ),(j,k)=nZ (List.foldl (stepT b f) (a,d,e) (range g.toNat)).2->0<=g/\g<(ac h)/\(∃(l:Int) (m:List ar),(0<=l/\l<=(uZ g h)/\m=List.foldl (stepP b (fc a.length b g) g f j) h
 (take l.toNat (ah h g).1))/\f=f/\g=g/\j=j/\(ah h g).1=(ah h g).1/\0=l/\fc h.length b g=fc h.length b g/\k.1=k.1/\k.2=k.2/\h=m/\b=b/\c=c/\True)/\ ∀(l:Int)(m:List ar),0<=l/\l<=(uZ g h)/\m=List.foldl (stepP b (fc a.length b g) g f j) h (take l.toNat (ah h g).1)->ao (decide (l<(uZ g h))) (0<=l/\l<(uZ g h)/\(∃(n:Int) (o:List ar),(0<=n/\n<=(ac b)/\o=List.foldl (stepK b (fc a.length b g) g (rp g h l) f j) m (range n.toNat))/\f=f/\g=g/\j=j/\(ah h g).1=(ah h g).1/\l=l/\0=n/\(oA g h l).1=(oA g h l).1/\(32:Int)=32/\fc h.length b g=fc h.length b g/\k.1=k.1/\k.2=k.2/\m=o/\b=b/\c=c/\True)/\ ∀(n:Int)(o:List ar),0<=n/\n<=(ac b)/\o=List.foldl (stepK b (fc a.length b g) g (rp g h l) f j) m (range n.toNat)->ao (decide (n<(ac b))) (0<=n/\n<(ac b)/\(∃(p:Int) (q:List ar),(0<=p/\p<=2/\q=oH (fc a.length b g) g (rp g h l)
 f n j o (ah b n) p)/\f=f/\g=g/\j=j/\(ah h g).1=(ah h g).1/\l=l/\n=n/\0=p/\(oA g h l).1=(oA g h l).1/\(32:Int)=32/\(ah b n).1=(ah b n).1/\(ah b n).2.1=(ah b n).2.1/\(ah b n).2.2.1=(ah b n).2.2.1/\(ah b n).2.2.2.1=(ah b n).2.2.2.1/\(ah b n).2.2.2.2.1=(ah b n).2.2.2.2.1/\(ah b n).2.2.2.2.2=(ah b n).2.2.2.2.2/\fc h.length b g=fc h.length b g/\[(rz b n),(rS b n)]=[(rz b n),(rS b n)]/\k.1=k.1/\k.2=k.2/\o=q/\b=b/\c=c/\True)/\ ∀(p:Int)(q:List ar),0<=p/\p<=2/\q=oH (fc a.length b g) g (rp g h l) f n j o (ah b n) p->ao (decide (p<2)) (0<=p/\p<((length [(rz b n),(rS b n)]):Int)/\0<=(lC b n p).1/\(lC b n p).1<((length (fc h.length b g)):Int)/\0<=(lC b n p).2/\(lC b n p).2<((length (fc h.length b g)):Int)/\ ∀(r:Bool),r= ! decide (getD (fc h.length b g) (toNat (lC b n p).1) default=ai (getD (fc
 h.length b g) (toNat (lC b n p).2) default+1))->(ae (! r))/\((! r)->(aq (! r))/\(aq (! r))/\True)/\(ae (! r))/\ ∀(s:Bool),s= ! decide ((lC b n p).2=g)->(ae (! r&&s))/\(ae (! r&&s))/\(ae (! r&&s))/\(ae (! r&&s))/\(ae (! r&&s))/\((! r&&s)->(aq (! r&&s))/\(aq (! r&&s))/\0<=(lC b n p).2/\(lC b n p).2<(ac q)/\True)/\(ae (! r&&s))/\(ae (! r&&s))/\((! r)->(aq (! r))/\(s->(! r&&s))/\True)/\(aF r)/\ao (bif r then true else bif s then (q.getD (toNat (lC b n p).2) default).2.2.2.1 else false) (∃(t:Int) (u:List ar),(0<=t/\t<=2/\u=oH (fc a.length b g) g (rp g h l) f n j o (ah b n) t)/\toNat ((2:Int) -t)<toNat ((2:Int) -p)/\f=f/\g=g/\j=j/\(ah h g).1=(ah h g).1/\l=l/\n=n/\ai (p+1)=t/\(oA g h l).1=(oA g h l).1/\(32:Int)=32/\(ah b n).1=(ah b n).1/\(ah b n).2.1=(ah b n).2.1/\(ah b n).2.2.1=(ah b n).2.2.1/\(ah b n).2.2.2.1=(ah b
 n).2.2.2.1/\(ah b n).2.2.2.2.1=(ah b n).2.2.2.2.1/\(ah b n).2.2.2.2.2=(ah b n).2.2.2.2.2/\fc h.length b g=fc h.length b g/\[(rz b n),(rS b n)]=[(rz b n),(rS b n)]/\k.1=k.1/\k.2=k.2/\q=u/\b=b/\c=c/\True) (∀(t:Bool),t=f->(ae t)/\(ae t)/\(ae t)/\(ae t)/\(ae t)/\(t->(aq t)/\(aq t)/\0<=(lC b n p).1/\(lC b n p).1<(ac q)/\True)/\(ae t)/\(ae t)/\(t->(aq t)/\(aq t)/\okL (q.getD (toNat (lC b n p).1) default).2.2.2.2.1/\True)/\(aq t)/\ao (bif t then mz (q.getD (toNat (lC b n p).1) default).2.2.2.2.1 (rp g h l) else false) (∃(u:Int) (v:List ar),(0<=u/\u<=2/\v=oH (fc a.length b g) g (rp g h l) f n j o (ah b n) u)/\toNat ((2:Int) -u)<toNat ((2:Int) -p)/\f=f/\g=g/\j=j/\(ah h g).1=(ah h g).1/\l=l/\n=n/\ai (p+1)=u/\(oA g h l).1=(oA g h l).1/\(32:Int)=32/\(ah b n).1=(ah b n).1/\(ah b n).2.1=(ah b n).2.1/\(ah b
 n).2.2.1=(ah b n).2.2.1/\(ah b n).2.2.2.1=(ah b n).2.2.2.1/\(ah b n).2.2.2.2.1=(ah b n).2.2.2.2.1/\(ah b n).2.2.2.2.2=(ah b n).2.2.2.2.2/\fc h.length b g=fc h.length b g/\[(rz b n),(rS b n)]=[(rz b n),(rS b n)]/\k.1=k.1/\k.2=k.2/\q=v/\b=b/\c=c/\True) (inN q (lC b n p).1/\cK (bf (q.getD (toNat (lC b n p).1) default))/\okL (bf (q.getD (toNat (lC b n p).1) default))/\(∀(u:aG),u∈bf (q.getD (toNat (lC b n p).1) default)->(ac u.2.1)<=1000)/\ ∃(u:Int) (v:List ar),(0<=u/\u<=2/\v=oH (fc a.length b g) g (rp g h l) f n j o (ah b n) u)/\toNat ((2:Int) -u)<toNat ((2:Int) -p)/\f=f/\g=g/\j=j/\(ah h g).1=(ah h g).1/\l=l/\n=n/\ai (p+1)=u/\(oA g h l).1=(oA g h l).1/\(32:Int)=32/\(ah b n).1=(ah b n).1/\(ah b n).2.1=(ah b n).2.1/\(ah b n).2.2.1=(ah b n).2.2.1/\(ah b n).2.2.2.1=(ah b n).2.2.2.1/\(ah b
 n).2.2.2.2.1=(ah b n).2.2.2.2.1/\(ah b n).2.2.2.2.2=(ah b n).2.2.2.2.2/\fc h.length b g=fc h.length b g/\[(rz b n),(rS b n)]=[(rz b n),(rS b n)]/\k.1=k.1/\k.2=k.2/\qQ q (lC b n p).1 (rp g h l) n j=v/\b=b/\c=c/\True))) (∃(r:Int) (s:List ar),(0<=r/\r<=(ac b)/\s=List.foldl (stepK b (fc a.length b g) g (rp g h l) f j) m (range r.toNat))/\toNat ((ac b) -r)<toNat ((ac b) -n)/\f=f/\g=g/\j=j/\(ah h g).1=(ah h g).1/\l=l/\ai (n+1)=r/\(oA g h l).1=(oA g h l).1/\(32:Int)=32/\fc h.length b g=fc h.length b g/\k.1=k.1/\k.2=k.2/\q=s/\b=b/\c=c/\True)) (∃(p:Int) (q:List ar),(0<=p/\p<=(uZ g h)/\q=List.foldl (stepP b (fc a.length b g) g f j) h (take p.toNat (ah h g).1))/\toNat ((uZ g h) -p)<toNat ((uZ g h) -l)/\f=f/\g=g/\j=j/\(ah h g).1=(ah h g).1/\ai (l+1)=p/\fc h.length b g=fc h.length b
 g/\k.1=k.1/\k.2=k.2/\o=q/\b=b/\c=c/\True)) (∃(n:Int) (o:List ar),∃(p:aZ),(0<=n/\n<=(ac a)/\(o,p)=List.foldl (stepT b f) (a,d,e) (range n.toNat))/\toNat ((ac a) -n)<toNat ((ac a) -g)/\f=f/\ai (g+1)=n/\m=o/\b=b/\c=c/\k.1=p.1/\k.2=p.2/\True)) (((h,b,c),i)=BJ ((a,b,c),d,e) f):=by
  delta lC oA zx rz rS uZ rp yZ ae aq aF ai ah ac;rintro ns0 ls hs l p plain ⟨⟨-,⟨hl,hw⟩,-⟩,-⟩⟨hc,h1,h2,hg,hr,ha⟩;dsimp only at hc h1 h2 hg hr ha;have hB:cV (l,p):=⟨hc,hw⟩
  have base:∀ n,n<=ns0.length->RI ls (jb ns0) ns0 ((range n).foldl (stepT ls plain) (ns0,(l,p))).1/\cV ((range n).foldl (stepT ls plain) (ns0,(l,p))).2:=λn hn=>RI.stepTs (ns0:=ns0) (s:=(ns0,(l,p))) ⟨RI.start hr,hB⟩ hg hn;refine⟨⟨0,ns0,(l,p),⟨ab,ab,rfl⟩,aM⟩,?_⟩;rintro to ns cs ⟨t0,t1,hF⟩;obtain⟨R,hcs⟩:=base to.toNat ab;have e1:=(iB Prod.fst hF).symm;have e2:=(iB Prod.snd hF).symm;dsimp only at e1 e2;rw[e1] at R;rw[e2] at hcs ⊢;have hn:=R.n;simp only[hn];refine av (λht=>?_) (λht=>?_)
  rotate_left
  .have ht:=aO ht;have e:to.toNat=ns0.length:=ab;rw[e] at e1 e2;unfold BJ;dsimp only;rw[e1,e2]
  have ht:=aL ht;have v3:=fp hcs (n:=3) ab;have k1:=(dk hcs 3).1;have k2:=(dk k1 3).1;refine⟨h1,h2,⟨t0,by rw[hn];exact ht⟩,hg,hcs.at',?_,?_⟩
  .rw[aQ (n:=1+_) ab ab]
   (repeat (refine bO ?_;repeat refine bP ?_));refine av (λkb=>?_) (λkb=>?_)
   .simp only[kb,cond_true];have kb:=aL kb;refine⟨λh=>h,k1.at',λh=>h,bt (λkc=>?_) (λkc=>?_)⟩
    .refine⟨1,_,?_,aM⟩;rw[nZ,am kb,am kc]
    .refine⟨_,_,?_,aM⟩;rw[nZ,am kb,af kc,kb]
   .simp only[kb,nP];have kb:=aO kb;refine⟨bv,λh=>h,?_⟩;rw[H0];refine⟨_,_,?_,aM⟩;rw[nZ,af kb]
  rintro way cs' hW;have hw3:=OY hcs;rw[← hW] at hw3;obtain⟨hcs',w0,w1⟩:=hw3;dsimp only at hcs' w0 w1;have hD:qY ns0.length (fc ns0.length ls to):=Jx ns0.length ls to hg _;generalize eD:fc ns0.length ls to=D at hD ⊢;have hP:∀ q∈(ns.getD to.toNat default).1,q.1∈jb ns0:=λq hq=>by
   have:aA (ns.getD to.toNat default)=aA (ns0.getD to.toNat default):=R.ports ab;refine M2 (i:=to.toNat) ab (q:=q) ?_;rw[← this];exact hq
  have hPl:((ns.getD to.toNat default).1.length:Int)<=100000:=by
   have:aA (ns.getD to.toNat default)=aA (ns0.getD to.toNat default):=R.ports ab;have e:(ns.getD to.toNat default).1=aA (ns0.getD to.toNat default):=this;rw[e];have:=ak0 (ns:=ns0) (i:=to.toNat) ab;omega
  generalize eP:(ns.getD to.toNat default).1=P at hP hPl ⊢;refine⟨t0,ht,⟨0,ns,⟨ab,ab,rfl⟩,aM⟩,?_⟩;rintro i ns1 ⟨i0,i1,hn1⟩;have R1:RI ls (jb ns0) ns0 ns1:=by
   rw[hn1];exact R.stepPs hg w0 w1 λq hq=>hP q (oB hq)
  refine av (λhi=>?_) (λhi=>?_)
  rotate_left
  .have hi:=aO hi;refine⟨to+1,ns1,cs',⟨ab,ab,?_⟩,ab,aM⟩;rw[show (to+1).toNat=to.toNat+1 by omega,mM,j9,← hF,List.foldl_cons,List.foldl_nil,stepT];dsimp only;rw[← hW,hn,show ((to.toNat:Nat):Int)=to by omega,eD,hn1,dm ab,← eP];rfl
  have hi:=aL hi;have hq:=hP _ (bW i0 hi);generalize eq:(P.getD i.toNat default).1=q at hq ⊢;refine⟨i0,hi,⟨0,ns1,⟨ab,ab,rfl⟩,aM⟩,?_⟩;rintro k ns2 ⟨k0,kl,hn2⟩;have R2:RI ls (jb ns0) ns0 ns2:=by
   rw[hn2];exact R1.stepKs (p:=(q,32)) hg rfl hq w0 w1 ab
  refine av (λhk=>?_) (λhk=>?_)
  rotate_left
  .have hk:=aO hk;refine⟨i+1,ns2,⟨ab,ab,?_⟩,ab,aM⟩;rw[nK i0 hi,j9,← hn1,List.foldl_cons,List.foldl_nil,stepP,hn2,eq,show k.toNat=ls.length by omega]
  have hk:=aL hk;have hh:=hg.at' (k:=k.toNat) ab;have la:=KY (ls:=ls) (k:=k.toNat) ab;have lb:=NA (ls:=ls) (k:=k.toNat) ab;rw[show ((k.toNat:Nat):Int)=k by omega] at la lb;refine⟨k0,hk,⟨0,ns2,⟨ab,ab,rfl⟩,aM⟩,?_⟩;rintro e ns3 ⟨e0,el,hn3⟩;refine av (λhe=>?_) (λhe=>?_)
  rotate_left
  .have he:=aO he;have he:e=2:=ab;subst he;refine⟨k+1,ns3,⟨ab,ab,?_⟩,ab,aM⟩;rw[show (k+1).toNat=k.toNat+1 by omega,mM,j9,← hn2,List.foldl_cons,List.foldl_nil,stepK,hn3,oH,af ab,af ab,show ((k.toNat:Nat):Int)=k by omega]
  have he:=aL he;obtain⟨u,v,hL,hS,hu,hv,hk',R3⟩:∃ u v,([((ls.getD k.toNat default).1,(ls.getD k.toNat default).2.1),((ls.getD k.toNat default).2.1,(ls.getD k.toNat default).1)]:List (Int×Int)).getD e.toNat default=(u,v) ∧
    oH D to (q,32) plain k way ns2 (ls.getD k.toNat default) (e+1)=rI D to (q,32) plain k way ns3 u v/\(0<=u/\u<ns0.length)/\(0<=v/\v<ns0.length)/\lnk ls u k/\RI ls (jb ns0) ns0 ns3:=by
   rcases (show e=0∨e=1 by omega) with rfl|rfl
   .refine⟨_,_,rfl,?_,hh.1,hh.2,la,?_⟩
    .rw[hn3,oH,oH,af ab,am ab,am rfl];rfl
    .rw[hn3,oH,am rfl];exact R2
   .refine⟨_,_,rfl,?_,hh.2,hh.1,lb,?_⟩
    .rw[hn3,oH,oH,af ab,af ab,af ab,am rfl];rfl
    .rw[hn3,oH,af ab,am rfl];exact R2.step (p:=(q,32)) hh.1.1 hh.1.2 rfl hq la w0 w1
  have hn3':=R3.n;simp only[hL,hn3',hD.1];have dv:=hD.2 _ (bW hv.1 (show v<D.length by rw[hD.1];exact hv.2));rw[aQ (n:=D.getD v.toNat default+1) ab ab];have pr:=R3.pre ha h2 hu.1 hu.2;refine⟨e0,by simp only[cQ,List.length_nil];omega,hu.1,hu.2,hv.1,hv.2,?_⟩;intro b hb;refine⟨aC,aC,aC,?_⟩;intro b1 hb1;refine⟨aC,aC,aC,aC,aC,λh=>⟨λ_=>h,λ_=>h,hv.1,hv.2,bv⟩,aC,aC,λh=>⟨λ_=>h,λh1=>by simp only[h,h1];rfl,bv⟩,λh=>by rw[h];rfl,?_⟩;refine oT (λho=>?_) (λho1 ho2=>?_)
  .refine⟨e+1,ns3,⟨ab,ab,?_⟩,ab,aM⟩;rw[hS,rI,am];rcases ho with ho|ho
   .rw[hb] at ho;exact .inl (fQ ho)
   .rcases b1 with _|_
    .cases ho
    .exact .inr ⟨fQ hb1.symm,ho⟩
  have hN:¬ (D.getD u.toNat default≠D.getD v.toNat default+1∨(v≠to/\mS (ns3.getD v.toNat default)=true)):=by
   rw[hb] at ho1;rintro (h|⟨h,h'⟩)
   .exact h (gH ho1)
   .rw[hb1,dw h] at ho2;rw[show mS (ns3.getD v.toNat default)=(ns3.getD v.toNat default).2.2.2.1 from rfl] at h';rw[h'] at ho2;cases ho2
  intro b2 hb2;subst hb2;refine⟨aC,aC,aC,aC,aC,λh=>⟨λ_=>h,λ_=>h,hu.1,hu.2,bv⟩,aC,aC,λh=>⟨λ_=>h,λ_=>h,pr.2.2.1,bv⟩,λh=>h,?_⟩;refine pT (λha1 ha2=>?_) (λhna=>?_)
  .refine⟨e+1,ns3,⟨ab,ab,?_⟩,ab,aM⟩;rw[hS,rI,af hN,am ⟨ha1,ha2⟩]
  .refine⟨pr.1,pr.2.1,pr.2.2.1,pr.2.2.2,e+1,_,⟨ab,ab,?_⟩,ab,aM⟩;rw[hS,rI,af hN,af];rintro⟨x1,x2⟩;rcases hna with h|h
   .rw[h] at x1;cases x1
   .rw[show bf (ns3.getD u.toNat default)=(ns3.getD u.toNat default).2.2.2.2.1 from rfl,h] at x2;cases x2
theorem ao4:aD 41 Kz.spec:=aH Tryz.func41 (au (au (au (au aE aI0) xZ) YT) ae7) Xt Tc
structure preO (s:bG):Prop where
 c:ay s.2
 n0:0<s.1.1.length
 n:(s.1.1.length:Int)<=1000
 l:(s.1.2.1.length:Int)<=1000
 g:iR s.1.1.length s.1.2.1
 h:s.1.2.2=[]
 a:((jb s.1.1).length:Int)<=100000
 p:∀ x∈s.1.1,bf x≠[]->0<(aA x).length/\(aA x).length<=1000/\(bf x).length<=100000
def oN(s:bG)(i:Int):List ar×aZ:=(range i.toNat).foldl xr (s.1.1,s.2)
def oL(s:bG)(i:Int):(List ar×List aN)×aZ:=(range i.toNat).foldl sa (((oN s s.1.1.length).1,s.1.2.1),(oN s s.1.1.length).2)
def oC(s:bG)(i:Nat):List aT×Int×aZ:=(range i).foldl (λc _=>pL (oL s s.1.2.1.length).1.1 c) ([],0,(aw (oL s s.1.2.1.length).2 4).2)
def oK(s:bG):Int:=(aw (oL s s.1.2.1.length).2 4).1
structure AG (ns0 ns:List ar):Prop where
 n:ns.length=ns0.length
 e:∀ i:Nat,i<ns0.length->aA (ns.getD i default)=aA (ns0.getD i default)/\bf (ns.getD i default)=bf (ns0.getD i default)
theorem AG.set{ns0 ns:List ar}(h:AG ns0 ns){i:Nat}(hi:i<ns0.length){x:ar}(hx:aA x=aA (ns.getD i default)/\bf x=bf (ns.getD i default)):AG ns0 (ns.set i x):=by
 refine⟨by rw[fV];exact h.n,λj hj=>?_⟩
 by_cases e:i=j
 .subst e;rw[jN (by rw[h.n];exact hi)];exact⟨hx.1.trans (h.e _ hj).1,hx.2.trans (h.e _ hj).2⟩
 .rw[m7 e];exact h.e _ hj
theorem aU3(x:ar)(i:Int)(c:aZ):aA (iF x i c).1=aA x/\bf (iF x i c).1=bf x:=by
 unfold iF
 dsimp only
 repeat' split
 all_goals exact⟨rfl,rfl⟩
theorem GB{x:ar}{i:Int}{c:aZ}(h:cV c):cV (iF x i c).2:=by
 unfold iF
 dsimp only
 repeat' split
 all_goals first|exact (dk h _).1|exact (dk (dk h _).1 _).1|exact (dk (dk (dk h _).1 _).1 _).1
theorem VZ(x:ar)(i:Int)(c:aZ):aA (xI x i c).1=aA x/\bf (xI x i c).1=bf x:=aU3 x i c
theorem aE2{x:ar}{i:Int}{c:aZ}(h:cV c):cV (xI x i c).2:=by
 have k:=GB (x:=x) (i:=i) h
 exact (dk (dk (dk k _).1 _).1 _).1
theorem Gr(s:bG)(h:cV s.2){i:Int}(hi:i<=s.1.1.length):AG s.1.1 (oN s i).1/\cV (oN s i).2:=by
 refine yK (λc:List ar×aZ=>AG s.1.1 c.1/\cV c.2) _ ⟨⟨rfl,λ_ _=>⟨rfl,rfl⟩⟩,h⟩ λk hk c hc=>?_
 have hk:=List.mem_range.1 hk
 exact⟨hc.1.set ab (VZ _ _ _),aE2 hc.2⟩
theorem Q9(s:bG){i:Int}(h0:0<=i):oN s (i+1)=xr (oN s i) i.toNat:=by
 unfold oN
 rw[show (i+1).toNat=i.toNat+1 by omega,mM,j9];rfl
theorem OI(l:aN)(c:aZ):lA (odLink l c).1=lA l/\lB (odLink l c).1=lB l:=by
 unfold odLink
 dsimp only
 repeat' split
 all_goals exact⟨rfl,rfl⟩
theorem Yx{l:aN}{c:aZ}(h:cV c):cV (odLink l c).2:=by
 unfold odLink
 dsimp only
 repeat' split
 all_goals first|exact (dk h _).1|exact (dk (dk h _).1 _).1
theorem iR.set{n:Nat}{ls:List aN}(h:iR n ls){x:aN}(hx:0<=x.1/\x.1<n/\0<=x.2.1/\x.2.1<n)(i:Nat):iR n (ls.set i x):=λy hy=>by
 rcases wz hy with hy|rfl
 .exact h y hy
 .exact hx
theorem iR.odLink{n:Nat}{ls:List aN}(h:iR n ls){i:Nat}(hi:i<ls.length)(c:aZ):iR n (ls.set i (odLink (ls.getD i default) c).1):=by
 have k:=OI (ls.getD i default) c
 have g:=h.at' hi
 refine h.set ?_ i
 show 0<=lA _/\lA _<_/\0<=lB _/\lB _<_
 rw[k.1,k.2]
 exact⟨g.1.1,g.1.2,g.2.1,g.2.2⟩
theorem U7{ns0 ns:List ar}(h:AG ns0 ns){l:aN}(hl:0<=lB l/\lB l<ns0.length):AG ns0 (qV ns l):=by
 unfold qV
 split
 .exact h.set ab ⟨rfl,rfl⟩
 .exact h
theorem xB(s:bG)(h:cV s.2)(hg:iR s.1.1.length s.1.2.1){i:Int}(hi:i<=s.1.2.1.length) :
  AG s.1.1 (oL s i).1.1/\cV (oL s i).2/\iR s.1.1.length (oL s i).1.2/\(oL s i).1.2.length=s.1.2.1.length:=by
 have b:=Gr s h (i:=s.1.1.length) ab
 refine yK (λc:(List ar×List aN)×aZ=>AG s.1.1 c.1.1/\cV c.2/\iR s.1.1.length c.1.2/\c.1.2.length=s.1.2.1.length) _ ⟨b.1,b.2,hg,rfl⟩ λk hk c hc=>?_
 have hk:=List.mem_range.1 hk
 obtain⟨c1,c2,c3,c4⟩:=hc
 have hk2:k<c.1.2.length:=ab
 have g:=c3.at' hk2
 have e:=OI (c.1.2.getD k default) c.2
 refine⟨U7 c1 ?_,Yx c2,c3.odLink hk2 _,by simp only[sa,fV];exact c4⟩
 rw[e.2];exact g.2
theorem Ko(s:bG){i:Int}(h0:0<=i):oL s (i+1)=sa (oL s i) i.toNat:=by
 unfold oL
 rw[show (i+1).toNat=i.toNat+1 by omega,mM,j9];rfl
theorem Gv(s:bG)(i:Nat):oC s (i+1)=pL (oL s s.1.2.1.length).1.1 (oC s i):=by
 unfold oC
 rw[mM,j9];rfl
theorem Z0{ns:List ar}{s:List aT×Int×aZ}(h:cV s.2.2):cV (pL ns s).2.2/\s.2.1<=(pL ns s).2.1/\(pL ns s).2.1<=s.2.1+60/\(pL ns s).1.length<=s.1.length+1:=by
 have a:=fp h (n:=60) ab
 have k1:=(dk h 60).1
 have k2:=(dk k1 ns.length).1
 unfold pL
 dsimp only
 split
 .exact⟨k2,by dsimp only;omega,by dsimp only;omega,by dsimp only;omega⟩
 .exact⟨(dk (dk (dk k2 _).1 _).1 _).1,by dsimp only;omega,by dsimp only;omega,by simp only[cD,cQ,List.length_nil];omega⟩
theorem Gk(s:bG)(h:cV s.2)(hg:iR s.1.1.length s.1.2.1):∀ i:Nat,cV (oC s i).2.2/\0<=(oC s i).2.1/\(oC s i).2.1<=60*i/\(oC s i).1.length<=i
 | 0=>⟨(dk (xB s h hg (iE _)).2.1 4).1,iE _,iE _,eZ _⟩
 | i+1=>by
  have k:=Gk s h hg i;have m:=Z0 (ns:=(oL s s.1.2.1.length).1.1) k.1;rw[Gv];exact⟨m.1,ab,ab,ab⟩
def PZ:Ct:=⟨[.box 108 yq],[],λd=>[preO d.1],λd=>((),(oD d.1,()))⟩
def aE9:bu PZ.ps->bS:=(λd=>{loops:=(bm 2 (λS=>{ι:=Int×(List ar)×aZ,qn:=qU,μ:=λi=>(d.1.1.1.length-i.1).toNat,inv:=λi=>0<=i.1/\i.1<=d.1.1.1.length/\(i.2.1,i.2.2)=oN d.1 i.1,keep:=[0,2],slots:=λi=>[(3,.int .i64 i.1)],keepN:=[1048576,2097153,2097154],names:=λi=>[(2097152,.live (.row 103 bN i.2.1)),(1048577,.live (.cells 105 (cR iA i.2.2)))]}) (bm 20 (λS=>{ι:=Int×(List ar)×(List aN)×aZ,qn:=MZ,μ:=λi=>(d.1.1.2.1.length-i.1).toNat,inv:=λi=>0<=i.1/\i.1<=d.1.1.2.1.length/\((i.2.1,i.2.2.1),i.2.2.2)=oL d.1 i.1,keep:=[0,2],slots:=λi=>[(5,.int .i64 i.1)],keepN:=[1048576,2097154],names:=λi=>[(2097152,.live (.row 103 bN i.2.1)),(2097153,.live (.row 95 gh i.2.2.1)),(1048577,.live (.cells 105 (cR iA i.2.2.2)))]}) (bm 32 (λS=>{ι:=Int×Int×(List aT)×aZ,qn:=MZ,μ:=λi=>i.1.toNat,inv:=λi=>0<=i.1/\i.1<=oK d.1/\(i.2.2.1,i.2.1,i.2.2.2)=oC d.1 (oK d.1-i.1).toNat,keep:=[0,2],slots:=λi=>[(8,.int .i64 i.1),(7,.int .i64 i.2.1)],keepN:=[2097152,2097153],names:=λi=>[(1048576,.live (.cells 108 [.own 2097152 16,.own 2097153 6,.own 524288 7,.ptr 1048577 0])),(524288,.live (.row 118 ft i.2.2.1)),(1048577,.live (.cells 105 (cR iA i.2.2.2)))]}) ci))),cuts:=(bm 18 (λS=>{ι:=(List ar)×aZ,qn:=fj,inv:=λi=>i.1=(oN d.1 (S.i 3)).1.set (S.i 3).toNat (iF ((oN d.1 (S.i 3)).1.getD (S.i 3).toNat default) (S.i 3) (oN d.1 (S.i 3)).2).1/\i.2=(iF ((oN d.1 (S.i 3)).1.getD (S.i 3).toNat default) (S.i 3) (oN d.1 (S.i 3)).2).2,keep:=[0,2,3,4],slots:=λi=>[],keepN:=[1048576,2097153,2097154],names:=λi=>[(2097152,.live (.row 103 bN i.1)),(1048577,.live (.cells 105 (cR iA i.2)))]}) (bm 28 (λS=>{ι:=(List aN)×aZ,qn:=fj,inv:=λi=>i.1=(oL d.1 (S.i 5)).1.2.set (S.i 5).toNat (odLink ((oL d.1 (S.i 5)).1.2.getD (S.i 5).toNat default) (oL d.1 (S.i 5)).2).1/\i.2=(odLink ((oL d.1 (S.i 5)).1.2.getD (S.i 5).toNat default) (oL d.1 (S.i 5)).2).2,keep:=[0,2,5,6],slots:=λi=>[],keepN:=[1048576,2097152,2097154],names:=λi=>[(2097153,.live (.row 95 gh i.1)),(1048577,.live (.cells 105 (cR iA i.2)))]}) ci))})
def Fs(f:Int)(i:List ar)(j:aZ) :=
 set i f.toNat ((ah i f).1,(ah i f).2.1,(ah i f).2.2.1,(ah i f).2.2.2.1,(ah i f).2.2.2.2.1,(ah i f).2.2.2.2.2.1,(ah i f).2.2.2.2.2.2.1,(aw j 6).1,(ah i f).2.2.2.2.2.2.2.2)
def tK(f:Int)(i:List ar)(j:aZ) :=
 getD (Fs f i j) f.toNat default
def IQ(f:Int)(i:List ar)(j:aZ) :=
 set (Fs f i j) f.toNat ((tK f i j).1,(tK f i j).2.1,(tK f i j).2.2.1,(tK f i j).2.2.2.1,(tK f i j).2.2.2.2.1,(tK f i j).2.2.2.2.2.1,(tK f i j).2.2.2.2.2.2.1,(tK f i j).2.2.2.2.2.2.2.1,(aw (aw j 6).2 (65536:Int)).1,(tK f i j).2.2.2.2.2.2.2.2.2)
def rR(j:List ar)(p:aZ) :=
 aw (aw p 60).2 (ac j)
def uV(j:List ar)(p:aZ) :=
 j.getD (toNat (rR j p).1) default
def yT(j:List ar)(p:aZ) :=
 aw (rR j p).2 ((length (uV j p).2.2.2.2.1):Int)
def JR(f:Int)(g:List ar)(h:aZ) :=
 set g f.toNat ((ah g f).1,(ah g f).2.1,(ah g f).2.2.1,(ah g f).2.2.2.1,(ah g f).2.2.2.2.1,(ah g f).2.2.2.2.2.1,IntKind.wrap .u32 ((167837696:Int)+(aw (aw h 10).2 (40:Int)).1),(ah g f).2.2.2.2.2.2.2)
def wn(a:List ar)(b:List aN)(c:List aT)(d:ad)(e f:Int) :=
 iF (getD (oN ((a,b,c),d,e) f).1 f.toNat default) f (oN ((a,b,c),d,e) f).2
def wY(f:Int)(g:List ar) :=
 getD (set g f.toNat ((ah g f).1,IntKind.wrap .u32 (ai ((167903232:Int)+f)),(ah g f).2.2)) f.toNat default
def ub(a:List ar)(b:List aN)(c:List aT)(d:ad)(e i:Int) :=
 odLink (getD (oL ((a,b,c),d,e) i).1.2 i.toNat default) (oL ((a,b,c),d,e) i).2
def tz(j:List ar)(p:aZ) :=
 aw (yT j p).2 ((length (uV j p).1):Int)
def wO(j:List ar)(p:aZ) :=
 getD (uV j p).2.2.2.2.1 (toNat (yT j p).1) default
def n9(i:Int)(j:List ar)(m:List aN) :=
 j.getD (toNat (ah m i).2.1) default
def wH(a:List ar)(b:List aN)(c:List aT)(d:ad)(e f:Int)(i:List ar)(j:aZ) :=
 i=set (oN ((a,b,c),d,e) f).1 f.toNat (wn a b c d e f).1/\j=(wn a b c d e f).2
def rD(f:Int)(i:List ar)(j:aZ) :=
 getD (IQ f i j) f.toNat default
def AH(h j:aZ) :=
 (aw h 10).2.1=j.1/\(aw h 10).2.2=j.2/\True
def wo(f:Int)(g:List ar)(h:aZ) :=
 getD (JR f g h) f.toNat default
def Fr(j:List ar)(n:Int)(p:aZ) :=
 (ai (n+(aw p 60).1),(rR j p).1,false,(wO j p).1,[(getD (uV j p).1 (toNat (tz j p).1) default).2],(wO j p).2.2)
def DC(j:aZ) :=
 aw (aw (aw j 6).2 (65536:Int)).2 (1000:Int)
def zi(h:aZ) :=
 aw (aw h 10).2 (3:Int)
def zn(l:aZ) :=
 aw (aw l 6).2 (3:Int)
theorem Z5 :
 ∀(a:List ar)(b:List aN)(c:List aT)(d:ad)(e:Int),(((a.length<=maxLen/\ ∀(f:ar),f∈a->CT.wf bN f)/\(b.length<=maxLen/\ ∀(f:aN),f∈b->CT.wf gh f)/\c.length<=maxLen/\ ∀(f:aT),f∈c->CT.wf ft f)/\(d.length<=maxLen/\ ∀(f:Int),f∈d->0<=f/\f<=255)/\aj e)/\True->preO ((a,b,c),d,e)->(∃(f:Int) (g:List ar),∃(h:aZ),(0<=f/\f<=(ac a)/\(g,h)=oN ((a,b,c),d,e) f)/\0=f/\b=b/\c=c/\a=g/\d=h.1/\e=h.2/\True)/\ ∀(f:Int)(g:List ar)(h:aZ),0<=f/\f<=(ac a)/\(g,h)=oN ((a,b,c),d,e) f->ao (decide (f<(ac g))) (0<=f/\f<(ac g)/\(ay h/\ao (decide ((aw h 10).1=1)) (∃(i:List ar) (j:aZ),(wH a b c d e f i j)/\f=f/\f.toNat=f.toNat/\b=b/\c=c/\set g f.toNat ((ah g f).1,(ah g f).2.1,(ah g f).2.2.1,(ah g f).2.2.2.1,(ah g f).2.2.2.2.1,(ah g f).2.2.2.2.2.1,(ah g f).2.2.2.2.2.2.1,(ah g f).2.2.2.2.2.2.2.1,(ah g f).2.2.2.2.2.2.2.2.1,(ah g
 f).2.2.2.2.2.2.2.2.2.1,(ah g f).2.2.2.2.2.2.2.2.2.2.1,true,(ah g f).2.2.2.2.2.2.2.2.2.2.2.2)=i/\(AH h j)) (ao (decide ((aw h 10).1=2)) (ay (aw h 10).2/\ay (zi h).2/\ ∃(i:List ar) (j:aZ),(wH a b c d e f i j)/\f=f/\f.toNat=f.toNat/\b=b/\c=c/\set g f.toNat ((ah g f).1,(ah g f).2.1,(ah g f).2.2.1,(ah g f).2.2.2.1,(ah g f).2.2.2.2.1,(ah g f).2.2.2.2.2.1,(ah g f).2.2.2.2.2.2.1,(ah g f).2.2.2.2.2.2.2.1,(ah g f).2.2.2.2.2.2.2.2.1,(ah g f).2.2.2.2.2.2.2.2.2.1,(ai ((1:Int)+(zi h).1),ai ((1:Int)+(aw (zi h).2 (200:Int)).1)),(ah g f).2.2.2.2.2.2.2.2.2.2.2)=i/\(aw (zi h).2 (200:Int)).2.1=j.1/\(aw (zi h).2 (200:Int)).2.2=j.2/\True) (ao (decide ((aw h 10).1=3)) (∀(i:Bool),i= ! (ah g f).2.2.2.1->(i->(aq i)/\(2:Int)≠(0:Int)/\True)/\(ae i)/\(aq i)/\ ∃(j:List ar) (k:aZ),(j=set (oN ((a,b,c),d,e) f).1 f.toNat (wn a b c d e
 f).1/\k=(wn a b c d e f).2)/\f=f/\f.toNat=f.toNat/\b=b/\c=c/\set g f.toNat ((ah g f).1,(ah g f).2.1,(ah g f).2.2.1,(ah g f).2.2.2.1,(ah g f).2.2.2.2.1,(ah g f).2.2.2.2.2.1,(ah g f).2.2.2.2.2.2.1,(ah g f).2.2.2.2.2.2.2.1,(ah g f).2.2.2.2.2.2.2.2.1,(ah g f).2.2.2.2.2.2.2.2.2.1,(ah g f).2.2.2.2.2.2.2.2.2.2.1,(ah g f).2.2.2.2.2.2.2.2.2.2.2.1,bif i then decide (Int.tmod f (2:Int)=1) else false,(ah g f).2.2.2.2.2.2.2.2.2.2.2.2.2)=j/\(aw h 10).2.1=k.1/\(aw h 10).2.2=k.2/\True) (ao (decide ((aw h 10).1=4)) (∃(i:List ar) (j:aZ),(wH a b c d e f i j)/\f=f/\f.toNat=f.toNat/\b=b/\c=c/\set g f.toNat ((ah g f).1,(ah g f).2.1,(ah g f).2.2.1,(ah g f).2.2.2.1,(ah g f).2.2.2.2.1,(2:Int),(ah g f).2.2.2.2.2.2)=i/\(AH h j)) (ao (decide ((aw h 10).1=5)) (∃(i:List ar) (j:aZ),(wH a b c d e f i j)/\f=f/\f.toNat=f.toNat/\b=b/\c=c/\set (set g
 f.toNat ((ah g f).1,IntKind.wrap .u32 (ai ((167903232:Int)+f)),(ah g f).2.2)) f.toNat ((wY f g).1,(wY f g).2.1,(wY f g).2.2.1,(wY f g).2.2.2.1,(wY f g).2.2.2.2.1,(3:Int),(wY f g).2.2.2.2.2.2)=i/\(AH h j)) (ao (decide ((aw h 10).1=6)) (ay (aw h 10).2/\ ∃(i:List ar) (j:aZ),(wH a b c d e f i j)/\f=f/\f.toNat=f.toNat/\b=b/\c=c/\set (JR f g h) f.toNat ((wo f g h).1,(wo f g h).2.1,(wo f g h).2.2.1,(wo f g h).2.2.2.1,(wo f g h).2.2.2.2.1,(4:Int),(wo f g h).2.2.2.2.2.2)=i/\(aw (aw h 10).2 (40:Int)).2.1=j.1/\(aw (aw h 10).2 (40:Int)).2.2=j.2/\True) (∃(i:List ar) (j:aZ),(wH a b c d e f i j)/\f=f/\f.toNat=f.toNat/\b=b/\c=c/\g=i/\(AH h j))))))))/\ ∀(i:List ar)(j:aZ),i=set (oN ((a,b,c),d,e) f).1 f.toNat (wn a b c d e f).1/\j=(wn a b c d e f).2->ay j/\ay (aw j 6).2/\ay (aw (aw j 6).2
 (65536:Int)).2/\ ∃(k:Int) (l:List ar),∃(m:aZ),(0<=k/\k<=(ac a)/\(l,m)=oN ((a,b,c),d,e) k)/\toNat ((ac a) -k)<toNat ((ac a) -f)/\ai (f+1)=k/\b=b/\c=c/\set (IQ f i j) f.toNat ((rD f i j).1,(rD f i j).2.1,(rD f i j).2.2.1,(rD f i j).2.2.2.1,(rD f i j).2.2.2.2.1,(rD f i j).2.2.2.2.2.1,(rD f i j).2.2.2.2.2.2.1,(rD f i j).2.2.2.2.2.2.2.1,(rD f i j).2.2.2.2.2.2.2.2.1,(DC j).1,(rD f i j).2.2.2.2.2.2.2.2.2.2)=l/\(DC j).2.1=m.1/\(DC j).2.2=m.2/\True) ((∃(i:Int) (j:List ar),∃(k:List aN) (l:aZ),(0<=i/\i<=(ac b)/\((j,k),l)=oL ((a,b,c),d,e) i)/\0=i/\c=c/\g=j/\b=k/\h.1=l.1/\h.2=l.2/\True)/\ ∀(i:Int)(j:List ar)(k:List aN)(l:aZ),0<=i/\i<=(ac b)/\((j,k),l)=oL ((a,b,c),d,e) i->ao (decide (i<(ac k))) (0<=i/\i<(ac k)/\(ay l/\ao (decide ((aw l 6).1=1)) (ay (aw l 6).2/\ ∃(m:List aN) (n:aZ),(m=set (oL
 ((a,b,c),d,e) i).1.2 i.toNat (ub a b c d e i).1/\n=(ub a b c d e i).2)/\i=i/\i.toNat=i.toNat/\j=j/\c=c/\set k i.toNat ((ah k i).1,(ah k i).2.1,(ah k i).2.2.1,(aw (aw l 6).2 (10:Int)).1,(ah k i).2.2.2.2)=m/\(aw (aw l 6).2 (10:Int)).2.1=n.1/\(aw (aw l 6).2 (10:Int)).2.2=n.2/\True) (ao (decide ((aw l 6).1=2)) (ay (aw l 6).2/\0<=(zn l).1/\(zn l).1<((length [(65536:Int),(20000:Int),(3:Int)]):Int)/\ ∃(m:List aN) (n:aZ),(m=set (oL ((a,b,c),d,e) i).1.2 i.toNat (ub a b c d e i).1/\n=(ub a b c d e i).2)/\i=i/\i.toNat=i.toNat/\j=j/\c=c/\set k i.toNat ((ah k i).1,(ah k i).2.1,(ah k i).2.2.1,(ah k i).2.2.2.1,getD [(65536:Int),(20000:Int),(3:Int)] (toNat (zn l).1) default,(ah k i).2.2.2.2.2)=m/\(zn l).2.1=n.1/\(zn l).2.2=n.2/\True) (∃(m:List aN) (n:aZ),(m=set (oL ((a,b,c),d,e) i).1.2 i.toNat
 (ub a b c d e i).1/\n=(ub a b c d e i).2)/\i=i/\i.toNat=i.toNat/\j=j/\c=c/\k=m/\(aw l 6).2.1=n.1/\(aw l 6).2.2=n.2/\True)))/\ ∀(m:List aN)(n:aZ),m=set (oL ((a,b,c),d,e) i).1.2 i.toNat (ub a b c d e i).1/\n=(ub a b c d e i).2->0<=(ah m i).1/\(ah m i).1<(ac j)/\ ∀(o:Bool),o=(j.getD (toNat (ah m i).1) default).2.2.2.2.2.2.2.2.2.2.2.2.1->(ae o)/\(ae o)/\(ae o)/\(ae o)/\(ae o)/\(ae o)/\(ae o)/\(o->(aq o)/\(aq o)/\0<=(ah m i).2.1/\(ah m i).2.1<(ac j)/\True)/\(ae o)/\(ae o)/\(aq o)/\ao (bif o then (n9 i j m).2.2.2.2.2.2.2.2.2.2.2.2.1 else false) (0<=(ah m i).2.1/\(ah m i).2.1<(ac j)/\ ∃(p:Int) (q:List ar),∃(r:List aN) (s:aZ),(0<=p/\p<=(ac b)/\((q,r),s)=oL ((a,b,c),d,e) p)/\toNat ((ac b) -p)<toNat ((ac b) -i)/\ai (i+1)=p/\c=c/\set j (toNat (ah m i).2.1) ((n9 i j m).1,(n9 i j m).2.1,(n9 i j
 m).2.2.1,(n9 i j m).2.2.2.1,(n9 i j m).2.2.2.2.1,(n9 i j m).2.2.2.2.2.1,(n9 i j m).2.2.2.2.2.2.1,(n9 i j m).2.2.2.2.2.2.2.1,(n9 i j m).2.2.2.2.2.2.2.2.1,(n9 i j m).2.2.2.2.2.2.2.2.2.1,(n9 i j m).2.2.2.2.2.2.2.2.2.2.1,(n9 i j m).2.2.2.2.2.2.2.2.2.2.2.1,false,(n9 i j m).2.2.2.2.2.2.2.2.2.2.2.2.2)=q/\m=r/\n.1=s.1/\n.2=s.2/\True) (∃(p:Int) (q:List ar),∃(r:List aN) (s:aZ),(0<=p/\p<=(ac b)/\((q,r),s)=oL ((a,b,c),d,e) p)/\toNat ((ac b) -p)<toNat ((ac b) -i)/\ai (i+1)=p/\c=c/\j=q/\m=r/\n.1=s.1/\n.2=s.2/\True)) (ay l/\(∃(m:Int) (n:Int),∃(o:List aT) (p:aZ),(0<=m/\m<=oK ((a,b,c),d,e)/\(o,n,p)=oC ((a,b,c),d,e) (toNat (oK ((a,b,c),d,e) -m)))/\0=n/\(aw l 4).1=m/\j=j/\k=k/\c=o/\(aw l 4).2.1=p.1/\(aw l 4).2.2=p.2/\True)/\ ∀(m n:Int)(o:List aT)(p:aZ),0<=m/\m<=oK ((a,b,c),d,e)/\(o,n,p)=oC ((a,b,c),d,e) (toNat (oK
 ((a,b,c),d,e) -m))->ao (decide (0<m)) (ay p/\ay (aw p 60).2/\0<=(rR j p).1/\(rR j p).1<(ac j)/\ao (decide (((length (uV j p).2.2.2.2.1):Int)=0)) (∃(q:Int) (r:Int),∃(s:List aT) (t:aZ),(0<=q/\q<=oK ((a,b,c),d,e)/\(s,r,t)=oC ((a,b,c),d,e) (toNat (oK ((a,b,c),d,e) -q)))/\q.toNat<m.toNat/\ai (n+(aw p 60).1)=r/\ai (m -1)=q/\j=j/\k=k/\o=s/\(rR j p).2.1=t.1/\(rR j p).2.2=t.2/\True) (ay (rR j p).2/\0<=(yT j p).1/\(yT j p).1<((length (uV j p).2.2.2.2.1):Int)/\ay (yT j p).2/\0<=(tz j p).1/\(tz j p).1<((length (uV j p).1):Int)/\ay (tz j p).2/\ao (decide ((aw (tz j p).2 (4:Int)).1=3)) ((o.length+length [(ai (n+(aw p 60).1),(rR j p).1,false,(wO j p).1,([]:ad),(wO j p).2.2)])*(72:Nat)<=(oh)/\ ∃(q:Int) (r:Int),∃(s:List aT) (t:aZ),(0<=q/\q<=oK ((a,b,c),d,e)/\(s,r,t)=oC ((a,b,c),d,e)
 (toNat (oK ((a,b,c),d,e) -q)))/\q.toNat<m.toNat/\ai (n+(aw p 60).1)=r/\ai (m -1)=q/\j=j/\k=k/\o++[(ai (n+(aw p 60).1),(rR j p).1,false,(wO j p).1,([]:ad),(wO j p).2.2)]=s/\(aw (tz j p).2 (4:Int)).2.1=t.1/\(aw (tz j p).2 (4:Int)).2.2=t.2/\True) ((o.length+length [(Fr j n p)])*(72:Nat)<=(oh)/\ ∃(q:Int) (r:Int),∃(s:List aT) (t:aZ),(0<=q/\q<=oK ((a,b,c),d,e)/\(s,r,t)=oC ((a,b,c),d,e) (toNat (oK ((a,b,c),d,e) -q)))/\q.toNat<m.toNat/\ai (n+(aw p 60).1)=r/\ai (m -1)=q/\j=j/\k=k/\o++[(Fr j n p)]=s/\(aw (tz j p).2 (4:Int)).2.1=t.1/\(aw (tz j p).2 (4:Int)).2.2=t.2/\True))) (((j,k,o),p)=oD ((a,b,c),d,e)))):=by
  delta IQ yT tK JR uV wn wY ub tz wO n9 wH rD rR Fs oh AH wo Fr DC zi zn ae aq ai ah ac;rintro ns0 ls0 hs0 l p ⟨⟨⟨hnl,hnw⟩,⟨hl,hw⟩,-⟩,-⟩⟨hc,n0,h1,h2,hg,hh,ha,hp⟩;dsimp only at hc n0 h1 h2 hg hh ha hp;subst hh;have hB:cV (l,p):=⟨hc,hw⟩
  generalize eS:(((ns0,ls0,[]),l,p):bG)=Z;have z1:Z.1.1=ns0:=by rw[← eS]
  have z2:Z.1.2.1=ls0:=by rw[← eS]
  have z3:Z.2=(l,p):=by rw[← eS]
  have zB:cV Z.2:=by rw[z3];exact hB
  have zG:iR Z.1.1.length Z.1.2.1:=by rw[z1,z2];exact hg
  refine⟨⟨0,ns0,(l,p),⟨ab,ab,by rw[← eS];rfl⟩,aM⟩,?_⟩;rintro i ns cs ⟨i0,il,hF⟩;obtain⟨A1,hcs⟩:=Gr Z zB (i:=i) (by rw[z1];exact il);rw[← hF] at A1 hcs;dsimp only at A1 hcs;rw[← hF];dsimp only;have hn:=A1.n;rw[z1] at hn;refine av (λhi=>?_) (λhi=>?_)
  .have hi:=aL hi;have hi':i.toNat<ns.length:=ab;have k10:=(dk hcs 10).1;refine⟨i0,hi,⟨hcs.at',?_⟩,?_⟩
   .simp only[List.set_set,jN hi'];refine av (λc=>?_) (λc1=>?_)
    .have c:=aL c;refine⟨_,_,⟨?_,?_⟩,aM⟩
     .rw[iF,am c];rfl
     .rw[iF,am c]
    have c1:=aO c1;refine av (λc=>?_) (λc2=>?_)
    .have c:=aL c;have k3:=fp k10 (n:=3) ab;have k11:=(dk k10 3).1;have k4:=fp k11 (n:=200) ab;refine⟨k10.at',k11.at',_,_,⟨?_,?_⟩,aM⟩
     .rw[iF,af c1,am c,aQ (n:=1+_) ab ab,aQ (n:=1+_) ab ab];rfl
     .rw[iF,af c1,am c]
    have c2:=aO c2;refine av (λc=>?_) (λc3=>?_)
    .have c:=aL c;intro b hb;refine⟨aC,aC,aC,_,_,⟨?_,?_⟩,aM⟩
     .have eb:(bif b then decide (i%2=1) else false)=(!mS (ns.getD i.toNat default)&&decide (i%2=1)):=by
       rw[show b = !mS (ns.getD i.toNat default) from hb];cases mS (ns.getD i.toNat default) <;> rfl
      rw[iF,af c1,af c2,am c,uT i0,eb];rfl
     .rw[iF,af c1,af c2,am c]
    have c3:=aO c3;refine av (λc=>?_) (λc4=>?_)
    .have c:=aL c;refine⟨_,_,⟨?_,?_⟩,aM⟩
     .rw[iF,af c1,af c2,af c3,am c];rfl
     .rw[iF,af c1,af c2,af c3,am c]
    have c4:=aO c4;refine av (λc=>?_) (λc5=>?_)
    .have c:=aL c;refine⟨_,_,⟨?_,?_⟩,aM⟩
     .rw[iF,af c1,af c2,af c3,af c4,am c,aQ (n:=167903232+i) ab ab,oW (n:=167903232+i) ab ab];rfl
     .rw[iF,af c1,af c2,af c3,af c4,am c]
    have c5:=aO c5;refine av (λc=>?_) (λc6=>?_)
    .have c:=aL c;have k4:=fp k10 (n:=40) ab;refine⟨k10.at',_,_,⟨?_,?_⟩,aM⟩
     .rw[iF,af c1,af c2,af c3,af c4,af c5,am c,oW (n:=167837696+_) ab ab];rfl
     .rw[iF,af c1,af c2,af c3,af c4,af c5,am c]
    have c6:=aO c6;refine⟨ns,_,⟨?_,?_⟩,aM⟩
    .rw[iF,af c1,af c2,af c3,af c4,af c5,af c6];exact (tN i0 hi).symm
    .rw[iF,af c1,af c2,af c3,af c4,af c5,af c6]
   .rintro nsx csx ⟨hx1,hx2⟩;have kc:=GB (x:=ns.getD i.toNat default) (i:=i) hcs;rw[← hx2] at kc;have ka:=(dk kc 6).1;have kb:=(dk ka 65536).1;have hxl:i.toNat<nsx.length:=by rw[hx1,fV];exact hi'
    simp only[List.set_set,jN hxl];refine⟨kc.at',ka.at',kb.at',i+1,_,_,⟨ab,ab,?_⟩,ab,aM⟩;rw[Q9 Z i0,← hF];unfold xr xI;dsimp only;rw[show ((i.toNat:Nat):Int)=i by omega,← hx2,hx1,jN hi',List.set_set];rfl
  have hi:=aO hi;have e:i=Z.1.1.length:=by rw[z1];omega
  subst e;refine⟨⟨0,ns,ls0,cs,⟨ab,ab,?_⟩,aM⟩,?_⟩
  .unfold oL;rw[← hF,z2];rfl
  clear hF A1 hcs hn hi i0 il;rintro i ns ls cs ⟨i0,il,hF⟩;obtain⟨A1,hcs,lg,ll⟩:=xB Z zB zG (i:=i) (by rw[z2];exact il);rw[← hF] at A1 hcs lg ll;dsimp only at A1 hcs lg ll;rw[← hF];dsimp only;have hn:=A1.n;rw[z1] at hn lg;rw[z2] at ll;refine av (λhi=>?_) (λhi=>?_)
  .have hi:=aL hi;have hi':i.toNat<ls.length:=ab;have k6:=(dk hcs 6).1;refine⟨i0,hi,⟨hcs.at',?_⟩,?_⟩
   .refine av (λc=>?_) (λc1=>?_)
    .have c:=aL c;refine⟨k6.at',_,_,⟨?_,?_⟩,aM⟩
     .rw[odLink,am c]
     .rw[odLink,am c]
    have c1:=aO c1;refine av (λc=>?_) (λc2=>?_)
    .have c:=aL c;have k3:=fp k6 (n:=3) ab;refine⟨k6.at',k3.1,k3.2,_,_,⟨?_,?_⟩,aM⟩
     .rw[odLink,af c1,am c]
     .rw[odLink,af c1,am c]
    have c2:=aO c2;refine⟨ls,_,⟨?_,?_⟩,aM⟩
    .rw[odLink,af c1,af c2];exact (tN i0 hi).symm
    .rw[odLink,af c1,af c2]
   .rintro lsx csx ⟨hx1,hx2⟩;have lgx:=lg.odLink hi' cs;rw[← hx1] at lgx;have lxl:i.toNat<lsx.length:=by rw[hx1,fV];exact hi'
    have g:=lgx.at' lxl;have e1:(odLink (ls.getD i.toNat default) cs).1=lsx.getD i.toNat default:=by rw[hx1,jN hi']
    have nx:((qV ns (lsx.getD i.toNat default),lsx),csx)=oL Z (i+1):=by
     rw[Ko Z i0,← hF];unfold sa;dsimp only;rw[← hx1,← hx2,e1]
    unfold qV at nx;refine⟨g.1.1,by rw[hn];exact g.1.2,?_⟩;intro b hb;refine⟨aC,aC,aC,aC,aC,aC,aC,λh=>⟨λ_=>h,λ_=>h,g.2.1,by rw[hn];exact g.2.2,bv⟩,aC,aC,λh=>h,?_⟩;refine pT (λha1 ha2=>?_) (λhna=>?_)
    .refine⟨g.2.1,by rw[hn];exact g.2.2,i+1,_,_,_,⟨ab,ab,?_⟩,ab,aM⟩;rw[← nx,am ⟨hb.symm.trans ha1,ha2⟩];rfl
    .refine⟨i+1,_,_,_,⟨ab,ab,?_⟩,ab,aM⟩;rw[← nx,af];rintro⟨x1,x2⟩;rcases hna with h|h
     .rw[hb] at h;rw[show dY (ns.getD (lA (lsx.getD i.toNat default)).toNat default)=(ns.getD (lsx.getD i.toNat default).1.toNat default).2.2.2.2.2.2.2.2.2.2.2.2.1 from rfl,h] at x1;cases x1
     .rw[show dY (ns.getD (lB (lsx.getD i.toNat default)).toNat default)=(ns.getD (lsx.getD i.toNat default).2.1.toNat default).2.2.2.2.2.2.2.2.2.2.2.2.1 from rfl,h] at x2;cases x2
  have hi:=aO hi;have e:i=Z.1.2.1.length:=by rw[z2];omega
  subst e;have k4:=fp hcs (n:=4) ab;have eK:oK Z=(aw cs 4).1:=by unfold oK;rw[← hF]
  refine⟨hcs.at',⟨_,0,[],(aw cs 4).2,⟨k4.1,by rw[eK];exact iE _,?_⟩,aM⟩,?_⟩
  .rw[eK,Int.sub_self];unfold oC;rw[← hF];rfl
  clear i0 il hi;rintro k a hs cs2 ⟨k0,kl,hC⟩;have cok:=Gk Z zB zG (oK Z-k).toNat
  rw[← hC] at cok;dsimp only at cok;obtain⟨ok2,a0,al,hsl⟩:=cok;rw[eK] at kl al hsl;refine av (λhk=>?_) (λhk=>?_)
  rotate_left
  .have hk:=aO hk;have e:k=0:=ab;subst e;rw[Int.sub_zero] at hC;have:oD Z=(((oL Z Z.1.2.1.length).1.1,(oL Z Z.1.2.1.length).1.2,(oC Z (oK Z).toNat).1),(oC Z (oK Z).toNat).2.2):=by
    unfold oD oC oK oL oN;rfl
   rw[this,← hC,← hF]
  have hk:=aL hk;have q1:=fp ok2 (n:=60) ab;have b1:=(dk ok2 60).1;have q2:=fp b1 (n:=(ns.length:Int)) ab;have b2:=(dk b1 (ns.length:Int)).1;have en:oC Z (oK Z-(k-1)).toNat=pL ns (hs,a,cs2):=by
   rw[show (oK Z-(k-1)).toNat=(oK Z-k).toNat+1 by omega,Gv,← hC,← hF]
  unfold pL at en;dsimp only at en;generalize eW:(aw (aw cs2 60).2 (ns.length:Int))=W at q2 b2 en ⊢;generalize eX:ns.getD W.1.toNat default=X at en ⊢;have hX:aA X=aA (ns0.getD W.1.toNat default)/\bf X=bf (ns0.getD W.1.toNat default):=by
   have:=A1.e W.1.toNat (by rw[z1];omega)
   rw[z1,eX] at this;exact this
  have hM:ns0.getD W.1.toNat default∈ns0:=bW q2.1 ab;rw[aQ (n:=a+_) ab ab,aQ (n:=k-1) ab ab];refine⟨ok2.at',b1.at',q2.1,q2.2,?_⟩;refine av (λhr=>?_) (λhr=>?_)
  .have hr:((bf X).length:Int)=0:=aL hr;refine⟨k-1,_,_,_,⟨ab,ab,?_⟩,ab,aM⟩;rw[en,am (show (bf X).length=0 from by omega)]
  have hr:=aO hr;have hr':¬ (bf X).length=0:=λe=>hr (by rw[show X.2.2.2.2.1=bf X from rfl,e];rfl);have hpp:=hp _ hM (by rw[← hX.2];exact λe=>hr' (by rw[e];rfl));rw[← hX.1,← hX.2] at hpp;have q3:=fp b2 (n:=((bf X).length:Int)) ab;have b3:=(dk b2 ((bf X).length:Int)).1;have q4:=fp b3 (n:=((aA X).length:Int)) ab;have b4:=(dk b3 ((aA X).length:Int)).1;rw[af hr'] at en;refine⟨b2.at',q3.1,q3.2,b3.at',q4.1,q4.2,b4.at',?_⟩;refine bt (λhz=>?_) (λhz=>?_)
  .have hz:(aw (aw (aw W.2 ((bf X).length:Int)).2 ((aA X).length:Int)).2 4).1=3:=hz;refine⟨by simp only[cQ,List.length_nil];omega,k-1,_,_,_,⟨ab,ab,?_⟩,ab,aM⟩;rw[en,am hz];rfl
  .have hz:¬ (aw (aw (aw W.2 ((bf X).length:Int)).2 ((aA X).length:Int)).2 4).1=3:=hz;refine⟨by simp only[cQ,List.length_nil];omega,k-1,_,_,_,⟨ab,ab,?_⟩,ab,aM⟩;rw[en,af hz];rfl
theorem Yw:aD 42 PZ.spec:=aH Tryz.func42 (au (au aE xZ) aw9) aE9 Z5
theorem GI.small{s:bG}{nn nl:Nat}(h:GI s nn nl)(hn:nn<=100)(hl:nl<=100):qp s :=
 ⟨h.c.at',by rw[h.n];omega,by rw[h.l];omega,by rw[h.h];decide,λx hx=>by have:=h.plen x hx;omega⟩
theorem GI.inN{s:bG}{nn nl:Nat}(h:GI s nn nl){a:Int}(h0:0<=a)(h1:a<nn):inN s.1.1 a:=⟨h0,by rw[h.n];exact h1⟩
theorem GI.preR{s:bG}{nn nl:Nat}(h:GI s nn nl)(hn:nn<=100)(hl:nl<=100):preR s:=by
 refine⟨h.c.at',by rw[h.n];omega,by rw[h.l];omega,h.ends,h.routes,?_⟩
 have:=Ew h.plen
 rw[h.n] at this
 have:=Nat.mul_le_mul hn (show 2*nl<=200 by omega)
 omega
structure RS (s:bG) (nn nl:Nat) (r:bG):Prop where
 g:GI s nn nl
 i:RI s.1.2.1 (jb s.1.1) s.1.1 r.1.1
 c:cV r.2
 l:r.1.2=s.1.2
theorem GI.rs{s:bG}{nn nl:Nat}(h:GI s nn nl)(plain:Bool):RS s nn nl (BJ s plain):=by
 have:=RI.stepTs (ns0:=s.1.1) (ls:=s.1.2.1) (s:=(s.1.1,s.2)) ⟨RI.start h.routes,h.c⟩ h.ends (plain:=plain) (eZ _)
 exact⟨h,this.1,this.2,rfl⟩
theorem RS.ports{s r:bG}{nn nl:Nat}(h:RS s nn nl r){i:Nat}(hi:i<nn):aA (r.1.1.getD i default)=portsF i 0 s.1.2.1 :=
 (h.i.ports (by rw[h.g.n];exact hi)).trans (h.g.p i hi)
theorem RS.mem{s r:bG}{nn nl:Nat}(h:RS s nn nl r){x:ar}(hx:x∈r.1.1):∃ i,i<nn/\r.1.1.getD i default=x:=by
 obtain⟨i,hi,e⟩:=List.mem_iff_getElem.1 hx
 exact⟨i,by have:=h.i.n;have:=h.g.n;omega,by rw[ce,cF hi,e];rfl⟩
theorem RS.tab{s r:bG}{nn nl:Nat}(h:RS s nn nl r){i:Nat}(hi:i<nn):nF s.1.2.1 (jb s.1.1) i (bf (r.1.1.getD i default)):=h.i.t i (by rw[h.g.n];exact hi)
theorem RS.preO{s r:bG}{nn nl:Nat}(h:RS s nn nl r)(hn:nn<=100)(hl:nl<=100)(h0:0<nn):preO r:=by
 have pl:∀ x∈r.1.1,x.1.length<=2*nl:=λx hx=>by
  obtain⟨i,hi,rfl⟩:=h.mem hx;have:=z5 i 0 s.1.2.1;rw[← h.ports hi,h.g.l] at this;exact this
 have rn:r.1.1.length=nn:=h.i.n.trans h.g.n
 have al:=Ew h.g.plen
 rw[h.g.n] at al
 have al2:=Nat.mul_le_mul hn (show 2*nl<=200 by omega)
 refine⟨h.c.at',ab,ab,?_,?_,?_,?_,λx hx hr=>?_⟩
 .rw[h.l,h.g.l];omega
 .have:=h.g.ends;rw[h.l,rn,← h.g.n];exact this
 .rw[h.l];exact h.g.h
 .have:=Ew pl;rw[rn] at this;omega
 .have hp:=pl x hx;obtain⟨i,hi,rfl⟩:=h.mem hx;have t:=h.tab hi;have tl:=Fu t;refine⟨?_,by have:(aA (r.1.1.getD i default)).length<=2*nl:=hp;omega,ab⟩;obtain⟨y,ys,e⟩:=List.exists_cons_of_ne_nil hr;have ty:=t.2 y (by rw[e];exact fF);obtain⟨k,ks,ek⟩:=List.exists_cons_of_ne_nil ty.ne;obtain⟨k0,k1,kk⟩:=ty.ln k (by rw[ek];exact fF);rw[h.ports hi];rcases kk with kk|kk
  .exact List.length_pos_of_mem (Ab.2 ⟨k.toNat,ab,.inl ⟨kk,rfl⟩⟩)
  .exact List.length_pos_of_mem (Ab.2 ⟨k.toNat,ab,.inr ⟨kk,rfl⟩⟩)
def zf(plain:Bool)(c:aZ):bG:=xS plain (ni c).1 (ni c).2
def kN(c:aZ):Int:=(aw (ni c).2.2 4).1
def pC(plain:Bool)(c:aZ)(k:Int):bG:=qe plain (bV c) (ni c).2 (kN c-k).toNat
theorem aU4(l m:List ar):(List.brecOn.go (motive:=λ(x:List ar)=>List ar->List ar) l List.append._f).1 m=l++m:=by kernel_rfl
theorem XW{plain:Bool}{c:aZ}{k:Int}(k0:0<k)(k1:k<=kN c)(h1:1<bV c)(h2:plain=false):pC plain c (k-1)=sj (bV c) (pC plain c k):=by
 unfold pC qe
 rw[am ⟨h1,h2⟩,am ⟨h1,h2⟩,show (kN c-(k-1)).toNat=(kN c-k).toNat+1 by omega,mM,j9];rfl
theorem Zm{plain:Bool}{c:aZ}{k:Int}(h:k=0∨¬ (1<bV c/\plain=false)):pC plain c k=qe plain (bV c) (ni c).2 (aw (ni c).2.2 4).1.toNat:=by
 rcases h with h|h
 .subst h;unfold pC kN;rw[Int.sub_zero]
 .unfold pC qe;rw[af h,af h]
theorem aD4{c:aZ}(h:cV c)(plain:Bool)(k:Int)(k0:0<=k):∃ m,m<=9/\GI (pC plain c k) ((bV c).toNat+2) m:=by
 have hn:=vq h
 have hl:=Ei h
 have h4:=fp hl.c (n:=4) ab
 obtain⟨m,m0,m1,hm⟩:=PX hl (plain:=plain) (n:=bV c) hn.1 ab (kN c-k).toNat
 unfold kN at m1
 exact⟨m,ab,hm⟩
def Nb:Ct:=⟨[.box 105 iA,.val .bool],[.agg gS],λd=>[ay d.1],λd=>((rM d.2.1 d.1,()),(zF d.2.1 d.1,()))⟩
def UG:bu Nb.ps->bS:=(λd=>{loops:=(bm 6 (λS=>{ι:=Int×bG,qn:=fj,μ:=λi=>(bV d.1-i.1).toNat,inv:=λi=>0<=i.1/\i.1<=bV d.1/\i.2=(range i.1.toNat).foldl ro (uL d.1),keep:=[0,1,4,5],slots:=λi=>[(7,.int .i64 (bV d.1)),(9,.int .i64 i.1),(8,.int .i64 i.1)],keepN:=[80],names:=λi=>[(288,.live (.cells 108 [.own 524288 16,.own 524289 6,.own 524290 7,.ptr 1048576 0])),(524288,.live (.row 103 bN i.2.1.1)),(524289,.live (.row 95 gh i.2.1.2.1)),(524290,.live (.row 118 ft i.2.1.2.2)),(1048576,.live (.cells 105 (cR iA i.2.2)))]}) (bm 14 (λS=>{ι:=Int×bG,qn:=fj,μ:=λi=>i.1.toNat,inv:=λi=>0<=i.1/\i.1<=kN d.1/\i.2=pC d.2.1 d.1 i.1,keep:=[0,1,4,5],slots:=λi=>[(7,.int .i64 (bV d.1)),(12,.int .i64 i.1)],keepN:=[80],names:=λi=>[(288,.live (.cells 108 [.own 524288 16,.own 524289 6,.own 524290 7,.ptr 1048576 0])),(524288,.live (.row 103 bN i.2.1.1)),(524289,.live (.row 95 gh i.2.1.2.1)),(524290,.live (.row 118 ft i.2.1.2.2)),(1048576,.live (.cells 105 (cR iA i.2.2)))]}) ci)),cuts:=(bm 21 (λS=>{ι:=bG,inv:=λi=>i=zf d.2.1 d.1,keep:=[0,1,4,5],slots:=λi=>[],keepN:=[80],names:=λi=>[(288,.live (.cells 108 [.own 524288 16,.own 524289 6,.own 524290 7,.ptr 1048576 0])),(524288,.live (.row 103 bN i.1.1)),(524289,.live (.row 95 gh i.1.2.1)),(524290,.live (.row 118 ft i.1.2.2)),(1048576,.live (.cells 105 (cR iA i.2)))]}) ci)})
def uq(c:Bool)(j:bG) :=
 List.foldl (stepT j.1.2.1 c) (j.1.1,j.2) (range j.1.1.length)
def yB(c:Bool)(j:bG) :=
 List.foldl sa (((List.foldl xr (uq c j) (range (length (uq c j).1))).1,j.1.2.1),(List.foldl xr (uq c j) (range (length (uq c j).1))).2) (range j.1.2.1.length)
def z6(e:bG) :=
 getD [(64:Int),(255:Int),(128:Int)] (toNat (aw e.2 3).1) default
def tM(e:bG) :=
 aw (aw e.2 3).2 (256:Int)
def qF(a:ad)(b:Int)(g:bG) :=
 aw (aw g.2 (bV (a,b))).2 (bV (a,b))
def ux(e:bG) :=
 aw (aw (tM e).2 (20:Int)).2 (256:Int)
def tX(a:ad)(b:Int)(g:bG) :=
 aw (aw g.2 2).2 (ai (bV (a,b) -1))
def FR(c:Bool)(j:bG) :=
 List.foldl (λ(k:List aT×Int×aZ) (l:Nat)=>pL (yB c j).1.1 k) (([]:List aT),(0:Int),(aw (yB c j).2 (4:Int)).2) (range (toNat (aw (yB c j).2 (4:Int)).1))
def ue(a:ad)(b:Int)(g:bG) :=
 aw g.2 (ai (bV (a,b) -1))
def yG(a:ad)(b:Int) :=
 aw (aw (a,b) (3:Int)).2 (256:Int)
def E0(e:bG) :=
 e.1.1++[rg (ac e.1.1) false (z6 e) (tM e).1]
def EJ(e:bG) :=
 e.1.1++[rg (ac e.1.1) true (z6 e) (tM e).1]
theorem aJ6 :
 ∀(a:ad)(b:Int)(c:Bool),((a.length<=maxLen/\ ∀(d:Int),d∈a->0<=d/\d<=255)/\aj b)/\True/\True->0<=b/\b<=(ac a)->qp ((([]:List ar),([]:List aN),([]:List aT)),a,b)/\ay (yG a b).2/\(∃(d:Int) (e:bG),(0<=d/\d<=bV (a,b)/\e=List.foldl ro (uL (a,b)) (range d.toNat))/\c=c/\ai ((1:Int)+(aw (yG a b).2 (5:Int)).1)=bV (a,b)/\(↑(0:Nat):Int)=d/\0=d/\[rg (↑(0:Nat):Int) true (getD [(64:Int),(255:Int),(128:Int)] (toNat (aw (a,b) (3:Int)).1) default) (yG a b).1]=e.1.1/\([]:List aN)=e.1.2.1/\([]:List aT)=e.1.2.2/\(aw (yG a b).2 (5:Int)).2.1=e.2.1/\(aw (yG a b).2 (5:Int)).2.2=e.2.2/\True)/\ ∀(d:Int)(e:bG),0<=d/\d<=bV (a,b)/\e=List.foldl ro (uL (a,b)) (range d.toNat)->ao (decide (d<bV (a,b))) (qp e/\qp (((List.brecOn.go (motive:=λ(f:List ar)=>List ar->List ar) e.1.1 List.append._f).1
 [rg (ac e.1.1) false (z6 e) (tM e).1],e.1.2),(tM e).2)/\inN (E0 e) d/\inN (E0 e) (ac e.1.1)/\ ∃(f:Int) (g:bG),(0<=f/\f<=bV (a,b)/\g=List.foldl ro (uL (a,b)) (range f.toNat))/\toNat (bV (a,b) -f)<toNat (bV (a,b) -d)/\c=c/\bV (a,b)=bV (a,b)/\(ac e.1.1)=f/\ai (d+1)=f/\j5 (j5 (E0 e) d (gA (ac e.1.2.1)+1,(ac e.1.2.1))) (ac e.1.1) (gA (ac e.1.2.1)+2,(ac e.1.2.1))=g.1.1/\e.1.2.1++[(d,(ac e.1.1),(1:Int)+(aw (tM e).2 (20:Int)).1,(0:Int),(0:Int),(ux e).1)]=g.1.2.1/\e.1.2.2=g.1.2.2/\(ux e).2.1=g.2.1/\(ux e).2.2=g.2.2/\True) (qp e/\qp (((List.brecOn.go (motive:=λ(f:List ar)=>List ar->List ar) e.1.1 List.append._f).1 [rg (ac e.1.1) true (z6 e) (tM e).1],e.1.2),(tM e).2)/\inN (EJ e) d/\inN (EJ e) (ac e.1.1)/\ay (ux e).2/\(∃(f:Int) (g:bG),(0<=f/\f<=kN
 (a,b)/\g=pC c (a,b) f)/\c=c/\bV (a,b)=bV (a,b)/\(aw (ux e).2 (4:Int)).1=f/\j5 (j5 (EJ e) d (gA (ac e.1.2.1)+1,(ac e.1.2.1))) (ac e.1.1) (gA (ac e.1.2.1)+2,(ac e.1.2.1))=g.1.1/\e.1.2.1++[(d,(ac e.1.1),(1:Int)+(aw (tM e).2 (20:Int)).1,(0:Int),(0:Int),(ux e).1)]=g.1.2.1/\e.1.2.2=g.1.2.2/\(aw (ux e).2 (4:Int)).2.1=g.2.1/\(aw (ux e).2 (4:Int)).2.2=g.2.2/\True)/\ ∀(f:Int)(g:bG),0<=f/\f<=kN (a,b)/\g=pC c (a,b) f-> ∀(h:Bool),h=decide (0<f)->(ae h)/\(aq h)/\ ∀(i:Bool),(i=bif h then decide (1<bV (a,b)) else false)->(ae i)/\(aq i)/\ao (bif i then ! c else false) (ay g.2/\ay (aw g.2 (bV (a,b))).2/\ao (! decide (ai ((1:Int)+(aw g.2 (bV (a,b))).1)=ai ((1:Int)+(qF a b g).1))) (qp (g.1,(qF a b g).2)/\inN g.1.1 (ai ((1:Int)+(aw g.2 (bV (a,b))).1))/\inN g.1.1 (ai ((1:Int)+(qF a b g).1))/\
 ∃(j:Int) (k:bG),(0<=j/\j<=kN (a,b)/\k=pC c (a,b) j)/\j.toNat<f.toNat/\c=c/\bV (a,b)=bV (a,b)/\ai (f -1)=j/\j5 (j5 g.1.1 (ai ((1:Int)+(aw g.2 (bV (a,b))).1)) (gA (ac g.1.2.1)+1,(ac g.1.2.1))) (ai ((1:Int)+(qF a b g).1)) (gA (ac g.1.2.1)+2,(ac g.1.2.1))=k.1.1/\g.1.2.1++[(ai ((1:Int)+(aw g.2 (bV (a,b))).1),ai ((1:Int)+(qF a b g).1),(1:Int)+(aw (qF a b g).2 (20:Int)).1,(0:Int),(0:Int),(aw (aw (qF a b g).2 (20:Int)).2 (256:Int)).1)]=k.1.2.1/\g.1.2.2=k.1.2.2/\(aw (aw (qF a b g).2 (20:Int)).2 (256:Int)).2.1=k.2.1/\(aw (aw (qF a b g).2 (20:Int)).2 (256:Int)).2.2=k.2.2/\True) (∃(j:Int) (k:bG),(0<=j/\j<=kN (a,b)/\k=pC c (a,b) j)/\j.toNat<f.toNat/\c=c/\bV (a,b)=bV (a,b)/\ai (f -1)=j/\g.1.1=k.1.1/\g.1.2.1=k.1.2.1/\g.1.2.2=k.1.2.2/\(qF a b g).2.1=k.2.1/\(qF a b g).2.2=k.2.2/\True))
 ((∀(j:Bool),j=c->(ae j)/\(aq j)/\ ∀(k:Bool),(k=bif j then decide (2<bV (a,b)) else false)->ao k ((aq k)/\ay g.2/\(aq k)/\ao (bif k then decide ((aw g.2 2).1=1) else false) (ay (aw g.2 2).2/\qp (g.1,(tX a b g).2)/\inN g.1.1 (ai ((1:Int)+(tX a b g).1))/\inN g.1.1 (bV (a,b))/\ ∃(l:bG),l=zf c (a,b)/\c=c/\j5 (j5 g.1.1 (ai ((1:Int)+(tX a b g).1)) (gA (ac g.1.2.1)+1,(ac g.1.2.1))) (bV (a,b)) (gA (ac g.1.2.1)+2,(ac g.1.2.1))=l.1.1/\g.1.2.1++[(ai ((1:Int)+(tX a b g).1),bV (a,b),(1:Int)+(aw (tX a b g).2 (20:Int)).1,(0:Int),(0:Int),(aw (aw (tX a b g).2 (20:Int)).2 (256:Int)).1)]=l.1.2.1/\g.1.2.2=l.1.2.2/\(aw (aw (tX a b g).2 (20:Int)).2 (256:Int)).2.1=l.2.1/\(aw (aw (tX a b g).2 (20:Int)).2 (256:Int)).2.2=l.2.2/\True) (∃(l:bG),l=zf c
 (a,b)/\c=c/\g.1.1=l.1.1/\g.1.2.1=l.1.2.1/\g.1.2.2=l.1.2.2/\(aw g.2 2).2.1=l.2.1/\(aw g.2 2).2.2=l.2.2/\True)) (k=false/\(k->false=true)/\ao (bif k then false else false) (ay g.2/\qp (g.1,(ue a b g).2)/\inN g.1.1 (ai ((1:Int)+(ue a b g).1))/\inN g.1.1 (bV (a,b))/\ ∃(l:bG),l=zf c (a,b)/\c=c/\j5 (j5 g.1.1 (ai ((1:Int)+(ue a b g).1)) (gA (ac g.1.2.1)+1,(ac g.1.2.1))) (bV (a,b)) (gA (ac g.1.2.1)+2,(ac g.1.2.1))=l.1.1/\g.1.2.1++[(ai ((1:Int)+(ue a b g).1),bV (a,b),(1:Int)+(aw (ue a b g).2 (20:Int)).1,(0:Int),(0:Int),(aw (aw (ue a b g).2 (20:Int)).2 (256:Int)).1)]=l.1.2.1/\g.1.2.2=l.1.2.2/\(aw (aw (ue a b g).2 (20:Int)).2 (256:Int)).2.1=l.2.1/\(aw (aw (ue a b g).2 (20:Int)).2 (256:Int)).2.2=l.2.2/\True) (∃(l:bG),l=zf c
 (a,b)/\c=c/\g.1.1=l.1.1/\g.1.2.1=l.1.2.1/\g.1.2.2=l.1.2.2/\g.2.1=l.2.1/\g.2.2=l.2.2/\True)))/\ ∀(j:bG),j=zf c (a,b)->preR j/\ao (! c) (preO (((uq c j).1,j.1.2),(uq c j).2)/\((yB c j).1.1,(yB c j).1.2,(FR c j).1)=rM c (a,b)/\(FR c j).2.2=zF c (a,b)) (((uq c j).1,j.1.2)=rM c (a,b)/\(uq c j).2=zF c (a,b)))):=by
  delta yB z6 tM uq qF ux tX FR ue yG E0 EJ ae aq ai ac;rintro l p plain ⟨⟨⟨hl,hw⟩,-⟩,-⟩ hc;have hB:cV (l,p):=⟨hc,hw⟩
  generalize ((l,p):aZ)=c at hB hc ⊢;have hN:=vq hB;have g0:=GI.start hB;have g1:=g0.node true;have hw5:IntKind.i64.wrap (1+(aw (aw (aw c 3).2 256).2 5).1)=bV c:=aQ (n:=bV c) ab ab;rw[hw5];refine⟨g0.small ab ab,g1.c.at',⟨0,uL c,⟨ab,ab,rfl⟩,aM⟩,?_⟩;rintro i s ⟨i0,il,hs⟩;have hg:GI s (i.toNat+1) i.toNat:=by rw[hs];exact (K4 hB).chain _
  have e1:(s.1.1.length:Int)=i+1:=by rw[hg.n];omega
  simp only[aU4];refine av (λhi=>?_) (λhi=>?_)
  .have hi:=aL hi;have hg2:=hg.node false;refine⟨hg.small ab ab,hg2.small ab ab,hg2.inN i0 ab,hg2.inN ab ab,i+1,ji (j4 s false) i s.1.1.length,⟨ab,ab,?_⟩,ab,?_⟩
   .rw[show (i+1).toNat=i.toNat+1 by omega,mM,j9,← hs,List.foldl_cons,List.foldl_nil,ro,show ((i.toNat:Nat):Int)=i by omega,e1]
   .repeat' first|exact trivial|refine⟨bv,?_⟩|refine⟨(by with_reducible rfl),?_⟩|refine⟨e1,?_⟩|refine⟨aQ ab ab,?_⟩|refine⟨rfl,?_⟩
  have hi:=aO hi;have hi:i=bV c:=ab;subst hi;have hg2:=hg.node true;have eL:ji (j4 s true) (bV c) s.1.1.length=(ni c).2:=by rw[IB,← hs,e1]
  have gL:=Ei hB;rw[← eL] at gL;have h4:=fp gL.c (n:=4) ab;have eK:(aw (ji (j4 s true) (bV c) s.1.1.length).2 4).1=kN c:=by rw[eL];rfl
  refine⟨hg.small ab ab,hg2.small ab ab,hg2.inN i0 ab,hg2.inN ab ab,gL.c.at',⟨(aw (ji (j4 s true) (bV c) s.1.1.length).2 4).1,((ji (j4 s true) (bV c) s.1.1.length).1,(aw (ji (j4 s true) (bV c) s.1.1.length).2 4).2),⟨h4.1,ab,?_⟩,aM⟩,?_⟩
  .rw[eK];unfold pC qe;rw[Int.sub_self,← eL];split <;> rfl
  clear hs hg e1 hg2 eL gL h4 eK il i0;clear s;rintro k s ⟨k0,k1,hs⟩;obtain⟨m,hm,hg⟩:=aD4 hB plain k k0;rw[← hs] at hg;have hkN:kN c<=4:=by
   have:=fp (Ei hB).c (n:=4) ab;unfold kN;omega
  have ka:=fp hg.c (n:=bV c) ab;have ca:=(dk hg.c (bV c)).1;have kb:=fp ca (n:=bV c) ab;have cb:=(dk ca (bV c)).1;intro b hb;refine⟨aC,aC,?_⟩;intro b1 hb1;refine⟨aC,aC,?_⟩;refine pT (λx1 x2=>?_) (λhno=>?_)
  .have hk:0<k/\1<bV c:=by
    rw[x1] at hb1;rcases b with _|_
    .cases hb1
    .exact⟨aL hb.symm,aL hb1.symm⟩
   have hpl:plain=false:=by simpa using x2
   have nx:=XW (plain:=plain) hk.1 k1 hk.2 hpl;rw[← hs] at nx;unfold sj at nx;dsimp only at nx;rw[aQ (n:=1+(aw s.2 (bV c)).1) ab ab,aQ (n:=1+(aw (aw s.2 (bV c)).2 (bV c)).1) ab ab,aQ (n:=k-1) ab ab];refine⟨hg.c.at',ca.at',?_⟩;have hgc:=hg.codes cb;refine av (λhne=>?_) (λhne=>?_)
   .have hne:=fQ hne;rw[af ab] at nx;exact⟨hgc.small ab ab,hgc.inN ab ab,hgc.inN ab ab,k-1,_,⟨ab,ab,nx.symm⟩,ab,aM⟩
   .have hne:=gH hne;rw[am ab] at nx;exact⟨k-1,_,⟨ab,ab,nx.symm⟩,ab,aM⟩
  have he:k=0∨¬ (1<bV c/\plain=false):=by
   by_cases z:k=0
   .exact .inl z
   .refine .inr ?_;rintro⟨z1,z2⟩;rw[hb,show decide (0<k)=true from dM ab,show decide (1<bV c)=true from dM z1] at hb1;rcases hno with h|h
    .rw[h] at hb1;cases hb1
    .rw[z2] at h;cases h
  rw[Zm he] at hs;clear hno hb1 hb b1 b k0 k1 he;have hF:=Hw plain (bV c) (ni c).2;dsimp only at hF;rw[← hs] at hF;have c2:=(dk hg.c 2).1;refine⟨?_,?_⟩
  .intro b hb
   (repeat refine⟨aC,?_⟩);intro b2 hb2;refine av (λh=>?_) (λh=>?_)
   .have hk:plain=true/\2<bV c:=by
     rw[h,hb] at hb2;rcases plain with _|_
     .cases hb2
     .exact⟨rfl,aL hb2.symm⟩
    simp only[h,cond_true];rw[am hk] at hF;refine⟨λh=>h,hg.c.at',λh=>h,bt (λh2=>?_) (λh2=>?_)⟩
    .rw[am h2] at hF;have kd:=fp c2 (n:=bV c-1) ab;have cd:=(dk c2 (bV c-1)).1;have hgc:=hg.codes cd;rw[aQ (n:=bV c-1) ab ab,aQ (n:=1+(aw (aw s.2 2).2 (bV c-1)).1) ab ab];exact⟨c2.at',hgc.small ab ab,hgc.inN ab ab,hgc.inN ab ab,_,hF.symm,aM⟩
    .rw[af h2] at hF;exact⟨_,hF.symm,aM⟩
   .have hk:¬ (plain=true/\2<bV c):=by
     rintro⟨z1,z2⟩;rw[h,hb,z1,show decide (2<bV c)=true from dM z2] at hb2;cases hb2
    simp only[h,nP];rw[af hk] at hF;refine⟨bv,λh=>h,?_⟩;rw[H0];exact⟨s,hF.symm,aM⟩
  rintro t ht;obtain⟨m',-,m1,hG⟩:=Dy hB plain;have hG:GI t ((bV c).toNat+2) m':=by rw[ht];exact hG
  refine⟨hG.preR ab ab,?_⟩;have hR:=hG.rs plain;have hO:=hR.preO ab ab ab;subst ht;rcases plain with _|_
  .rw[show (!false)=true from rfl,as5];exact⟨hO,rfl,rfl⟩
  .rw[show (!true)=false from rfl,H0];exact⟨rfl,rfl⟩
theorem UU:aD 7 Nb.spec:=aH Tryz.func7 (au (au (au (au (au aE ZZ) xZ) Wr) ao4) Yw) UG aJ6
structure NP (i:Int) (x:ar):Prop where
 own:JU x=1+i/3
 loop:fM x=0∨fM x=167903232+i
 src:(lu x=1∨lu x=2)∨(lu x=3/\fM x=167903232+i)∨(lu x=4/\167837696<=pK x)
 fix:pK x=0∨(167837696<=pK x/\pK x<167837736)
 id:(0<=mA x/\mA x<=5)/\(0<=jJ x/\jJ x<=65535)/\0<=uJ x/\uJ x<=1000000
 lim:jE x=(0,0)∨(1<=(jE x).1/\(jE x).1<=3/\1<=(jE x).2/\(jE x).2<=200)
 first:jt x=64∨jt x=255∨jt x=128
 seed:0<=Cv x/\Cv x<=255
theorem NP.new{i:Int}{host:Bool}{f sd:Int}(hf:f=64∨f=255∨f=128)(h0:0<=sd)(h1:sd<=255):NP i (rg i host f sd) :=
 ⟨rfl,.inl rfl,.inl (.inl rfl),.inl rfl,⟨⟨by show (0:Int)<=0;decide,by show (0:Int)<=5;decide⟩,⟨by show (0:Int)<=0;decide,by show (0:Int)<=65535;decide⟩,by show (0:Int)<=0;decide,by show (0:Int)<=1000000;decide⟩,.inl rfl,hf,h0,h1⟩
theorem NP.same{i:Int}{x y:ar}(h:NP i x)(e:x.2=y.2):NP i y:=by
 obtain⟨p,x⟩:=x
 obtain⟨q,y⟩:=y
 cases e
 exact⟨h.own,h.loop,h.src,h.fix,h.id,h.lim,h.first,h.seed⟩
theorem NP.routes{i:Int}{x y:ar}(h:NP i x)(e:yR x []=yR y []):NP i y:=by
 have k:NP i (yR x []):=⟨h.own,h.loop,h.src,h.fix,h.id,h.lim,h.first,h.seed⟩
 rw[e] at k
 exact⟨k.own,k.loop,k.src,k.fix,k.id,k.lim,k.first,k.seed⟩
theorem NP.way{i:Int}{x:ar}(h:NP i x){c:aZ}(hc:cV c):NP i (iF x i c).1:=by
 have a:=fp hc (n:=10) ab
 have ca:=(dk hc 10).1
 have b:=fp ca (n:=3) ab
 have cb:=(dk ca 3).1
 have e:=fp cb (n:=200) ab
 have f:=fp ca (n:=40) ab
 unfold iF
 dsimp only
 split
 .exact⟨h.own,h.loop,h.src,h.fix,h.id,h.lim,h.first,h.seed⟩
 split
 .refine⟨h.own,h.loop,h.src,h.fix,h.id,.inr ?_,h.first,h.seed⟩;show 1<=1+_/\1+_<=(3:Int)/\1<=1+_/\1+_<=(200:Int)
  omega
 split
 .exact⟨h.own,h.loop,h.src,h.fix,h.id,h.lim,h.first,h.seed⟩
 split
 .exact⟨h.own,h.loop,.inl (.inr rfl),h.fix,h.id,h.lim,h.first,h.seed⟩
 split
 .exact⟨h.own,.inr rfl,.inr (.inl ⟨rfl,rfl⟩),h.fix,h.id,h.lim,h.first,h.seed⟩
 split
 .refine⟨h.own,h.loop,.inr (.inr ⟨rfl,?_⟩),.inr ⟨?_,?_⟩,h.id,h.lim,h.first,h.seed⟩
  .show 167837696<=167837696+_;omega
  .show 167837696<=167837696+_;omega
  .show 167837696+_<167837736;omega
 .exact h
theorem NP.od{i:Int}{x:ar}(h:NP i x){c:aZ}(hc:cV c):NP i (xI x i c).1:=by
 have k:=h.way hc
 have kc:=GB (x:=x) (i:=i) hc
 have a:=fp kc (n:=6) ab
 have ca:=(dk kc 6).1
 have b:=fp ca (n:=65536) ab
 have cb:=(dk ca 65536).1
 have e:=fp cb (n:=1000) ab
 refine⟨k.own,k.loop,k.src,k.fix,?_,k.lim,k.first,k.seed⟩
 show (0<=(aw (iF x i c).2 6).1/\(aw (iF x i c).2 6).1<=5)/\(0<=(aw (aw (iF x i c).2 6).2 65536).1/\(aw (aw (iF x i c).2 6).2 65536).1<=65535)/\0<=(aw (aw (aw (iF x i c).2 6).2 65536).2 1000).1/\(aw (aw (aw (iF x i c).2 6).2 65536).2 1000).1<=1000000
 omega
theorem NP.opq{i:Int}{x:ar}(h:NP i x)(b:Bool):NP i (Dq x b):=⟨h.own,h.loop,h.src,h.fix,h.id,h.lim,h.first,h.seed⟩
def rJ(ns:List ar):Prop:=∀ i:Nat,i<ns.length->NP i (ns.getD i default)
theorem rJ.set{ns:List ar}(h:rJ ns){i:Nat}{x:ar}(hx:i<ns.length->NP i x):rJ (ns.set i x):=λj hj=>by
 rw[fV] at hj
 by_cases e:i=j
 .subst e;rw[jN hj];exact hx hj
 .rw[m7 e];exact h j hj
structure LK (l0 l:aN):Prop where
 a:lA l=lA l0
 b:lB l=lB l0
 d:mL l=mL l0
 s:uH l=uH l0
 j:0<=iH l/\iH l<=9
 o:0<=mP l/\mP l<=65536
theorem LK.od{l0 l:aN}(h:LK l0 l){c:aZ}(hc:cV c):LK l0 (odLink l c).1:=by
 have a:=fp hc (n:=6) ab
 have ca:=(dk hc 6).1
 have b:=fp ca (n:=10) ab
 have e:=fp ca (n:=3) ab
 unfold odLink
 dsimp only
 split
 .refine⟨h.a,h.b,h.d,h.s,?_,h.o⟩;show 0<=(aw (aw c 6).2 10).1/\(aw (aw c 6).2 10).1<=9;omega
 split
 .refine⟨h.a,h.b,h.d,h.s,h.j,?_⟩;show 0<=([65536,20000,3]:ad).getD (aw (aw c 6).2 3).1.toNat default/\([65536,20000,3]:ad).getD (aw (aw c 6).2 3).1.toNat default<=65536;rcases (show (aw (aw c 6).2 3).1=0∨(aw (aw c 6).2 3).1=1∨(aw (aw c 6).2 3).1=2 by omega) with e|e|e <;> rw[e] <;> decide
 .exact h
structure pg (ls0 ls:List aN):Prop where
 n:ls.length=ls0.length
 k:∀ i:Nat,i<ls0.length->LK (ls0.getD i default) (ls.getD i default)
theorem pg.set{ls0 ls:List aN}(h:pg ls0 ls){i:Nat}{x:aN}(hx:i<ls0.length->LK (ls0.getD i default) x):pg ls0 (ls.set i x):=by
 refine⟨by rw[fV];exact h.n,λj hj=>?_⟩
 by_cases e:i=j
 .subst e;rw[jN (by rw[h.n];exact hj)];exact hx hj
 .rw[m7 e];exact h.k j hj
theorem pg.mem{ls0 ls:List aN}(h:pg ls0 ls){l:aN}(hl:l∈ls):∃ l0∈ls0,LK l0 l:=by
 obtain⟨i,hi,e⟩:=List.mem_iff_getElem.1 hl
 have:=h.k i (by rw[← h.n];exact hi)
 rw[ce (l:=ls),cF hi,e] at this
 exact⟨_,pf (by rw[← h.n];exact hi),this⟩
theorem pg.lnk{ls0 ls:List aN}(h:pg ls0 ls){i k:Int}(hk:lnk ls0 i k):lnk ls i k:=by
 obtain⟨k0,k1,k2⟩:=hk
 have e:=h.k k.toNat ab
 exact⟨k0,by rw[h.n];exact k1,by rw[e.a,e.b];exact k2⟩
theorem Pt(i:Int):∀(k:Nat)(ls ls':List aN),ls'.length=ls.length->(∀ j:Nat,j<ls.length->lA (ls'.getD j default)=lA (ls.getD j default)/\lB (ls'.getD j default)=lB (ls.getD j default))->portsF i k ls'=portsF i k ls
 | k,[],[],_,_=>rfl
 | k,x::r,[],h,_=>by cases h
 | k,[],x::r,h,_=>by cases h
 | k,x::r,y::t,h,e=>by
  have e0:=e 0 aC;rw[List.getD_cons_zero,List.getD_cons_zero] at e0;rw[portsF,portsF,pd,pd,e0.1,e0.2,Pt i (k+1) r t (by simpa using h) λj hj=>by
   have:=e (j+1) (by simp;omega);rw[List.getD_cons_succ,List.getD_cons_succ] at this;exact this]
theorem pg.portsF{ls0 ls:List aN}(h:pg ls0 ls)(i:Int)(k:Nat):portsF i k ls=Go.RS.portsF i k ls0 :=
 Pt i k ls0 ls h.n λj hj=>⟨(h.k j hj).a,(h.k j hj).b⟩
theorem nF.lk{ls0 ls:List aN}(h:pg ls0 ls){aa:ad}{i:Int}{t:List Rt}(k:nF ls0 aa i t):nF ls aa i t :=
 ⟨k.1,λr hr=>by
  have q:=k.2 r hr;exact⟨q.len,q.mem,q.ne,q.pw,λx hx=>h.lnk (q.ln x hx),q.w0,q.w1⟩⟩
structure CH (ns:List ar) (c:aT):Prop where
 at':0<=iu c/\iu c<=180
 w:0<=bI c/\bI c<ns.length
 r:o8 c=false
 p:∃ r∈bf (ns.getD (bI c).toNat default),(dB c).1=r.1/\(dB c).2.2=r.2.2
 x:(dB c).2.1=[]∨∃ q∈aA (ns.getD (bI c).toNat default),(dB c).2.1=[q.2]
def B8:ad:=(range 10).flatMap λ(k:Nat)=>[gA k+1,gA k+2]
theorem OO{a:Int}{k:Nat}(hk:k<10)(h:a=gA k+1∨a=gA k+2):a∈B8:=by
 refine List.mem_flatMap.2 ⟨k,List.mem_range.2 hk,?_⟩
 rcases h with h|h <;> rw[h] <;> simp
theorem nF.sub{ls:List aN}{aa bb:ad}{i:Int}{t:List Rt}(h:nF ls aa i t)(hs:∀ a∈aa,a∈bb):nF ls bb i t :=
 ⟨h.1,λr hr=>by
  have q:=h.2 r hr;exact⟨q.len,hs _ q.mem,q.ne,q.pw,q.ln,q.w0,q.w1⟩⟩
structure DN (n:cC):Prop where
 n3:3<=n.1.length
 n7:n.1.length<=7
 l2:2<=n.2.1.length
 l10:n.2.1.length<=10
 h3:n.2.2.length<=3
 g:∀ x∈n.2.1,(0<=lA x/\lA x<n.1.length)/\(0<=lB x/\lB x<n.1.length)/\lA x≠lB x/\(1<=mL x/\mL x<=20)/\(0<=iH x/\iH x<=9)/\(0<=mP x/\mP x<=65536)/\0<=uH x/\uH x<=255
 p:∀ i:Nat,i<n.1.length->aA (n.1.getD i default)=portsF i 0 n.2.1
 d:rJ n.1
 t:∀ i:Nat,i<n.1.length->nF n.2.1 B8 i (bf (n.1.getD i default))
 o:∀ x∈n.2.1,ja n.1 x=false
 c:∀ x∈n.2.2,CH n.1 x
 s:n.2.2.Pairwise λa b=>iu a<=iu b
theorem OH{s:bG}(h:rJ s.1.1)(hc:cV s.2):∀{i:Nat},i<=s.1.1.length->rJ (oN s i).1
 | 0,_=>h
 | i+1,hi=>by
  have k:=OH h hc (i:=i) ab;have b:=(Gr s hc (i:=i) ab).2;rw[show ((i+1:Nat):Int)=(i:Int)+1 by omega,Q9 s ab];unfold xr;refine k.set λhl=>?_;have e:((i:Int).toNat:Nat)=i:=ab;rw[e] at hl ⊢;exact (k i hl).od b
theorem aQ6{ns:List ar}(h:rJ ns){l:aN}(hl:0<=lB l):rJ (qV ns l):=by
 unfold qV
 split
 .exact h.set λhi=>(h _ hi).opq _
 .exact h
theorem YQ{ns:List ar}{l:aN}(hb:0<=lB l/\lB l<ns.length):ja (qV ns l) l=false:=by
 unfold qV
 split
 .unfold ja;rw[jN ab];exact Bool.and_false _
 next h=>unfold ja;cases h1:dY (ns.getD (lA l).toNat default) <;> cases h2:dY (ns.getD (lB l).toNat default) <;> simp_all
theorem ac9{ns:List ar}{l m:aN}(h:ja ns m=false):ja (qV ns l) m=false:=by
 unfold qV
 split
 .have set_op:∀(i j:Nat),dY (ns.getD j default)=false->dY ((ns.set i (Dq (ns.getD i default) false)).getD j default)=false:=λi j hj=>by
   by_cases e:i=j
   .subst e;by_cases hl:i<ns.length
    .rw[jN hl];rfl
    .rw[List.set_eq_of_length_le ab];exact hj
   .rw[m7 e];exact hj
  unfold ja at h ⊢;rw[Bool.and_eq_false_iff] at h ⊢;exact h.imp (set_op _ _) (set_op _ _)
 .exact h
theorem Pd{ns:List ar}{l m:aN}(ha:lA l=lA m)(hb:lB l=lB m):ja ns l=ja ns m:=by unfold ja;rw[ha,hb]
structure Le (s:bG) (i:Nat):Prop where
 np:rJ (oL s i).1.1
 lk:pg s.1.2.1 (oL s i).1.2
 df:∀ k:Nat,k<i->ja (oL s i).1.1 (s.1.2.1.getD k default)=false
theorem Jp{s:bG}(h:rJ s.1.1)(hc:cV s.2)(hg:iR s.1.1.length s.1.2.1)(hl:pg s.1.2.1 s.1.2.1):∀{i:Nat},i<=s.1.2.1.length->Le s i
 | 0,_=>⟨OH h hc (eZ _),hl,λk hk=>ab⟩
 | i+1,hi=>by
  have k:=Jp h hc hg hl (i:=i) ab;obtain⟨ag,cb,ge,ll⟩:=xB s hc hg (i:=i) ab;have hb:=hg.at' (k:=i) ab;have e:((i:Int).toNat:Nat)=i:=ab;have lk1:=(k.lk.k i ab).od cb;have hn:=ag.n;have step:oL s ((i+1:Nat):Int)=sa (oL s i) i:=by
   rw[show ((i+1:Nat):Int)=(i:Int)+1 by omega,Ko s ab,e]
  have fin:Le s (i+1):=by
   refine⟨?_,?_,λj hj=>?_⟩
   .rw[step];unfold sa;dsimp only;refine aQ6 k.np ?_;rw[lk1.b];exact hb.2.1
   .rw[step];unfold sa;dsimp only;exact k.lk.set λ_=>lk1
   .rw[step];unfold sa;dsimp only;by_cases q:j=i
    .subst q;rw[← Pd (l:=(odLink ((oL s j).1.2.getD j default) (oL s j).2).1) lk1.a lk1.b];refine YQ ?_;rw[lk1.b,hn];exact hb.2
    .exact ac9 (k.df j ab)
  exact fin
structure DD (ns:List ar) (m:Nat) (x:List aT×Int×aZ):Prop where
 c:cV x.2.2
 a:0<=x.2.1/\x.2.1<=60*m
 n:x.1.length<=m
 h:∀ y∈x.1,CH ns y/\iu y<=x.2.1
 s:x.1.Pairwise λa b=>iu a<=iu b
theorem DD.next{ns:List ar}{m:Nat}{x:List aT×Int×aZ}(h:DD ns m x)(hm:m<3)(h0:0<ns.length)(hp:∀ x∈ns,bf x≠[]->0<(aA x).length):DD ns (m+1) (pL ns x):=by
 have a:=fp h.c (n:=60) ab
 have k1:=(dk h.c 60).1
 have w:=fp k1 (n:=(ns.length:Int)) ab
 have k2:=(dk k1 (ns.length:Int)).1
 have ha:=h.a
 have hn:=h.n
 unfold pL
 dsimp only
 have hX:=bW (xs:=ns) w.1 w.2
 generalize eX:ns.getD (aw (aw x.2.2 60).2 (ns.length:Int)).1.toNat default=X at hX ⊢
 split
 .refine⟨k2,?_,?_,λy hy=>⟨(h.h y hy).1,?_⟩,h.s⟩
  .show 0<=x.2.1+_/\x.2.1+_<=60*((m+1:Nat):Int);omega
  .show x.1.length<=m+1;omega
  .have:=(h.h y hy).2;show iu y<=x.2.1+_;omega
 next hr=>
  have hr':bf X≠[]:=λe=>hr (by rw[e];rfl);have q3:=fp k2 (n:=((bf X).length:Int)) ab;have b3:=(dk k2 ((bf X).length:Int)).1;have hpp:=hp X hX hr';have q4:=fp b3 (n:=((aA X).length:Int)) ab;have b4:=(dk b3 ((aA X).length:Int)).1;have b5:=(dk b4 4).1;refine⟨b5,?_,?_,λy hy=>?_,?_⟩
  .show 0<=x.2.1+_/\x.2.1+_<=60*((m+1:Nat):Int);omega
  .show (x.1++[_]).length<=m+1;rw[cD,eU];omega
  .rcases dH.1 hy with hy|hy
   .refine⟨(h.h y hy).1,?_⟩;have:=(h.h y hy).2;show iu y<=x.2.1+_;omega
   .rw[jR.1 hy];refine⟨⟨?_,w,rfl,?_,?_⟩,iE _⟩
    .show 0<=x.2.1+_/\x.2.1+_<=180;omega
    .refine⟨(bf X).getD (aw (aw (aw x.2.2 60).2 (ns.length:Int)).2 ((bf X).length:Int)).1.toNat default,?_,rfl,rfl⟩;show _∈bf (ns.getD (aw (aw x.2.2 60).2 (ns.length:Int)).1.toNat default);rw[eX];exact bW q3.1 q3.2
    .by_cases hz:(aw (aw (aw (aw (aw x.2.2 60).2 (ns.length:Int)).2 ((bf X).length:Int)).2 ((aA X).length:Int)).2 4).1=3
     .exact .inl (am hz)
     .refine .inr ⟨(aA X).getD (aw (aw (aw (aw x.2.2 60).2 (ns.length:Int)).2 ((bf X).length:Int)).2 ((aA X).length:Int)).1.toNat default,?_,af hz⟩;show _∈aA (ns.getD (aw (aw x.2.2 60).2 (ns.length:Int)).1.toNat default);rw[eX];exact bW q4.1 q4.2
  .refine List.pairwise_append.2 ⟨h.s,List.pairwise_singleton _ _,λy hy z hz=>?_⟩;have:=(h.h y hy).2;rw[jR.1 hz];show iu y<=x.2.1+_;omega
theorem BM{α:Type} [Inhabited α] {l:List α} {x:α} (h:x∈l):∃ i:Nat,i<l.length/\l.getD i default=x:=by
 obtain⟨i,hi,e⟩:=List.mem_iff_getElem.1 h
 exact⟨i,hi,by rw[ce,cF hi,e];rfl⟩
theorem RS.np{s r:bG}{nn nl:Nat}(h:RS s nn nl r):rJ r.1.1:=λi hi=>by
 have hi':i<nn:=by have:=h.i.n;have:=h.g.n;omega
 obtain⟨host,f,sd,hd,hf,h0,h1⟩:=h.g.d i hi'
 have e:=h.i.e i (by rw[h.g.n];exact hi')
 exact NP.routes (NP.same (NP.new (host:=host) hf h0 h1) hd.symm) e.symm
theorem RS.opq{s r:bG}{nn nl:Nat}(h:RS s nn nl r){i:Nat}(hi:i<nn):dY (r.1.1.getD i default)=false:=by
 obtain⟨host,f,sd,hd,-⟩:=h.g.d i hi
 have e:=iB dY (h.i.e i (by rw[h.g.n];exact hi))
 have e2:dY (s.1.1.getD i default)=dY (rg i host f sd):=iB (λz=>dY (([]:List (Int×Int)),z)) hd
 exact e.trans e2
theorem RS.adr{s r:bG}{nn nl:Nat}(h:RS s nn nl r)(hl:nl<=10):∀ a∈jb s.1.1,a∈B8:=λa ha=>by
 unfold jb at ha
 obtain⟨x,hx,ha⟩:=List.mem_flatMap.1 ha
 obtain⟨q,hq,rfl⟩:=List.mem_map.1 ha
 obtain⟨i,hi,rfl⟩:=BM hx
 rw[h.g.p i (by rw[← h.g.n];exact hi)] at hq
 obtain⟨j,hj,e⟩:=Ab.1 hq
 rw[h.g.l] at hj
 rw[gz] at e
 rcases e with⟨-,rfl⟩|⟨-,rfl⟩
 .exact OO (k:=j) ab (.inl rfl)
 .exact OO (k:=j) ab (.inr rfl)
theorem RS.links{s r:bG}{nn nl:Nat}(h:RS s nn nl r):r.1.2.1=s.1.2.1:=iB Prod.fst h.l
theorem RS.lk{s r:bG}{nn nl:Nat}(h:RS s nn nl r):pg r.1.2.1 r.1.2.1:=⟨rfl,λi hi=>by
 rw[h.links] at hi ⊢
 have:=h.g.g _ (pf hi)
 exact⟨rfl,rfl,rfl,rfl,ab,ab⟩⟩
theorem RS.dn{s r:bG}{nn nl:Nat}(h:RS s nn nl r)(n3:3<=nn)(n7:nn<=7)(l2:2<=nl)(l10:nl<=10):DN r.1:=by
 have rn:r.1.1.length=nn:=h.i.n.trans h.g.n
 have rl:=h.links
 have rh:r.1.2.2=[]:=(iB Prod.snd h.l).trans h.g.h
 refine⟨ab,ab,by rw[rl,h.g.l];exact l2,by rw[rl,h.g.l];exact l10,by rw[rh];exact Nat.zero_le _,λx hx=>?_,λi hi=>?_,h.np,λi hi=>?_,λx hx=>?_,λx hx=>?_,?_⟩
 .rw[rl] at hx;have:=h.g.g x hx;rw[rn];omega
 .rw[rl];exact h.ports ab
 .rw[rl];exact (h.tab ab).sub (h.adr l10)
 .rw[rl] at hx;have g:=h.g.g x hx;unfold ja;rw[h.opq (i:=(lA x).toNat) ab];rfl
 .rw[rh] at hx;cases hx
 .rw[rh];exact List.Pairwise.nil
theorem LD{s:bG}(h:cV s.2)(hg:iR s.1.1.length s.1.2.1)(h0:0<s.1.1.length)(hp:∀ x∈(oL s s.1.2.1.length).1.1,bf x≠[]->0<(aA x).length):∀ i:Nat,i<=3->DD (oL s s.1.2.1.length).1.1 i (oC s i)
 | 0,_=>⟨(dk (xB s h hg (iE _)).2.1 4).1,⟨iE _,iE _⟩,eZ _,λy hy=>(by cases hy),List.Pairwise.nil⟩
 | i+1,hi=>by
  rw[Gv];exact (LD h hg h0 hp i ab).next ab (by rw[(xB s h hg (iE _)).1.n];exact h0) hp
theorem RS.odd{s r:bG}{nn nl:Nat}(h:RS s nn nl r)(n3:3<=nn)(n7:nn<=7)(l2:2<=nl)(l10:nl<=10):DN (oD r).1:=by
 have rn:r.1.1.length=nn:=h.i.n.trans h.g.n
 have rl:=h.links
 have pre:=h.preO ab ab ab
 have ok:=xB r h.c pre.g (i:=r.1.2.1.length) (iE _)
 have inv:=Jp h.np h.c pre.g h.lk (i:=r.1.2.1.length) (eZ _)
 have ag:=ok.1
 have e:(oD r).1=((oL r r.1.2.1.length).1.1,(oL r r.1.2.1.length).1.2,(oC r (oK r).toNat).1):=by
  unfold oD oC oK oL oN;rfl
 have kk:=fp ok.2.1 (n:=4) ab
 have hp:∀ x∈(oL r r.1.2.1.length).1.1,bf x≠[]->0<(aA x).length:=λx hx hr=>by
  obtain⟨i,hi,rfl⟩:=BM hx;have q:=ag.e i (by rw[← ag.n];exact hi);rw[q.1];rw[q.2] at hr;exact (pre.p _ (pf (by rw[← ag.n];exact hi)) hr).1
 have oc:=LD h.c pre.g pre.n0 hp (oK r).toNat (by unfold oK;omega)
 rw[e]
 have ln:(oL r r.1.2.1.length).1.1.length=nn:=ag.n.trans rn
 have ll:(oL r r.1.2.1.length).1.2.length=nl:=by rw[inv.lk.n,rl,h.g.l]
 refine⟨by rw[ln];exact n3,by rw[ln];exact n7,by rw[ll];exact l2,by rw[ll];exact l10,?_,λx hx=>?_,λi hi=>?_,inv.np,λi hi=>?_,λx hx=>?_,λx hx=>(oc.h x hx).1,oc.s⟩
 .have:=oc.n;have:(oK r).toNat<=3:=by unfold oK;omega
  dsimp only;omega
 .obtain⟨l0,hl0,k⟩:=inv.lk.mem hx;rw[rl] at hl0;have g:=h.g.g l0 hl0;have ka:=k.a;have kb:=k.b;have kd:=k.d;have ks:=k.s;have kj:=k.j;have ko:=k.o;rw[ln,ka,kb,kd,ks];omega
 .dsimp only at hi ⊢;rw[(ag.e i ab).1,h.ports ab,inv.lk.portsF,rl]
 .dsimp only at hi ⊢;rw[(ag.e i ab).2];refine nF.sub (nF.lk inv.lk ?_) (h.adr l10);rw[rl];exact h.tab ab
 .dsimp only at hx ⊢;obtain⟨i,hi,rfl⟩:=BM hx;have hi':i<r.1.2.1.length:=by rw[← inv.lk.n];exact hi
  have k:=inv.lk.k i hi';rw[Pd k.a k.b];exact inv.df i hi'
theorem Ro{c:aZ}(h:cV c)(plain:Bool):DN (rM plain c):=by
 have hn:=vq h
 obtain⟨m,m2,m10,G⟩:=Dy h plain
 have R:=G.rs plain
 unfold rM Ak
 cases plain with
 | true=>exact R.dn ab ab m2 m10
 | false=>exact R.odd ab ab m2 m10
theorem SI{c:aZ}(h:cV c)(plain:Bool):cV (zF plain c):=by
 obtain⟨m,m2,m10,G⟩:=Dy h plain
 have R:=G.rs plain
 unfold zF Ak
 cases plain with
 | true=>exact R.c
 | false =>
  have hn:=vq h;have pre:=R.preO ab ab ab;exact (Gk _ R.c pre.g _).1
theorem DN.port{n:cC}(h:DN n){i:Nat}(hi:i<n.1.length){q:oe}:q∈aA (n.1.getD i default)↔∃ j:Nat,j<n.2.1.length/\((lA (n.2.1.getD j default)=i/\q=(gA j+1,(j:Int)))∨(lB (n.2.1.getD j default)=i/\q=(gA j+2,(j:Int)))):=by
 rw[h.p i hi,Ab];simp only[gz]
theorem DN.links{n:cC}(h:DN n){i:Nat}(hi:i<n.1.length){k:Int}:k∈bq (n.1.getD i default)↔lnk n.2.1 i k:=by
 unfold bq lnk
 rw[List.mem_map]
 constructor
 .rintro⟨q,hq,rfl⟩;obtain⟨j,hj,e⟩:=(h.port hi).1 hq;rcases e with⟨e,rfl⟩|⟨e,rfl⟩
  .exact⟨by dsimp only;omega,by dsimp only;omega,.inl (by simpa using e)⟩
  .exact⟨by dsimp only;omega,by dsimp only;omega,.inr (by simpa using e)⟩
 .rintro⟨k0,k1,e⟩;have ek:((k.toNat:Nat):Int)=k:=ab;rcases e with e|e
  .exact⟨_,(h.port hi).2 ⟨k.toNat,ab,.inl ⟨e,rfl⟩⟩,ek⟩
  .exact⟨_,(h.port hi).2 ⟨k.toNat,ab,.inr ⟨e,rfl⟩⟩,ek⟩
theorem DN.uniq{n:cC}(h:DN n){i j:Nat}(hi:i<n.1.length)(hj:j<n.1.length){q p:oe}(hq:q∈aA (n.1.getD i default))(hp:p∈aA (n.1.getD j default))(e:q.1=p.1):i=j/\q.2=p.2:=by
 obtain⟨a,ha,ea⟩:=(h.port hi).1 hq
 obtain⟨b,hb,eb⟩:=(h.port hj).1 hp
 unfold gA at ea eb
 rcases ea with⟨ea,rfl⟩|⟨ea,rfl⟩ <;> rcases eb with⟨eb,rfl⟩|⟨eb,rfl⟩ <;> dsimp only at e ⊢
 .have:a=b:=ab;subst this;omega
 .omega
 .omega
 .have:a=b:=ab;subst this;omega
theorem DN.padr{n:cC}(h:DN n){i:Nat}(hi:i<n.1.length){a:Int}(ha:a∈lL (n.1.getD i default)):167837697<=a/\a<=167837734:=by
 obtain⟨q,hq,rfl⟩:=List.mem_map.1 ha
 obtain⟨b,hb,eb⟩:=(h.port hi).1 hq
 have:=h.l10
 unfold gA at eb
 rcases eb with⟨eb,rfl⟩|⟨eb,rfl⟩ <;> dsimp only <;> omega
theorem DN.loop{n:cC}(h:DN n){i:Nat}(hi:i<n.1.length):fM (n.1.getD i default)=0∨fM (n.1.getD i default)=167903232+i:=(h.d i hi).loop
theorem aX8{x:ar}{a:Int}:a∈cz x↔a∈lL x∨(fM x≠0/\a=fM x):=by
 unfold cz
 rw[dH]
 by_cases e:fM x=0
 .rw[am e];simp[e]
 .rw[af e];simp[e]
theorem DN.apart{n:cC}(h:DN n){i j:Nat}(hi:i<n.1.length)(hj:j<n.1.length){a:Int}(ha:a∈cz (n.1.getD i default))(hb:a∈cz (n.1.getD j default)):i=j:=by
 rw[aX8] at ha hb
 have li:=h.loop hi
 have lj:=h.loop hj
 rcases ha with ha|ha <;> rcases hb with hb|hb
 .obtain⟨q,hq,e⟩:=List.mem_map.1 ha;obtain⟨p,hp,e2⟩:=List.mem_map.1 hb;exact (h.uniq hi hj hq hp (e.trans e2.symm)).1
 .have:=h.padr hi ha;omega
 .have:=h.padr hj hb;omega
 .omega
theorem NS{ls:List aN}{i:Int}{t:List Rt}(h:nF ls B8 i t):t.length<=20:=Fu h
theorem ad0{ls:List aN}{k:Int}(k0:0<=k)(k1:k<ls.length):f7 ls k (lA (ls.getD k.toNat default))=lB (ls.getD k.toNat default):=by
 unfold f7;rw[af ab,am rfl]
theorem XU{ls:List aN}{k:Int}(k0:0<=k)(k1:k<ls.length)(hn:lA (ls.getD k.toNat default)≠lB (ls.getD k.toNat default)):f7 ls k (lB (ls.getD k.toNat default))=lA (ls.getD k.toNat default):=by
 unfold f7;rw[af ab,af (λe=>hn e.symm),am rfl]
theorem SK{l:List Rt}{c:aT}{r:Rt}(h:r∈fT l c):r=dB c∨r∈l:=by
 unfold fT at h
 split at h
 .exact .inr (List.mem_filter.1 h).1
 .rcases Sc.1 h with h|h
  .exact .inl h
  .exact .inr h.1
theorem W5{n:cC}{who at':Int}(w0:0<=who)(w1:who<n.1.length){P:Rt->Prop}(h0:∀ r∈bf (n.1.getD who.toNat default),P r)(hc:∀ c∈n.2.2,bI c=who->P (dB c)):∀ r∈GH n who at',P r:=by
 unfold GH M4
 rw[af ab]
 have e:∀(l:List aT)(t:List Rt),(∀ c∈l,bI c=who->P (dB c))->(∀ r∈t,P r)→∀ r∈l.foldl (Fl who at') t,P r:=by
  intro l
  induction l with
  | nil=>intro t _ h;exact h
  | cons c l ih =>
   intro t hl ht;rw[List.foldl_cons];refine ih _ (λx hx=>hl x (fw _ hx)) λr hr=>?_;unfold Fl at hr;split at hr
   .rename_i q;rcases SK hr with rfl|hr
    .exact hl c fF q.1
    .exact ht r hr
   .exact ht r hr
 exact e _ _ (λc hc'=>hc c (oB hc')) h0
theorem DN.next{n:cC}(h:DN n){who at':Int}(w0:0<=who)(w1:who<n.1.length):∀ r∈GH n who at',∀ k∈r.2.1,lnk n.2.1 who k:=by
 have ew:((who.toNat:Nat):Int)=who:=ab
 refine W5 w0 w1 (λr hr k hk=>?_) (λc hc hw k hk=>?_)
 .have:=((h.t who.toNat ab).2 r hr).ln k hk;rw[ew] at this;exact this
 .have q:=(h.c c hc).x;rw[hw] at q;rcases q with e|⟨q,hq,e⟩
  .rw[e] at hk;cases hk
  .rw[e] at hk;rw[jR.1 hk];have:=(h.links (i:=who.toNat) ab).1 (List.mem_map.2 ⟨q,hq,rfl⟩);rw[ew] at this;exact this
theorem DN.other{n:cC}(h:DN n){who k:Int}(hk:lnk n.2.1 who k):0<=f7 n.2.1 k who/\f7 n.2.1 k who<n.1.length:=by
 obtain⟨k0,k1,e⟩:=hk
 have g:=h.g _ (bW k0 k1)
 rcases e with e|e
 .rw[← e,ad0 k0 k1];exact g.2.1
 .rw[← e,XU k0 k1 g.2.2.1];exact g.1
def kG(ls:List aN)(i:Int):Prop:=∃ l∈ls,lA l=i∨lB l=i
theorem kG.app{ls:List aN}{i:Int}(h:kG ls i)(m:List aN):kG (ls++m) i:=by
 obtain⟨l,hl,e⟩:=h
 exact⟨l,g7 _ hl,e⟩
theorem kG.link{s:bG}{i:Int}(h:kG s.1.2.1 i)(a b:Int):kG (ji s a b).1.2.1 i:=h.app _
theorem Q0(s:bG)(a b:Int):kG (ji s a b).1.2.1 a:=⟨_,jd _ fF,.inl rfl⟩
theorem TS(s:bG)(a b:Int):kG (ji s a b).1.2.1 b:=⟨_,jd _ fF,.inr rfl⟩
theorem Mi(s:bG):∀ k j:Nat,j<k->kG ((range k).foldl ro s).1.2.1 j
 | 0,j,h=>absurd h (Nat.not_lt_zero _)
 | k+1,j,h=>by
  rw[mM,j9];by_cases e:j<k
  .exact (Mi s k j e).link (s:=j4 ((range k).foldl ro s) false) _ _
  .have:j=k:=ab;subst this;exact Q0 _ _ _
theorem Zy{c:aZ}(h:cV c){j:Nat}(hj:j<(bV c).toNat+2):kG (ni c).2.1.2.1 j:=by
 have hn:=vq h
 rw[IB]
 by_cases e:j<(bV c).toNat
 .exact (Mi _ _ _ e).link (s:=j4 ((range (bV c).toNat).foldl ro (uL c)) true) _ _
 by_cases e2:j=(bV c).toNat
 .rw[show ((j:Nat):Int)=bV c by omega];exact Q0 _ _ _
 .rw[show ((j:Nat):Int)=bV c+1 by omega];exact TS _ _ _
theorem Uc{s:bG}{i:Int}(h:kG s.1.2.1 i)(n:Int):kG (sj n s).1.2.1 i:=by
 unfold sj
 dsimp only
 split
 .exact h
 .exact kG.app h _
theorem MR{n i:Int}:∀(k:Nat){s:bG},kG s.1.2.1 i->kG ((range k).foldl (λs _=>sj n s) s).1.2.1 i
 | 0,s,h=>h
 | k+1,s,h=>by
  rw[mM,j9];exact Uc (MR k h) n
theorem WH{s:bG}{i:Int}(h:kG s.1.2.1 i)(plain:Bool)(n:Int):kG (xS plain n s).1.2.1 i:=by
 rw[Hw]
 dsimp only
 have h1:kG (qe plain n s (aw s.2 4).1.toNat).1.2.1 i:=by
  unfold qe;split
  .exact MR _ h
  .exact h
 generalize qe plain n s (aw s.2 4).1.toNat=t at h1 ⊢
 split
 .split
  .exact kG.app h1 _
  .exact h1
 .exact h1
theorem aU2{s r:bG}{nn nl:Nat}(h:RS s nn nl r)(n3:3<=nn)(n7:nn<=7)(l10:nl<=10){i:Int}(ht:kG r.1.2.1 i):kG (oD r).1.2.1 i:=by
 have pre:=h.preO ab ab ab
 have inv:=Jp h.np h.c pre.g h.lk (i:=r.1.2.1.length) (eZ _)
 have e:(oD r).1.2.1=(oL r r.1.2.1.length).1.2:=by
  unfold oD oL oN;rfl
 rw[e]
 obtain⟨l,hl,q⟩:=ht
 obtain⟨j,hj,rfl⟩:=BM hl
 have k:=inv.lk.k j hj
 refine⟨_,pf (by rw[inv.lk.n];exact hj),?_⟩
 rw[k.a,k.b];exact q
theorem ZU{s r:bG}{nn nl:Nat}(h:RS s nn nl r)(n3:3<=nn)(n7:nn<=7)(l10:nl<=10):(oD r).1.1.length=r.1.1.length:=by
 have pre:=h.preO ab ab ab
 have ok:=xB r h.c pre.g (i:=r.1.2.1.length) (iE _)
 have e:(oD r).1.1=(oL r r.1.2.1.length).1.1:=by
  unfold oD oL oN;rfl
 rw[e]
 exact ok.1.n
theorem aZ5{c:aZ}(h:cV c)(plain:Bool){i:Nat}(hi:i<(rM plain c).1.length):kG (rM plain c).2.1 i:=by
 have hn:=vq h
 obtain⟨m,m2,m10,G⟩:=Dy h plain
 have R:=G.rs plain
 have rn:=R.i.n.trans R.g.n
 have t:=λj=>λ(hj:j<(bV c).toNat+2)=>WH (Zy h hj) plain (ni c).1
 unfold rM Ak at hi ⊢
 dsimp only at hi ⊢
 cases plain with
 | true =>
  rw[am rfl] at hi ⊢;rw[R.links];exact t i (by rw[← rn];exact hi)
 | false =>
  rw[af bi] at hi ⊢;have ol:=ZU R ab ab m10;refine aU2 R ab ab m10 ?_;rw[R.links];exact t i (by rw[← rn];omega)
theorem az7{c:aZ}(h:cV c)(plain:Bool){i:Nat}(hi:i<(rM plain c).1.length):0<(aA ((rM plain c).1.getD i default)).length:=by
 have D:=Ro h plain
 obtain⟨l,hl,q⟩:=aZ5 h plain hi
 obtain⟨j,hj,rfl⟩:=BM hl
 rcases q with q|q
 .exact List.length_pos_of_mem ((D.port hi).2 ⟨j,hj,.inl ⟨q,rfl⟩⟩)
 .exact List.length_pos_of_mem ((D.port hi).2 ⟨j,hj,.inr ⟨q,rfl⟩⟩)
def qZ(x:ar):Prop:=(∀ y∈aA x,u32 y.1)/\u32 (fM x)/\u32 (pK x)
theorem ad5{n:cC}(h:DN n){i:Nat}(hi:i<n.1.length):qZ (n.1.getD i default):=by
 have d:=h.d i hi
 have l10:=h.l10
 have n7:=h.n7
 refine⟨λy hy=>?_,?_,?_⟩
 .obtain⟨j,hj,q⟩:=(h.port hi).1 hy;unfold gA at q;rcases q with⟨-,rfl⟩|⟨-,rfl⟩ <;> (constructor <;> simp only <;> omega)
 .rcases d.loop with q|q <;> (rw[q];constructor <;> omega)
 .rcases d.fix with q|q
  .rw[q];constructor <;> omega
  .constructor <;> omega
def a04:Ct:=⟨[.agg AS],[.val (.sl bz),.val cI],λd=>[],λd=>((build d.1,f5 d.1,()),())⟩
theorem XN :
 ∀(a b c d e f:Int),((0<=a/\a<=4294967295)/\(0<=b/\b<=4294967295)/\aj c/\aj d/\aj e/\aj f)/\True->True->ao (! decide (f5 (a,b,c,d,e,f)=0)) (([]:ad)=build (a,b,c,d,e,f)/\f5 (a,b,c,d,e,f)=f5 (a,b,c,d,e,f)) (f5 (a,b,c,d,e,f)=0/\((length (fS (a,b,c,d,e,f))):Int)<=1073741824/\dE (((0:Int),e,f,c,true,a,b),fS (a,b,c,d,e,f))=build (a,b,c,d,e,f)/\fg (((0:Int),e,f,c,true,a,b),fS (a,b,c,d,e,f))=f5 (a,b,c,d,e,f)):=by
  rintro s d pr f t l - -;refine av (λh=>?_) (λh=>?_)
  .have h:¬ f5 (s,d,pr,f,t,l)=0:=by simpa using h
   rw[build,af h];exact⟨rfl,rfl⟩
  have h:f5 (s,d,pr,f,t,l)=0:=by simpa using h
  have e0:=Kk h;have hl:=BG h;refine⟨h,ab,?_⟩;rw[build,am h,h];exact⟨rfl,e0⟩
theorem NK:aD 29 a04.spec:=aH Tryz.func29 (au (au (au aE Kw) aL3) Fc) aR XN
theorem KR{B:Int->Int->ad}{F:Int->Int}{w:dL}{own:Int}(h:F 0≠0):(dC B F w own).2.2≠2:=by
 by_cases k:own=0/\jU w.1=true
 .rw[vW k];show (4:Int)≠2;decide
 .rw[vU k h];show (6:Int)≠2;decide
theorem C6{b:ad}(h:¬ cH b)(k c i t:Int):dS b k c i t≠0:=by
 unfold dS
 by_cases g:qh k c i t
 .rw[af (by simpa using g),af h];decide
 .rw[am g];decide
theorem RA{b:ad}(h:¬ cH b)(i t:Int):eh b i t≠0:=by
 unfold eh
 by_cases g:iV i t
 .rw[af (by simpa using g),af (λk=>h k.1)];decide
 .rw[am g];decide
theorem aZ3{x:ar}{s:bY}{lk t:Int}{b:ad}(h:¬ cH b):(fC x s lk t b).2.2≠2:=by
 unfold fC gw
 split
 .show (6:Int)≠2;decide
 split
 .unfold ij;rw[am (.inr (by exact RA h _ _))];show (1:Int)≠2;decide
 split
 .show (6:Int)≠2;decide
 unfold eG
 split
 .exact KR (C6 h _ _ _ _)
 split
 .split
  .show (8:Int)≠2;decide
  .exact KR (C6 h _ _ _ _)
 .show (0:Int)≠2;decide
theorem IX{B:Int->Int->ad}{F:Int->Int}{w:dL}{own:Int}:(dC B F w own).2.2≠0/\(dC B F w own).2.2≠1:=by
 by_cases k:own=0/\jU w.1=true
 .rw[vW k];exact⟨(by show (4:Int)≠0;decide),(by show (4:Int)≠1;decide)⟩
 by_cases k1:F 0≠0
 .rw[vU k k1];exact⟨(by show (6:Int)≠0;decide),(by show (6:Int)≠1;decide)⟩
 by_cases k2:fm w.2.1 (lS w.2.2.2.2.2)=false
 .rw[xh k k1 k2];exact⟨(by show (8:Int)≠0;decide),(by show (8:Int)≠1;decide)⟩
 by_cases k3:(fP w).2=false
 .rw[wX k k1 k2 k3];exact⟨(by show (5:Int)≠0;decide),(by show (5:Int)≠1;decide)⟩
 .rw[wE k k1 k2 k3];exact⟨(by show (2:Int)≠0;decide),(by show (2:Int)≠1;decide)⟩
structure Qk (x:ar) (s:bY) (lk:Int) (b:ad):Prop where
 dec:bT b=0
 own:¬ fH x (f9 (aP b).1)=true
 host:¬ (mS x=true/\lk ≠ -1)
 ttl:¬ (lk ≠ -1/\dY x=false/\sJ (aP b).1<2)
 way:¬ fm s (f9 (aP b).1)=false
def Ed(s:bY)(b:ad):Rt:=bw (bn s) (f9 (aP b).1)
theorem Ft{x:ar}{s:bY}{lk t:Int}{b:ad}(h:Qk x s lk b):fC x s lk t b=(dq s (Ed s b),(fR x s (Ed s b) (dV b),if lk ≠ -1/\dY x=false then gU b else b),0):=by
 show gw (x,s,lk,t,b,oV)=_
 unfold gw
 rw[af (by simpa using h.dec),af h.own,af h.host]
 have e:∀ w:dL,w.1=x->w.2.1=s->w.2.2.1=lk->w.2.2.2.2.1=b->w.2.2.2.2.2=(aP b).1->eG w=(dq s (Ed s b),(fR x s (Ed s b) (dV b),if lk ≠ -1/\dY x=false then gU b else b),0):=by
  intro w e1 e2 e3 e4 e5;unfold eG;rw[e1,e2,e3,e4,e5,af h.ttl,af h.way];rfl
 exact e _ rfl rfl rfl rfl rfl
theorem GR{x:ar}{s:bY}{lk t:Int}{b:ad}(h:(fC x s lk t b).2.2=0):Qk x s lk b:=by
 have h:(gw (x,s,lk,t,b,oV)).2.2=0:=h
 unfold gw at h
 by_cases k1:bT b≠0
 .rw[am k1] at h;exact absurd h (by show (6:Int)≠0;decide)
 rw[af k1] at h
 by_cases k2:fH x (f9 (aP b).1)=true
 .rw[am k2] at h;unfold ij at h;split at h
  .exact absurd h (by show (1:Int)≠0;decide)
  .exact absurd h IX.1
 rw[af k2] at h
 by_cases k4:mS x=true/\lk ≠ -1
 .rw[am k4] at h;exact absurd h (by show (6:Int)≠0;decide)
 rw[af k4] at h
 unfold eG at h
 split at h
 .exact absurd h IX.1
 rename_i k5
 split at h
 .split at h
  .exact absurd h (by show (8:Int)≠0;decide)
  .exact absurd h IX.1
 rename_i k6
 exact⟨by simpa using k1,k2,k4,k5,k6⟩
theorem aa3{p:cU}(g:eO p):bT (build p)=0/\(aP (build p)).1=sX p:=by
 have h:=Qc g.ok g.s g.d
 exact⟨h.2.1,by rw[aP,am h.2.1];exact h.1⟩
def G1(x:ar)(s s':bY)(t why:Int):Prop :=
 bn s'=bn s/\(fD s').length=(fD s).length ∧
  ((why≠2/\jy s'=jy s/\(sN s'=sN s∨(sN s'=(gm (jE x) (sN s) t).1/\(gm (jE x) (sN s) t).2=false))) ∨
    (why=2/\jy s'=IntKind.i64.wrap (jy s+1)/\sN s'=(gm (jE x) (sN s) t).1/\(gm (jE x) (sN s) t).2=true))
theorem xC{x:ar}{s:bY}{t why:Int}(h:why≠2):G1 x s s t why:=⟨rfl,rfl,.inl ⟨h,rfl,.inl rfl⟩⟩
theorem TC(l:ad)(i:Int):(qw l i).length=l.length:=by
 unfold qw;split
 .exact fV
 .rfl
theorem FH{B:Int->Int->ad}{F:Int->Int}{w:dL}{own:Int}:G1 w.1 w.2.1 (dC B F w own).1 w.2.2.2.1 (dC B F w own).2.2:=by
 by_cases k:own=0/\jU w.1=true
 .rw[vW k];exact xC (by show (4:Int)≠2;decide)
 by_cases k1:F 0≠0
 .rw[vU k k1];exact xC (by show (6:Int)≠2;decide)
 by_cases k2:fm w.2.1 (lS w.2.2.2.2.2)=false
 .rw[xh k k1 k2];exact xC (by show (8:Int)≠2;decide)
 by_cases k3:(fP w).2=false
 .rw[wX k k1 k2 k3];exact⟨rfl,rfl,.inl ⟨(by show (5:Int)≠2;decide),rfl,.inr ⟨rfl,k3⟩⟩⟩
 .rw[wE k k1 k2 k3];have k4:(fP w).2=true:=by simpa using k3
  refine⟨?_,?_,.inr ⟨rfl,?_,?_,k4⟩⟩
  .rw[u3];rfl
  .rw[u3];exact TC _ _
  .rw[u3];rfl
  .rw[u3];rfl
theorem QG(x:ar)(s:bY)(lk t:Int)(b:ad):G1 x s (fC x s lk t b).1 t (fC x s lk t b).2.2:=by
 unfold fC gw
 split
 .exact xC (by show (6:Int)≠2;decide)
 split
 .unfold ij;split
  .exact xC (by show (1:Int)≠2;decide)
  .exact FH (w:=vB (x,s,lk,t,b,oV) (aP b).1)
 split
 .exact xC (by show (6:Int)≠2;decide)
 unfold eG
 split
 .exact FH (w:=vB (x,s,lk,t,b,oV) (aP b).1)
 split
 .split
  .exact xC (by show (8:Int)≠2;decide)
  .exact FH (w:=vB (x,s,lk,t,b,oV) (aP b).1)
 .refine⟨?_,?_,.inl ⟨(by show (0:Int)≠2;decide),?_,.inl ?_⟩⟩ <;> (rw[u3];rfl)
theorem K9{n:ar}{s:bY}{port a asked dst:Int}(hb:0<=jJ n/\jJ n<=65535)(ha:0<=asked/\asked<=65535):0<=kY n s port a asked dst/\kY n s port a asked dst<=65535:=by
 have hc:∀ x,0<=pW n x a/\pW n x a<=65535:=λx=>by unfold pW;omega
 have hh:0<=lv (jJ n) (0,dst,0,jy s,0)%65536/\lv (jJ n) (0,dst,0,jy s,0)%65536<=65535:=ab
 unfold kY
 split
 .exact hb
 split
 .exact hc _
 split
 .split <;> exact hc _
 split
 .exact ha
 split
 .exact hh
 .omega
theorem DI{x:ar}(A:qZ x){i:Int}(h0:0<=i)(h1:i<(aA x).length):u32 (adr x i)/\fH x (adr x i)=true:=by
 have hm:=bW h0 h1
 rw[D0 h0 h1]
 refine⟨A.1 _ hm,?_⟩
 have:0<=jo x ((aA x).getD i.toNat default).1:=Lz hm (by simp[gZ])
 unfold fH
 rw[dM this];rfl
theorem W1{x:ar}{lk L:Int}(N:pJ x)(A:qZ x)(hi:0<=cG x lk)(hL:0<=cG x L) :
  u32 (kx x (bM x lk) L)/\(fH x (kx x (bM x lk) L)=true∨(lu x=4/\kx x (bM x lk) L=pK x))/\(lu x=1->kx x (bM x lk) L=((aA x).getD (cG x lk).toNat default).1):=by
 have e:bM x lk=cG x lk:=by unfold bM;omega
 have i1:cG x lk<(aA x).length:=(tx hi).1
 have l1:cG x L<(aA x).length:=(tx hL).1
 rw[e]
 unfold kx
 by_cases s2:lu x=2
 .rw[am s2];have k:=DI A hL l1;exact⟨k.1,.inl k.2,λq=>ab⟩
 rw[af s2]
 by_cases s3:lu x=3
 .rw[am s3];have hne:fM x≠0:=λq=>N.form (.inr (.inr (.inl ⟨s3,q⟩)));refine⟨A.2.1,.inl ?_,λq=>ab⟩;unfold fH;simp[hne]
 rw[af s3]
 by_cases s4:lu x=4
 .rw[am s4];exact⟨A.2.2,.inr ⟨s4,rfl⟩,λq=>ab⟩
 rw[af s4]
 have k:=DI A hi i1
 exact⟨k.1,.inl k.2,λ_=>D0 hi i1⟩
theorem In{B:Int->Int->ad}{F:Int->Int}{w:dL}{own:Int}(h:(dC B F w own).2.2=2) :
  F 0=0∧¬ fm w.2.1 (lS w.2.2.2.2.2)=false/\dC B F w own=(dq (jc w) (fJ w),(gP B w,B (je B w own) (ig w)),2):=by
 by_cases k:own=0/\jU w.1=true
 .rw[vW k] at h;exact absurd h (by show (4:Int)≠2;decide)
 by_cases k1:F 0≠0
 .rw[vU k k1] at h;exact absurd h (by show (6:Int)≠2;decide)
 by_cases k2:fm w.2.1 (lS w.2.2.2.2.2)=false
 .rw[xh k k1 k2] at h;exact absurd h (by show (8:Int)≠2;decide)
 by_cases k3:(fP w).2=false
 .rw[wX k k1 k2 k3] at h;exact absurd h (by show (5:Int)≠2;decide)
 .exact⟨by simpa using k1,k2,wE k k1 k2 k3⟩
theorem Fw{x:ar}{s:bY}{lk t:Int}{b:ad}(h:(fC x s lk t b).2.2=2) :
  ∃ ki,fC x s lk t b=fi (cE x s lk t b) ki/\((ki=0/\fH x (f9 (aP b).1)=true/\BX (aP b).1≠17)∨(ki=1/\BX (aP b).1=17)∨ki=2∨ki=3):=by
 have e0:fC x s lk t b=gw (x,s,lk,t,b,oV):=rfl
 rw[e0] at h ⊢
 unfold gw at h ⊢
 by_cases k1:bT b≠0
 .rw[am k1] at h;exact absurd h (by show (6:Int)≠2;decide)
 rw[af k1] at h ⊢
 by_cases k2:fH x (f9 (aP b).1)=true
 .rw[am k2] at h ⊢;unfold ij at h ⊢;split at h
  .exact absurd h (by show (1:Int)≠2;decide)
  rename_i k3;rw[af k3];by_cases k4:BX (aP b).1=17
  .exact⟨1,by rw[Rw];exact iB (dC _ _ _) (am k4),.inr (.inl ⟨rfl,k4⟩)⟩
  .exact⟨0,by rw[PI];exact iB (dC _ _ _) (af k4),.inl ⟨rfl,k2,k4⟩⟩
 rw[af k2] at h ⊢
 by_cases k4:mS x=true/\lk ≠ -1
 .rw[am k4] at h;exact absurd h (by show (6:Int)≠2;decide)
 rw[af k4] at h ⊢
 unfold eG at h ⊢
 split at h
 next k5=>exact⟨2,by rw[am k5,RO];rfl,.inr (.inr (.inl rfl))⟩
 rename_i k5
 rw[af k5]
 split at h
 next k6=>
  rw[am k6];split at h
  .exact absurd h (by show (8:Int)≠2;decide)
  rename_i k7;exact⟨3,by rw[af k7,Pw];rfl,.inr (.inr (.inr rfl))⟩
 .exact absurd h (by show (0:Int)≠2;decide)
theorem HM{w:dL}{ki:Int}(h:kE ki w 0=0):cH w.2.2.2.2.1:=gC λk=>by
 unfold kE at h
 split at h
 .exact C6 k _ _ _ _ h
 split at h
 .exact C6 k _ _ _ _ h
 .exact RA k _ _ h
structure aM9 (x:ar) (lk:Int) (p:cU) (a:vm) (r:nE):Prop where
 is:AC p a r.2.1.2
 left:a.2.2.2.1=jt x
 quoted:a.2.2.2.2.2=0∨a.2.2.2.2.2=p.2.2.2.2.2
 out:0<=cG x r.2.1.1
 exc:a.2.1=1->lu x=1->a.1=((aA x).getD (cG x lk).toNat default).1
 own:fH x a.1=true∨(lu x=4/\a.1=pK x)
 cnt:(fD r.1).getD (cG x lk).toNat default=1
theorem Yg{x:ar}{lk:Int}{p:cU}(N:pJ x)(A:qZ x)(g:eO p)(hlk:lk∈bq x)(h:(fC x (lJ x) lk 0 (build p)).2.2=2):∃ a,aM9 x lk p a (fC x (lJ x) lk 0 (build p)):=by
 have st:=NF N
 obtain⟨ki,e,hk⟩:=Fw h
 rw[e] at h ⊢
 obtain⟨d1,d2⟩:=aa3 g
 obtain⟨w,hw⟩:∃ w,w=cE x (lJ x) lk 0 (build p):=⟨_,rfl⟩
 rw[← hw] at h ⊢
 obtain⟨a1,a2,a3⟩:=In h
 have w1:w.1=x:=by rw[hw];rfl
 have w2:w.2.1=lJ x:=by rw[hw];rfl
 have w3:w.2.2.1=lk:=by rw[hw];rfl
 have w5:w.2.2.2.2.1=build p:=by rw[hw];rfl
 have w6:w.2.2.2.2.2=sX p:=by rw[hw];exact d2
 have hu:fq p.1:=by
  have:=HM a1;rw[w5] at this;exact (Jf g).1 this
 have hi:=Is hlk
 have hin:bM x lk=cG x lk:=by unfold bM;omega
 have i1:cG x lk<(aA x).length:=(tx hi).1
 have hL:0<=cG x (gP (kB ki w) w):=by
  have:=OK st (a:=lS w.2.2.2.2.2) (by rw[← w2];exact a2) (jc w) (dV (kB ki w (adr w.1 (bM w.1 w.2.2.1)) 0));unfold gP fJ;rw[w1,w2];rw[w1] at this;exact this
 obtain⟨s1,s2,s3⟩:=W1 N A hi hL
 have hr:=(oa.1 g.ok).2
 obtain⟨hf,ht,-⟩:=id hr
 have hb:0<=jJ x/\jJ x<=65535:=by
  have h:=N.id;unfold io at h;split at h
  next k=>have:=aL k;omega
  .cases h
 have hid:iV (ig w) (jt x):=by
  have f:=N.form;unfold mJ at f;refine⟨?_,ab,ab⟩;unfold ig;rw[w1,w6];exact K9 hb ⟨by show 0<=p.2.2.2.2.1;omega,by show p.2.2.2.2.1<=65535;omega⟩
 have hc:(fD (fi w ki).1).getD (cG x lk).toNat default=1:=by
  have e1:(fi w ki).1=dq (jc w) (fJ w):=iB (λr:nE=>r.1) a3;have e2:fD (fi w ki).1=qw (replicate (aA x).length 0) (cG x lk):=by
   rw[e1,u3];show qw (fD w.2.1) (bM w.1 w.2.2.1)=_;rw[w1,w2,w3,hin];rfl
  rw[e2,EV (by rw[qT];exact i1)];have:(cG x lk).toNat<(replicate (aA x).length (0:Int)).length:=by rw[qT];omega
  rw[ce,List.getElem?_set_self this,fu,ce,cF this,fu,List.getElem_replicate];decide
 have ho:(fi w ki).2.1=(gP (kB ki w) w,kB ki w (je (kB ki w) w (kv ki w)) (ig w)):=iB (λr:nE=>r.2.1) a3
 have hsrc:kx w.1 (bM w.1 w.2.2.1) (gP (kB ki w) w)=kx x (bM x lk) (gP (kB ki w) w):=by rw[w1,w3]
 have hF:kv ki w=0->je (kB ki w) w (kv ki w)=kx x (bM x lk) (gP (kB ki w) w):=λq=>by unfold je;rw[am q,hsrc]
 generalize hid2:ig w=id at hid ho
 generalize hLL:gP (kB ki w) w=L at hL s1 s2 s3 ho hF
 generalize kx x (bM x lk) L=F at s1 s2 s3 hF
 have hp17:BX (aP (build p)).1=p.2.2.1:=by rw[d2];rfl
 rcases hk with⟨rfl,q1,q2⟩|⟨rfl,q1⟩|rfl|rfl
 .have hd:f9 (aP (build p)).1=p.2.1:=by rw[d2];rfl
  have ko:kv 0 w=p.2.1:=by show f9 w.2.2.2.2.2=_;rw[w6];rfl
  rw[hd] at q1;have hne:=RR N q1;have ef:je (kB 0 w) w (kv 0 w)=p.2.1:=by unfold je;rw[ko,af hne]
  rw[ef] at ho;have eB:kB 0 w p.2.1 id=fZ (build p) p.2.1 id (jt x):=by show fI w _ _=_;unfold fI;rw[w5,w1]
  rw[eB] at ho;have I:=(OR g hu hid).2;refine⟨tF p id (jt x),by rw[ho];exact I,?_,?_,by rw[ho];exact hL,?_,.inl ?_,hc⟩
  .unfold tF;split
   .rfl
   .split <;> rfl
  .unfold tF;split
   .exact .inl rfl
   .split
    .exact .inr rfl
    .exact .inl rfl
  .intro k;exfalso;unfold tF at k;split at k
   .exact absurd k (by show (4:Int)≠1;decide)
   .split at k
    .exact absurd k (by show (3:Int)≠1;decide)
    .exact absurd k (by show (2:Int)≠1;decide)
  .have:(tF p id (jt x)).1=p.2.1:=by unfold tF;split;rfl;split <;> rfl
   rw[this];exact q1
 .rw[hF rfl] at ho;rw[hp17] at q1;have hpr:d9 (build p)=17:=by rw[d9,g.dec.1];exact q1
  have eB:kB 1 w F id=eT (build p) F 3 3 id (jt x):=by
   show fI w _ _=_;unfold fI fZ;rw[w5,w1,am (OR g hu hid).1,af (by rw[hpr];decide),am hpr]
  rw[eB] at ho;have I:=(Et g hu s1 (kind:=3) (code:=3) ⟨.inr rfl,ab,hid⟩).2.1;exact⟨(F,wG 3 3,3,jt x,id,p.2.2.2.2.2),by rw[ho];exact I,rfl,.inr rfl,by rw[ho];exact hL,λk=>absurd k (by show wG 3 3≠1;decide),s2,hc⟩
 .rw[hF rfl] at ho;have eB:kB 2 w F id=eT (build p) F 11 0 id (jt x):=by show fA w 11 0 _ _=_;unfold fA;rw[w5,w1]
  rw[eB] at ho;have I:=(Et g hu s1 (kind:=11) (code:=0) ⟨.inl rfl,ab,hid⟩).2.1;exact⟨(F,wG 11 0,0,jt x,id,p.2.2.2.2.2),by rw[ho];exact I,rfl,.inr rfl,by rw[ho];exact hL,λ_ k=>s3 k,s2,hc⟩
 .rw[hF rfl] at ho;have eB:kB 3 w F id=eT (build p) F 3 0 id (jt x):=by show fA w 3 0 _ _=_;unfold fA;rw[w5,w1]
  rw[eB] at ho;have I:=(Et g hu s1 (kind:=3) (code:=0) ⟨.inr rfl,ab,hid⟩).2.1;exact⟨(F,wG 3 0,0,jt x,id,p.2.2.2.2.2),by rw[ho];exact I,rfl,.inr rfl,by rw[ho];exact hL,λk=>absurd k (by show wG 3 0≠1;decide),s2,hc⟩
theorem Ir{B:Int->Int->ad}{F:Int->Int}{w:dL}{own:Int}(h:(dC B F w own).2.2≠2):(dC B F w own).2.1=iw:=by
 by_cases k:own=0/\jU w.1=true
 .rw[vW k]
 by_cases k1:F 0≠0
 .rw[vU k k1]
 by_cases k2:fm w.2.1 (lS w.2.2.2.2.2)=false
 .rw[xh k k1 k2]
 by_cases k3:(fP w).2=false
 .rw[wX k k1 k2 k3]
 .rw[wE k k1 k2 k3] at h;exact absurd rfl h
theorem aB5{x:ar}{s:bY}{lk t:Int}{b:ad}(h:(fC x s lk t b).2.2≠2)(h0:(fC x s lk t b).2.2≠0):(fC x s lk t b).2.1=iw:=by
 unfold fC gw at h h0 ⊢
 split at h
 next k=>rw[am k]
 rename_i k1
 rw[af k1] at h0 ⊢
 split at h
 next k2=>
  rw[am k2];unfold ij at h ⊢;split at h
  next k=>rw[am k]
  next k=>rw[af k];exact Ir h
 rename_i k2
 rw[af k2] at h0 ⊢
 split at h
 next k=>rw[am k]
 rename_i k3
 rw[af k3] at h0 ⊢
 unfold eG at h h0 ⊢
 split at h
 next k=>rw[am k];exact Ir h
 rename_i k4
 rw[af k4] at h0 ⊢
 split at h
 next k=>
  rw[am k];split at h
  next k=>rw[am k]
  next k=>rw[af k];exact Ir h
 rename_i k5
 rw[af k5] at h0
 exact absurd rfl h0
theorem DO{p:o3}(h:fg p=0):(dE p).length=20+p.2.length/\(bytes p.2->bytes (dE p)):=by
 rw[dE,am h]
 refine⟨by rw[cD,rG],λhb=>iS (Ja ?_) hb⟩
 exact gC λk=>by rw[fg,am k] at h;cases h
theorem zN{b:ad}(hb:bytes b)(h:bT b=0):kD (cf b)/\20<=b.length/\b.length<=1500:=by
 have hp:=AR h
 have hl:=Ba hp
 have hd:=tc h
 have w:=rk hb 4
 have g:∀ i:Nat,0<=b.getD i default/\b.getD i default<=255:=λi=>by
  by_cases k:i<b.length
  .have:=hb _ (bW (i:=(i:Int)) ab ab);simpa using this
  .rw[ce,xk ab];decide
 exact⟨⟨g 1,g 8,g 9,w.1,w.2⟩,ab,ab⟩
theorem ap0{b:ad}(hb:bytes b)(h:gp b=0):(gU b).length=b.length/\bytes (gU b):=by
 have hd:bT b=0:=gC λk=>by rw[gp,am k] at h;exact k h
 have ht:¬ (cf b).2.2.1<2:=λk=>by rw[gp,af (λq=>q hd),am k] at h;cases h
 obtain⟨⟨h1,⟨h2,h2'⟩,h3,h4,h5⟩,l1,l2⟩:=zN hb hd
 have e:fg (zT (cf b),b.drop 20)=0:=by
  rw[fg,af,af (by simp only[dR];omega)];rw[pi];exact⟨h1,⟨by show 0<=(cf b).2.2.1-1;omega,by show (cf b).2.2.1-1<=255;omega⟩,h3,h4,h5⟩
 have k:=DO e
 rw[gU,am h]
 refine⟨?_,k.2 (ua hb)⟩
 rw[k.1];simp only[dR];omega
theorem HX{b:ad}{f kind code id ttl:Int}(hb:bytes b)(h:dS b kind code id ttl=0):0<(eT b f kind code id ttl).length/\bytes (eT b f kind code id ttl):=by
 have hg:qh kind code id ttl:=gC λk=>by rw[dS,am k] at h;cases h
 have ha:cH b:=gC λk=>by rw[dS,af (λq=>q hg),af k] at h;cases h
 obtain⟨-,e,en,ei⟩:=A6 (src:=f) hg ha
 have k:=DO ei
 rw[e]
 exact⟨by rw[k.1];omega,k.2 (JN en (zZ hb))⟩
theorem MI{e:m8}(h:bytes e.2.2.2)(hl:(e.2.2.2.length:Int)<=1472):((fh e).length:Int)<=1480/\bytes (fh e):=by
 unfold fh
 split
 .exact⟨by rw[mI,A4];omega,pN (wK h)⟩
 .exact⟨aC,nh⟩
theorem Pl{s d:Int}{e:kV}(h:e.2.2.2.2.2.2=[]):((eV s d e).length:Int)<=1480/\bytes (eV s d e):=by
 unfold eV
 split
 next k=>
  have ok:nM e:=gC λq=>by rw[j8,am q] at k;cases k
  exact⟨by rw[mI,we,h];simp,pN (xQ ok (by rw[h];exact nh))⟩
 .exact⟨aC,nh⟩
theorem XZ{b:ad}{f id ttl:Int}(hb:bytes b)(h:eh b id ttl=0):0<(fZ b f id ttl).length/\bytes (fZ b f id ttl):=by
 have hn:iV id ttl:=gC λk=>by rw[eh,am k] at h;cases h
 have hg:s9 b:=gC λk=>by rw[eh,af (λq=>q hn),af k] at h;cases h
 obtain⟨-,l1,l2⟩:=zN hb hg.1.1
 have hd:=ua (n:=20) hb
 rcases hg with⟨ha,⟨g1,g2⟩|⟨g1,g2⟩|⟨g1,g2,g3,g4⟩⟩
 .rw[(AY (src:=f) hn ha g1 g2).1];have hl:=HP (b.drop 20);have hE:((fh (true,(dW (b.drop 20)).2)).length:Int)<=1480/\bytes (fh (true,(dW (b.drop 20)).2)):=by
   have e:(dW (b.drop 20)).2.2.2=(b.drop 20).drop 8:=by unfold dW;rw[am g2]
   refine MI ?_ ?_
   .show bytes (dW (b.drop 20)).2.2.2;rw[e];exact ua hd
   .show ((dW (b.drop 20)).2.2.2.length:Int)<=1472;rw[e];simp only[dR];omega
  have k:=DO (yW (src:=f) (dst:=cL b) hn (proto:=1) ab hE.1);exact⟨by rw[k.1];omega,k.2 hE.2⟩
 .rw[(BP (src:=f) hn ha g1 g2).1];exact HX hb (DM hn ha)
 .rw[(Ah (src:=f) hn ha g1 g2 g3 g4).1];have hE:((eV f (cL b) (jX (d7 (cL b) (gc b) (b.drop 20)))).length:Int)<=1480/\bytes (eV f (cL b) (jX (d7 (cL b) (gc b) (b.drop 20)))):=Pl rfl;have k:=DO (yW (src:=f) (dst:=cL b) hn (proto:=6) ab hE.1);exact⟨by rw[k.1];omega,k.2 hE.2⟩
theorem az8{ki:Int}{w:dL}{f id:Int}(hb:bytes w.2.2.2.2.1)(hn:iV id (jt w.1))(h:kE ki w 0=0):0<(kB ki w f id).length/\bytes (kB ki w f id):=by
 have ha:=HM h
 unfold kB
 split
 .exact HX hb (by rw[dS,af (λk=>k ⟨.inl rfl,ab,hn⟩),am ha])
 split
 .exact HX hb (by rw[dS,af (λk=>k ⟨.inr rfl,ab,hn⟩),am ha])
 next k2 k3=>
  have h:eh w.2.2.2.2.1 0 (jt w.1)=0:=by
   unfold kE at h;rw[af k2,af k3] at h;exact h
  have hg:s9 w.2.2.2.2.1:=gC λq=>by
   rw[eh] at h;split at h
   .cases h
   .cases h
  exact XZ hb (BL hn hg)
structure Px (x:ar) (s:bY) (r:nE):Prop where
 some:r.2.2=0∨r.2.2=2->0<r.2.1.2.length/\r.2.1.2.length<=1500/\0<=cG x r.2.1.1
 none:r.2.2≠0->r.2.2≠2->r.2.1=iw
 byt:bytes r.2.1.2
 rt:bn r.1=bn s
theorem RF{w:dL}(hid:io w.1=0)(hf:¬ mJ w.1)(hI:0<=pj w.2.2.2.2.2/\pj w.2.2.2.2.2<=65535):iV (ig w) (jt w.1):=by
 have hb:0<=jJ w.1/\jJ w.1<=65535:=by
  unfold io at hid;split at hid
  next k=>have:=aL k;omega
  .cases hid
 unfold mJ at hf
 refine⟨?_,ab,ab⟩
 unfold ig
 exact K9 hb hI
theorem Hx{x:ar}{s:bY}(hrt:∀ r∈bn s,lI r (bq x)){a:Int}(hw:¬ fm s a=false)(s':bY)(k:ph):0<=cG x (fR x s' (bw (bn s) a) k) :=
 Is (OM (hrt _ (Kv hw)) _ (MN (wN hw)))
theorem J6{x:ar}{s:bY}{lk t:Int}{b:ad}(N:pJ x)(hs:∀ r∈bn s,lI r (bq x))(hb:bytes b):Px x s (fC x s lk t b):=by
 have T:=(QG x s lk t b).1
 by_cases h0:(fC x s lk t b).2.2=0
 .have F:=GR h0;have e:=Ft (t:=t) F;obtain⟨-,l1,l2⟩:=zN hb F.dec;have hlow:lk ≠ -1/\dY x=false->gp b=0:=λk=>by
   have ht:=F.ttl;have e1:(aP b).1=cf b:=by rw[aP,am F.dec]
   rw[e1] at ht;rw[gp,af (λq=>q F.dec)];exact af (λq=>ht ⟨k.1,k.2,q⟩)
  have key:(if lk ≠ -1/\dY x=false then gU b else b).length=b.length/\bytes (if lk ≠ -1/\dY x=false then gU b else b):=by
   split
   next k=>exact ap0 hb (hlow k)
   .exact⟨rfl,hb⟩
  refine⟨λ_=>?_,λk=>absurd h0 k,?_,T⟩
  .rw[e];exact⟨by show 0<length _;rw[key.1];omega,by show length _<=1500;rw[key.1];omega,Hx hs F.way _ _⟩
  .rw[e];exact key.2
 by_cases h2:(fC x s lk t b).2.2=2
 .obtain⟨ki,e,hk⟩:=Fw h2;rw[e] at h2;obtain⟨w,hw⟩:∃ w,w=cE x s lk t b:=⟨_,rfl⟩
  rw[← hw] at h2 e;obtain⟨a1,a2,a3⟩:=In h2;have w1:w.1=x:=by rw[hw];rfl
  have w2:w.2.1=s:=by rw[hw];rfl
  have w5:w.2.2.2.2.1=b:=by rw[hw];rfl
  have hI:0<=pj w.2.2.2.2.2/\pj w.2.2.2.2.2<=65535:=by
   have:w.2.2.2.2.2=(aP b).1:=by rw[hw];rfl
   rw[this];unfold aP;split
   .exact rk hb 4
   .exact⟨by show (0:Int)<=0;omega,by show (0:Int)<=65535;omega⟩
  have hn:=RF (w:=w) (by rw[w1];exact N.id) (by rw[w1];exact N.form) hI;have ho:(fC x s lk t b).2.1=(gP (kB ki w) w,kB ki w (je (kB ki w) w (kv ki w)) (ig w)):=by rw[e];exact iB (λr:nE=>r.2.1) a3
  have k:=az8 (f:=je (kB ki w) w (kv ki w)) (by rw[w5];exact hb) hn a1;have kl:=R7 ki w (je (kB ki w) w (kv ki w)) (ig w);have hL:0<=cG x (gP (kB ki w) w):=by
   have:=Hx hs (a:=lS w.2.2.2.2.2) (by rw[← w2];exact a2) (jc w) (dV (kB ki w (adr w.1 (bM w.1 w.2.2.1)) 0));unfold gP fJ;rw[w1,w2];rw[w1] at this;exact this
  refine⟨λ_=>?_,λ_ q=>absurd (by rw[e];exact h2) q,?_,T⟩
  .rw[ho];exact⟨k.1,by have:((kB ki w (je (kB ki w) w (kv ki w)) (ig w)).length:Int)<=1500:=kl;show (kB ki w (je (kB ki w) w (kv ki w)) (ig w)).length<=1500;omega,hL⟩
  .rw[ho];exact k.2
 .have e:=aB5 h2 h0;refine⟨λk=>?_,λ_ _=>e,by rw[e];exact nh,T⟩;rcases k with k|k
  .exact absurd k h0
  .exact absurd k h2
end Go.RS
