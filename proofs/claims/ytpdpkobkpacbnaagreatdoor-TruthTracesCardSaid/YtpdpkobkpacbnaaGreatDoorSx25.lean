/- Topo2: networks: the program's check of all, finding, and routes at a time. -/
import Derived.Test.YtpdpkobkpacbnaaGreatDoorNode2
import Derived.Test.YtpdpkobkpacbnaaGreatDoorIdent
import Derived.Test.YtpdpkobkpacbnaaGreatDoorNodec
import Derived.Test.YtpdpkobkpacbnaaGreatDoorSimA
import Derived.Laws.CopyRow
import Derived.LaidMore
import Derived.Stop.Joined
import Derived.FnData
import Derived.MakeChecks
set_option maxRecDepth 100000
set_option linter.unusedVariables false
open Int (toNat)
open List (length take getD set replicate range)
namespace Go.RS
open Go.SX Go.Proofs
def zo{α:Type}(q:α->Bool)(l:List α):Int:=if l.findIdx q<l.length then (l.findIdx q:Int) else -1
theorem Wi{α:Type}{q:α->Bool}{l:List α}:decide (0<=zo q l)=l.any q:=by
 unfold zo
 cases h:l.any q with
 | true =>
  rw[am (List.findIdx_lt_length_of_exists (by simpa using h))];exact cM ab
 | false =>
  have:l.findIdx q=l.length:=List.findIdx_eq_length_of_false (by simpa using h);rw[af ab];rfl
theorem w8{a b:Int}(h:a≠0):a=mD a b:=by unfold mD;rw[am h]
theorem rf{a b:Int}(h:a=0):mD a b=b:=by unfold mD;rw[af (λk=>k h)]
def Rj:Ct:=⟨[.agg ib],[.val cI],λd=>[],λd=>((lz d.1,()),())⟩
def Tb:bw Rj.ps->ce:=(λd=>{loops:=(bp 2 (λS=>{ι:=Int,μ:=λi=>(d.1.1.length-i).toNat,inv:=λi=>0<=i/\i<=d.1.1.length/\first (lp d.1) i.toNat=0,keep:=[1,9,10],slots:=λi=>[(11,.int .i64 i)],keepN:=[32]}) (bp 8 (λS=>{ι:=Int,μ:=λi=>((bo (d.1.1.getD (S.i 11).toNat default)).length-i).toNat,inv:=λi=>0<=i/\i<=(bo (d.1.1.getD (S.i 11).toNat default)).length∧∀ k∈(bo (d.1.1.getD (S.i 11).toNat default)).take i.toNat,mQ d.1 (S.i 11).toNat k=false,keep:=[1,3,9,10,11,22,23],slots:=λi=>[(24,.int .i64 i)],keepN:=[32,368]}) cC))})
def qP(a:List au)(d:Int) :=
 ((length (bo (ai a d))):Int)
def zT(a:List au)(b:List aK)(c:List aV) :=
 (a.length<=maxLen/\ ∀(d:au),d∈a->CT.wf bU d)/\(b.length<=maxLen/\ ∀(d:aK),d∈b->CT.wf fU d)/\c.length<=maxLen/\ ∀(d:aV),d∈c->CT.wf fh d
theorem Xc :
 ∀(a:List au)(b:List aK)(c:List aV),(zT a b c)/\True->True->(∃(d:Int),(0<=d/\d<=(ac a)/\first (lp (a,b,c)) d.toNat=0)/\a=a/\(ac a)=(ac a)/\0=d/\a=a/\b=b/\c=c/\True)/\ ∀(d:Int),0<=d/\d<=(ac a)/\first (lp (a,b,c)) d.toNat=0->ao (decide (d<(ac a))) (0<=d/\d<(ac a)/\ao (! decide (d8 (ai a d)=0)) (d8 (ai a d)=lz (a,b,c)) (length (ay (ai a d))<=(100000:Nat)/\(∃(e:Int),(0<=e/\e<=(qP a d)/\ ∀(f:Int),f∈take e.toNat (bo (ai a d))->mQ (a,b,c) d.toNat f=false)/\d=d/\a=a/\(ac a)=(ac a)/\d=d/\(qP a d)=(qP a d)/\0=e/\a=a/\b=b/\c=c/\bo (ai a d)=bo (ai a d)/\True)/\ ∀(e:Int),(0<=e/\e<=(qP a d)/\ ∀(f:Int),f∈take e.toNat (bo (ai a d))->mQ (a,b,c) d.toNat f=false)->ao (decide (e<(qP a d))) (0<=e/\e<(qP a d)/\ ∀(f:Bool),f=decide ((ac b)<=getD (bo (ai a d)) e.toNat default)->(ah (! f))/\((! f)->(ar (!
 f))/\(ar (! f))/\0<=getD (bo (ai a d)) e.toNat default/\getD (bo (ai a d)) e.toNat default<(ac b)/\True)/\(ah (! f))/\(ah (! f))/\((! f)->(ar (! f))/\(ar (! f))/\True)/\(ah (! f))/\ ∀(g:Bool),g= ! decide ((ai b (getD (bo (ai a d)) e.toNat default)).1=d)->(ah (! f&&g))/\((! f&&g)->(ar (! f&&g))/\(ar (! f&&g))/\0<=getD (bo (ai a d)) e.toNat default/\getD (bo (ai a d)) e.toNat default<(ac b)/\True)/\(ah (! f&&g))/\(ah (! f&&g))/\((! f&&g)->(ar (! f&&g))/\(ar (! f&&g))/\True)/\((! f)->(ar (! f))/\(g->(! f&&g))/\True)/\(aE f)/\ao (bif f then true else bif g then ! decide ((ai b (getD (bo (ai a d)) e.toNat default)).2.1=d) else false) (11=lz (a,b,c)) (∃(h:Int),(0<=h/\h<=(qP a d)/\ ∀(i:Int),i∈take h.toNat (bo (ai a d))->mQ (a,b,c) d.toNat i=false)/\toNat ((qP a d) -h)<toNat ((qP a d)
 -e)/\d=d/\a=a/\(ac a)=(ac a)/\d=d/\(qP a d)=(qP a d)/\aj (e+1)=h/\a=a/\b=b/\c=c/\bo (ai a d)=bo (ai a d)/\True)) (∃(f:Int),(0<=f/\f<=(ac a)/\first (lp (a,b,c)) f.toNat=0)/\toNat ((ac a) -f)<toNat ((ac a) -d)/\a=a/\(ac a)=(ac a)/\aj (d+1)=f/\a=a/\b=b/\c=c/\True))) (0=lz (a,b,c)):=by
  delta qP zT ah ar aE aj ai ac;rintro ns ls hs ⟨⟨⟨hnl,-⟩,⟨hl,-⟩,-⟩,-⟩ -;simp only[maxLen] at hl hnl;refine⟨⟨0,⟨ab,ab,rfl⟩,aP⟩,?_⟩;rintro i ⟨i0,i1,hf⟩;refine aw (λhi=>?_) (λhi=>?_)
  rotate_left
  .have hi:=aL hi;rw[show i.toNat=ns.length by omega] at hf;exact hf.symm
  have hi:=aI hi;have ei:((i.toNat:Nat):Int)=i:=ab;have hit:=λh=>Bl (f:=lp (ns,ls,hs)) (n:=ns.length) i0 hi hf h;refine⟨i0,hi,aw (λh=>?_) (λh=>?_)⟩
  .have h:=gH h;have e:lp (ns,ls,hs) i.toNat=d8 (ns.getD i.toNat default):=am h;have k:=hit (by rw[e];exact h);rw[e] at k;exact k
  have h:=iP h;have nv:=Ih h;have k0:=Ow nv.bad;have hlen:(bo (ns.getD i.toNat default)).length=(ay (ns.getD i.toNat default)).length:=by simp[bo]
  have n32:=nv.len;refine⟨ab,⟨0,⟨ab,ab,aA⟩,aP⟩,?_⟩;rintro j ⟨j0,j1,hj⟩;refine aw (λhk=>?_) (λhk=>?_)
  rotate_left
  .have hk:=aL hk;rw[fe ab] at hj;refine⟨i+1,⟨ab,ab,xz i0 hf ?_⟩,ab,aP⟩;unfold lp;rw[af (λq=>q h),af];intro q;obtain⟨k,hk,q⟩:=List.any_eq_true.1 q;rw[hj k hk] at q;cases q
  have hk:=aI hk;have hm:=bR j0 hk;have eO:=λh=>nN j0 hk hj h (P:=λk=>mQ (ns,ls,hs) i.toNat k=false);have kk:=k0 _ hm;refine⟨j0,hk,?_⟩;generalize (bo (ns.getD i.toNat default)).getD j.toNat default=k at hm eO kk ⊢;intro b hb
  (repeat refine⟨(by first|(simp;done)|exact λh=>⟨λ_=>h,λ_=>h,kk,by rw[hb] at h;have:=gH h;omega,bv⟩),?_⟩);intro b1 hb1
  (repeat refine⟨(by first|(simp;done)|(simp +contextual;done)|exact λh=>⟨λ_=>h,λ_=>h,kk,by rw[hb] at h;have:=gH (Bool.and_eq_true_iff.1 h).1;omega,bv⟩),?_⟩);have tot:(bif b then true else bif b1 then !decide ((ls.getD k.toNat default).2.1=i) else false)=mQ (ns,ls,hs) i.toNat k:=by
   rw[hb,hb1];unfold mQ lA lB;rw[ei];cases decide ((ls.length:Int)<=k) <;> cases decide ((ls.getD k.toNat default).1=i) <;> cases decide ((ls.getD k.toNat default).2.1=i) <;> rfl
  rw[tot];refine aw (λht=>?_) (λht=>?_)
  .have e:lp (ns,ls,hs) i.toNat=11:=by
    unfold lp;rw[af (λq=>q h),am (List.any_eq_true.2 ⟨_,hm,ht⟩)]
   have q:=hit (by rw[e];decide);rw[e] at q;exact q
  .exact⟨j+1,⟨ab,ab,eO ht⟩,ab,aP⟩
theorem aI1:aB 87 Rj.spec:=aF Tryz.func87 (av (av aC af4) Q1) Tb Xc
def T0:Ct:=⟨[.val (.sl dh),.agg fh],[.own 96 dh],λd=>[cJ d.1,okL d.1,((dO d.2.1).2.1.length:Int)<=1099511627776],λd=>((f7 d.1 d.2.1,()),())⟩
def Am(a:List aN) :=
 a.length<=maxLen/\ ∀(c:aN),c∈a->((0<=c.1.1/\c.1.1<=4294967295)/\aq c.1.2)/\(c.2.1.length<=maxLen/\ ∀(d:Int),d∈c.2.1->aq d)/\aq c.2.2
theorem aW5 :
 ∀(a:List aN)(b:aV),(Am a)/\CT.wf fh b/\True->cJ a/\okL a/\((length (dO b).2.1):Int)<=1099511627776->ao b.2.2.1 (cJ a/\okL a/\jt a b.2.2.2.1=f7 a b) (cJ a/\okL a/\(ac b.2.2.2.2.1)<=1099511627776/\f6 a b.2.2.2=f7 a b):=by
  delta Am ac;rintro l c-⟨hs,hl,hx⟩;unfold f7;rw[show c.2.2.1=qj c from rfl];refine aw (λh=>⟨hs,hl,?_⟩) (λh=>⟨hs,hl,hx,?_⟩)
  .rw[am h];rfl
  .rw[af (by rw[h];decide)];rfl
theorem Nf:aB 119 T0.spec:=aF Tryz.func119 (av (av aC LS) Rx) aT aW5
def nL(p:d9)(r:Rt):Bool:=decide (r.1=p)
def XA:Ct:=⟨[.agg dh,.box 153 fh],[.val .bool],λ_=>[],λd=>((nL (dO d.2.1).1 d.1,()),(d.2.1,()))⟩
theorem aT3 :
 ∀(a b:Int)(c:ae)(d:Int)(e:aV),(((0<=a/\a<=4294967295)/\aq b)/\(c.length<=maxLen/\ ∀(f:Int),f∈c->aq f)/\aq d)/\CT.wf fh e/\True->True->(decide (a=e.2.2.2.1.1)&&(decide (b=e.2.2.2.1.2)&&true))=nL (dO e).1 ((a,b),c,d)/\e=e:=by
  rintro a n nx b c - -;refine⟨?_,rfl⟩;rw[ut];simp[nL,Prod.ext_iff,dO]
theorem ag9:aB 153 XA.spec:=aF Tryz.func153 aC aT aT3
def OY:Ct:=⟨[.val (.sl dh),.fn 153 1,.box 153 fh],[.val cI],λ_=>[],λd=>((zo (nL (dO d.2.2.1).1) d.1,()),(d.2.2.1,()))⟩
def Tj:bw OY.ps->ce:=(λd=>{loops:=(bp 2 (λS=>{ι:=Int,μ:=λi=>(d.1.length-i).toNat,inv:=λi=>0<=i/\i<=d.1.length∧∀ x∈d.1.take i.toNat,nL (dO d.2.2.1).1 x=false,keep:=[0,1,6,7],slots:=λi=>[(8,.int .i64 i)],keepN:=[1048576]}) cC)})
def HI(b:aV) :=
 b.1=b.1/\b.2.1=b.2.1/\b.2.2.1=b.2.2.1/\b.2.2.2.1.1=b.2.2.2.1.1/\b.2.2.2.1.2=b.2.2.2.1.2/\b.2.2.2.2.1=b.2.2.2.2.1/\b.2.2.2.2.2=b.2.2.2.2.2/\True
theorem aW1 :
 ∀(a:List aN)(b:aV),(Am a)/\True/\CT.wf fh b/\True->True->(∃(c:Int),(0<=c/\c<=(ac a)/\ ∀(d:aN),d∈take c.toNat a->nL (dO b).1 d=false)/\a=a/\a=a/\(ac a)=(ac a)/\0=c/\(HI b))/\ ∀(c:Int),(0<=c/\c<=(ac a)/\ ∀(d:aN),d∈take c.toNat a->nL (dO b).1 d=false)->ao (decide (c<(ac a))) (0<=c/\c<(ac a)/\ao (nL b.2.2.2.1 (ai a c)) (c=zo (nL (dO b).1) a/\b=b) (∃(d:Int),(0<=d/\d<=(ac a)/\ ∀(e:aN),e∈take d.toNat a->nL (dO b).1 e=false)/\toNat ((ac a) -d)<toNat ((ac a) -c)/\a=a/\a=a/\(ac a)=(ac a)/\aj (c+1)=d/\(HI b))) (-1=zo (nL (dO b).1) a/\b=b):=by
  delta Am HI aj ai ac;rintro l c ⟨⟨hl,-⟩,-⟩ -;simp only[maxLen] at hl;refine⟨⟨0,⟨ab,ab,aA⟩,aP⟩,?_⟩;rintro j ⟨j0,j1,hj⟩;refine bT (λhk=>?_) (λhk=>?_)
  .refine⟨j0,hk,aw (λhm=>?_) (λhm=>?_)⟩
   .exact⟨xx j0 hk hj hm,rfl⟩
   .exact⟨j+1,⟨ab,ab,nN j0 hk hj hm⟩,ab,aP⟩
  .exact⟨xQ hk hj,rfl⟩
theorem VQ:aB 183 OY.spec:=aF Tryz.func183 (av aC ag9) Tj aW1
def YZ:Ct:=⟨[.val (.sl dh),.fn 153 1,.box 153 fh],[.val .bool],λ_=>[],λd=>((d.1.any (nL (dO d.2.2.1).1),()),(d.2.2.1,()))⟩
theorem Va :
 ∀(a:List aN)(b:aV),(Am a)/\True/\CT.wf fh b/\True->True->decide (0<=zo (nL b.2.2.2.1) a)=List.any a (nL (dO b).1)/\b=b:=by
  delta Am;rintro l c - -;exact⟨Wi,rfl⟩
theorem ap3:aB 152 YZ.spec:=aF Tryz.func152 (av aC VQ) aT Va
theorem T5{l:List Rt}{p:d9}:l.any (nL p)=m7 l p:=by rw[aT9,ut];simp[nL]
theorem Pg{ns:List au}{j:Nat}(h:j<ns.length):((ns.take j).map aU++replicate (ns.length-j) []).set j (aU (ns.getD j default))=(ns.take (j+1)).map aU++replicate (ns.length-(j+1)) []:=by
 have e1:((ns.take j).map aU).length=j:=by simp;omega
 rw[show ns.length-j=(ns.length-(j+1))+1 by omega,List.replicate_succ,List.set_append_right _ _ ab,e1,Nat.sub_self,List.set_cons_zero,yf h,lG,bJ,cK h]
 simp
theorem NT(n:aQ){j:Int}(j0:0<=j):gU n j.toNat=mY n j.toNat (n.2.2.getD j.toNat default) (n.2.2.getD (j-1).toNat default) ((dH n j.toNat).getD (bL (n.2.2.getD j.toNat default)).toNat default):=by
 unfold gU;rw[show (j-1).toNat=j.toNat-1 by omega]
def Rp:Ct:=⟨[.agg ib],[.val cI],λd=>[lz d.1=0,d.1.1.length<=64,∀ c∈d.1.2.2,((dO c).2.1.length:Int)<=1099511627776],λd=>((lN d.1,()),())⟩
def aA7:bw Rp.ps->ce:=(λd=>{loops:=(bp 3 (λS=>{ι:=Int×(List (List Rt)),qn:=ft,μ:=λi=>(d.1.1.length-i.1).toNat,inv:=λi=>0<=i.1/\i.1<=d.1.1.length/\i.2=(d.1.1.take i.1.toNat).map aU++replicate (d.1.1.length-i.1.toNat) [],keep:=[1,15,16],slots:=λi=>[(3,.own 524288 1),(17,.int .i64 i.1)],keepN:=[32],names:=λi=>[(524288,.live (.row 90 (.sl dh) i.2))]}) (bp 8 (λS=>{ι:=Int×(List (List Rt)),qn:=ft,μ:=λi=>(d.1.2.2.length-i.1).toNat,inv:=λi=>0<=i.1/\i.1<=d.1.2.2.length/\first (gU d.1) i.1.toNat=0/\i.2=dH d.1 i.1.toNat,keep:=[1,29,30],slots:=λi=>[(3,.own 524288 1),(31,.int .i64 i.1)],keepN:=[32],names:=λi=>[(524288,.live (.row 90 (.sl dh) i.2))]}) cC))})
def rO(c:List aV)(f:Int) :=
 toNat (ai c f).2.1
def Hf(a:List au)(b:List aK)(c:List aV)(f:Int)(g:List (List Rt)) :=
 cJ (g.getD (rO c f) default)/\okL (g.getD (rO c f) default)/\((length (ai c f).2.2.2.2.1):Int)<=1099511627776/\0<=(ai c f).2.1/\(ai c f).2.1<(ac a)/\length (ay (a.getD (rO c f) default))<=(100000:Nat)/\ao (! decide (dL (f7 (g.getD (rO c f) default) (ai c f)) (bo (a.getD (rO c f) default))=0)) (dL (f7 (g.getD (rO c f) default) (ai c f)) (bo (a.getD (rO c f) default))=lN (a,b,c)) (0<=(ai c f).2.1/\(ai c f).2.1<(ac g)/\ ∃(j:Int) (k:List (List Rt)),(0<=j/\j<=(ac c)/\first (gU (a,b,c)) j.toNat=0/\k=dH (a,b,c) j.toNat)/\toNat ((ac c) -j)<toNat ((ac c) -f)/\c=c/\(ac c)=(ac c)/\aj (f+1)=j/\a=a/\b=b/\c=c/\set g (rO c f) (f7 (g.getD (rO c f) default) (ai c f))=k/\True)
def BB(c:List aV) :=
 ∀(d:aV),d∈c->((length (dO d).2.1):Int)<=1099511627776
theorem aW8 :
 ∀(a:List au)(b:List aK)(c:List aV),(zT a b c)/\True->(lz (a,b,c)=0/\a.length<=(64:Nat)/\ (BB c))->0<=(ac a)/\(ac a)<=(ac a)/\(↑(24:Nat):Int)*(ac a)<=281474976710656/\(∃(d:Int) (e:List (List Rt)),(0<=d/\d<=(ac a)/\e=List.map aU (take d.toNat a)++replicate (a.length -d.toNat) ([]:List aN))/\a=a/\(ac a)=(ac a)/\0=d/\a=a/\b=b/\c=c/\replicate (toNat (ac a)) ([]:List aN)=e/\True)/\ ∀(d:Int)(e:List (List Rt)),0<=d/\d<=(ac a)/\e=List.map aU (take d.toNat a)++replicate (a.length -d.toNat) ([]:List aN)->ao (decide (d<(ac a))) (0<=d/\d<(ac a)/\0<=d/\d<(ac e)/\ ∃(f:Int) (g:List (List Rt)),(0<=f/\f<=(ac a)/\g=List.map aU (take f.toNat a)++replicate (a.length -f.toNat) ([]:List aN))/\toNat ((ac a) -f)<toNat ((ac a) -d)/\a=a/\(ac a)=(ac a)/\aj (d+1)=f/\a=a/\b=b/\c=c/\set e d.toNat (ai a
 d).2.2.2.2.1=g/\True) ((∃(f:Int) (g:List (List Rt)),(0<=f/\f<=(ac c)/\first (gU (a,b,c)) f.toNat=0/\g=dH (a,b,c) f.toNat)/\c=c/\(ac c)=(ac c)/\0=f/\a=a/\b=b/\c=c/\e=g/\True)/\ ∀(f:Int)(g:List (List Rt)),0<=f/\f<=(ac c)/\first (gU (a,b,c)) f.toNat=0/\g=dH (a,b,c) f.toNat->ao (decide (f<(ac c))) (0<=f/\f<(ac c)/\ao (! decide (0<=(ai c f).1/\(ai c f).1<=1125899906842624)) (1=lN (a,b,c)) (∀(h:Bool),h=decide (0<f)->(ah h)/\(ah h)/\(ah h)/\(h->(ar h)/\(ar h)/\0<=aj (f -1)/\aj (f -1)<(ac c)/\True)/\(ah h)/\(ah h)/\(h->(ar h)/\(ar h)/\True)/\(ar h)/\ao (bif h then decide ((ai c f).1<(ai c (aj (f -1))).1) else false) (6=lN (a,b,c)) (ao (! decide (0<=(ai c f).2.1/\(ai c f).2.1<=aj ((ac a) -1))) (8=lN (a,b,c)) (0<=(ai c f).2.1/\(ai c f).2.1<(ac g)/\ ∀(i:Bool),i=(ai c f).2.2.1->ao i ((ar i)/\(ar i)/\(ar i)/\ao (bif i then ! List.any
 (g.getD (rO c f) default) (nL (ai c f).2.2.2.1) else false) (8=lN (a,b,c)) (Hf a b c f g)) (i=false/\(i->false=true)/\ao (bif i then false else false) (8=lN (a,b,c)) (Hf a b c f g)))))) (0=lN (a,b,c))):=by
  delta Hf zT rO BB ah ar aj ai ac;rintro ns ls hs ⟨⟨⟨hnl,-⟩,⟨hl,-⟩,⟨hhl,-⟩⟩,-⟩⟨hb,hn,hx⟩;simp only[maxLen] at hl hnl hhl;refine⟨ab,ab,ab,⟨0,_,⟨ab,ab,rfl⟩,by (repeat refine jp ?_);simp⟩,?_⟩;rintro j t ⟨j0,j1,rfl⟩;have tl:((ns.take j.toNat).map aU++replicate (ns.length-j.toNat) ([]:List Rt)).length=ns.length:=by simp;omega
  refine aw (λhj=>?_) (λhj=>?_)
  .have hj:=aI hj;refine⟨j0,hj,j0,by rw[tl];exact hj,j+1,_,⟨ab,ab,rfl⟩,ab,?_⟩
   (repeat refine jp ?_);refine⟨?_,bv⟩;rw[show (j+1).toNat=j.toNat+1 by omega,← Pg ab];rfl
  have hj:=aL hj;have e0:(ns.take j.toNat).map aU++replicate (ns.length-j.toNat) ([]:List Rt)=dH (ns,ls,hs) 0:=by
   rw[fe ab,show ns.length-j.toNat=0 by omega];simp[dH]
  rw[e0];clear e0 tl hj j0 j1;refine⟨⟨0,_,⟨ab,ab,rfl,rfl⟩,aP⟩,?_⟩;rintro j t ⟨j0,j1,hf,rfl⟩;refine aw (λhj=>?_) (λhj=>?_)
  rotate_left
  .have hj:=aL hj;rw[show j.toNat=hs.length by omega] at hf;exact hf.symm
  have hj:=aI hj;have hm:=bR j0 hj;have tb:=Hs hb hf;have tl:=qD (ns,ls,hs) j.toNat
  have hit:=λh=>Bl (f:=gU (ns,ls,hs)) (n:=hs.length) j0 hj hf h;have eq:=NT (ns,ls,hs) j0;have ej:((j.toNat:Nat):Int)=j:=ab;rw[aG (n:=j-1) ab ab,aG (n:=(ns.length:Int)-1) ab ab];refine⟨j0,hj,aw (λh=>?_) (λh=>?_)⟩
  .have h:=gH h;have e:gU (ns,ls,hs) j.toNat=1:=by
    rw[eq];unfold mY;rw[am];dsimp only[fc];omega
   have q:=hit (by rw[e];decide);rw[e] at q;exact q
  have h1:=iP h;have c1:¬ (fc (hs.getD j.toNat default)<0∨1125899906842624<fc (hs.getD j.toNat default)):=by unfold fc;omega
  clear h;intro b hb1
  (repeat refine⟨(by first|(simp;done)|exact λh=>⟨λ_=>h,λ_=>h,by rw[hb1] at h;have:=aI h;omega,by rw[hb1] at h;have:=aI h;omega,bv⟩),?_⟩);rw[hb1,uD];refine aw (λh=>?_) (λh=>?_)
  .have h:=aI h;have e:gU (ns,ls,hs) j.toNat=6:=by
    rw[eq];unfold mY;rw[af c1,am];exact⟨ab,h.2⟩
   have q:=hit (by rw[e];decide);rw[e] at q;exact q
  have c2:¬ (0<j.toNat/\fc (hs.getD j.toNat default)<fc (hs.getD (j-1).toNat default)):=λq=>aL h ⟨ab,q.2⟩;clear h;refine aw (λh=>?_) (λh=>?_)
  .have h:=gH h;have e:gU (ns,ls,hs) j.toNat=8:=by
    rw[eq];unfold mY;rw[af c1,af c2,am];dsimp only[bL];omega
   have q:=hit (by rw[e];decide);rw[e] at q;exact q
  have h2:=iP h;have h2:0<=bL (hs.getD j.toNat default)/\bL (hs.getD j.toNat default)<=(ns.length:Int)-1:=h2;have c3:¬ (bL (hs.getD j.toNat default)<0∨(ns.length:Int)<=bL (hs.getD j.toNat default)):=ab;clear h;refine⟨h2.1,by rw[tl];show bL _<(ns.length:Int);omega,?_⟩;intro b2 hb2;have hb2:b2=qj (hs.getD j.toNat default):=hb2;refine aw (λq=>?_) (λq=>?_)
  .subst q
   (repeat refine⟨aA,?_⟩);simp only[cond_true];rw[T5];refine aw (λh=>?_) (λh=>?_)
   .have e:gU (ns,ls,hs) j.toNat=8:=by
     rw[eq];unfold mY;rw[af c1,af c2,af c3,am];exact⟨hb2.symm,(rP _).mp h⟩
    have q:=hit (by rw[e];decide);rw[e] at q;exact q
   have c4:¬ (qj (hs.getD j.toNat default)=true/\m7 ((dH (ns,ls,hs) j.toNat).getD (bL (hs.getD j.toNat default)).toNat default) (dO (hs.getD j.toNat default)).1=false):=λz=>by
    have z2:=z.2;have h:(!m7 ((dH (ns,ls,hs) j.toNat).getD (bL (hs.getD j.toNat default)).toNat default) (dO (hs.getD j.toNat default)).1)=false:=h;rw[z2] at h;cases h
   have wl:(bL (hs.getD j.toNat default)).toNat<ns.length:=ab;have tr:=tb.r (bL (hs.getD j.toNat default)).toNat wl;refine⟨tr.1,tr.2,hx _ hm,ab,ab,by have:=(B4 (n:=(ns,ls,hs)) hb wl).len;exact rm this bt,aw (λh=>?_) (λh=>?_)⟩
   .have h:=gH h;have e:gU (ns,ls,hs) j.toNat=dL (f7 ((dH (ns,ls,hs) j.toNat).getD (bL (hs.getD j.toNat default)).toNat default) (hs.getD j.toNat default)) (bo (ns.getD (bL (hs.getD j.toNat default)).toNat default)):=by
     rw[eq];unfold mY;rw[af c1,af c2,af c3,af c4]
    have k:=hit (by rw[e];exact h);rw[e] at k;exact k
   .have h:=iP h;have e:gU (ns,ls,hs) j.toNat=0:=by
     rw[eq];unfold mY;rw[af c1,af c2,af c3,af c4];exact h
    refine⟨ab,by rw[qD];show bL _<(ns.length:Int);omega,j+1,dH (ns,ls,hs) (j+1).toNat,⟨ab,ab,xz j0 hf e,rfl⟩,ab,?_⟩
    (repeat refine jp ?_);refine⟨?_,bv⟩;rw[show (j+1).toNat=j.toNat+1 by omega];rfl
  ·(repeat refine⟨by simp[q],?_⟩);refine aw (λh=>by rw[q] at h;cases h) (λh=>?_);have c4:¬ (qj (hs.getD j.toNat default)=true/\m7 ((dH (ns,ls,hs) j.toNat).getD (bL (hs.getD j.toNat default)).toNat default) (dO (hs.getD j.toNat default)).1=false):=λz=>by
    rw[← hb2,q] at z;cases z.1
   have wl:(bL (hs.getD j.toNat default)).toNat<ns.length:=ab;have tr:=tb.r (bL (hs.getD j.toNat default)).toNat wl;refine⟨tr.1,tr.2,hx _ hm,ab,ab,by have:=(B4 (n:=(ns,ls,hs)) hb wl).len;exact rm this bt,aw (λh=>?_) (λh=>?_)⟩
   .have h:=gH h;have e:gU (ns,ls,hs) j.toNat=dL (f7 ((dH (ns,ls,hs) j.toNat).getD (bL (hs.getD j.toNat default)).toNat default) (hs.getD j.toNat default)) (bo (ns.getD (bL (hs.getD j.toNat default)).toNat default)):=by
     rw[eq];unfold mY;rw[af c1,af c2,af c3,af c4]
    have k:=hit (by rw[e];exact h);rw[e] at k;exact k
   .have h:=iP h;have e:gU (ns,ls,hs) j.toNat=0:=by
     rw[eq];unfold mY;rw[af c1,af c2,af c3,af c4];exact h
    refine⟨ab,by rw[qD];show bL _<(ns.length:Int);omega,j+1,dH (ns,ls,hs) (j+1).toNat,⟨ab,ab,xz j0 hf e,rfl⟩,ab,?_⟩
    (repeat refine jp ?_);refine⟨?_,bv⟩;rw[show (j+1).toNat=j.toNat+1 by omega];rfl
theorem W1:aB 91 Rp.spec:=aF Tryz.func91 (av (av (av (av (av aC Df) ap3) Nf) Q1) N3) aA7 aW8
def LA:Ct:=⟨[.agg ib],[.val cI],λd=>[∀ c∈d.1.2.2,((dO c).2.1.length:Int)<=1099511627776],λd=>((eh d.1,()),())⟩
def Wg:bw LA.ps->ce:=(λd=>{unr:=λn=>match n with|2=>8|_=>0})
theorem Ud :
 ∀(a:List au)(b:List aK)(c:List aV),(zT a b c)/\True->(BB c)->ao (! decide (nP (a,b,c)=0)) (nP (a,b,c)=eh (a,b,c)) (ao (! decide (mo (a,b,c)=0)) (mo (a,b,c)=eh (a,b,c)) (ao (! decide (lz (a,b,c)=0)) (lz (a,b,c)=eh (a,b,c)) (BO (a,b,c)/\ao (! decide (nI (a,b,c)=0)) (nI (a,b,c)=eh (a,b,c)) ((∀(d:au),d∈a->length (ay d)<=(100000:Nat))/\ao (! decide (ot (a,b,c)=0)) (ot (a,b,c)=eh (a,b,c)) (BO (a,b,c)/\ao (! decide (n9 (a,b,c)=0)) (n9 (a,b,c)=eh (a,b,c)) (lz (a,b,c)=0/\a.length<=(64:Nat)/\(BB c)/\ao (! decide (lN (a,b,c)=0)) (lN (a,b,c)=eh (a,b,c)) (0=eh (a,b,c)))))))):=by
  delta zT BB;rintro ns ls hs-hx;unfold eh;refine aw (λh=>w8 (gH h)) (λh=>?_);have h1:=iP h;rw[rf h1];refine aw (λh=>w8 (gH h)) (λh=>?_);have h2:=iP h;rw[rf h2];refine aw (λh=>w8 (gH h)) (λh=>?_);have h3:=iP h;rw[rf h3];refine⟨GF h2,aw (λh=>w8 (gH h)) (λh=>?_)⟩;have h4:=iP h;rw[rf h4];refine⟨λx hx=>rm (No h3 x hx).len bt,aw (λh=>w8 (gH h)) (λh=>?_)⟩;have h5:=iP h;rw[rf h5];refine⟨GF h2,aw (λh=>w8 (gH h)) (λh=>?_)⟩;have h6:=iP h;rw[rf h6];refine⟨h3,?_,hx,aw (λh=>rfl) (λh=>(iP h).symm)⟩;unfold nP at h1;split at h1
  .cases h1
  .dsimp only at *;omega
theorem ZD:aB 39 LA.spec:=aF Tryz.func39 (av (av (av (av (av (av (av aC Xr) aP1) aI1) WS) ag8) aF8) W1) Wg Ud
def MI:Ct:=⟨[.agg ib,.val cP],[.val cI,.val .bool],λd=>[],λd=>((uz d.1 d.2.1,sJ d.1 d.2.1,()),())⟩
def ZY:bw MI.ps->ce:=(λd=>{loops:=(bp 2 (λS=>{ι:=Int,μ:=λi=>(d.1.1.length-i).toNat,inv:=λi=>0<=i/\i<=d.1.1.length∧∀ x∈d.1.1.take i.toNat,dC x d.2.1=false,keep:=[1,3,9,10],slots:=λi=>[(11,.int .i64 i)],keepN:=[48]}) cC)})
theorem aT4 :
 ∀(a:List au)(b:List aK)(c:List aV)(d:Int),((a.length<=maxLen/\ ∀(e:au),e∈a->CT.wf bU e)/\(b.length<=maxLen/\ ∀(e:aK),e∈b->CT.wf fU e)/\c.length<=maxLen/\ ∀(e:aV),e∈c->CT.wf fh e)/\(0<=d/\d<=4294967295)/\True->True->(∃(e:Int),(0<=e/\e<=(ac a)/\ ∀(f:au),f∈take e.toNat a->dC f d=false)/\d=d/\a=a/\(ac a)=(ac a)/\0=e/\a=a/\b=b/\c=c/\True)/\ ∀(e:Int),(0<=e/\e<=(ac a)/\ ∀(f:au),f∈take e.toNat a->dC f d=false)->ao (decide (e<(ac a))) (0<=e/\e<(ac a)/\ao (dC (ai a e) d) (e=uz (a,b,c) d/\true=sJ (a,b,c) d) (∃(f:Int),(0<=f/\f<=(ac a)/\ ∀(g:au),g∈take f.toNat a->dC g d=false)/\toNat ((ac a) -f)<toNat ((ac a) -e)/\d=d/\a=a/\(ac a)=(ac a)/\aj (e+1)=f/\a=a/\b=b/\c=c/\True)) (0=uz (a,b,c) d/\false=sJ (a,b,c) d):=by
  delta aj ai ac;rintro ns ls hs a ⟨⟨⟨hnl,-⟩,-⟩,-⟩ -;simp only[maxLen] at hnl;refine⟨⟨0,⟨ab,ab,aA⟩,aP⟩,?_⟩;rintro i ⟨i0,i1,hI⟩;refine bT (λhi=>?_) (λhi=>?_)
  .refine⟨i0,hi,aw (λhm=>?_) (λhm=>?_)⟩
   .have e:=xx (q:=λx=>dC x a) i0 hi hI hm;unfold uz sJ BI;by_cases k:ns.findIdx (λx=>dC x a)<ns.length
    .rw[am k] at e;dsimp only;rw[am k,cM k];exact⟨e,rfl⟩
    .rw[af k] at e;omega
   .exact⟨i+1,⟨ab,ab,nN i0 hi hI hm⟩,ab,aP⟩
  .have e:=xQ (q:=λx=>dC x a) hi hI;unfold uz sJ BI;by_cases k:ns.findIdx (λx=>dC x a)<ns.length
   .rw[am k] at e;omega
   .dsimp only;rw[af k,dP k];exact⟨rfl,rfl⟩
theorem ZB:aB 65 MI.spec:=aF Tryz.func65 (av aC HA) ZY aT4
def Vz:Ct:=⟨[.val (.sl dh)],[.own 96 dh],λd=>[(d.1.length:Int)<=134217728],λd=>((d.1,()),())⟩
theorem ab4 :
 ∀(a:List aN),(a.length<=maxLen/\ ∀(b:aN),b∈a->((0<=b.1.1/\b.1.1<=4294967295)/\aq b.1.2)/\(b.2.1.length<=maxLen/\ ∀(c:Int),c∈b.2.1->aq c)/\aq b.2.2)/\True->(ac a)<=134217728-> ∀(b:Bool),(b=true->a.length=(0:Nat))->ao b (([]:List aN)=a) (((0:Nat)+a.length)*(48:Nat)<=(140737488355328:Nat)/\a=a):=by
  delta ac;rintro x ⟨⟨hl,-⟩,-⟩ h b hb;refine aw (λh1=>?_) (λh1=>⟨ab,aA⟩);have:=hb h1;exact (oV this).symm
theorem S4:aB 118 Vz.spec:=aF Tryz.func118 aC aT ab4
def N1:Ct:=⟨[.agg ib,.val cI,.val cI],[.own 96 dh],λd=>[okNet d.1],λd=>((d5 d.1 d.2.1 d.2.2.1,()),())⟩
def XF:bw N1.ps->ce:=(λd=>{loops:=(bp 5 (λS=>{ι:=Int,μ:=λi=>((aU (d.1.1.getD d.2.1.toNat default)).length-i).toNat,inv:=λi=>0<=i/\i<=(aU (d.1.1.getD d.2.1.toNat default)).length,keep:=[1,2,3,7,26,27],slots:=λi=>[(28,.int .i64 i)],keepN:=[64,416]}) (bp 10 (λS=>{ι:=Int×(List Rt),qn:=ft,μ:=λi=>(d.1.2.2.length-i.1).toNat,inv:=λi=>0<=i.1/\i.1<=d.1.2.2.length/\i.2=qW d.1 d.2.1 d.2.2.1 i.1,keep:=[1,2,3,42,43],slots:=λi=>[(7,.own 524288 4),(44,.int .i64 i.1)],keepN:=[64],names:=λi=>[(524288,.live (.row 96 dh i.2))]}) cC))})
def uL(a:List au)(d:Int) :=
 ((length (ai a d).2.2.2.2.1):Int)
def z7(a:List au)(d:Int) :=
 ((length (aU (ai a d))):Int)
theorem YM :
 ∀(a:List au)(b:List aK)(c:List aV)(d e:Int),((a.length<=maxLen/\ ∀(f:au),f∈a->CT.wf bU f)/\(b.length<=maxLen/\ ∀(f:aK),f∈b->CT.wf fU f)/\c.length<=maxLen/\ ∀(f:aV),f∈c->CT.wf fh f)/\aq d/\aq e/\True->okNet (a,b,c)->ao (! decide (0<=d/\d<=aj ((ac a) -1))) (([]:List aN)=d5 (a,b,c) d e) (0<=d/\d<(ac a)/\(uL a d)<=134217728/\(∃(f:Int),(0<=f/\f<=(z7 a d))/\d=d/\e=e/\(uL a d)=(uL a d)/\0=f/\a=a/\b=b/\c=c/\(ai a d).2.2.2.2.1=(ai a d).2.2.2.2.1/\True)/\ ∀(f:Int),0<=f/\f<=(z7 a d)->ao (decide (f<(uL a d))) (0<=f/\f<(uL a d)/\((length (getD (ai a d).2.2.2.2.1 f.toNat default).2.1):Int)<=1099511627776/\0<=f/\f<(uL a d)/\ ∃(g:Int),(0<=g/\g<=(z7 a d))/\toNat ((z7 a d) -g)<toNat ((z7 a d) -f)/\d=d/\e=e/\(uL a d)=(uL a d)/\aj (f+1)=g/\a=a/\b=b/\c=c/\set (ai a d).2.2.2.2.1 f.toNat (getD (ai a
 d).2.2.2.2.1 f.toNat default)=(ai a d).2.2.2.2.1/\True) ((∃(g:Int) (h:List Rt),(0<=g/\g<=(ac c)/\h=qW (a,b,c) d e g)/\d=d/\e=e/\c=c/\(ac c)=(ac c)/\0=g/\a=a/\b=b/\c=c/\(ai a d).2.2.2.2.1=h/\True)/\ ∀(g:Int)(h:List Rt),0<=g/\g<=(ac c)/\h=qW (a,b,c) d e g->ao (decide (g<(ac c))) (0<=g/\g<(ac c)/\ ∀(i:Bool),i=decide ((ai c g).2.1=d)->(ah i)/\(i->(ar i)/\(ar i)/\True)/\(ar i)/\ao (bif i then decide ((ai c g).1<=e) else false) (cJ h/\okL h/\((length (ai c g).2.2.2.2.1):Int)<=1099511627776/\ ∃(j:Int) (k:List Rt),(0<=j/\j<=(ac c)/\k=qW (a,b,c) d e j)/\toNat ((ac c) -j)<toNat ((ac c) -g)/\d=d/\e=e/\c=c/\(ac c)=(ac c)/\aj (g+1)=j/\a=a/\b=b/\c=c/\f7 h (ai c g)=k/\True) (∃(j:Int) (k:List Rt),(0<=j/\j<=(ac c)/\k=qW (a,b,c) d e j)/\toNat ((ac c) -j)<toNat ((ac c) -g)/\d=d/\e=e/\c=c/\(ac c)=(ac c)/\aj
 (g+1)=j/\a=a/\b=b/\c=c/\h=k/\True)) (h=d5 (a,b,c) d e))):=by
  delta uL z7 ah ar aj ai ac;rintro ns ls hs who at' ⟨⟨⟨hnl,-⟩,-,⟨hhl,-⟩⟩,-⟩ ok;simp only[maxLen] at hnl hhl;rw[aG (n:=(ns.length:Int)-1) ab ab];refine aw (λh=>?_) (λh=>?_)
  .have h:=gH h;unfold d5;rw[am (by show who<0∨(ns.length:Int)<=who;omega)]
  have h:=iP h;have hm:=bR (xs:=ns) h.1 ab;have hr:=ok.t _ hm;have eR:(ns.getD who.toNat default).2.2.2.2.1=aU (ns.getD who.toNat default):=rfl;rw[eR];have r1:=hr.2.1;refine⟨h.1,ab,ab,⟨0,⟨ab,ab⟩,aP⟩,?_⟩;rintro j ⟨j0,j1⟩;refine bT (λhj=>?_) (λhj=>?_)
  .refine⟨j0,hj,hr.2.2 _ (bR j0 hj),j0,hj,j+1,⟨ab,ab⟩,ab,?_⟩
   (repeat refine jp ?_);exact⟨r7 j0 hj,bv⟩
  refine⟨⟨0,_,⟨ab,ab,rfl⟩,aP⟩,?_⟩;clear hj j0 j1;rintro j t ⟨j0,j1,rfl⟩;have hok:=KC ok (at':=at') h.1 (by show who<(ns.length:Int);omega) j.toNat (by show j.toNat<=hs.length;omega)
  rw[show ((j.toNat:Nat):Int)=j by omega] at hok;have hc:=ok.c;refine bT (λhj=>?_) (λhj=>?_)
  .have st:=RD (n:=(ns,ls,hs)) (who:=who) (at':=at') j0 hj;refine⟨j0,hj,?_⟩
   (repeat (refine bX ?_;repeat refine bZ ?_));rw[uD];refine bT (λq=>?_) (λq=>?_)
   .refine⟨hok.s,hok.okL (by dsimp only at hc;omega),ok.s _ (bR j0 hj),j+1,_,⟨ab,ab,rfl⟩,ab,?_⟩
    (repeat refine jp ?_);refine⟨?_,bv⟩;rw[st];exact (am q).symm
   .refine⟨j+1,_,⟨ab,ab,rfl⟩,ab,?_⟩
    (repeat refine jp ?_);refine⟨?_,bv⟩;rw[st];exact (af q).symm
  .unfold d5;rw[af (by show ¬ (who<0∨(ns.length:Int)<=who);omega),show j=(hs.length:Int) by omega]
theorem OD:aB 49 N1.spec:=aF Tryz.func49 (av (av (av (av aC Df) S4) yh) Nf) XF YM
abbrev Kd:CT := .pair (.sl cI) (.pair (.sl cI) cI)
abbrev Way:Type:=ae×ae×Int
def yj(n:aQ)(a b:Int):Bool:=sJ n a&&sJ n b&&decide (uz n a=uz n b)
def Wp:Ct:=⟨[.agg ib,.val cP,.val cP],[.val .bool],λ_=>[],λd=>((yj d.1 d.2.1 d.2.2.1,()),())⟩
theorem Xq :
 ∀(a:List au)(b:List aK)(c:List aV)(d e:Int),((a.length<=maxLen/\ ∀(f:au),f∈a->CT.wf bU f)/\(b.length<=maxLen/\ ∀(f:aK),f∈b->CT.wf fU f)/\c.length<=maxLen/\ ∀(f:aV),f∈c->CT.wf fh f)/\(0<=d/\d<=4294967295)/\(0<=e/\e<=4294967295)/\True->True-> ∀(f:Bool),f=sJ (a,b,c) d->(ar f)/\ ∀(g:Bool),(g=bif f then sJ (a,b,c) e else false)->(g->(ar g)/\(ar g)/\True)/\(ar g)/\(bif g then decide (uz (a,b,c) d=uz (a,b,c) e) else false)=yj (a,b,c) d e:=by
  delta ar;rintro ns ls hs a b - -;intro b1 hb1
  (repeat refine⟨λh_=>(by first|(simp;done)|(simp[h_];done)|(simp_all;done)),?_⟩);intro b2 hb2
  (repeat refine⟨λh_=>(by first|(simp;done)|(simp[h_];done)|(simp_all;done)),?_⟩);rw[hb2,hb1];unfold yj;cases sJ (ns,ls,hs) a <;> cases sJ (ns,ls,hs) b <;> rfl
theorem ad8:aB 25 Wp.spec:=aF Tryz.func25 (av aC ZB) aT Xq
def Uz:Ct:=⟨[.agg dh],[.val .bool],λ_=>[],λd=>((decide (1<(d.1.2.1.length:Int)),()),())⟩
theorem Wh :
 ∀(a b:Int)(c:ae)(d:Int),(((0<=a/\a<=4294967295)/\aq b)/\(c.length<=maxLen/\ ∀(e:Int),e∈c->aq e)/\aq d)/\True->True->decide (1<(ac c))=decide (1<(ac c)):=by
  delta ac;rintro a b c e - -;rfl
theorem OA:aB 51 Uz.spec:=aF Tryz.func51 aC aT Wh
def gS(l:ae):Int:=l.getD (l.length-1) default
def uv(r:Rt)(seed:Int)(k:d6):Int:=if 1<r.2.1.length then (jk r.2.2 seed k 0 r.2.1.length).1 else 0
def qH(n:aQ)(k:d6)(here:Int)(x:au)(r:Rt)(ok:Bool)(w:Way):Way :=
 if dC x k.2.1=true then (w.1,w.2.1,1)
 else if iG x=true/\0<w.2.1.length then (w.1,w.2.1,5)
 else if ok=false∨r.2.1.length=0 then (w.1,w.2.1,2)
 else if 1<r.2.1.length/\r.2.2=3 then (w.1,w.2.1,4)
 else if 255<=w.2.1.length then (w.1,w.2.1,3)
 else (w.1++[fD n.2.1 (r.2.1.getD (uv r (rG x) k).toNat default) here],w.2.1++[r.2.1.getD (uv r (rG x) k).toNat default],0)
def lH(n:aQ)(at':Int)(k:d6)(w:Way):Way :=
 qH n k (gS w.1) (n.1.getD (gS w.1).toNat default) (bf (d5 n (gS w.1) at') k.2.1) (ia (d5 n (gS w.1) at') k.2.1) w
def ld(n:aQ)(at':Int)(k:d6):Nat->Way->Way
 | 0,w=>w
 | f+1,w=>if w.2.2=0 then ld n at' k f (lH n at' k w) else w
def lC(n:aQ)(at' who:Int)(k:d6):Way:=ld n at' k 257 ([who],[],0)
structure WN (n:aQ):Prop where
 o:okNet n
 x:∀ who at':Int,0<=who->who<n.1.length→∀ r∈d5 n who at',∀ k∈r.2.1,0<=fD n.2.1 k who/\fD n.2.1 k who<n.1.length
structure TI (n:aQ) (at' who:Int) (k:d6) (w:Way):Prop where
 l:w.1.length=w.2.1.length+1
 m:w.2.1.length<=255
 r:∀ x∈w.1,0<=x/\x<n.1.length
 e:ld n at' k (257-w.2.1.length) w=lC n at' who k
theorem F6{n:aQ}{at':Int}{k:d6}{w:Way}(h:w.2.2≠0):∀ f,ld n at' k f w=w
 | 0=>rfl
 | f+1=>by rw[ld,af h]
theorem TI.done{n:aQ}{at' who:Int}{k:d6}{w:Way}(h:TI n at' who k w)(he:w.2.2≠0):w=lC n at' who k:=by
 rw[← h.e,F6 he]
theorem TI.start{n:aQ}{at' who:Int}{k:d6}(w0:0<=who)(w1:who<n.1.length):TI n at' who k ([who],[],0) :=
 ⟨rfl,Nat.zero_le _,λx hx=>by rw[iI.1 hx];exact⟨w0,w1⟩,rfl⟩
theorem TI.stop{n:aQ}{at' who:Int}{k:d6}{ns ls:ae}(h:TI n at' who k (ns,ls,0)){e:Int}(he:e≠0)(hs:lH n at' k (ns,ls,0)=(ns,ls,e)):TI n at' who k (ns,ls,e):=by
 refine⟨h.l,h.m,h.r,?_⟩
 have hm:=h.m
 have k1:=h.e
 dsimp only at k1 hm ⊢
 rw[show 257-ls.length=(256-ls.length)+1 by omega,ld,am rfl,hs,F6 he] at k1
 rw[F6 he];exact k1
theorem TI.go{n:aQ}{at' who:Int}{k:d6}{ns ls:ae}(h:TI n at' who k (ns,ls,0))(hl:ls.length<255){o l:Int}(ho:0<=o/\o<n.1.length)(hs:lH n at' k (ns,ls,0)=(ns++[o],ls++[l],0)):TI n at' who k (ns++[o],ls++[l],0):=by
 have hll:=h.l
 have k1:=h.e
 dsimp only at k1 hll
 refine⟨by dsimp only;rw[cA,cA,hll];rfl,by dsimp only;rw[cA,gc];omega,λx hx=>?_,?_⟩
 .rcases dB.1 hx with hx|hx
  .exact h.r x hx
  .rw[iI.1 hx];exact ho
 .dsimp only;rw[show 257-ls.length=(256-ls.length)+1 by omega,ld,am rfl,hs] at k1;rw[cA,gc,show 257-(ls.length+1)=256-ls.length by omega];exact k1
theorem aL2{ns:ae}:ns.getD ((ns.length:Int)-1).toNat default=gS ns:=by
 unfold gS;rw[show ((ns.length:Int)-1).toNat=ns.length-1 by omega]
theorem Dd{ns:ae}(h:0<ns.length):gS ns∈ns:=by
 unfold gS;exact n6 (by omega)
theorem Tc{way seed c n:Int}{k:d6}(hn:1<=n)(hc:0<=c):0<=(jk way seed k c n).1/\(jk way seed k c n).1<n:=by
 have hr:∀ k,0<=(nU seed k).tmod n/\(nU seed k).tmod n<n:=λk=>⟨r5 (xI _ _).1,rY (xI _ _).1 ab⟩
 unfold jk
 split
 .exact⟨fZ _,by dsimp only;omega⟩
 .dsimp only;split
  .exact hr _
  .split
   .exact hr _
   .exact⟨r5 hc,rY hc ab⟩
theorem JX{r:Rt}{seed:Int}{k:d6}(h:0<r.2.1.length):0<=uv r seed k/\uv r seed k<r.2.1.length:=by
 unfold uv
 split
 .exact Tc ab ab
 .omega
theorem HU{l:List Rt}{a:Int}(h:ia l a=true):bf l a∈l:=by
 rw[T1] at h
 exact (au3 (aI h)).1
def PO:Ct:=⟨[.agg ib,.val cI,.val cI,.agg yg],[.agg Kd],λd=>[WN d.1,0<=d.2.2.1,d.2.2.1<d.1.1.length],λd=>((lC d.1 d.2.1 d.2.2.1 d.2.2.2.1,()),())⟩
def as7:bw PO.ps->ce:=(λd=>{loops:=(bp 2 (λS=>{ι:=ae×ae×Int,qn:=sf,μ:=λi=>2*(255-i.2.1.length)+(if i.2.2=0 then 1 else 0),inv:=λi=>TI d.1 d.2.1 d.2.2.1 d.2.2.2.1 (i.1,i.2.1,i.2.2),keep:=[1,4,7,8,9],slots:=λi=>[],keepN:=[80,128,144],names:=λi=>[(160,.live (.cells 61 [.own 524288 1,.own 524289 1,.int .i64 i.2.2])),(524288,.live (.row 3 cI i.1)),(524289,.live (.row 3 cI i.2.1))]}) cC)})
def uR(k:ae) :=
 ai k (aj ((ac k) -1))
def qM(a:List au)(b:List aK)(c:List aV)(d g:Int)(k:ae) :=
 bf (d5 (a,b,c) (uR k) d) g
def uI(a:List au)(b:List aK)(c:List aV)(d g:Int)(k:ae) :=
 ((length (qM a b c d g k).2.1):Int)
def vl(a:List au)(b:List aK)(c:List aV)(d f g h i j:Int)(k:ae) :=
 jk (qM a b c d g k).2.2 (ai a (k.getD (toNat (aj ((ac k) -1))) default)).2.2.2.2.2.2.2.2.2.2.2.2.2.2 (f,g,h,i,j) (0:Int) (uI a b c d g k)
def BH(l:ae)(m:Int)(r:ae)(s:Int) :=
 ((2:Nat)*((255:Nat) -r.length)+if s=0 then (1:Nat) else (0:Nat))<(2:Nat)*((255:Nat) -l.length)+if m=0 then (1:Nat) else (0:Nat)
theorem al0 :
 ∀(a:List au)(b:List aK)(c:List aV)(d e f g h i j:Int),((a.length<=maxLen/\ ∀(k:au),k∈a->CT.wf bU k)/\(b.length<=maxLen/\ ∀(k:aK),k∈b->CT.wf fU k)/\c.length<=maxLen/\ ∀(k:aV),k∈c->CT.wf fh k)/\aq d/\aq e/\((0<=f/\f<=4294967295)/\(0<=g/\g<=4294967295)/\aq h/\aq i/\aq j)/\True->WN (a,b,c)/\0<=e/\e+1<=(ac a)->(∃(k:ae) (l:ae),∃(m:Int),TI (a,b,c) d e (f,g,h,i,j) (k,l,m)/\d=d/\a=a/\b=b/\c=c/\f=f/\g=g/\h=h/\i=i/\j=j/\(0:Int)=0/\0=m/\[e]=k/\l=([]:ae)/\True)/\ ∀(k l:ae)(m:Int),TI (a,b,c) d e (f,g,h,i,j) (k,l,m)->ao (decide (m=0)) (0<=aj ((ac k) -1)/\aj ((ac k) -1)<(ac k)/\0<=ai k (aj ((ac k) -1))/\ai k (aj ((ac k) -1))<(ac a)/\okNet (a,b,c)/\cJ (d5 (a,b,c) (uR k) d)/\okL (d5 (a,b,c) (uR k) d)/\ao (dC (ai a (k.getD (toNat (aj ((ac k) -1))) default)) g) (∃(n:ae) (o:ae),∃(p:Int),TI
 (a,b,c) d e (f,g,h,i,j) (n,o,p)/\(((2:Nat)*((255:Nat) -o.length)+if p=0 then (1:Nat) else (0:Nat))<(2:Nat)*((255:Nat) -l.length)+if m=0 then (1:Nat) else (0:Nat))/\d=d/\a=a/\b=b/\c=c/\f=f/\g=g/\h=h/\i=i/\j=j/\(0:Int)=0/\1=p/\k=n/\l=o/\True) (∀(n:Bool),n=(ai a (k.getD (toNat (aj ((ac k) -1))) default)).2.2.2.1->(ah n)/\(ah n)/\(ah n)/\(ar n)/\ao (bif n then decide (0<(ac l)) else false) (∃(o:ae) (p:ae),∃(q:Int),TI (a,b,c) d e (f,g,h,i,j) (o,p,q)/\(((2:Nat)*((255:Nat) -p.length)+if q=0 then (1:Nat) else (0:Nat))<(2:Nat)*((255:Nat) -l.length)+if m=0 then (1:Nat) else (0:Nat))/\d=d/\a=a/\b=b/\c=c/\f=f/\g=g/\h=h/\i=i/\j=j/\(0:Int)=0/\5=q/\k=o/\l=p/\True) (∀(o:Bool),o= ! ia (d5 (a,b,c) (uR k) d) g->(ah (! o))/\(ah (! o))/\(ah (! o))/\(aE o)/\ao (bif o then true else decide ((uI a b c d g k)=0)) (∃(p:ae) (q:ae),∃(r:Int),TI (a,b,c) d e
 (f,g,h,i,j) (p,q,r)/\(((2:Nat)*((255:Nat) -q.length)+if r=0 then (1:Nat) else (0:Nat))<(2:Nat)*((255:Nat) -l.length)+if m=0 then (1:Nat) else (0:Nat))/\d=d/\a=a/\b=b/\c=c/\f=f/\g=g/\h=h/\i=i/\j=j/\(0:Int)=0/\2=r/\k=p/\l=q/\True) (∀(p:Bool),p=decide (1<(uI a b c d g k))->(ah p)/\(ah p)/\(ar p)/\ao (bif p then decide ((qM a b c d g k).2.2=3) else false) (∃(q:ae) (r:ae),∃(s:Int),TI (a,b,c) d e (f,g,h,i,j) (q,r,s)/\(BH l m r s)/\d=d/\a=a/\b=b/\c=c/\f=f/\g=g/\h=h/\i=i/\j=j/\(0:Int)=0/\4=s/\k=q/\l=r/\True) (ao (decide (255<=(ac l))) (∃(q:ae) (r:ae),∃(s:Int),TI (a,b,c) d e (f,g,h,i,j) (q,r,s)/\(BH l m r s)/\d=d/\a=a/\b=b/\c=c/\f=f/\g=g/\h=h/\i=i/\j=j/\(0:Int)=0/\3=s/\k=q/\l=r/\True) (ao (decide (1<(uI a b c d g k))) (0<=(vl a b c d f g h i j k).1/\(vl a b c d f g h i j k).1<(uI a b c d g k)/\(l.length+length [getD (qM a b c d g k).2.1
 (toNat (vl a b c d f g h i j k).1) default])*(8:Nat)<=(140737488355328:Nat)/\0<=(vl a b c d f g h i j k).1/\(vl a b c d f g h i j k).1<(uI a b c d g k)/\(k.length+length [fD b (getD (qM a b c d g k).2.1 (toNat (vl a b c d f g h i j k).1) default) (uR k)])*(8:Nat)<=(140737488355328:Nat)/\ ∃(q:ae) (r:ae),∃(s:Int),TI (a,b,c) d e (f,g,h,i,j) (q,r,s)/\(BH l m r s)/\d=d/\a=a/\b=b/\c=c/\f=f/\g=g/\h=h/\i=i/\j=j/\(0:Int)=0/\m=s/\k++[fD b (getD (qM a b c d g k).2.1 (toNat (vl a b c d f g h i j k).1) default) (uR k)]=q/\l++[getD (qM a b c d g k).2.1 (toNat (vl a b c d f g h i j k).1) default]=r/\True) ((0:Int)<=0/\0<(uI a b c d g k)/\(l.length+length [getD (qM a b c d g k).2.1 (toNat 0) default])*(8:Nat)<=(140737488355328:Nat)/\(0:Int)<=0/\0<(uI a b c d g k)/\(k.length+length [fD b
 (getD (qM a b c d g k).2.1 (toNat 0) default) (uR k)])*(8:Nat)<=(140737488355328:Nat)/\ ∃(q:ae) (r:ae),∃(s:Int),TI (a,b,c) d e (f,g,h,i,j) (q,r,s)/\(BH l m r s)/\d=d/\a=a/\b=b/\c=c/\f=f/\g=g/\h=h/\i=i/\j=j/\(0:Int)=0/\m=s/\k++[fD b (getD (qM a b c d g k).2.1 (toNat 0) default) (uR k)]=q/\l++[getD (qM a b c d g k).2.1 (toNat 0) default]=r/\True))))))) ((k,l,m)=lC (a,b,c) d e (f,g,h,i,j)):=by
  delta vl qM BH uR uI ah ar aE aj ai ac;rintro ns0 ls0 hs at' who a b c e f-⟨W,w0,w1⟩;refine⟨⟨_,_,_,TI.start w0 (by show who<(ns0.length:Int);omega),(by repeat' first|exact trivial|refine⟨trivial,?_⟩|refine⟨(by with_reducible rfl),?_⟩|refine⟨aG (by omega) (by omega),?_⟩|refine⟨rfl,?_⟩)⟩,?_⟩;rintro ns ls e1 I;refine aw (λh=>?_) (λh=>I.done (aL h));have h:=aI h;subst h;have hl:=I.l;have hm:=I.m;dsimp only at hl hm;rw[aG (n:=(ns.length:Int)-1) (by omega) (by omega),aL2];have hr:=I.r _ (Dd (ns:=ns) (by omega));have eS:lH (ns0,ls0,hs) at' (a,b,c,e,f) (ns,ls,0)=qH (ns0,ls0,hs) (a,b,c,e,f) (gS ns) (ns0.getD (gS ns).toNat default) (bf (d5 (ns0,ls0,hs) (gS ns) at') b) (ia (d5 (ns0,ls0,hs) (gS ns) at') b) (ns,ls,0):=rfl;have tb:=Mt W.o (gS ns) at';have nx:=W.x (gS ns) at' hr.1 hr.2;have lm:=HU (l:=d5 (ns0,ls0,hs) (gS ns) at') (a:=b);generalize gS ns=q at *
  generalize d5 (ns0,ls0,hs) q at'=T at *;generalize bf T b=r at *;generalize ia T b=ok at *;generalize ns0.getD q.toNat default=X at *;unfold qH at eS;refine⟨by omega,by omega,hr.1,hr.2,W.o,tb.s,tb.okL (by decide),?_⟩;refine aw (λh=>?_) (λh=>?_)
  .rw[am h] at eS;exact⟨_,_,_,I.stop (by decide) eS,by simp,(by repeat' first|exact trivial|refine⟨trivial,?_⟩|refine⟨(by with_reducible rfl),?_⟩|refine⟨aG (by omega) (by omega),?_⟩|refine⟨rfl,?_⟩)⟩
  rw[af (by rw[h];decide)] at eS
  (repeat (intro (b_:Bool) (hb_:b_=_);(repeat refine⟨(by first|(simp;done)|(rw[hb_];simp;done)|(rw[hb_];simp;omega)|(rw[hb_];simp;intros;omega)|(rw[hb_];simp +contextual;done)),?_⟩);subst hb_));refine aw (λh1=>?_) (λh1=>?_)
  .have h1:iG X=true/\0<ls.length:=by
    rw[show X.2.2.2.1=iG X from rfl] at h1;cases hh:iG X <;> rw[hh] at h1
    .cases h1
    .exact⟨rfl,by have:=aI h1;omega⟩
   rw[am h1] at eS;exact⟨_,_,_,I.stop (by decide) eS,by simp,(by repeat' first|exact trivial|refine⟨trivial,?_⟩|refine⟨(by with_reducible rfl),?_⟩|refine⟨aG (by omega) (by omega),?_⟩|refine⟨rfl,?_⟩)⟩
  have h1:¬ (iG X=true/\0<ls.length):=by
   rintro⟨k1,k2⟩;rw[show X.2.2.2.1=iG X from rfl,k1,cond_true,cM (by omega)] at h1;cases h1
  rw[af h1] at eS
  (repeat (intro (b_:Bool) (hb_:b_=_);(repeat refine⟨(by first|(simp;done)|(rw[hb_];simp;done)|(rw[hb_];simp;omega)|(rw[hb_];simp;intros;omega)|(rw[hb_];simp +contextual;done)),?_⟩);subst hb_));refine aw (λh2=>?_) (λh2=>?_)
  .have h2:ok=false∨r.2.1.length=0:=by
    cases ok
    .exact .inl rfl
    .exact .inr (by have:=aI h2;omega)
   rw[am h2] at eS;exact⟨_,_,_,I.stop (by decide) eS,by simp,(by repeat' first|exact trivial|refine⟨trivial,?_⟩|refine⟨(by with_reducible rfl),?_⟩|refine⟨aG (by omega) (by omega),?_⟩|refine⟨rfl,?_⟩)⟩
  have h2:¬ (ok=false∨r.2.1.length=0):=by
   rintro (k|k)
   .rw[k] at h2;cases h2
   .rw[cM (show (r.2.1.length:Int)=0 by omega)] at h2;cases ok <;> cases h2
  rw[af h2] at eS
  (repeat (intro (b_:Bool) (hb_:b_=_);(repeat refine⟨(by first|(simp;done)|(rw[hb_];simp;done)|(rw[hb_];simp;omega)|(rw[hb_];simp;intros;omega)|(rw[hb_];simp +contextual;done)),?_⟩);subst hb_));rw[uD];refine aw (λh3=>?_) (λh3=>?_)
  .have h3:=aI h3;rw[am (show 1<r.2.1.length/\r.2.2=3 from ⟨by omega,h3.2⟩)] at eS;exact⟨_,_,_,I.stop (by decide) eS,by simp,(by repeat' first|exact trivial|refine⟨trivial,?_⟩|refine⟨(by with_reducible rfl),?_⟩|refine⟨aG (by omega) (by omega),?_⟩|refine⟨rfl,?_⟩)⟩
  have h3:=aL h3;rw[af (show ¬ (1<r.2.1.length/\r.2.2=3) from λk=>h3 ⟨by omega,k.2⟩)] at eS;refine aw (λh4=>?_) (λh4=>?_)
  .have h4:=aI h4;rw[am (show 255<=ls.length by omega)] at eS;exact⟨_,_,_,I.stop (by decide) eS,by simp,(by repeat' first|exact trivial|refine⟨trivial,?_⟩|refine⟨(by with_reducible rfl),?_⟩|refine⟨aG (by omega) (by omega),?_⟩|refine⟨rfl,?_⟩)⟩
  have h4:=aL h4;rw[af (show ¬ 255<=ls.length by omega)] at eS;have hok:ok=true:=by
   cases ok
   .exact absurd (.inl rfl) h2
   .rfl
  have hlen:0<r.2.1.length:=by
   have:¬ r.2.1.length=0:=λk=>h2 (.inr k);omega
  have pr:=JX (r:=r) (seed:=rG X) (k:=(a,b,c,e,f)) hlen;have nk:=nx r (lm hok) _ (bR pr.1 pr.2);have goal:=I.go (by omega) nk eS;unfold uv at goal pr;refine aw (λh5=>?_) (λh5=>?_)
  .have h5:=aI h5;rw[am (show 1<r.2.1.length by omega)] at goal pr;exact⟨pr.1,pr.2,by simp only[gc];omega,pr.1,pr.2,by simp only[gc];omega,_,_,_,goal,Nat.add_lt_add_right (by simp only[cA,gc];omega) _,(by repeat' first|exact trivial|refine⟨trivial,?_⟩|refine⟨(by with_reducible rfl),?_⟩|refine⟨aG (by omega) (by omega),?_⟩|refine⟨rfl,?_⟩)⟩
  .have h5:=aL h5;rw[af (show ¬ 1<r.2.1.length by omega)] at goal pr;exact⟨pr.1,pr.2,by simp only[gc];omega,pr.1,pr.2,by simp only[gc];omega,_,_,_,goal,Nat.add_lt_add_right (by simp only[cA,gc];omega) _,(by repeat' first|exact trivial|refine⟨trivial,?_⟩|refine⟨(by with_reducible rfl),?_⟩|refine⟨aG (by omega) (by omega),?_⟩|refine⟨rfl,?_⟩)⟩
theorem Rb:aB 16 PO.spec:=aF Tryz.func16 (av (av (av (av (av (av aC OD) HF) HA) OA) Q8) O3) as7 al0
def AB(s t:Int)(l:ae)(c:aV):ae:=if s<fc c/\fc c<=t/\gS l<fc c then l++[fc c] else l
theorem aI7{s t:Int}{l:ae}{c:aV}(h:0<l.length):0<(AB s t l c).length:=by
 unfold AB;split
 .simp
 .exact h
structure WI (n:aQ) (w:Way):Prop where
 l:w.1.length=w.2.1.length+1
 m:w.2.1.length<=255
 r:∀ x∈w.1,0<=x/\x<n.1.length
theorem WI.step{n:aQ}(W:WN n){at':Int}{k:d6}{w:Way}(h:WI n w):WI n (lH n at' k w):=by
 have hl:=h.l
 have hr:=h.r _ (Dd (ns:=w.1) (by omega))
 have lm:=HU (l:=d5 n (gS w.1) at') (a:=k.2.1)
 have nx:=W.x (gS w.1) at' hr.1 hr.2
 unfold lH qH
 split
 .exact⟨h.l,h.m,h.r⟩
 split
 .exact⟨h.l,h.m,h.r⟩
 split
 .exact⟨h.l,h.m,h.r⟩
 rename_i h2
 split
 .exact⟨h.l,h.m,h.r⟩
 split
 .exact⟨h.l,h.m,h.r⟩
 rename_i h4
 have hok:ia (d5 n (gS w.1) at') k.2.1=true:=by
  cases hh:ia (d5 n (gS w.1) at') k.2.1
  .exact absurd (.inl hh) h2
  .rfl
 have pr:=JX (r:=bf (d5 n (gS w.1) at') k.2.1) (seed:=rG (n.1.getD (gS w.1).toNat default)) (k:=k) (by
  have:¬ (bf (d5 n (gS w.1) at') k.2.1).2.1.length=0:=λe=>h2 (.inr e);omega)
 have ho:=nx _ (lm hok) _ (bR pr.1 pr.2)
 refine⟨by dsimp only;rw[cA,cA,hl];rfl,by dsimp only;rw[cA,gc];omega,λx hx=>?_⟩
 rcases dB.1 hx with hx|hx
 .exact h.r x hx
 .rw[iI.1 hx];exact ho
theorem WI.run{n:aQ}(W:WN n){at':Int}{k:d6}:∀(f:Nat){w:Way},WI n w->WI n (ld n at' k f w)
 | 0,w,h=>h
 | f+1,w,h=>by
  rw[ld];split
  .exact WI.run W f (h.step W)
  .exact h
def na(n:aQ)(w:Way)(i:Nat):Bool:=dI (n.1.getD (w.1.getD i default).toNat default)
def cX(n:aQ)(w:Way):Nat->Int
 | 0=>0
 | i+1=>cX n w i+(if 1<=i/\na n w i=false then 1 else 0)
def jV(n:aQ)(w:Way)(ttl:Int)(i:Nat):Bool:=(decide (i+1=w.1.length)&&decide (w.2.2=1))||(!na n w i&&decide (cX n w i+1=ttl))
def wY(n:aQ)(w:Way)(ttl:Int):Nat:=(range (w.1.length-1)).findIdx λj=>jV n w ttl (j+1)
def iz(n:aQ)(w:Way)(ttl:Int):Bool:=decide (1<=ttl/\ttl<=255)&&decide (wY n w ttl<w.1.length-1)
def iF(n:aQ)(w:Way)(ttl:Int):Int:=if iz n w ttl=true then (wY n w ttl:Int)+1 else 0
def B2(n:aQ)(w:Way):Prop:=∀ x∈w.1,0<=x/\x<n.1.length
theorem u4(n:aQ)(w:Way):∀ i,0<=cX n w i
 | 0=>fZ _
 | i+1=>by
  have:=u4 n w i;rw[cX];split <;> omega
theorem HM{n:aQ}{w:Way}{ttl i:Int}(t1:1<=ttl)(t2:ttl<=255)(i1:1<=i)(i2:i<w.1.length)(hj:∀ j:Nat,1<=j->(j:Int)<i->jV n w ttl j=false)(hs:jV n w ttl i.toNat=true):i=iF n w ttl/\true=iz n w ttl:=by
 have hl:i.toNat-1<(range (w.1.length-1)).length:=by rw[List.length_range];omega
 have e:wY n w ttl=i.toNat-1:=by
  unfold wY;refine (List.findIdx_eq hl).2 ⟨?_,λj hj'=>?_⟩
  .rw[List.getElem_range,show i.toNat-1+1=i.toNat by omega];exact hs
  .rw[List.getElem_range];exact hj (j+1) ab ab
 have eB:iz n w ttl=true:=by
  unfold iz;rw[e,cM ⟨t1,t2⟩,cM (show i.toNat-1<w.1.length-1 by omega)];rfl
 refine⟨?_,eB.symm⟩
 unfold iF
 rw[am eB,e];omega
theorem OP{n:aQ}{w:Way}{ttl:Int}(h:∀ j:Nat,1<=j->(j:Int)<w.1.length->jV n w ttl j=false):0=iF n w ttl/\false=iz n w ttl:=by
 have e:wY n w ttl=(range (w.1.length-1)).length:=by
  unfold wY;refine List.findIdx_eq_length_of_false λj hj=>?_;have:=List.mem_range.1 hj;exact h (j+1) ab ab
 have eB:iz n w ttl=false:=by
  unfold iz;rw[e,List.length_range,dP (Nat.lt_irrefl _),Bool.and_false]
 refine⟨?_,eB.symm⟩
 unfold iF
 rw[af (by rw[eB];decide)]
theorem Wk{n:aQ}{w:Way}{ttl:Int}(h:ttl<1∨255<ttl):0=iF n w ttl/\false=iz n w ttl:=by
 have eB:iz n w ttl=false:=by
  unfold iz;rw[dP ab,Bool.false_and]
 refine⟨?_,eB.symm⟩
 unfold iF
 rw[af (by rw[eB];decide)]
theorem am9{n:aQ}{w:Way}{ttl i:Int}(i0:0<=i)(h:i=(w.1.length:Int)-1/\w.2.2=1):jV n w ttl i.toNat=true:=by
 unfold jV
 rw[cM (show i.toNat+1=w.1.length by omega),cM h.2];rfl
theorem Mo{n:aQ}{w:Way}{ttl:Int}{i:Nat}(ho:na n w i=false)(h:cX n w i+1=ttl):jV n w ttl i=true:=by
 unfold jV
 rw[ho,cM h];simp
theorem CZ{n:aQ}{w:Way}{ttl i:Int}(i0:0<=i)(h:¬ (i=(w.1.length:Int)-1/\w.2.2=1))(k:na n w i.toNat=true∨¬ cX n w i.toNat+1=ttl):jV n w ttl i.toNat=false:=by
 unfold jV
 rw[Bool.or_eq_false_iff,Bool.and_eq_false_iff,Bool.and_eq_false_iff,pn,pn,pn]
 refine⟨?_,k.imp (λh=>by rw[h];rfl) id⟩
 by_cases e:i.toNat+1=w.1.length
 .exact .inr λh2=>h ⟨ab,h2⟩
 .exact .inl e
theorem WP{n:aQ}{w:Way}{i:Int}(i1:1<=i):cX n w (i+1).toNat=cX n w i.toNat+(if na n w i.toNat=false then 1 else 0):=by
 rw[show (i+1).toNat=i.toNat+1 by omega,cX]
 by_cases h:na n w i.toNat=false
 .rw[am h,am ⟨ab,h⟩]
 .rw[af h,af λk=>h k.2]
theorem Rk{n:aQ}{w:Way}{ttl i:Int}(hj:∀ j:Nat,1<=j->(j:Int)<i->jV n w ttl j=false)(i1:1<=i)(h:jV n w ttl i.toNat=false):∀ j:Nat,1<=j->(j:Int)<i+1->jV n w ttl j=false:=λj j1 j2=>by
 by_cases e:(j:Int)<i
 .exact hj j j1 e
 .rw[show j=i.toNat by omega];exact h
def PS:Ct:=⟨[.agg ib,.agg Kd,.val cI],[.val cI,.val .bool],λd=>[B2 d.1 d.2.1],λd=>((iF d.1 d.2.1 d.2.2.1,iz d.1 d.2.1 d.2.2.1,()),())⟩
def Yw:bw PS.ps->ce:=(λd=>{loops:=(bp 5 (λS=>{ι:=Int×Int,qn:=ft,μ:=λi=>(d.2.1.1.length-i.1).toNat,inv:=λi=>1<=i.1/\(i.1=1∨i.1<=d.2.1.1.length)/\i.2=d.2.2.1-cX d.1 d.2.1 i.1.toNat/\1<=i.2∧∀ j:Nat,1<=j->(j:Int)<i.1->jV d.1 d.2.1 d.2.2.1 j=false,keep:=[3,4,8],slots:=λi=>[(2,.int .i64 i.2),(9,.int .i64 i.1)],keepN:=[64,80]}) cC)})
theorem aW0 :
 ∀(a:List au)(b:List aK)(c:List aV)(d e:ae)(f g:Int),((a.length<=maxLen/\ ∀(h:au),h∈a->CT.wf bU h)/\(b.length<=maxLen/\ ∀(h:aK),h∈b->CT.wf fU h)/\c.length<=maxLen/\ ∀(h:aV),h∈c->CT.wf fh h)/\((d.length<=maxLen/\ ∀(h:Int),h∈d->aq h)/\(e.length<=maxLen/\ ∀(h:Int),h∈e->aq h)/\aq f)/\aq g/\True->(∀(h:Int),h∈d->0<=h/\h<(ac a))-> ∀(h:Bool),h=decide (g<1)->(ah (! h))/\(aE h)/\ao (bif h then true else decide (255<g)) (0=iF (a,b,c) (d,e,f) g/\false=iz (a,b,c) (d,e,f) g) ((∃(i:Int) (j:Int),(1<=i/\(i=1∨i<=(ac d))/\j=g -cX (a,b,c) (d,e,f) i.toNat/\1<=j/\ ∀(k:Nat),(1:Nat)<=k->(↑k:Int)<i->jV (a,b,c) (d,e,f) g k=false)/\g=j/\aj ((ac d) -1)=aj ((ac d) -1)/\1=i/\a=a/\b=b/\c=c/\d=d/\e=e/\f=f/\True)/\ ∀(i j:Int),(1<=i/\(i=1∨i<=(ac d))/\j=g -cX (a,b,c) (d,e,f) i.toNat/\1<=j/\ ∀(k:Nat),(1:Nat)<=k->(↑k:Int)<i->jV (a,b,c) (d,e,f) g k=false)->ao
 (decide (i<=aj ((ac d) -1))) (∀(k:Bool),k=decide (i=aj ((ac d) -1))->(ah k)/\(ah k)/\(ar k)/\ao (bif k then decide (f=1) else false) (i=iF (a,b,c) (d,e,f) g/\true=iz (a,b,c) (d,e,f) g) (0<=i/\i<(ac d)/\0<=ai d i/\ai d i<(ac a)/\ao (! (ai a (ai d i)).2.2.2.2.2.2.2.2.2.2.2.2.1) (ao (decide (aj (j -1)=0)) (i=iF (a,b,c) (d,e,f) g/\true=iz (a,b,c) (d,e,f) g) (∃(l:Int) (m:Int),(1<=l/\(l=1∨l<=(ac d))/\m=g -cX (a,b,c) (d,e,f) l.toNat/\1<=m/\ ∀(n:Nat),(1:Nat)<=n->(↑n:Int)<l->jV (a,b,c) (d,e,f) g n=false)/\toNat ((ac d) -l)<toNat ((ac d) -i)/\aj (j -1)=m/\aj ((ac d) -1)=aj ((ac d) -1)/\aj (i+1)=l/\a=a/\b=b/\c=c/\d=d/\e=e/\f=f/\True)) (ao (decide (j=0)) (i=iF (a,b,c) (d,e,f) g/\true=iz (a,b,c) (d,e,f) g) (∃(l:Int) (m:Int),(1<=l/\(l=1∨l<=(ac d))/\m=g -cX (a,b,c) (d,e,f) l.toNat/\1<=m/\ ∀(n:Nat),(1:Nat)<=n->(↑n:Int)<l->jV (a,b,c) (d,e,f) g
 n=false)/\toNat ((ac d) -l)<toNat ((ac d) -i)/\j=m/\aj ((ac d) -1)=aj ((ac d) -1)/\aj (i+1)=l/\a=a/\b=b/\c=c/\d=d/\e=e/\f=f/\True)))) (0=iF (a,b,c) (d,e,f) g/\false=iz (a,b,c) (d,e,f) g)):=by
  delta ah ar aE aj ai ac;rintro ns ls hs u v e ttl ⟨-,⟨⟨hu,-⟩,-⟩,-⟩ hw;simp only[maxLen] at hu
  (repeat (refine bX ?_;repeat refine bZ ?_));rw[kV,aG (n:=(u.length:Int)-1) ab ab];refine aw (λh=>Wk (aI h)) (λh=>?_);have h:=aL h;refine⟨⟨1,ttl,⟨ab,.inl rfl,by show ttl=ttl-cX _ _ 1;rw[show cX (ns,ls,hs) (u,v,e) 1=0 from rfl];omega,ab,λj j1 j2=>ab⟩,aP⟩,?_⟩;rintro i t ⟨i1,i2,ht,t1,hj⟩;have sn:=u4 (ns,ls,hs) (u,v,e) i.toNat
  rw[aG (n:=t-1) ab ab];refine aw (λhi=>?_) (λhi=>?_)
  rotate_left
  .have hi:=aL hi;exact OP λj j1 j2=>hj j j1 (by dsimp only at j2;omega)
  have hi:=aI hi;have sx:=WP (n:=(ns,ls,hs)) (w:=(u,v,e)) i1
  (repeat (refine bX ?_;repeat refine bZ ?_));rw[uD];refine aw (λh1=>?_) (λh1=>?_)
  .have h1:=aI h1;exact HM ab ab i1 (by show i<(u.length:Int);omega) hj (am9 ab h1)
  have h1:=aL h1;have hr:=hw _ (bR (xs:=u) (i:=i) ab ab);refine⟨ab,ab,hr.1,hr.2,?_⟩;have eo:na (ns,ls,hs) (u,v,e) i.toNat=(ns.getD (u.getD i.toNat default).toNat default).2.2.2.2.2.2.2.2.2.2.2.2.1:=rfl;rw[← eo];refine aw (λh2=>?_) (λh2=>?_)
  .have h2:na (ns,ls,hs) (u,v,e) i.toNat=false:=by simpa using h2
   rw[am h2] at sx;refine bT (λh3=>?_) (λh3=>?_)
   .exact HM ab ab i1 (by show i<(u.length:Int);omega) hj (Mo h2 ab)
   .refine⟨i+1,_,⟨ab,.inr ab,rfl,ab,Rk hj i1 (CZ ab h1 (.inr ab))⟩,ab,?_⟩;refine⟨ab,?_⟩;exact aP
  .have h2:na (ns,ls,hs) (u,v,e) i.toNat=true:=by simpa using h2
   rw[af (by rw[h2];decide)] at sx;refine bT (λh3=>?_) (λh3=>?_)
   .have:=h3;omega
   .refine⟨i+1,t,⟨ab,.inr ab,ab,ab,Rk hj i1 (CZ ab h1 (.inl h2))⟩,ab,aP⟩
theorem an3:aB 20 PS.spec:=aF Tryz.func20 aC Yw aW0
def pe(x:au)(k:Int):Int:=if 0<=cu x k then ((ay x).getD (cu x k).toNat default).1 else 0
def wO(n:aQ)(at':Int)(w:Way)(i to:Int):Rt:=bf (d5 n (w.1.getD i.toNat default) at') to
def lw(n:aQ)(at':Int)(w:Way)(i to:Int):Bool :=
 if i<1∨(w.1.length:Int)<=i∨(w.2.1.length:Int)<i then false
 else if j4 (n.1.getD (w.1.getD i.toNat default).toNat default)=true∨ia (d5 n (w.1.getD i.toNat default) at') to=false∨(wO n at' w i to).2.1.length=0 then false
 else if fX (n.1.getD (w.1.getD i.toNat default).toNat default)=3 then true
 else if fX (n.1.getD (w.1.getD i.toNat default).toNat default)=4 then true
 else if fX (n.1.getD (w.1.getD i.toNat default).toNat default)=1 then decide (0<=cu (n.1.getD (w.1.getD i.toNat default).toNat default) (w.2.1.getD (i-1).toNat default))
 else if 1<(wO n at' w i to).2.1.length then false
 else decide (0<=cu (n.1.getD (w.1.getD i.toNat default).toNat default) ((wO n at' w i to).2.1.getD 0 default))
def nT(n:aQ)(at':Int)(w:Way)(i to:Int):Int :=
 if lw n at' w i to=false then 0
 else if fX (n.1.getD (w.1.getD i.toNat default).toNat default)=3 then fA (n.1.getD (w.1.getD i.toNat default).toNat default)
 else if fX (n.1.getD (w.1.getD i.toNat default).toNat default)=4 then oD (n.1.getD (w.1.getD i.toNat default).toNat default)
 else if fX (n.1.getD (w.1.getD i.toNat default).toNat default)=1 then pe (n.1.getD (w.1.getD i.toNat default).toNat default) (w.2.1.getD (i-1).toNat default)
 else pe (n.1.getD (w.1.getD i.toNat default).toNat default) ((wO n at' w i to).2.1.getD 0 default)
def WA:Ct:=⟨[.val cI,.box 92 bU],[.val cP,.val .bool],λd=>[],λd=>((pe d.2.1 d.1,decide (0<=cu d.2.1 d.1),()),(d.2.1,()))⟩
theorem aX7 :
 ∀(a:Int)(b:au),aq a/\CT.wf bU b/\True->True->ao (decide (cu b a<0)) (0=pe b a/\false=decide (0<=cu b a)/\b=b) (0<=cu b a/\cu b a<(ac b.1)/\(getD b.1 (toNat (cu b a)) default).1=pe b a/\true=decide (0<=cu b a)/\b=b):=by
  delta ac;rintro k d - -;unfold pe;refine bT (λh=>?_) (λh=>?_)
  .rw[af ab,dP ab];exact⟨rfl,rfl,rfl⟩
  .have hl:cu d k<(ay d).length:=by
    unfold cu gX;split <;> omega
   rw[am ab,cM ab];exact⟨ab,hl,rfl,rfl,rfl⟩
theorem an6:aB 54 WA.spec:=aF Tryz.func54 (av aC Bm) aT aX7
theorem ay4{n:aQ}{at':Int}{w:Way}{i to:Int}(h:lw n at' w i to=false):0=nT n at' w i to/\false=lw n at' w i to:=by
 refine⟨?_,h.symm⟩
 unfold nT;rw[am h]
def WG:Ct:=⟨[.agg ib,.val cI,.agg Kd,.val cI,.val cP],[.val cP,.val .bool],λd=>[okNet d.1,B2 d.1 d.2.2.1],λd=>((nT d.1 d.2.1 d.2.2.1 d.2.2.2.1 d.2.2.2.2.1,lw d.1 d.2.1 d.2.2.1 d.2.2.2.1 d.2.2.2.2.1,()),())⟩
theorem YH :
 ∀(a:List au)(b:List aK)(c:List aV)(d:Int)(e f:ae)(g h i:Int),((a.length<=maxLen/\ ∀(j:au),j∈a->CT.wf bU j)/\(b.length<=maxLen/\ ∀(j:aK),j∈b->CT.wf fU j)/\c.length<=maxLen/\ ∀(j:aV),j∈c->CT.wf fh j)/\aq d/\((e.length<=maxLen/\ ∀(j:Int),j∈e->aq j)/\(f.length<=maxLen/\ ∀(j:Int),j∈f->aq j)/\aq g)/\aq h/\(0<=i/\i<=4294967295)/\True->(okNet (a,b,c)/\ ∀(j:Int),j∈e->0<=j/\j<(ac a))-> ∀(j:Bool),j=decide (h<1)->(ah (! j))/\(ah (! j))/\((! j)->(ar (! j))/\(ar (! j))/\True)/\(aE j)/\ ∀(k:Bool),(k=bif j then true else decide ((ac e)<=h))->(ah (! k))/\(ah (! k))/\((! k)->(ar (! k))/\(ar (! k))/\True)/\(aE k)/\ao (bif k then true else decide ((ac f)<h)) (0=nT (a,b,c) d (e,f,g) h i/\false=lw (a,b,c) d (e,f,g) h i) (0<=h/\h<(ac e)/\0<=ai e h/\ai e h<(ac a)/\0<=h/\h<(ac e)/\okNet (a,b,c)/\cJ (d5 (a,b,c) (ai e h) d)/\okL (d5
 (a,b,c) (ai e h) d)/\ ∀(l:Bool),l=(ai a (ai e h)).2.2.2.2.2.2.2.2.2.2.2.1->(ah (! l))/\(aE l)/\ ∀(m:Bool),(m=bif l then true else ! ia (d5 (a,b,c) (ai e h) d) i)->(ah (! m))/\(ah (! m))/\(ah (! m))/\(aE m)/\ao (bif m then true else decide (((length (bf (d5 (a,b,c) (ai e h) d) i).2.1):Int)=0)) (0=nT (a,b,c) d (e,f,g) h i/\false=lw (a,b,c) d (e,f,g) h i) (ao (decide ((ai a (ai e h)).2.2.2.2.2.1=3)) ((ai a (ai e h)).2.1=nT (a,b,c) d (e,f,g) h i/\true=lw (a,b,c) d (e,f,g) h i) (ao (decide ((ai a (ai e h)).2.2.2.2.2.1=4)) ((ai a (ai e h)).2.2.2.2.2.2.1=nT (a,b,c) d (e,f,g) h i/\true=lw (a,b,c) d (e,f,g) h i) (ao (decide ((ai a (ai e h)).2.2.2.2.2.1=1)) (0<=aj (h -1)/\aj (h -1)<(ac f)/\pe (ai a (ai e h)) (ai f (aj (h -1)))=nT (a,b,c) d (e,f,g) h i/\decide (0<=cu (ai a (ai e h)) (ai f (aj (h -1))))=lw (a,b,c) d
 (e,f,g) h i) (ao (decide (1<((length (bf (d5 (a,b,c) (ai e h) d) i).2.1):Int))) (0=nT (a,b,c) d (e,f,g) h i/\false=lw (a,b,c) d (e,f,g) h i) ((0:Int)<=0/\0<((length (bf (d5 (a,b,c) (ai e h) d) i).2.1):Int)/\pe (ai a (ai e h)) (getD (bf (d5 (a,b,c) (ai e h) d) i).2.1 (toNat 0) default)=nT (a,b,c) d (e,f,g) h i/\decide (0<=cu (ai a (ai e h)) (getD (bf (d5 (a,b,c) (ai e h) d) i).2.1 (toNat 0) default))=lw (a,b,c) d (e,f,g) h i)))))):=by
  delta ah ar aE aj ai ac;rintro ns ls hs at' u v e i to ⟨-,⟨i0,i1⟩,⟨⟨hu,-⟩,⟨hv,-⟩,-⟩,-⟩⟨ok,hw⟩;simp only[maxLen] at hu hv
  (repeat (refine bX ?_;repeat refine bZ ?_));rw[kV,kV];have out:(i<1∨(u.length:Int)<=i)∨(v.length:Int)<i->lw (ns,ls,hs) at' (u,v,e) i to=false:=λh=>by
   unfold lw;rw[am (by dsimp only;omega)]
  refine aw (λh=>ay4 (out (aI h))) (λh=>?_);clear out;have h:=aL h;have hr:=hw _ (bR (xs:=u) (i:=i) ab ab);have tb:=Mt ok (u.getD i.toNat default) at';rw[aG (n:=i-1) ab ab];have eK:lw (ns,ls,hs) at' (u,v,e) i to=(if j4 (ns.getD (u.getD i.toNat default).toNat default)=true∨ia (d5 (ns,ls,hs) (u.getD i.toNat default) at') to=false∨(bf (d5 (ns,ls,hs) (u.getD i.toNat default) at') to).2.1.length=0 then false
   else if fX (ns.getD (u.getD i.toNat default).toNat default)=3 then true
   else if fX (ns.getD (u.getD i.toNat default).toNat default)=4 then true
   else if fX (ns.getD (u.getD i.toNat default).toNat default)=1 then decide (0<=cu (ns.getD (u.getD i.toNat default).toNat default) (v.getD (i-1).toNat default))
   else if 1<(bf (d5 (ns,ls,hs) (u.getD i.toNat default) at') to).2.1.length then false
   else decide (0<=cu (ns.getD (u.getD i.toNat default).toNat default) ((bf (d5 (ns,ls,hs) (u.getD i.toNat default) at') to).2.1.getD 0 default))):=by
   unfold lw wO;rw[af (by dsimp only;omega)]
  have eV:nT (ns,ls,hs) at' (u,v,e) i to=(if lw (ns,ls,hs) at' (u,v,e) i to=false then 0
   else if fX (ns.getD (u.getD i.toNat default).toNat default)=3 then fA (ns.getD (u.getD i.toNat default).toNat default)
   else if fX (ns.getD (u.getD i.toNat default).toNat default)=4 then oD (ns.getD (u.getD i.toNat default).toNat default)
   else if fX (ns.getD (u.getD i.toNat default).toNat default)=1 then pe (ns.getD (u.getD i.toNat default).toNat default) (v.getD (i-1).toNat default)
   else pe (ns.getD (u.getD i.toNat default).toNat default) ((bf (d5 (ns,ls,hs) (u.getD i.toNat default) at') to).2.1.getD 0 default)):=rfl
  refine⟨ab,ab,hr.1,hr.2,ab,ab,ok,tb.s,tb.okL bt,?_⟩;rw[eV];generalize lw (ns,ls,hs) at' (u,v,e) i to=K at eK ⊢;generalize ia (d5 (ns,ls,hs) (u.getD i.toNat default) at') to=lb at *;generalize bf (d5 (ns,ls,hs) (u.getD i.toNat default) at') to=r at *;generalize ns.getD (u.getD i.toNat default).toNat default=X at *;intro b hb
  (repeat refine⟨λh_=>(by first|(simp;done)|(simp[h_];done)|(simp_all;done)),?_⟩);intro b2 hb2
  (repeat refine⟨λh_=>(by first|(simp;done)|(simp[h_];done)|(simp_all;done)),?_⟩);have tot:(bif b2 then true else decide ((r.2.1.length:Int)=0))=decide (j4 X=true∨lb=false∨r.2.1.length=0):=by
   rw[hb2,hb,show X.2.2.2.2.2.2.2.2.2.2.2.1=j4 X from rfl];cases j4 X <;> cases lb <;> by_cases hz:r.2.1.length=0 <;> simp[hz]
  rw[tot];refine aw (λh1=>?_) (λh1=>?_)
  .rw[am (aI h1)] at eK;rw[eK,am rfl];exact⟨rfl,rfl⟩
  have h1:=aL h1;rw[af h1] at eK;have hlen:0<r.2.1.length:=by
   have:¬ r.2.1.length=0:=λk=>h1 (.inr (.inr k));omega
  refine aw (λh2=>?_) (λh2=>?_)
  .rw[am (show fX X=3 from aI h2)] at eK;rw[eK,af bt,am (show fX X=3 from aI h2)];exact⟨rfl,rfl⟩
  have h2:¬ fX X=3:=aL h2;rw[af h2] at eK ⊢;refine aw (λh3=>?_) (λh3=>?_)
  .rw[am (show fX X=4 from aI h3)] at eK;rw[eK,af bt,am (show fX X=4 from aI h3)];exact⟨rfl,rfl⟩
  have h3:¬ fX X=4:=aL h3;rw[af h3] at eK ⊢;have pv:∀ k,cu X k<0->pe X k=0:=λk hk=>by unfold pe;rw[af ab]
  refine aw (λh4=>?_) (λh4=>?_)
  .have h4:fX X=1:=aI h4;rw[am h4] at eK ⊢;refine⟨ab,ab,?_,eK.symm⟩;split
   next q=>rw[eK] at q;exact pv _ (by have:=aL q;omega)
   .rfl
  have h4:¬ fX X=1:=aL h4;rw[af h4] at eK ⊢;refine bT (λh5=>?_) (λh5=>?_)
  .rw[am (show 1<r.2.1.length by have:=h5;omega)] at eK;rw[eK,am rfl];exact⟨rfl,rfl⟩
  .rw[af (show ¬ 1<r.2.1.length by have:=h5;omega)] at eK;refine⟨ab,ab,?_,eK.symm⟩;split
   next q=>rw[eK] at q;exact pv _ (by have:=aL q;rw[show toNat (0:Int)=0 from rfl];omega)
   .rfl
theorem al4:aB 22 WG.spec:=aF Tryz.func22 (av (av (av (av aC OD) HF) OA) an6) aT YH
def lW(n:aQ)(l:ae):Int:=l.foldl (λs k=>s+gQ (n.2.1.getD k.toNat default)) 0
def ma(n:aQ)(l:ae):Int:=l.foldl (λs k=>s+(gQ (n.2.1.getD k.toNat default)+fO (n.2.1.getD k.toNat default))) 0
structure Eh (n:aQ) (l:ae):Prop where
 len:l.length<=1000
 k:∀ k∈l,0<=k/\k<n.2.1.length
 d:∀ x∈n.2.1,(0<=gQ x/\gQ x<=1000)/\0<=fO x/\fO x<=1000
theorem aK4{n:aQ}:∀(l:ae),(∀ k∈l,0<=k/\k<n.2.1.length)->(∀ x∈n.2.1,(0<=gQ x/\gQ x<=1000)/\0<=fO x/\fO x<=1000)→∀ k:Nat,k<=l.length->(0<=lW n (l.take k)/\lW n (l.take k)<=1000*k)/\0<=ma n (l.take k)/\ma n (l.take k)<=2000*k:=by
 intro l hk hd k
 induction k with
 | zero=>intro _;exact⟨⟨fZ _,fZ _⟩,fZ _,fZ _⟩
 | succ k ih =>
  intro h;have ih:=ih ab;have e:l.take (k+1)=l.take k++[l.getD k default]:=by
   have:=rD (l:=l) (k:=(k:Int)) ab ab;rw[show ((k:Int)+1).toNat=k+1 by omega,Int.toNat_natCast] at this;exact this
  have hm:=hk _ (n6 (xs:=l) (i:=k) ab);have hx:=hd _ (bR hm.1 hm.2);unfold lW ma at ih ⊢;rw[e,iD,iD];simp only[List.foldl_cons,List.foldl_nil];omega
def RL:Ct:=⟨[.agg ib,.val (.sl cI)],[.val cI,.val cI],λd=>[Eh d.1 d.2.1],λd=>((lW d.1 d.2.1,ma d.1 d.2.1,()),())⟩
def ad6:bw RL.ps->ce:=(λd=>{loops:=(bp 2 (λS=>{ι:=Int×Int×Int,qn:=sf,μ:=λi=>(d.2.1.length-i.1).toNat,inv:=λi=>0<=i.1/\i.1<=d.2.1.length/\i.2.1=lW d.1 (d.2.1.take i.1.toNat)/\i.2.2=ma d.1 (d.2.1.take i.1.toNat),keep:=[2,8,9],slots:=λi=>[(4,.int .i64 i.2.1),(5,.int .i64 i.2.2),(10,.int .i64 i.1)],keepN:=[48]}) cC)})
theorem aX8 :
 ∀(a:List au)(b:List aK)(c:List aV)(d:ae),((a.length<=maxLen/\ ∀(e:au),e∈a->CT.wf bU e)/\(b.length<=maxLen/\ ∀(e:aK),e∈b->CT.wf fU e)/\c.length<=maxLen/\ ∀(e:aV),e∈c->CT.wf fh e)/\(d.length<=maxLen/\ ∀(e:Int),e∈d->aq e)/\True->Eh (a,b,c) d->(∃(e:Int) (f:Int),∃(g:Int),(0<=e/\e<=(ac d)/\f=lW (a,b,c) (take e.toNat d)/\g=ma (a,b,c) (take e.toNat d))/\0=f/\0=g/\d=d/\(ac d)=(ac d)/\0=e/\a=a/\b=b/\c=c/\True)/\ ∀(e f g:Int),0<=e/\e<=(ac d)/\f=lW (a,b,c) (take e.toNat d)/\g=ma (a,b,c) (take e.toNat d)->ao (decide (e<(ac d))) (0<=e/\e<(ac d)/\ ∀(h:Bool),h=decide (0<=ai d e)->(ah h)/\(ah h)/\(h->(ar h)/\(ar h)/\True)/\(ar h)/\ao (bif h then decide (ai d e<(ac b)) else false) (0<=ai d e/\ai d e<(ac b)/\0<=ai d e/\ai d e<(ac b)/\0<=ai d e/\ai d e<(ac b)/\ ∃(i:Int) (j:Int),∃(k:Int),(0<=i/\i<=(ac d)/\j=lW
 (a,b,c) (take i.toNat d)/\k=ma (a,b,c) (take i.toNat d))/\toNat ((ac d) -i)<toNat ((ac d) -e)/\aj (f+(ai b (ai d e)).2.2.1)=j/\aj (g+aj ((ai b (ai d e)).2.2.1+(ai b (ai d e)).2.2.2.1))=k/\d=d/\(ac d)=(ac d)/\aj (e+1)=i/\a=a/\b=b/\c=c/\True) (∃(i:Int) (j:Int),∃(k:Int),(0<=i/\i<=(ac d)/\j=lW (a,b,c) (take i.toNat d)/\k=ma (a,b,c) (take i.toNat d))/\toNat ((ac d) -i)<toNat ((ac d) -e)/\f=j/\g=k/\d=d/\(ac d)=(ac d)/\aj (e+1)=i/\a=a/\b=b/\c=c/\True)) (f=lW (a,b,c) d/\g=ma (a,b,c) d):=by
  delta ah ar aj ai ac;rintro ns ls hs l-⟨hn,hk,hd⟩;refine⟨⟨0,0,0,⟨ab,ab,rfl,rfl⟩,aP⟩,?_⟩;rintro j a b ⟨j0,j1,ea,eb⟩;have B:=aK4 (n:=(ns,ls,hs)) l hk hd j.toNat ab;rw[← ea,← eb] at B;refine aw (λhj=>?_) (λhj=>?_)
  rotate_left
  .have hj:=aL hj;rw[fe ab] at ea eb;exact⟨ea,eb⟩
  have hj:=aI hj;have km:=hk _ (bR j0 hj);dsimp only at km;have hx:=hd _ (bR (xs:=ls) km.1 km.2);have st:=rD (l:=l) j0 hj;have e1:lW (ns,ls,hs) (l.take (j+1).toNat)=a+gQ (ls.getD (l.getD j.toNat default).toNat default):=by
   rw[st,ea];unfold lW;rw[iD];rfl
  have e2:ma (ns,ls,hs) (l.take (j+1).toNat)=b+(gQ (ls.getD (l.getD j.toNat default).toNat default)+fO (ls.getD (l.getD j.toNat default).toNat default)):=by
   rw[st,eb];unfold ma;rw[iD];rfl
  refine⟨j0,hj,?_⟩;intro b1 hb1
  (repeat refine⟨λh_=>(by first|(simp;done)|(simp[h_];done)|(simp_all;done)),?_⟩);rw[hb1,uD];refine aw (λh=>?_) (λh=>absurd km (aL h));rw[show (ls.getD (l.getD j.toNat default).toNat default).2.2.1=gQ (ls.getD (l.getD j.toNat default).toNat default) from rfl,show (ls.getD (l.getD j.toNat default).toNat default).2.2.2.1=fO (ls.getD (l.getD j.toNat default).toNat default) from rfl];generalize gQ (ls.getD (l.getD j.toNat default).toNat default)=x at *;generalize fO (ls.getD (l.getD j.toNat default).toNat default)=y at *;rw[aG (n:=a+x) ab ab,aG (n:=x+y) ab ab,aG (n:=b+(x+y)) ab ab];exact⟨km.1,km.2,km.1,km.2,km.1,km.2,j+1,_,_,⟨ab,ab,e1.symm,e2.symm⟩,ab,aP⟩
theorem Ve:aB 21 RL.spec:=aF Tryz.func21 aC ad6 aX8
def wN(n:aQ)(k:d6):Nat->Way
 | 0=>([0],[],0)
 | j+1=>if (wN n k j).2.2=0 then lH n 0 k (wN n k j) else wN n k j
theorem Np{n:aQ}{a:Int}{k:d6}:∀(f:Nat)(w:Way),ld n a k (f+1) w=if (ld n a k f w).2.2=0 then lH n a k (ld n a k f w) else ld n a k f w
 | 0,w=>rfl
 | f+1,w=>by
  rw[ld];by_cases h:w.2.2=0
  .rw[am h,Np f (lH n a k w)];have e:ld n a k (f+1) w=ld n a k f (lH n a k w):=by rw[ld,am h]
   rw[e]
  .have e:ld n a k (f+1) w=w:=by rw[ld,af h]
   rw[af h,e,af h]
theorem Py(n:aQ)(k:d6):∀ j,wN n k j=ld n 0 k j ([0],[],0)
 | 0=>rfl
 | j+1=>by rw[Np,← Py n k j];rfl
theorem wB(n:aQ)(k:d6):lC n 0 0 k=wN n k 257:=(Py n k 257).symm
theorem QS(n:aQ)(a:Int)(k:d6)(w:Way):(∃ e,e≠0/\lH n a k w=(w.1,w.2.1,e))∨∃ o l,lH n a k w=(w.1++[o],w.2.1++[l],0):=by
 unfold lH qH
 split
 .exact .inl ⟨1,bt,rfl⟩
 split
 .exact .inl ⟨5,bt,rfl⟩
 split
 .exact .inl ⟨2,bt,rfl⟩
 split
 .exact .inl ⟨4,bt,rfl⟩
 split
 .exact .inl ⟨3,bt,rfl⟩
 .exact .inr ⟨_,_,rfl⟩
theorem EV{n:aQ}{k:d6}{j:Nat}(h:(wN n k j).2.2=0):wN n k (j+1)=lH n 0 k (wN n k j):=by rw[wN,am h]
theorem C2{n:aQ}{k:d6}{j:Nat}(h:(wN n k j).2.2≠0):∀ m,j<=m->wN n k m=wN n k j
 | 0,hm=>by rw[show j=0 by omega]
 | m+1,hm=>by
  by_cases hj:j=m+1
  .rw[hj]
  .have ih:=C2 h m ab;rw[wN,ih,af h]
theorem aq0{n:aQ}{k:d6}{j m:Nat}(hm:m<=j)(h:(wN n k j).2.2=0):(wN n k m).2.2=0:=fj λq=>by
 rw[C2 q j hm] at h;exact q h
theorem Bq{n:aQ}{k:d6}:∀{j:Nat},(wN n k j).2.2=0->(wN n k j).2.1.length=j/\(wN n k j).1.length=j+1
 | 0,_=>⟨rfl,rfl⟩
 | j+1,h=>by
  have h0:=aq0 (VJ j) h;obtain⟨i1,i2⟩:=Bq h0;rw[EV h0] at h ⊢;rcases QS n 0 k (wN n k j) with⟨e,he,es⟩|⟨o,l,es⟩
  .rw[es] at h;exact absurd h he
  .rw[es];simp[i1,i2]
theorem FL{n:aQ}{k:d6}{j:Nat}:∀ m,j<=m->(wN n k j).1 <+: (wN n k m).1/\(wN n k j).2.1 <+: (wN n k m).2.1
 | 0,hm=>by rw[show j=0 by omega];exact⟨List.prefix_rfl,List.prefix_rfl⟩
 | m+1,hm=>by
  by_cases hj:j=m+1
  .rw[hj];exact⟨List.prefix_rfl,List.prefix_rfl⟩
  .obtain⟨a,b⟩:=FL (n:=n) (k:=k) (j:=j) m ab;by_cases h:(wN n k m).2.2=0
   .rw[EV h];rcases QS n 0 k (wN n k m) with⟨e,he,es⟩|⟨o,l,es⟩
    .rw[es];exact⟨a,b⟩
    .rw[es];exact⟨a.trans (List.prefix_append _ _),b.trans (List.prefix_append _ _)⟩
   .rw[C2 h (m+1) ab];exact⟨a,b⟩
theorem Hm{α:Type} [Inhabited α] {l m:List α} (h:l <+: m) {i:Nat} (hi:i<l.length):m.getD i default=l.getD i default:=by
 obtain⟨t,rfl⟩:=h
 rw[bJ,bJ,lF hi]
structure On (n:aQ) (k:d6) (j:Nat):Prop where
 go:(wN n k j).2.2=0
 jb:j<=256
def gK(n:aQ)(k:d6)(j:Nat):Int:=(lC n 0 0 k).1.getD j default
def eG(n:aQ)(k:d6)(j:Nat):Int:=if j=0 then -1 else (lC n 0 0 k).2.1.getD (j-1) default
theorem On.at{n:aQ}{k:d6}{j:Nat}(h:On n k j):gS (wN n k j).1=gK n k j/\(wN n k j).2.1.length=j:=by
 obtain⟨h1,h2⟩:=Bq h.go
 obtain⟨p,-⟩:=FL (n:=n) (k:=k) (j:=j) 257 (by have:=h.jb;omega)
 refine⟨?_,h1⟩
 unfold gS gK
 rw[wB,h2,Hm p ab]
 rfl
theorem On.stop{n:aQ}{k:d6}{j:Nat}(h:On n k j){e:Int}(he:e≠0)(hs:lH n 0 k (wN n k j)=((wN n k j).1,(wN n k j).2.1,e)) :
  (lC n 0 0 k).2.2=e/\(lC n 0 0 k).1.length=j+1/\(lC n 0 0 k).2.1.length=j:=by
 obtain⟨h1,h2⟩:=Bq h.go
 have e1:wN n k (j+1)=((wN n k j).1,(wN n k j).2.1,e):=by rw[EV h.go,hs]
 rw[wB,C2 (j:=j+1) (by rw[e1];exact he) 257 (by have:=h.jb;omega),e1]
 exact⟨rfl,h2,h1⟩
theorem On.next{n:aQ}{k:d6}{j:Nat}(h:On n k j)(hj:j<255){o l:Int}(hs:lH n 0 k (wN n k j)=((wN n k j).1++[o],(wN n k j).2.1++[l],0)) :
  On n k (j+1)/\gK n k (j+1)=o/\eG n k (j+1)=l/\(lC n 0 0 k).2.1.take (j+1)=(lC n 0 0 k).2.1.take j++[l]/\j+2<=(lC n 0 0 k).1.length/\j+1<=(lC n 0 0 k).2.1.length:=by
 obtain⟨h1,h2⟩:=Bq h.go
 have e1:wN n k (j+1)=((wN n k j).1++[o],(wN n k j).2.1++[l],0):=by rw[EV h.go,hs]
 obtain⟨p1,p2⟩:=FL (n:=n) (k:=k) (j:=j+1) 257 ab
 rw[e1] at p1 p2
 have l1:((wN n k j).1++[o]).length=j+2:=by rw[cA,h2];rfl
 have l2:((wN n k j).2.1++[l]).length=j+1:=by rw[cA,h1];rfl
 refine⟨⟨by rw[e1],ab⟩,?_,?_,?_,?_,?_⟩
 .unfold gK;rw[wB,Hm p1 (by rw[l1];omega),bJ,kw ab,h2,Nat.sub_self];rfl
 .unfold eG;rw[af ab,wB,Hm p2 (by rw[l2];omega),bJ,kw ab,h1,show j+1-1-j=0 by omega];rfl
 .rw[wB];obtain⟨t,ht⟩:=p2;have ht:(wN n k j).2.1++[l]++t=(wN n k 257).2.1:=ht;rw[← ht,List.take_left' l2,iL,List.take_left' h1]
 .rw[wB,← l1];exact p1.length_le
 .rw[wB,← l2];exact p2.length_le
theorem On.lens{n:aQ}{k:d6}{j:Nat}(h:On n k j):j+1<=(lC n 0 0 k).1.length/\j<=(lC n 0 0 k).2.1.length:=by
 obtain⟨h1,h2⟩:=Bq h.go
 obtain⟨p1,p2⟩:=FL (n:=n) (k:=k) (j:=j) 257 (by have:=h.jb;omega)
 have a:=p1.length_le
 have b:=p2.length_le
 rw[wB]
 omega
structure sN (n:aQ):Prop where
 c:eh n=0
 h:n.2.2=[]
 l:∀ x∈n.2.1,oF x=0
 b:∀ x∈n.1,∀ r∈aU x,r.2.2≠3
 a:xV n
theorem sN.rt{n:aQ}(C:sN n){who:Int}(h0:0<=who)(h1:who<n.1.length):d5 n who 0=aU (n.1.getD who.toNat default):=by
 unfold d5 qW
 rw[af ab,C.h];rfl
theorem Ul{x:au}{s:ct}{r:Rt}{k:d6}(h0:0<=jI s)(hr:r.2.2≠3)(hn:r.2.1.length≠0):jg x s r k=r.2.1.getD (uv r (rG x) k).toNat default:=by
 unfold jg lP uv
 by_cases a:r.2.1.length=1
 .rw[am a,af ab];rfl
 .rw[af a,am ab];unfold jk;by_cases c:(r.2.1.length:Int)<1∨16<(r.2.1.length:Int)∨jI s<0∨r.2.2<1∨3<r.2.2
  .have c':(r.2.1.length:Int)<1∨16<(r.2.1.length:Int)∨(0:Int)<0∨r.2.2<1∨3<r.2.2:=ab;rw[am c,am c']
  .have c':¬ ((r.2.1.length:Int)<1∨16<(r.2.1.length:Int)∨(0:Int)<0∨r.2.2<1∨3<r.2.2):=ab;rw[af c,af c'];by_cases e:r.2.2=1
   .rw[am e,am e]
   .have e2:r.2.2=2:=ab;rw[af e,am e2,af e,am e2]
def fx(p:bz)(c:Int):bz:=(p.1,p.2.1,p.2.2.1,p.2.2.2.1,p.2.2.2.2.1,p.2.2.2.2.2-c)
theorem xS{p:bz}(g:da p){c:Int}(h0:0<=c)(h1:c<p.2.2.2.2.2):da (fx p c):=by
 obtain⟨k1,k2,k3,k4,k5⟩:=lq.1 g.ok
 exact⟨lq.2 ⟨k1,k2,k3,by simp only[fx];omega,by simp only[fx];omega⟩,g.s,g.d⟩
theorem W2{p:bz}(g:da p){c:Int}(h0:0<=c)(h1:c+1<p.2.2.2.2.2):gw (build (fx p c))=0/\io (build (fx p c))=build (fx p (c+1)):=by
 have g2:=xS g h0 ab
 obtain⟨-,k⟩:=aC4 g2.ok g2.s g2.d
 obtain⟨a,b,-⟩:=k (by show 2<=p.2.2.2.2.2-c;omega)
 refine⟨a,?_⟩
 rw[b]
 unfold fx
 rw[show p.2.2.2.2.2-c-1=p.2.2.2.2.2-(c+1) by omega]
theorem aK2{p:bz}(g:da p){c:Int}(h0:0<=c)(h1:c<p.2.2.2.2.2):bc (build (fx p c))=bc (build p):=by
 have g2:=xS g h0 h1
 rw[Jk g2.ok g2.s g2.d,Jk g.ok g.s g.d];rfl
theorem Xl{v:aJ}(h:(aD v).2.2=[]):dr v=v:=by
 unfold dr
 rw[h]
 simp only[List.length_nil,Nat.zero_sub]
 rfl
theorem My(w:aJ)(f:bg)(r:List bg)(hA:At w f r):∃ es,bh (fw w)=bh w++es ∧
  (∀ x∈aM (fw w),x∈r∨(f8 x=(cS w).2.1.2/\0<(cS w).2.1.2.length))/\bM (fw w)=(if (cS w).2.2=1 then bM w++[(aO f,bn f,f8 f)] else bM w) ∧
  ((cS w).2.2≠0→∃ es',es=(iy f,aO f,bn f,gO f,(cS w).2.2)::es'):=by
 have eE:bh (eZ w)=if (cS w).2.2≠0 then bh w++[(iy f,aO f,bn f,gO f,(cS w).2.2)] else bh w:=by
  rw[uG,hA.en,hA.eF];rfl
 have eD:bM (eZ w)=(if (cS w).2.2=1 then bM w++[(aO f,bn f,f8 f)] else bM w):=by
  rw[uG,te,hA.dl,hA.eF];rfl
 have eF:aM (eZ w)=r:=by
  rw[uG,te];exact hA.fl
 have fin:∀ es,(∃ x,bh x=bh (eZ w)++es/\x=fw w)→∃ es,bh (fw w)=bh w++es/\((cS w).2.2≠0→∃ es',es=(iy f,aO f,bn f,gO f,(cS w).2.2)::es'):=by
  rintro es ⟨x,hx,rfl⟩;rw[eE] at hx;by_cases h:(cS w).2.2≠0
  .rw[am h,iL] at hx;exact⟨_,hx,λ_=>⟨es,rfl⟩⟩
  .rw[af h] at hx;exact⟨_,hx,λk=>absurd k h⟩
 rw[Fv] at fin ⊢
 split
 next hp=>
  rw[am hp] at fin;have hd:=(GN (eZ w) (iJ w) (cS w).2.1).2.1;rcases ae4 (eZ w) (iJ w) (cS w).2.1 with⟨why,-,e1,e2⟩|⟨g,-,g2,-,e1,e2⟩
  .obtain⟨es,h1,h2⟩:=fin _ ⟨_,e1,rfl⟩;exact⟨es,h1,λx hx=>by rw[e2,eF] at hx;exact .inl hx,by rw[hd,eD],h2⟩
  .obtain⟨es,h1,h2⟩:=fin [] ⟨_,by rw[e1,jx],rfl⟩;refine⟨es,h1,λx hx=>?_,by rw[hd,eD],h2⟩;rw[e2,eF] at hx;rcases zH.1 hx with rfl|hx
   .exact .inr ⟨g2,hp⟩
   .exact .inl hx
 next hp=>rw[af hp] at fin;obtain⟨es,h1,h2⟩:=fin [] ⟨_,by rw[jx],rfl⟩;exact⟨es,h1,λx hx=>by rw[eF] at hx;exact .inl hx,eD,h2⟩
def Cl(A:ae->Prop):Prop:=(∀ b,A b)∨∀ b,A b→¬ dG b/\(gw b=0->A (io b))
structure PB (n:aQ) (e0:fm) (A:ae->Prop) (w:aJ):Prop where
 ok:sA w
 en:∃ r,bh w=e0::r
 fl:∀ f∈aM w,A (f8 f)
 dl:uT e0=2→∀ d∈bM w,A d.2.2
theorem PB.step{n:aQ}{e0:fm}{A:ae->Prop}{w:aJ}(h:PB n e0 A w)(hA:Cl A){f:bg}{r:List bg}(e:aM w=f::r):PB n e0 A (fw w):=by
 obtain⟨es,e1,e2,e3,-⟩:=My w f r (h.ok.at e)
 have hf:=h.fl f (by rw[e];exact fY)
 refine⟨(h.ok.step e).1,?_,?_,?_⟩
 .obtain⟨q,hq⟩:=h.en;exact⟨q++es,by rw[e1,hq];rfl⟩
 .rcases hA with hA|hA
  .exact λx _=>hA _
  intro x hx;rcases e2 x hx with k|⟨k,hp⟩
  .exact h.fl x (by rw[e];exact fM _ k)
  rw[k];obtain⟨hno,hlow⟩:=hA _ hf;have eH:cS w=bm (dY w) f:=by unfold cS;rw[(h.ok.at e).eF]
  rw[eH] at hp ⊢;have h2:(bm (dY w) f).2.2≠2:=QD hno;have h0:(bm (dY w) f).2.2=0:=fj λq=>by
   have:(bm (dY w) f).2.1=iK:=QO h2 q;rw[this] at hp;exact absurd hp (by show ¬ 0<([]:ae).length;simp)
  have F:=Dw h0;have em:=Bj (t:=aO f) F;have em:bm (dY w) f=_:=em;rw[em];dsimp only;split
  next q=>refine hlow ?_;have ht:=F.ttl;rw[gw,af (λz=>z F.dec),af];intro z;refine ht ⟨q.1,q.2,?_⟩;rw[aY,am F.dec];exact z
  .exact hf
 .intro hw d hd;rw[e3] at hd;split at hd
  .rcases dB.1 hd with hd|hd
   .exact h.dl hw d hd
   .rw[iI.1 hd];exact hf
  .exact h.dl hw d hd
theorem PB.run{n:aQ}{e0:fm}{A:ae->Prop}{to:Int}(hA:Cl A):∀(m:Nat){w:aJ},PB n e0 A w->jJ w<=m->PB n e0 A (jG w to)
 | m,w,h,hm=>by
  cases hb:jY w to with
  | false=>rw[He hb];exact h
  | true =>
   rw[D6 h.ok.s.weak hb];cases e:aM w with
   | nil=>unfold jY at hb;rw[e] at hb;cases hb
   | cons f r =>
    have k2:=(h.ok.step e).2;cases m with
    | zero=>omega
    | succ m=>exact PB.run hA m (h.step hA e) ab
def xM(fr:Int)(b:ae):Prop:=bytes b∧¬ dG b/\cO b=fr/\dk b=1/\(b.drop 20).getD 0 default=11
theorem aG9{fr:Int}{b:ae}(h:xM fr b)(hl:gw b=0):xM fr (io b):=by
 obtain⟨h1,h2,h3,h4,h5⟩:=h
 obtain⟨e1,e2,e3⟩:=HD h1 hl
 have hn:=LF h1 h2
 rw[am hl] at hn
 refine⟨(Ou h1 hl).2,hn,?_,?_,by rw[e3];exact h5⟩
 .unfold cO at h3 ⊢;rw[e1];exact h3
 .unfold dk at h4 ⊢;rw[e1];exact h4
theorem aR6(fr:Int):Cl (xM fr) := .inr λb h=>⟨h.2.1,aG9 h⟩
theorem aO7{b:ae}{f id ttl:Int}(hb:bytes b)(hf:u32 f)(h:fR b 11 0 id ttl=0):xM f (jr b f 11 0 id ttl):=by
 have hn:=DF hb hf h
 have hk:=Dx (f:=f) hb h
 have hg:pI 11 0 id ttl:=fj λk=>by rw[fR,am k] at h;cases h
 have ha:dG b:=fj λk=>by rw[fR,af (λq=>q hg),af k] at h;cases h
 obtain⟨-,e,en,ei⟩:=Bn (src:=f) hg ha
 rw[e] at hn hk ⊢
 obtain⟨s1,s2,s3,s4⟩:=yr (src:=f) (dst:=cO b) (proto:=1) (data:=iO (11,0,b.take 28)) hg.2.2 ab hf (rW hb 12) (CE _) (Dc en (FI hb))
 refine⟨hk.2,hn,?_,?_,?_⟩
 .rw[cO,s2]
 .rw[dk,s2]
 .rw[s3,(Ij en).1]
theorem aD9{fr:Int}{b:ae}(h:xM fr b)(hr:uc b):(jO b).2.1=fr/\(jO b).2.2.1=1:=by
 obtain⟨h1,h2,h3,h4,h5⟩:=h
 rw[jO,am hr]
 refine⟨h3,?_⟩
 have hp:=hr.2.1
 have ep:kF b=ou (gf b) (b.drop 20):=by
  unfold kF;rw[af (λk=>by rw[h5] at k;exact absurd k.2.2 bt),am h4]
 show (kF b).2.1.2.1=1
 rw[ep] at hp ⊢
 have hu:kD (b.drop 20)=0:=fj λk=>by
  unfold ou at hp;rw[af k] at hp;cases hp
 unfold ou
 rw[am hu]
 have e1:(j8 (b.drop 20)).1=11:=by unfold j8;rw[am hu];exact h5
 show vo (j8 (b.drop 20)).1 _=1
 rw[e1];rfl
abbrev bd(n:aQ)(p:bz):Way:=lC n 0 0 (bc (build p))
abbrev db(p:bz):Int:=p.2.2.2.2.2
theorem ar1{x:au}{s:ct}{lk t:Int}{b:ae}(N:n8 x)(A:uV x)(hrt:∀ r∈bS s,lf r (bo x))(hb:bytes b)(hd:bY b=0)
  (h2:(dD (dW (i7 x s lk t b) 11 0) (ju (i7 x s lk t b) 11 0) (i7 x s lk t b) 0).2.2=2) :
  ∃ L,xM (kI x (cj x lk) L) (dD (dW (i7 x s lk t b) 11 0) (ju (i7 x s lk t b) 11 0) (i7 x s lk t b) 0).2.1.2/\0<=cu x L ∧
   ((bf (bS s) (kP (aY b).1)).2.1.length=1->L=(bf (bS s) (kP (aY b).1)).2.1.getD 0 default):=by
 obtain⟨a1,a2,a3⟩:=CY h2
 have hL:0<=cu x (kg (dW (i7 x s lk t b) 11 0) (i7 x s lk t b)):=C3 hrt a2 _ _
 refine⟨kg (dW (i7 x s lk t b) 11 0) (i7 x s lk t b),?_,hL,λh1=>?_⟩
 .rw[a3];have ha:dG b:=by
   have a1:fR b 11 0 0 (iE x)=0:=a1;have hg:pI 11 0 0 (iE x):=fj λk=>by rw[fR,am k] at a1;cases a1
   exact fj λk=>by rw[fR,af (λq=>q hg),af k] at a1;cases a1
  obtain⟨⟨-,-,-,i0,i1⟩,-⟩:=yq hb hd;have hn:iU (iq (i7 x s lk t b)) (iE x):=HE (w:=i7 x s lk t b) N.id N.form (by
   show 0<=qc (aY b).1/\qc (aY b).1<=65535;rw[aY,am hd];exact⟨i0,i1⟩)
  exact aO7 hb (PZ N A hL) (by show fR b 11 0 _ (iE x)=0;rw[fR,af (λk=>k ⟨.inl rfl,ab,hn⟩),am ha])
 .show jg x _ (bf (bS s) (kP (aY b).1)) _=_;unfold jg;rw[am h1]
theorem Xj{n:aQ}(C:sN n){w:Way}{i:Nat}{to:Int}(hi:0<=w.1.getD i default/\w.1.getD i default<n.1.length)(N:n8 (n.1.getD (w.1.getD i default).toNat default))(h:lw n 0 w i to=true){L:Int}
  (hL:(bf (aU (n.1.getD (w.1.getD i default).toNat default)) to).2.1.length=1->L=(bf (aU (n.1.getD (w.1.getD i default).toNat default)) to).2.1.getD 0 default) :
  kI (n.1.getD (w.1.getD i default).toNat default) (cj (n.1.getD (w.1.getD i default).toNat default) (w.2.1.getD (i-1) default)) L=nT n 0 w i to:=by
 have e1:((i:Nat):Int).toNat=i:=Int.toNat_natCast i
 have e2:(((i:Nat):Int)-1).toNat=i-1:=ab
 have er:wO n 0 w i to=bf (aU (n.1.getD (w.1.getD i default).toNat default)) to:=by unfold wO;rw[e1,C.rt hi.1 hi.2]
 unfold nT
 rw[af (by rw[h];decide)]
 unfold lw at h
 simp only[e1,e2,er] at h ⊢
 clear er
 generalize n.1.getD (w.1.getD i default).toNat default=x at *
 generalize bf (aU x) to=r at *
 have ad:∀ k,0<=cu x k->adr x (cu x k)=pe x k:=λk hk=>by
  have:=(tR hk).1;have this:cu x k<(ay x).length:=this;unfold adr pe;rw[af ab,am hk]
 split at h
 .cases h
 split at h
 .cases h
 rename_i h0
 unfold kI
 split at h
 next s3=>rw[am s3,af ab,am s3]
 rename_i s3
 rw[af s3,af s3]
 split at h
 next s4=>rw[am s4,af ab,am s4]
 rename_i s4
 rw[af s4,af s4]
 split at h
 next s1=>
  have h:=aI h;rw[am s1,af ab];have ei:cj x (w.2.1.getD (i-1) default)=cu x (w.2.1.getD (i-1) default):=by unfold cj;omega
  rw[ei];exact ad _ h
 rename_i s1
 rw[af s1]
 split at h
 .cases h
 rename_i h2
 have h:=aI h
 have hr:fX x=2:=by
  have:=N.form;unfold mN at this;omega
 rw[am hr,hL ab]
 exact ad _ h
theorem aT5{n:aQ}{w:Way}{T:Int}(t1:1<=T)(t2:T<=255)(h:iz n w T=false):w.2.2≠1∨w.1.length<=1:=fj λk=>by
 have k1:w.2.2=1/\2<=w.1.length:=ab
 unfold iz at h
 rw[cM ⟨t1,t2⟩,Bool.true_and] at h
 have h:=aL h
 refine h ?_
 unfold wY
 have e:w.1.length-1=(range (w.1.length-1)).length:=by rw[List.length_range]
 conv=>rhs;rw[e]
 refine List.findIdx_lt_length.2 ⟨w.1.length-2,List.mem_range.2 ab,?_⟩
 unfold jV
 rw[cM (show w.1.length-2+1+1=w.1.length by omega),cM k1.1]
 rfl
structure PA (n:aQ) (p:bz) (j:Nat) (w:aJ):Prop where
 ok:sA w
 net:aD w=n
 on:On n (bc (build p)) j
 fl:∃ t o,aM w=[(t,o,gK n (bc (build p)) j,eG n (bc (build p)) j,0,build (fx p (cX n (bd n p) j)))]/\(lW n ((bd n p).2.1.take j)<=t/\t<=ma n ((bd n p).2.1.take j))/\0<=t/\t<=4294967296*j
 ttl:cX n (bd n p) j<db p
 lk:0<j->0<=eG n (bc (build p)) j
 en:bh w=[]
 dl:bM w=[]
 ns:∀ m:Nat,1<=m->m<j→¬ (na n (bd n p) m=false/\cX n (bd n p) m+1=db p)
 jb:(j:Int)+(if na n (bd n p) j=true then 1 else 0)<=2*cX n (bd n p) j+2
 bal:∀ i:Nat,0<=jI ((cq w).getD i default)/\jI ((cq w).getD i default)<=j
def vT(n:aQ)(p:bz):Prop:=((bd n p).2.2=5/\iF n (bd n p) (db p)=((bd n p).1.length:Int)-1)∨((bd n p).2.2=2/\(bd n p).1.length=1)
structure Fin (n:aQ) (p:bz) (e0:fm) (dl:List rq):Prop where
 lost:iz n (bd n p) (db p)=true->vT n p->uT e0=6∨uT e0=8
 here:iz n (bd n p) (db p)=true→¬ vT n p->e0.2.2.1=(bd n p).1.getD (iF n (bd n p) (db p)).toNat default/\e0.2.2.2.1=(bd n p).2.1.getD ((iF n (bd n p) (db p)).toNat-1) default ∧
  lW n ((bd n p).2.1.take (iF n (bd n p) (db p)).toNat)<=e0.2.1/\e0.2.1<=ma n ((bd n p).2.1.take (iF n (bd n p) (db p)).toNat)
 src:iz n (bd n p) (db p)=true→¬ vT n p->uT e0=2->lw n 0 (bd n p) (iF n (bd n p) (db p)) p.1=true→¬ ((bd n p).2.2=1/\iF n (bd n p) (db p)=((bd n p).1.length:Int)-1) →
  ∀ d∈dl,uc d.2.2->(jO d.2.2).2.1=nT n 0 (bd n p) (iF n (bd n p) (db p)) p.1/\(jO d.2.2).2.2.1=1
theorem ay3{n:aQ}{w:Way}{T:Int}(h:w.1.length<=1):iz n w T=false:=by
 unfold iz
 rw[show w.1.length-1=0 by omega]
 simp
theorem aD2{w:aJ}{k:Int}(hs:gY (aD w).1.length (cU w k))(hn:0<=bO w/\bO w<=1125899906842624):bO w+gQ (cU w k)<=jA w k:=by
 obtain⟨-,-,-,-,-,d1,d2,j1,j2,-⟩:=hs
 have hh:0<=oA (cU w k) (ky w k):=GE _
 have e1:IntKind.i64.wrap (fO (cU w k)+1)=fO (cU w k)+1:=aG ab ab
 have e2:IntKind.u64.wrap (fO (cU w k)+1)=fO (cU w k)+1:=CL ab ab
 have hd:0<=Int.tdiv (oA (cU w k) (ky w k)) 65536:=Int.tdiv_nonneg hh ab
 have t0:=Int.tmod_nonneg (fO (cU w k)+1) hd
 have t1:=Int.tmod_lt_of_pos (Int.tdiv (oA (cU w k) (ky w k)) 65536) (show 0<fO (cU w k)+1 by omega)
 have el:wa w k=Int.tmod (Int.tdiv (oA (cU w k) (ky w k)) 65536) (fO (cU w k)+1):=by
  unfold wa;rw[e1,e2,aG ab ab]
 have e3:IntKind.i64.wrap (bO w+gQ (cU w k))=bO w+gQ (cU w k):=aG ab ab
 have e4:jA w k=bO w+gQ (cU w k)+wa w k:=by
  unfold jA;rw[e3,aG ab ab]
 omega
theorem aQ0(w:dQ):(ig w).2.2≠0:=by
 unfold ig
 split
 .show (1:Int)≠0;decide
 .exact Av.1
structure xU (n:aQ) (p:bz) (j:Nat) (w:aJ) (x:au) (s:ct) (t o:Int):Prop where
 e:aM w=[(t,o,gK n (bc (build p)) j,eG n (bc (build p)) j,0,build (fx p (cX n (bd n p) j)))]
 hx:x=n.1.getD (gK n (bc (build p)) j).toNat default
 hs:s=(cq w).getD (gK n (bc (build p)) j).toNat default
 nd:0<=gK n (bc (build p)) j/\gK n (bc (build p)) j<n.1.length
 st:dY w=fL (hV w []) t
 H:cS w=fP x s (eG n (bc (build p)) j) t (build (fx p (cX n (bd n p) j)))
 rt:bS s=aU x
 rr:∀ r∈bS s,lf r (bo x)
 N:n8 x
 A:uV x
 W:lH n 0 (bc (build p)) (wN n (bc (build p)) j)=qH n (bc (build p)) (gK n (bc (build p)) j) x (bf (aU x) p.2.1) (ia (aU x) p.2.1) (wN n (bc (build p)) j)
 V:fP x s (eG n (bc (build p)) j) t (build (fx p (cX n (bd n p) j))) =
  if dC x p.2.1=true then ig (i7 x s (eG n (bc (build p)) j) t (build (fx p (cX n (bd n p) j)))) else if iG x=true/\eG n (bc (build p)) j ≠ -1 then (s,iK,6) else fH (i7 x s (eG n (bc (build p)) j) t (build (fx p (cX n (bd n p) j))))
theorem zZ{p:bz}(g:da p):(bc (build p)).2.1=p.2.1:=by rw[Jk g.ok g.s g.d]
theorem PA.sees{n:aQ}{p:bz}{j:Nat}{w:aJ}(C:sN n)(g:da p)(h:PA n p j w){t o:Int}
  (e:aM w=[(t,o,gK n (bc (build p)) j,eG n (bc (build p)) j,0,build (fx p (cX n (bd n p) j)))]) :
  ∃ x s,xU n p j w x s t o:=by
 have hA:=h.ok.at e
 have hnd:0<=gK n (bc (build p)) j/\gK n (bc (build p)) j<n.1.length:=by
  have:=hA.fk.nd;rw[hA.net,h.net] at this;exact this
 have hst:dY w=fL (hV w []) t:=by
  unfold dY;rw[Xl (by show (aD w).2.2=[];rw[h.net];exact C.h)];unfold iJ;rw[e];rfl
 have gq:=xS g (u4 n (bd n p) j) h.ttl
 obtain⟨d1,d2⟩:=Bv gq
 have k:=h.ok.s.st (gK n (bc (build p)) j).toNat (by rw[h.net];omega)
 have d0:(dm w).toNat=0:=by
  have:=h.ok.s.done;rw[h.net,C.h] at this;simp only[List.length_nil] at this;omega
 have hlt:(gK n (bc (build p)) j).toNat<n.1.length:=ab
 refine⟨_,_,e,rfl,rfl,hnd,hst,?_,?_,?_,uJ C.c hlt,C.a _ hlt,?_,?_⟩
 .unfold cS bm;rw[hA.eF,hst];show fP ((aD w).1.getD _ _) _ _ _ _=_;rw[h.net];rfl
 .rw[k.2,h.net,d0];show (n.1.map aU).getD _ _=_;rw[bJ,List.getElem?_map,cK hlt,bJ,cK hlt];rfl
 .have:=k.1.rt;rw[h.net] at this;exact this
 .unfold lH;rw[h.on.at.1,C.rt hnd.1 hnd.2,zZ g]
 .show gg (_,_,_,_,_,pC)=_;unfold gg;dsimp only;rw[af (λq=>q d1),d2];show (if dC _ p.2.1=true then _ else _)=_;rw[← d2];rfl
theorem PA.ends{n:aQ}{p:bz}{j:Nat}{w:aJ}(h:PA n p j w){x:au}{s:ct}{t o:Int}(S:xU n p j w x s t o)
  {A:ae->Prop} (hw:(cS w).2.2≠0) (hA:0<(cS w).2.1.2.length->A (cS w).2.1.2) (h1:(cS w).2.2=2∨∀ b,A b) :
  PB n (0,t,gK n (bc (build p)) j,eG n (bc (build p)) j,(cS w).2.2) A (fw w):=by
 obtain⟨es,e1,e2,e3,e4⟩:=My w _ _ (h.ok.at S.e)
 obtain⟨es',e4⟩:=e4 hw
 refine⟨(h.ok.step S.e).1,⟨es',by rw[e1,h.en,e4];rfl⟩,λf hf=>?_,λhw2 d hd=>?_⟩
 .rcases e2 f hf with k|⟨k1,k2⟩
  .cases k
  .rw[k1];exact hA k2
 .rcases h1 with h1|h1
  .rw[e3,h1,af bt,h.dl] at hd;cases hd
  .exact h1 _
theorem Hv{n:aQ}{p:bz}{j:Nat}{w:aJ}(h:PA n p j w)(hT:db p<=8):j<=16:=by
 have h1:=h.jb
 have h2:=h.ttl
 have:(0:Int)<=(if na n (bd n p) j=true then 1 else 0):=by split <;> omega
 omega
theorem PA.before{n:aQ}{p:bz}{j:Nat}{w:aJ}(h:PA n p j w):∀ m:Nat,1<=m->(m:Int)<j->jV n (bd n p) (db p) m=false:=λm h1 h2=>by
 have hl:=h.on.lens.1
 have hl:j+1<=(bd n p).1.length:=hl
 have k:=h.ns m h1 ab
 have e:((m:Nat):Int).toNat=m:=Int.toNat_natCast m
 have:=CZ (n:=n) (w:=bd n p) (ttl:=db p) (i:=m) ab (λq=>ab) (by
  rw[e];by_cases a:na n (bd n p) m=false
  .exact .inr λq=>k ⟨a,q⟩
  .exact .inl (by simpa using a))
 rwa [e] at this
theorem PA.here{n:aQ}{p:bz}{j:Nat}{w:aJ}(h:PA n p j w)(hT:1<=db p/\db p<=8)(h0:0<j)(hs:jV n (bd n p) (db p) j=true):iF n (bd n p) (db p)=j:=by
 have hl:=h.on.lens.1
 have hl:j+1<=(bd n p).1.length:=hl
 exact (HM (i:=j) hT.1 ab ab ab h.before (by rw[Int.toNat_natCast];exact hs)).1.symm
theorem PA.place{n:aQ}{p:bz}{j:Nat}{w:aJ}(h:PA n p j w){t o:Int}(e:aM w=[(t,o,gK n (bc (build p)) j,eG n (bc (build p)) j,0,build (fx p (cX n (bd n p) j)))])(h0:0<j)(hv:iF n (bd n p) (db p)=j)(why:Int) :
  let e0:fm:=(0,t,gK n (bc (build p)) j,eG n (bc (build p)) j,why)
  e0.2.2.1=(bd n p).1.getD (iF n (bd n p) (db p)).toNat default/\e0.2.2.2.1=(bd n p).2.1.getD ((iF n (bd n p) (db p)).toNat-1) default ∧
  lW n ((bd n p).2.1.take (iF n (bd n p) (db p)).toNat)<=e0.2.1/\e0.2.1<=ma n ((bd n p).2.1.take (iF n (bd n p) (db p)).toNat):=by
 intro e0
 obtain⟨t',o',e',⟨k1,k2⟩,-⟩:=h.fl
 rw[e] at e'
 simp only[List.cons.injEq,br] at e'
 obtain⟨⟨rfl,-⟩,-⟩:=e'
 rw[hv,Int.toNat_natCast]
 refine⟨rfl,?_,k1,k2⟩
 show eG n (bc (build p)) j=_
 unfold eG
 rw[af ab]
theorem Fin.none{n:aQ}{p:bz}{e0:fm}{dl:List rq}(h:iz n (bd n p) (db p)=false):Fin n p e0 dl :=
 ⟨λk=>absurd (h▸k) bt,λk=>absurd (h▸k) bt,λk=>absurd (h▸k) bt⟩
theorem MG{n:aQ}{p:bz}{j:Nat}{w:aJ}(h:PA n p j w)(hl:(bd n p).1.length=j+1)(hs:0<j->jV n (bd n p) (db p) j=false):iz n (bd n p) (db p)=false:=by
 refine (OP (n:=n) (w:=bd n p) (ttl:=db p) λm h1 h2=>?_).2.symm
 by_cases k:m=j
 .rw[k];exact hs ab
 .exact h.before m h1 ab
theorem PA.owns{n:aQ}{p:bz}{j:Nat}{w:aJ}(hT:1<=db p/\db p<=8)(g:da p)(h:PA n p j w){x:au}{s:ct}{t o:Int}(S:xU n p j w x s t o)(ho:dC x p.2.1=true) :
  (cS w).2.2≠0∧∀ dl,Fin n p (0,t,gK n (bc (build p)) j,eG n (bc (build p)) j,(cS w).2.2) dl:=by
 have eH:cS w=ig (i7 x s (eG n (bc (build p)) j) t (build (fx p (cX n (bd n p) j)))):=by rw[S.H,S.V,am ho]
 refine⟨by rw[eH];exact aQ0 _,λdl=>?_⟩
 obtain⟨w1,w2,w3⟩:=h.on.stop (e:=1) bt (by rw[S.W];unfold qH;rw[zZ g,am ho])
 have w1:(bd n p).2.2=1:=w1
 have w2:(bd n p).1.length=j+1:=w2
 by_cases h0:j=0
 .exact Fin.none (ay3 ab)
 have hs:jV n (bd n p) (db p) j=true:=by
  unfold jV;rw[cM (show j+1=(bd n p).1.length by omega),cM w1];rfl
 have hv:=h.here hT ab hs
 have hc:¬ vT n p:=λk=>by
  rcases k with k|k <;> omega
 exact⟨λ_ k=>absurd k hc,λ_ _=>h.place S.e ab hv _,λ_ _ _ _ k=>absurd ⟨w1,ab⟩ k⟩
theorem PA.host{n:aQ}{p:bz}{j:Nat}{w:aJ}(hT:1<=db p/\db p<=8)(g:da p)(h:PA n p j w){x:au}{s:ct}{t o:Int}(S:xU n p j w x s t o)(ho:¬ dC x p.2.1=true)(hh:iG x=true/\eG n (bc (build p)) j ≠ -1) :
  cS w=(s,iK,6)∧∀ dl,Fin n p (0,t,gK n (bc (build p)) j,eG n (bc (build p)) j,(cS w).2.2) dl:=by
 have eH:cS w=(s,iK,6):=by rw[S.H,S.V,af ho,am hh]
 refine⟨eH,λdl=>?_⟩
 have h0:0<j:=by
  refine Nat.pos_of_ne_zero λq=>hh.2 ?_;rw[q];rfl
 obtain⟨w1,w2,w3⟩:=h.on.stop (e:=5) bt (by rw[S.W];unfold qH;rw[zZ g,af ho,am ⟨hh.1,by rw[h.on.at.2];exact h0⟩])
 have w1:(bd n p).2.2=5:=w1
 have w2:(bd n p).1.length=j+1:=w2
 by_cases hs:jV n (bd n p) (db p) j=true
 .have hv:=h.here hT h0 hs;have hc:vT n p := .inl ⟨w1,ab⟩;exact⟨λ_ _=>.inl (by rw[eH];rfl),λ_ k=>absurd hc k,λ_ k=>absurd hc k⟩
 .exact Fin.none (MG h w2 λ_=>by simpa using hs)
theorem PA.over{n:aQ}{p:bz}{j:Nat}{w:aJ}(hT:1<=db p/\db p<=8)(g:da p)(C:sN n)(h:PA n p j w){x:au}{s:ct}{t o:Int}(S:xU n p j w x s t o)(ho:¬ dC x p.2.1=true)(hh:¬ (iG x=true/\eG n (bc (build p)) j ≠ -1))
  (hl:eG n (bc (build p)) j ≠ -1) (hq:dI x=false) (ht:db p-cX n (bd n p) j<2) :
  ∃ A,Cl A/\(cS w).2.2≠0/\(0<(cS w).2.1.2.length->A (cS w).2.1.2)/\((cS w).2.2=2∨∀ b,A b) ∧
   ∀ dl,((cS w).2.2=2→∀ d∈dl,A d.2.2)->Fin n p (0,t,gK n (bc (build p)) j,eG n (bc (build p)) j,(cS w).2.2) dl:=by
 have gq:=xS g (u4 n (bd n p) j) h.ttl
 obtain⟨d1,d2⟩:=Bv gq
 have eT:sV (aY (build (fx p (cX n (bd n p) j)))).1=db p-cX n (bd n p) j:=by rw[d2];rfl
 have eS:kP (aY (build (fx p (cX n (bd n p) j)))).1=p.1:=by rw[d2];rfl
 have eH:cS w=dD (dW (i7 x s (eG n (bc (build p)) j) t (build (fx p (cX n (bd n p) j)))) 11 0) (ju (i7 x s (eG n (bc (build p)) j) t (build (fx p (cX n (bd n p) j)))) 11 0) (i7 x s (eG n (bc (build p)) j) t (build (fx p (cX n (bd n p) j)))) 0:=by
  rw[S.H,S.V,af ho,af hh];unfold fH;rw[am ⟨hl,hq,by show sV (aY _).1<2;rw[eT];exact ht⟩]
 have hw:=Av (B:=dW (i7 x s (eG n (bc (build p)) j) t (build (fx p (cX n (bd n p) j)))) 11 0) (F:=ju (i7 x s (eG n (bc (build p)) j) t (build (fx p (cX n (bd n p) j)))) 11 0) (w:=i7 x s (eG n (bc (build p)) j) t (build (fx p (cX n (bd n p) j)))) (own:=0)
 rw[← eH] at hw
 have h0:0<j:=by
  refine Nat.pos_of_ne_zero λq=>hl ?_;rw[q];rfl
 have ob:na n (bd n p) j=false:=by
  have:=S.hx;rw[this] at hq;exact hq
 have hs:=Mo (n:=n) (w:=bd n p) (ttl:=db p) (i:=j) ob (by have:=h.ttl;omega)
 have hv:=h.here hT h0 hs
 have hlen:=h.on.lens.1
 have hlen:j+1<=(bd n p).1.length:=hlen
 have h16:=Hv h hT.2
 have hc:¬ vT n p:=by
  have W:=S.W;unfold qH at W;rw[zZ g,af ho,af (λq=>hh ⟨q.1,hl⟩),h.on.at.2] at W;rintro (⟨k1,k2⟩|⟨k1,k2⟩)
  .have st:∀ e:Int,e≠0->e≠5→¬ lH n 0 (bc (build p)) (wN n (bc (build p)) j)=((wN n (bc (build p)) j).1,(wN n (bc (build p)) j).2.1,e):=λe e0 e5 q=>by
    obtain⟨w1,-⟩:=h.on.stop e0 q;have w1:(bd n p).2.2=e:=w1;omega
   split at W
   .exact st 2 bt bt W
   split at W
   .exact st 4 bt bt W
   split at W
   .exact st 3 bt bt W
   .obtain⟨-,-,-,-,k,-⟩:=h.on.next ab W;have k:j+2<=(bd n p).1.length:=k;omega
  .omega
 by_cases hA:(cS w).2.2=2/\lw n 0 (bd n p) j p.1=true
 .obtain⟨a1,a2⟩:=hA;obtain⟨L,b1,b2,b3⟩:=ar1 (x:=x) (s:=s) (lk:=eG n (bc (build p)) j) (t:=t) S.N S.A S.rr (IR _) d1 (by rw[← eH];exact a1);rw[← eH] at b1;rw[eS,S.rt] at b3;have hx:=S.hx;have hN:=S.N;have e1:=Xj (n:=n) C (w:=bd n p) (i:=j) (to:=p.1) S.nd (by rw[hx] at hN;exact hN) a2 (L:=L) (by rw[hx] at b3;exact b3);have e2:eG n (bc (build p)) j=(bd n p).2.1.getD (j-1) default:=by unfold eG;rw[af ab]
  have e3:n.1.getD ((bd n p).1.getD j default).toNat default=x:=hx.symm;rw[e3,← e2] at e1;rw[e1] at b1;refine⟨xM (nT n 0 (bd n p) j p.1),aR6 _,hw.1,λ_=>b1,.inl a1,λdl hd=>⟨λ_ k=>absurd k hc,λ_ _=>h.place S.e h0 hv _,λ_ _ k2 k3 _ d hdl hr=>?_⟩⟩;rw[hv];exact aD9 (hd a1 d hdl) hr
 .refine⟨λ_=>True,.inl λ_=>trivial,hw.1,λ_=>trivial,.inr λ_=>trivial,λdl _=>⟨λ_ k=>absurd k hc,λ_ _=>h.place S.e h0 hv _,λ_ _ k2 k3 _=>absurd ⟨k2,by rw[hv] at k3;exact k3⟩ hA⟩⟩
theorem PA.noway{n:aQ}{p:bz}{j:Nat}{w:aJ}(hT:1<=db p/\db p<=8)(g:da p)(h:PA n p j w){x:au}{s:ct}{t o:Int}(S:xU n p j w x s t o)(ho:¬ dC x p.2.1=true)(hh:¬ (iG x=true/\eG n (bc (build p)) j ≠ -1))
  (ht:¬ (eG n (bc (build p)) j ≠ -1/\dI x=false/\db p-cX n (bd n p) j<2)) (hw:fT s p.2.1=false) :
  (cS w).2.2≠0/\(cS w).2.2≠1∧∀ dl,Fin n p (0,t,gK n (bc (build p)) j,eG n (bc (build p)) j,(cS w).2.2) dl:=by
 have gq:=xS g (u4 n (bd n p) j) h.ttl
 obtain⟨d1,d2⟩:=Bv gq
 have eT:sV (aY (build (fx p (cX n (bd n p) j)))).1=db p-cX n (bd n p) j:=by rw[d2];rfl
 have eD:jo (aY (build (fx p (cX n (bd n p) j)))).1=p.2.1:=by rw[d2];rfl
 have hwhy:(cS w).2.2≠0/\(cS w).2.2≠1:=by
  have eH:cS w=if eG n (bc (build p)) j = -1 then (s,iK,8) else dD (dW (i7 x s (eG n (bc (build p)) j) t (build (fx p (cX n (bd n p) j)))) 3 0) (ju (i7 x s (eG n (bc (build p)) j) t (build (fx p (cX n (bd n p) j)))) 3 0) (i7 x s (eG n (bc (build p)) j) t (build (fx p (cX n (bd n p) j)))) 0:=by
   rw[S.H,S.V,af ho,af hh];unfold fH;rw[af (by rintro⟨q1,q2,q3⟩;exact ht ⟨q1,q2,by rw[← eT];exact q3⟩),am (by show fT s (jo (aY _).1)=false;rw[eD];exact hw)];rfl
  rw[eH];split
  .exact⟨by show (8:Int)≠0;decide,by show (8:Int)≠1;decide⟩
  .exact Av
 refine⟨hwhy.1,hwhy.2,λdl=>?_⟩
 have hr:ia (aU x) p.2.1=false∨(bf (aU x) p.2.1).2.1.length=0:=by
  unfold fT at hw;rw[S.rt,Bool.and_eq_false_iff,pn] at hw;exact hw.imp id λk=>ab
 obtain⟨w1,w2,w3⟩:=h.on.stop (e:=2) bt (by
  rw[S.W];unfold qH;rw[zZ g,af ho,af (λq=>hh ⟨q.1,λz=>by
   have h2:=q.2;rw[h.on.at.2] at h2;have:=h.lk h2;omega⟩),am hr])
 have w1:(bd n p).2.2=2:=w1
 have w2:(bd n p).1.length=j+1:=w2
 refine Fin.none (MG h w2 λh0=>?_)
 have hl:=h.lk h0
 have:=CZ (n:=n) (w:=bd n p) (ttl:=db p) (i:=j) ab (λq=>ab) (by
  rw[Int.toNat_natCast];by_cases a:na n (bd n p) j=true
  .exact .inl a
  .refine .inr λq=>ht ⟨ab,?_,ab⟩;have hx:=S.hx;have a:na n (bd n p) j=false:=by simpa using a
   rw[hx];exact a)
 rwa [Int.toNat_natCast] at this
theorem T7(n:aQ)(l:ae)(k:Int):lW n (l++[k])=lW n l+gQ (n.2.1.getD k.toNat default):=by
 unfold lW;rw[iD];rfl
theorem Z6(n:aQ)(l:ae)(k:Int):ma n (l++[k])=ma n l+(gQ (n.2.1.getD k.toNat default)+fO (n.2.1.getD k.toNat default)):=by
 unfold ma;rw[iD];rfl
theorem aF7{v:aJ}{f:bg}{l:Int}{b:ae}(h0:oF (cU v l)=0)(hf:aM v=[])(ho:jA v l<=1125899906842624) :
  ∃ o,aM (eI v f (l,b))=[(jA v l,o,fD (aD v).2.1 l (bn f),l,iy f,b)]/\bh (eI v f (l,b))=bh v/\bM (eI v f (l,b))=bM v/\cq (eI v f (l,b))=cq v:=by
 have hh:0<=oA (cU v l) (ky v l):=GE _
 have t0:=Int.tmod_nonneg 65536 hh
 unfold eI
 dsimp only
 rw[af (by rw[h0];show ¬ _<(0:Int);omega),af (by rw[hf];simp;omega)]
 refine⟨bK v,?_,rfl,rfl,rfl⟩
 show fJ (aM v) _=_
 rw[hf];rfl
theorem PA.fwd{n:aQ}{p:bz}{j:Nat}{w:aJ}(hT:1<=db p/\db p<=8)(g:da p)(C:sN n)(h:PA n p j w){x:au}{s:ct}{t o:Int}(S:xU n p j w x s t o)(ho:¬ dC x p.2.1=true)(hh:¬ (iG x=true/\eG n (bc (build p)) j ≠ -1))
  (ht:¬ (eG n (bc (build p)) j ≠ -1/\dI x=false/\db p-cX n (bd n p) j<2)) (hw:¬ fT s p.2.1=false):PA n p (j+1) (fw w):=by
 have hA:=h.ok.at S.e
 have h16:=Hv h hT.2
 have gq:=xS g (u4 n (bd n p) j) h.ttl
 obtain⟨d1,d2⟩:=Bv gq
 have eT:sV (aY (build (fx p (cX n (bd n p) j)))).1=db p-cX n (bd n p) j:=by rw[d2];rfl
 have eD:jo (aY (build (fx p (cX n (bd n p) j)))).1=p.2.1:=by rw[d2];rfl
 have hlk:(eG n (bc (build p)) j ≠ -1)↔1<=j:=by
  constructor
  .intro k;refine Nat.pos_of_ne_zero λq=>k ?_;rw[q];rfl
  .intro k;have:=h.lk k;omega
 have F:G4 x s (eG n (bc (build p)) j) (build (fx p (cX n (bd n p) j))):=⟨d1,by rw[eD];exact ho,hh,by rintro⟨q1,q2,q3⟩;exact ht ⟨q1,q2,by rw[← eT];exact q3⟩,by rw[eD];exact hw⟩
 have M:=Bj (t:=t) F
 have er:zw s (build (fx p (cX n (bd n p) j)))=bf (aU x) p.2.1:=by unfold zw;rw[eD,S.rt]
 have hrm:=Jz hw
 rw[S.rt] at hrm
 have hwy:ia (aU x) p.2.1=true/\0<(bf (aU x) p.2.1).2.1.length:=by
  unfold fT at hw;rw[S.rt,Bool.and_eq_false_iff,pn] at hw;refine⟨by cases q:ia (aU x) p.2.1 with
   | false=>exact absurd (.inl q) hw
   | true=>rfl,fj λq=>hw (.inr q)⟩
 have hxm:x∈n.1:=by rw[S.hx];exact bR S.nd.1 S.nd.2
 have hr3:=C.b x hxm _ hrm
 have bal:=h.bal (gK n (bc (build p)) j).toNat
 rw[← S.hs] at bal
 rw[er,aK2 g (u4 n (bd n p) j) h.ttl,Ul bal.1 hr3 ab] at M
 rw[← S.H] at M
 have W:=S.W
 unfold qH at W
 rw[zZ g,af ho,h.on.at.2,af (λq=>hh ⟨q.1,hlk.2 q.2⟩),af (by rintro (q|q) <;> simp_all),af (λq=>hr3 q.2),af ab] at W
 obtain⟨on',n1,n2,n3,n4,n5⟩:=h.on.next ab W
 have n3:(bd n p).2.1.take (j+1)=(bd n p).2.1.take j++[_]:=n3
 generalize (bf (aU x) p.2.1).2.1.getD (uv (bf (aU x) p.2.1) (rG x) (bc (build p))).toNat default=l at M W n1 n2 n3
 have oq:na n (bd n p) j=dI x:=by have:=S.hx;rw[this];rfl
 have eDat:(if eG n (bc (build p)) j ≠ -1/\dI x=false then io (build (fx p (cX n (bd n p) j))) else build (fx p (cX n (bd n p) j)))=build (fx p (cX n (bd n p) (j+1)))/\cX n (bd n p) (j+1)<db p:=by
  rw[cX,oq];by_cases q:1<=j/\dI x=false
  .rw[am ⟨hlk.2 q.1,q.2⟩,am q];have k:¬ db p-cX n (bd n p) j<2:=λz=>ht ⟨hlk.2 q.1,q.2,z⟩;exact⟨(W2 g (u4 n (bd n p) j) (by show _<db p;omega)).2,ab⟩
  .rw[af (λz=>q ⟨hlk.1 z.1,z.2⟩),af q,Int.add_zero];exact⟨rfl,h.ttl⟩
 rw[eDat.1] at M
 have hlen:0<(build (fx p (cX n (bd n p) (j+1)))).length:=by
  rcases (xS g (u4 n (bd n p) (j+1)) eDat.2).len with k|k <;> omega
 have hp:0<(cS w).2.1.2.length:=by rw[M];exact hlen
 obtain⟨l0,l1,l2⟩:=hA.out hp
 rw[M] at l0
 rw[M,h.net] at l1 l2
 have l0:0<=l:=l0
 have l1:l<n.2.1.length:=l1
 have l2:gY n.1.length (n.2.1.getD l.toNat default):=l2
 have ec:eZ w=iN (dY w) ((cq (dY w)).set (gK n (bc (build p)) j).toNat (cS w).1):=by
  have hwhy:(cS w).2.2=0:=by rw[M]
  unfold eZ mX;rw[af ab,af ab];unfold uN;rw[hA.eF];rfl
 have es:fw w=eI (eZ w) (t,o,gK n (bc (build p)) j,eG n (bc (build p)) j,0,build (fx p (cX n (bd n p) j))) (l,build (fx p (cX n (bd n p) (j+1)))):=by
  rw[Fv,am hp,hA.eF,M]
 obtain⟨t',o',e',⟨k1,k2⟩,k3,k4⟩:=h.fl
 rw[S.e] at e'
 simp only[List.cons.injEq,br] at e'
 obtain⟨⟨rfl,-⟩,-⟩:=e'
 have cN:aD (eZ w)=n:=by rw[ec,S.st];exact h.net
 have cF:aM (eZ w)=[]:=by rw[ec,S.st];rfl
 have cE:bh (eZ w)=[]:=by rw[ec,S.st];exact h.en
 have cD:bM (eZ w)=[]:=by rw[ec,S.st];exact h.dl
 have cW:bO (eZ w)=t:=by rw[ec,S.st];rfl
 have tl:cU (eZ w) l=n.2.1.getD l.toNat default:=by unfold cU;rw[cN]
 have hs:gY (aD (eZ w)).1.length (cU (eZ w) l):=by rw[tl,cN];exact l2
 have ht0:t<=4294967296*16:=by
  have:(j:Int)<=16:=ab;omega
 have o1:=Ba (k:=l) hs (by rw[cW];omega)
 have o2:=aD2 (k:=l) hs (by rw[cW];omega)
 rw[cW,tl] at o1 o2
 obtain⟨-,-,-,-,-,b1,b2,b3,b4,-⟩:=l2
 obtain⟨od,f1,f2,f3,f4⟩:=aF7 (v:=eZ w) (f:=(t,o,gK n (bc (build p)) j,eG n (bc (build p)) j,0,build (fx p (cX n (bd n p) j)))) (l:=l) (b:=build (fx p (cX n (bd n p) (j+1)))) (by rw[tl];exact C.l _ (bR l0 l1)) cF ab
 rw[← es] at f1 f2 f3 f4
 rw[cN] at f1
 refine⟨(h.ok.step S.e).1,by rw[(h.ok.s.weak.step S.e).2.1,h.net],on',⟨jA (eZ w) l,od,?_,?_,ab,by push_cast;omega⟩,eDat.2,λ_=>by rw[n2];exact l0,by rw[f2,cE],by rw[f3,cD],λm m1 m2=>?_,?_,λi=>?_⟩
 .rw[f1,n1,n2];rfl
 .rw[n3,T7,Z6];omega
 .by_cases q:m=j
  .rw[q,oq];exact λz=>ht ⟨hlk.2 ab,z.1,ab⟩
  .exact h.ns m m1 ab
 .have jb:=h.jb;have hd:=MM C.c (k:=l) (x:=gK n (bc (build p)) j) ⟨l0,l1⟩;have hnd:=S.nd;have kn:=((h.ok.step S.e).1.s.fo _ (by rw[f1];exact iI.2 rfl)).nd.1;have kn:0<=fD n.2.1 l (gK n (bc (build p)) j):=kn;have e1:na n (bd n p) (j+1)=dI (n.1.getD (fD n.2.1 l (gK n (bc (build p)) j)).toNat default):=by rw[← n1];rfl
  have hx:=S.hx;rw[← hx] at hd;rw[cX,oq,e1];rw[oq] at jb;have s0:j=0->cX n (bd n p) j=0:=λq=>by rw[q];rfl
  cases q:dI x with
  | true =>
   rw[hd q kn,af bt,af aA];rw[q,am rfl] at jb
   push_cast;omega
  | false =>
   rw[q,af bt] at jb;have:∀ b:Bool,(if b=true then (1:Int) else 0)<=1:=λb=>by cases b <;> decide
   have b1:=this (dI (n.1.getD (fD n.2.1 l (gK n (bc (build p)) j)).toNat default));generalize (if dI (n.1.getD (fD n.2.1 l (gK n (bc (build p)) j)).toNat default)=true then (1:Int) else 0)=u at b1 ⊢;by_cases q1:1<=j
   .rw[am (⟨q1,rfl⟩:1<=j/\false=false)]
    push_cast;omega
   .rw[af (λz=>q1 z.1),s0 ab];have:j=0:=ab;subst this;simp only[gh,Int.add_zero,Int.mul_zero]
    push_cast;omega
 .have ee:(cq (fw w)).getD i default=((cq w).set (gK n (bc (build p)) j).toNat (gD s (bf (aU x) p.2.1))).getD i default:=by rw[f4,ec,S.st,M];rfl
  have bi:=h.bal i;rw[ee];have hp:0<=jI (gD s (bf (aU x) p.2.1))/\jI (gD s (bf (aU x) p.2.1))<=j+1:=by
   unfold gD;split
   .omega
   .show 0<=IntKind.i64.wrap (jI s+1)/\IntKind.i64.wrap (jI s+1)<=_;rw[aG ab ab];omega
  push_cast
  rw[bJ,List.getElem?_set];rw[bJ] at bi;split
  .split
   .exact hp
   .show 0<=(0:Int)/\(0:Int)<=_;omega
  .omega
end Go.RS
namespace Go.SX
open Go
variable {P:Program}
theorem EI(w:World)(dT sT ty lx:TypeId)(z g o dLen dCap:Nat)(a:Addr)(oU uH:Nat)(cur:Array Value)(t:TypeId)(cs:List Value)
  (hu:P.underlying dT=some (.slice lx)) (hs:(P.info? lx).map (·.size)=some z)
  (hg:w.heap[g]? = some (.cells cur t (0,0))) (hn:cs.length=Nat.min oU dLen*z)
  (hsrc:∀ j v,cs[j]? = some v->w.cell? (a.add j)=some v) (hfit:o+cs.length<=cur.size) (h1:∀ v∈cs,v.oneCell'=true) :
  (Builtin.copy_ #[dT,sT] ty #[.slice (some ⟨g,o,none⟩) dLen dCap,.slice (some a) oU uH]).run P w =
   .ok (goInt (Nat.min oU dLen)) (w.setRow g (cur.toList.take o++cs++cur.toList.drop (o+cs.length)).toArray):=by
 have hl:=run_loadCells_list (P:=P) w a cs hsrc
 have hst:=run_storeCells_at P g o t cs 0 cur w hg (by simpa using hfit) h1
 cases hq:P.info? lx with
 | none=>simp[hq] at hs
 | some i =>
  have hi:i.size=z:=by simpa[hq] using hs
  simp[Builtin.copy_,run_underlying hu,Builtin.lenOf,Builtin.firstCells,sizeOf,typeInfo,hq,hi,← hn,hl,hst]
end Go.SX
namespace Go.SX
open Go.ChangeShapes Go.WideShapes Go.ChangeAt Go.RowKit
def yX{H:Type}(f:(t:CT)->TypeId->t.D->DataW H):List Field->(t:CT)->t.D->List (DataW H)
 | [],_,_=>[]
 | [fd],t,d=>[f t fd.type d]
 | fd::g::r,.pair a b,(x,y)=>f a fd.type x::yX f (g::r) b y
 | _::_::_,_,_=>[]
def zW{H:Type}(f:(t:CT)->TypeId->t.D->DataW H)(e:TypeId):Nat->(t:CT)->t.D->List (DataW H)
 | 0,_,_=>[]
 | 1,t,d=>[f t e d]
 | n+2,.pair a b,(x,y)=>f a e x::zW f e (n+1) b y
 | _+2,_,_=>[]
def po{H:Type}(P:Program):Nat->(t:CT)->TypeId->t.D->DataW H
 | 0,_,_,_ => .agg []
 | n+1,t,τ,d=>match P.underlying τ,t,d with
  | some (.int k),.int _,d => .lit (.int k d)
  | some .bool,.bool,d => .lit (.bool d)
  | some (.struct fs),t,d => .agg (yX (po P n) fs.toList t d)
  | some (.array k e),t,d => .agg (zW (po P n) e k t d)
  | _,_,_ => .agg []
def tG:CT->Bool
 | .int _=>true
 | .bool=>true
 | .pair a b=>tG a&&tG b
 | _=>false
section
variable {H:Type} {enc:TypeId×Value->H} {P:Program} {w:World} {base:Nat} {held:Bool}
theorem Qv{A:Nat->Prop}{f:CT->TypeId->Bool}{F:(t:CT)->TypeId->t.D->DataW H}{cs:List Value}{n:Nat}
  (hf:∀ t τ cs d p,f t τ=true->tG t=true->DataW.trod enc P w base (λ_=>true) held n τ cs=some (F t τ d,p)->Rd A w t (λj=>cs[j]?) 0 d) :
  ∀(fs:List Field)(t:CT)(o:Nat)(d:t.D)(xs:List (DataW H×List MemPlace)),uy P f fs t o=true->tG t=true->xs.length=fs.length->xs.map (·.1)=yX F fs t d →
   (∀ i (h1:i<fs.length) (h2:i<xs.length),DataW.trod enc P w base (λ_=>true) held n fs[i].type ((cs.drop fs[i].offset).take (P.cellsOf fs[i].type))=some xs[i])->Rd A w t (λj=>cs[j]?) o d
 | [],t,o,d,xs,h,_,_,_,_=>by cases h
 | [fd],t,o,d,xs,h,ht,hl,he,hx=>by
  simp only[uy,dM] at h;obtain⟨⟨h1,h2⟩,h3⟩:=h;have h2:=bG h2;have h3:=bG h3
  match xs,hl with
  | [x],_ =>
   have:=hx 0 (by simp) (by simp);simp only[List.getElem_cons_zero] at this;simp only[fF,List.map_nil,yX,List.cons.injEq,iu] at he;have hd:=hf t fd.type _ d x.2 h1 ht (by rw[this,← he]);rw[h2] at hd;exact wy h3 hd
 | fd::g::r,.pair a b,o,(d1,d2),xs,h,ht,hl,he,hx=>by
  simp only[uy,dM] at h;obtain⟨⟨⟨h1,h2⟩,h3⟩,h4⟩:=h;simp only[tG,dM] at ht;have h2:=bG h2;have h3:=bG h3
  match xs,hl with
  | x::ys,hl =>
   simp only[fF,yX,List.cons.injEq] at he;have:=hx 0 (by simp) (by simp);simp only[List.getElem_cons_zero] at this;have hd:=hf a fd.type _ d1 x.2 h1 ht.1 (by rw[this,← he.1]);rw[h2] at hd;have hd':=Qv hf (g::r) b (o+a.size) d2 ys h4 ht.2 (by simpa using hl) he.2 (λi k1 k2=>by
    have:=hx (i+1) (by simpa using k1) (by simpa using k2);simpa only[List.getElem_cons_succ] using this)
   exact⟨wy h3 hd,hd'⟩
 | _::_::_,.int _,_,_,_,h,_,_,_,_=>by cases h
 | _::_::_,.bool,_,_,_,h,_,_,_,_=>by cases h
 | _::_::_,.str,_,_,_,h,_,_,_,_=>by cases h
 | _::_::_,.sl _,_,_,_,h,_,_,_,_=>by cases h
theorem PQ{A:Nat->Prop}{f:CT->TypeId->Bool}{F:(t:CT)->TypeId->t.D->DataW H}{cs:List Value}{n:Nat}{e:TypeId}
  (hf:∀ t τ cs d p,f t τ=true->tG t=true->DataW.trod enc P w base (λ_=>true) held n τ cs=some (F t τ d,p)->Rd A w t (λj=>cs[j]?) 0 d) :
  ∀(k:Nat)(t:CT)(i:Nat)(d:t.D)(xs:List (DataW H×List MemPlace)),vm P f e k t=true->tG t=true->xs.length=k->xs.map (·.1)=zW F e k t d →
   (∀ j (h2:j<xs.length),DataW.trod enc P w base (λ_=>true) held n e ((cs.drop ((i+j)*P.cellsOf e)).take (P.cellsOf e))=some xs[j])->Rd A w t (λj=>cs[j]?) (i*P.cellsOf e) d
 | 0,t,i,d,xs,h,_,_,_,_=>by cases h
 | 1,t,i,d,xs,h,ht,hl,he,hx=>by
  simp only[vm,dM] at h;obtain⟨h1,h2⟩:=h;have h2:=bG h2
  match xs,hl with
  | [x],_ =>
   have:=hx 0 (by simp);simp only[List.getElem_cons_zero] at this;simp only[fF,List.map_nil,zW,List.cons.injEq,iu] at he;have hd:=hf t e _ d x.2 h1 ht (by rw[this,← he]);exact wy h2 hd
 | k+2,.pair a b,i,(d1,d2),xs,h,ht,hl,he,hx=>by
  simp only[vm,dM] at h;obtain⟨⟨h1,h2⟩,h4⟩:=h;simp only[tG,dM] at ht;have h2:=bG h2
  match xs,hl with
  | x::ys,hl =>
   simp only[fF,zW,List.cons.injEq] at he;have:=hx 0 (by simp);simp only[List.getElem_cons_zero] at this;have hd:=hf a e _ d1 x.2 h1 ht.1 (by rw[this,← he.1]);have hd':=PQ hf (k+1) b (i+1) d2 ys h4 ht.2 (by simpa using hl) he.2 (λj k2=>by
    have:=hx (j+1) (by simpa using k2);simp only[List.getElem_cons_succ] at this;rw[← this];congr 4;omega)
   refine⟨wy h2 hd,?_⟩;rw[fS,kr] at hd';rw[← h2];exact hd'
 | _+2,.int _,_,_,_,h,_,_,_,_=>by cases h
 | _+2,.bool,_,_,_,h,_,_,_,_=>by cases h
 | _+2,.str,_,_,_,h,_,_,_,_=>by cases h
 | _+2,.sl _,_,_,_,h,_,_,_,_=>by cases h
theorem Hg:∀(n:Nat)(t:CT)(τ:TypeId)(fuel:Nat)(cs:List Value)(d:t.D)(p:List MemPlace),mH P n t τ=true->tG t=true->DataW.trod enc P w base (λ_=>true) held fuel τ cs=some (po P n t τ d,p) →
  Rd (λb=>b<w.heap.size) w t (λj=>cs[j]?) 0 d
 | 0,t,τ,fuel,cs,d,p,h,_,_=>by cases h
 | n+1,t,τ,fuel,cs,d,p,h,ht,hx=>by
  cases hu:P.underlying τ with
  | none=>cases t <;> simp[mH,hu] at h
  | some ty =>
   cases ty with
   | int k =>
    cases t with
    | int k' =>
     simp only[mH,hu] at h;cases lY h;obtain⟨m,rfl,e,hw⟩:=DataW.trod_int hu hx;unfold po at e;rw[hu] at e;simp only[br,DataW.lit.injEq,Lit.int.injEq,true_and] at e;obtain⟨rfl,-⟩:=e;exact⟨by simp,Oa hw⟩
    | _=>simp[mH,hu] at h
   | bool =>
    cases t with
    | bool =>
     obtain⟨b,rfl,e⟩:=DataW.trod_bool hu hx;unfold po at e;rw[hu] at e;simp only[br,DataW.lit.injEq,Lit.bool.injEq] at e;obtain⟨rfl,-⟩:=e;simp[Rd]
    | _=>simp[mH,hu] at h
   | struct fs =>
    have h':uy P (mH P n) fs.toList t 0=true:=by cases t <;> simpa[mH,hu] using h
    have ed:po (H:=H) P (n+1) t τ d = .agg (yX (po P n) fs.toList t d):=by
     cases t <;> first|(cases ht;done)|(unfold po;rw[hu])
    obtain⟨xs,m,_,e,hl,hlen,hf⟩:=DataW.trod_struct hu hx;rw[ed] at e;simp only[br,DataW.agg.injEq] at e;refine Qv (F:=po P n) (n:=m) (λt τ cs d p h1 h2 h3=>Hg n t τ m cs d p h1 h2 h3) fs.toList _ 0 d xs h' ht (by simpa using hlen) e.1.symm λi h1 h2=>?_;have:=hf i fs[i] (Array.getElem?_eq_getElem (by simpa using h1));rw[cK h2] at this;simpa using this
   | array k e' =>
    have h':vm P (mH P n) e' k t=true:=by cases t <;> simpa[mH,hu] using h
    have ed:po (H:=H) P (n+1) t τ d = .agg (zW (po P n) e' k t d):=by
     cases t <;> first|(cases ht;done)|(unfold po;rw[hu])
    obtain⟨xs,m,_,e,hl,hlen,hf⟩:=DataW.trod_array hu hx;rw[ed] at e;simp only[br,DataW.agg.injEq] at e;have:=PQ (F:=po P n) (n:=m) (cs:=cs) (e:=e') (λt τ cs d p h1 h2 h3=>Hg n t τ m cs d p h1 h2 h3) k _ 0 d xs h' ht hlen e.1.symm λj h2=>by
     have:=hf j (by omega);rw[cK h2] at this;simpa using this
    simpa using this
   | _=>cases t <;> first|(cases ht;done)|(simp[mH,hu] at h;done)
end
theorem globs_one{P:Program}{w:World}{name:String}{t:CT}{v:t.D}{g n:Nat}{τ:TypeId}{d:DataW Unit}(h:laidMetH P [(name,d)] w)(hh:([(name,d)].all λx=>x.2.handleName?.isNone)=true)
  (hg:P.globalNamed name=some g) (hτ:(P.globals[g]?).map (·.type)=some τ) (hf:mH P n t τ=true) (hs:tG t=true) (hd:d=po P n t τ v) :
  g<w.heap.size/\Rd (λb=>b<w.heap.size) w t (λo=>w.cell? ⟨g,o,none⟩) 0 v:=by
 rw[MakeChecks.laidMetH_plain _ _ _ hh] at h
 obtain⟨ps,⟨g0,t0,cs0,f0,p0,q0,hg0,ht0,hv0,hd0,_,_⟩,_,_⟩:=h
 obtain rfl:=Option.some.inj (hg.symm.trans hg0)
 obtain rfl:=Option.some.inj (hτ.symm.trans ht0)
 rw[hd] at hd0
 have hr:=Hg n t τ f0 cs0.toList v p0 hf hs hd0
 have hlt:g<w.heap.size:=by
  have hv:=hv0;simp only[World.var?,hg,Option.bind_some] at hv;split at hv
  next hb=>exact (Array.getElem?_eq_some_iff.1 hb).1
  .cases hv
 refine⟨hlt,?_⟩
 refine ik (λ_ h=>h) (λ_ _ _=>rfl) t _ _ _ _ (λj hj=>?_) hr
 have:=World.var?_cell hg hv0 j
 rw[gh,this];simp
end Go.SX
