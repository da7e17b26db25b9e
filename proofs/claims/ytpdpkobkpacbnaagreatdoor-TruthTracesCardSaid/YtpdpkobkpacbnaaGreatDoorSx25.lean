/- Topo2: networks: the program's check of all, finding, and routes at a time. -/
import Derived.Test.YtpdpkobkpacbnaaGreatDoorNode2
import Derived.Test.YtpdpkobkpacbnaaGreatDoorIdent
import Derived.Test.YtpdpkobkpacbnaaGreatDoorNodec
import Derived.Test.YtpdpkobkpacbnaaGreatDoorSimA
import Derived.Laws.CopyRow
import Derived.LaidMore
import Derived.Stop.Joined
import Derived.FnData
import Derived.MakeChecks
set_option maxRecDepth 100000
set_option linter.unusedVariables false
open Int (toNat)
open List (length take getD set replicate range)
namespace Go.RS
open Go.SX Go.Proofs
def zi{α:Type}(q:α->Bool)(l:List α):Int:=if l.findIdx q<l.length then (l.findIdx q:Int) else -1
theorem Zm{α:Type}{q:α->Bool}{l:List α}:decide (0<=zi q l)=l.any q:=by
 unfold zi
 cases h:l.any q with
 | true =>
  rw[am (List.findIdx_lt_length_of_exists (by simpa using h))];exact cM ab
 | false =>
  have:l.findIdx q=l.length:=List.findIdx_eq_length_of_false (by simpa using h);rw[af ab];rfl
theorem xL{a b:Int}(h:a≠0):a=mH a b:=by unfold mH;rw[am h]
theorem qP{a b:Int}(h:a=0):mH a b=b:=by unfold mH;rw[af (λk=>k h)]
def OU:Ct:=⟨[.agg ib],[.val cI],λd=>[],λd=>((lq d.1,()),())⟩
def Zt:bw OU.ps->ce:=(λd=>{loops:=(bq 2 (λS=>{ι:=Int,μ:=λi=>(d.1.1.length-i).toNat,inv:=λi=>0<=i/\i<=d.1.1.length/\first (kQ d.1) i.toNat=0,keep:=[1,9,10],slots:=λi=>[(11,.int .i64 i)],keepN:=[32]}) (bq 8 (λS=>{ι:=Int,μ:=λi=>((bj (d.1.1.getD (S.i 11).toNat default)).length-i).toNat,inv:=λi=>0<=i/\i<=(bj (d.1.1.getD (S.i 11).toNat default)).length∧∀ k∈(bj (d.1.1.getD (S.i 11).toNat default)).take i.toNat,mL d.1 (S.i 11).toNat k=false,keep:=[1,3,9,10,11,22,23],slots:=λi=>[(24,.int .i64 i)],keepN:=[32,368]}) cC))})
def qz(a:List au)(d:Int) :=
 ((length (bj (ai a d))):Int)
def AF(a:List au)(b:List aK)(c:List aV) :=
 (a.length<=maxLen/\ ∀(d:au),d∈a->CT.wf bR d)/\(b.length<=maxLen/\ ∀(d:aK),d∈b->CT.wf fU d)/\c.length<=maxLen/\ ∀(d:aV),d∈c->CT.wf fg d
theorem at2 :
 ∀(a:List au)(b:List aK)(c:List aV),(AF a b c)/\True->True->(∃(d:Int),(0<=d/\d<=(ac a)/\first (kQ (a,b,c)) d.toNat=0)/\a=a/\(ac a)=(ac a)/\0=d/\a=a/\b=b/\c=c/\True)/\ ∀(d:Int),0<=d/\d<=(ac a)/\first (kQ (a,b,c)) d.toNat=0->ao (decide (d<(ac a))) (0<=d/\d<(ac a)/\ao (! decide (eG (ai a d)=0)) (eG (ai a d)=lq (a,b,c)) (length (ay (ai a d))<=(100000:Nat)/\(∃(e:Int),(0<=e/\e<=(qz a d)/\ ∀(f:Int),f∈take e.toNat (bj (ai a d))->mL (a,b,c) d.toNat f=false)/\d=d/\a=a/\(ac a)=(ac a)/\d=d/\(qz a d)=(qz a d)/\0=e/\a=a/\b=b/\c=c/\bj (ai a d)=bj (ai a d)/\True)/\ ∀(e:Int),(0<=e/\e<=(qz a d)/\ ∀(f:Int),f∈take e.toNat (bj (ai a d))->mL (a,b,c) d.toNat f=false)->ao (decide (e<(qz a d))) (0<=e/\e<(qz a d)/\ ∀(f:Bool),f=decide ((ac b)<=getD (bj (ai a d)) e.toNat default)->(ah (! f))/\((! f)->(ar (!
 f))/\(ar (! f))/\0<=getD (bj (ai a d)) e.toNat default/\getD (bj (ai a d)) e.toNat default<(ac b)/\True)/\(ah (! f))/\(ah (! f))/\((! f)->(ar (! f))/\(ar (! f))/\True)/\(ah (! f))/\ ∀(g:Bool),g= ! decide ((ai b (getD (bj (ai a d)) e.toNat default)).1=d)->(ah (! f&&g))/\((! f&&g)->(ar (! f&&g))/\(ar (! f&&g))/\0<=getD (bj (ai a d)) e.toNat default/\getD (bj (ai a d)) e.toNat default<(ac b)/\True)/\(ah (! f&&g))/\(ah (! f&&g))/\((! f&&g)->(ar (! f&&g))/\(ar (! f&&g))/\True)/\((! f)->(ar (! f))/\(g->(! f&&g))/\True)/\(aE f)/\ao (bif f then true else bif g then ! decide ((ai b (getD (bj (ai a d)) e.toNat default)).2.1=d) else false) (11=lq (a,b,c)) (∃(h:Int),(0<=h/\h<=(qz a d)/\ ∀(i:Int),i∈take h.toNat (bj (ai a d))->mL (a,b,c) d.toNat i=false)/\toNat ((qz a d) -h)<toNat ((qz a d)
 -e)/\d=d/\a=a/\(ac a)=(ac a)/\d=d/\(qz a d)=(qz a d)/\aj (e+1)=h/\a=a/\b=b/\c=c/\bj (ai a d)=bj (ai a d)/\True)) (∃(f:Int),(0<=f/\f<=(ac a)/\first (kQ (a,b,c)) f.toNat=0)/\toNat ((ac a) -f)<toNat ((ac a) -d)/\a=a/\(ac a)=(ac a)/\aj (d+1)=f/\a=a/\b=b/\c=c/\True))) (0=lq (a,b,c)):=by
  delta qz AF ah ar aE aj ai ac;rintro ns ls hs ⟨⟨⟨hnl,-⟩,⟨hl,-⟩,-⟩,-⟩ -;simp only[maxLen] at hl hnl;refine⟨⟨0,⟨ab,ab,rfl⟩,aP⟩,?_⟩;rintro i ⟨i0,i1,hf⟩;refine aw (λhi=>?_) (λhi=>?_)
  rotate_left
  .have hi:=aL hi;rw[show i.toNat=ns.length by omega] at hf;exact hf.symm
  have hi:=aI hi;have ei:((i.toNat:Nat):Int)=i:=ab;have hit:=λh=>Bd (f:=kQ (ns,ls,hs)) (n:=ns.length) i0 hi hf h;refine⟨i0,hi,aw (λh=>?_) (λh=>?_)⟩
  .have h:=gF h;have e:kQ (ns,ls,hs) i.toNat=eG (ns.getD i.toNat default):=am h;have k:=hit (by rw[e];exact h);rw[e] at k;exact k
  have h:=iD h;have nv:=IB h;have k0:=Q2 nv.bad;have hlen:(bj (ns.getD i.toNat default)).length=(ay (ns.getD i.toNat default)).length:=by simp[bj]
  have n32:=nv.len;refine⟨ab,⟨0,⟨ab,ab,aA⟩,aP⟩,?_⟩;rintro j ⟨j0,j1,hj⟩;refine aw (λhk=>?_) (λhk=>?_)
  rotate_left
  .have hk:=aL hk;rw[fi ab] at hj;refine⟨i+1,⟨ab,ab,xK i0 hf ?_⟩,ab,aP⟩;unfold kQ;rw[af (λq=>q h),af];intro q;obtain⟨k,hk,q⟩:=List.any_eq_true.1 q;rw[hj k hk] at q;cases q
  have hk:=aI hk;have hm:=bS j0 hk;have eJ:=λh=>nW j0 hk hj h (P:=λk=>mL (ns,ls,hs) i.toNat k=false);have kk:=k0 _ hm;refine⟨j0,hk,?_⟩;generalize (bj (ns.getD i.toNat default)).getD j.toNat default=k at hm eJ kk ⊢;intro b hb
  (repeat refine⟨(by first|(simp;done)|exact λh=>⟨λ_=>h,λ_=>h,kk,by rw[hb] at h;have:=gF h;omega,bv⟩),?_⟩);intro b1 hb1
  (repeat refine⟨(by first|(simp;done)|(simp +contextual;done)|exact λh=>⟨λ_=>h,λ_=>h,kk,by rw[hb] at h;have:=gF (Bool.and_eq_true_iff.1 h).1;omega,bv⟩),?_⟩);have tot:(bif b then true else bif b1 then !decide ((ls.getD k.toNat default).2.1=i) else false)=mL (ns,ls,hs) i.toNat k:=by
   rw[hb,hb1];unfold mL lA lB;rw[ei];cases decide ((ls.length:Int)<=k) <;> cases decide ((ls.getD k.toNat default).1=i) <;> cases decide ((ls.getD k.toNat default).2.1=i) <;> rfl
  rw[tot];refine aw (λht=>?_) (λht=>?_)
  .have e:kQ (ns,ls,hs) i.toNat=11:=by
    unfold kQ;rw[af (λq=>q h),am (List.any_eq_true.2 ⟨_,hm,ht⟩)]
   have q:=hit (by rw[e];decide);rw[e] at q;exact q
  .exact⟨j+1,⟨ab,ab,eJ ht⟩,ab,aP⟩
theorem Tx:aB 87 OU.spec:=aF Tryz.func87 (av (av aD aG8) MH) Zt at2
def ad6:Ct:=⟨[.val (.sl dj),.agg fg],[.own 96 dj],λd=>[cH d.1,okL d.1,((dN d.2.1).2.1.length:Int)<=1099511627776],λd=>((f9 d.1 d.2.1,()),())⟩
def Ad(a:List aN) :=
 a.length<=maxLen/\ ∀(c:aN),c∈a->((0<=c.1.1/\c.1.1<=4294967295)/\aq c.1.2)/\(c.2.1.length<=maxLen/\ ∀(d:Int),d∈c.2.1->aq d)/\aq c.2.2
theorem ZZ :
 ∀(a:List aN)(b:aV),(Ad a)/\CT.wf fg b/\True->cH a/\okL a/\((length (dN b).2.1):Int)<=1099511627776->ao b.2.2.1 (cH a/\okL a/\jk a b.2.2.2.1=f9 a b) (cH a/\okL a/\(ac b.2.2.2.2.1)<=1099511627776/\f6 a b.2.2.2=f9 a b):=by
  delta Ad ac;rintro l c-⟨hs,hl,hx⟩;unfold f9;rw[show c.2.2.1=pQ c from rfl];refine aw (λh=>⟨hs,hl,?_⟩) (λh=>⟨hs,hl,hx,?_⟩)
  .rw[am h];rfl
  .rw[af (by rw[h];decide)];rfl
theorem NF:aB 119 ad6.spec:=aF Tryz.func119 (av (av aD NR) Rg) aT ZZ
def nu(p:eh)(r:Rt):Bool:=decide (r.1=p)
def aG3:Ct:=⟨[.agg dj,.box 153 fg],[.val .bool],λ_=>[],λd=>((nu (dN d.2.1).1 d.1,()),(d.2.1,()))⟩
theorem Ya :
 ∀(a b:Int)(c:ae)(d:Int)(e:aV),(((0<=a/\a<=4294967295)/\aq b)/\(c.length<=maxLen/\ ∀(f:Int),f∈c->aq f)/\aq d)/\CT.wf fg e/\True->True->(decide (a=e.2.2.2.1.1)&&(decide (b=e.2.2.2.1.2)&&true))=nu (dN e).1 ((a,b),c,d)/\e=e:=by
  rintro a n nx b c - -;refine⟨?_,rfl⟩;rw[u3];simp[nu,Prod.ext_iff,dN]
theorem aj4:aB 153 aG3.spec:=aF Tryz.func153 aD aT Ya
def QX:Ct:=⟨[.val (.sl dj),.fn 153 1,.box 153 fg],[.val cI],λ_=>[],λd=>((zi (nu (dN d.2.2.1).1) d.1,()),(d.2.2.1,()))⟩
def Ur:bw QX.ps->ce:=(λd=>{loops:=(bq 2 (λS=>{ι:=Int,μ:=λi=>(d.1.length-i).toNat,inv:=λi=>0<=i/\i<=d.1.length∧∀ x∈d.1.take i.toNat,nu (dN d.2.2.1).1 x=false,keep:=[0,1,6,7],slots:=λi=>[(8,.int .i64 i)],keepN:=[1048576]}) cC)})
def G7(b:aV) :=
 b.1=b.1/\b.2.1=b.2.1/\b.2.2.1=b.2.2.1/\b.2.2.2.1.1=b.2.2.2.1.1/\b.2.2.2.1.2=b.2.2.2.1.2/\b.2.2.2.2.1=b.2.2.2.2.1/\b.2.2.2.2.2=b.2.2.2.2.2/\True
theorem Yu :
 ∀(a:List aN)(b:aV),(Ad a)/\True/\CT.wf fg b/\True->True->(∃(c:Int),(0<=c/\c<=(ac a)/\ ∀(d:aN),d∈take c.toNat a->nu (dN b).1 d=false)/\a=a/\a=a/\(ac a)=(ac a)/\0=c/\(G7 b))/\ ∀(c:Int),(0<=c/\c<=(ac a)/\ ∀(d:aN),d∈take c.toNat a->nu (dN b).1 d=false)->ao (decide (c<(ac a))) (0<=c/\c<(ac a)/\ao (nu b.2.2.2.1 (ai a c)) (c=zi (nu (dN b).1) a/\b=b) (∃(d:Int),(0<=d/\d<=(ac a)/\ ∀(e:aN),e∈take d.toNat a->nu (dN b).1 e=false)/\toNat ((ac a) -d)<toNat ((ac a) -c)/\a=a/\a=a/\(ac a)=(ac a)/\aj (c+1)=d/\(G7 b))) (-1=zi (nu (dN b).1) a/\b=b):=by
  delta Ad G7 aj ai ac;rintro l c ⟨⟨hl,-⟩,-⟩ -;simp only[maxLen] at hl;refine⟨⟨0,⟨ab,ab,aA⟩,aP⟩,?_⟩;rintro j ⟨j0,j1,hj⟩;refine bU (λhk=>?_) (λhk=>?_)
  .refine⟨j0,hk,aw (λhm=>?_) (λhm=>?_)⟩
   .exact⟨xA j0 hk hj hm,rfl⟩
   .exact⟨j+1,⟨ab,ab,nW j0 hk hj hm⟩,ab,aP⟩
  .exact⟨yd hk hj,rfl⟩
theorem Y2:aB 183 QX.spec:=aF Tryz.func183 (av aD aj4) Ur Yu
def ap7:Ct:=⟨[.val (.sl dj),.fn 153 1,.box 153 fg],[.val .bool],λ_=>[],λd=>((d.1.any (nu (dN d.2.2.1).1),()),(d.2.2.1,()))⟩
theorem Wo :
 ∀(a:List aN)(b:aV),(Ad a)/\True/\CT.wf fg b/\True->True->decide (0<=zi (nu b.2.2.2.1) a)=List.any a (nu (dN b).1)/\b=b:=by
  delta Ad;rintro l c - -;exact⟨Zm,rfl⟩
theorem aj7:aB 152 ap7.spec:=aF Tryz.func152 (av aD Y2) aT Wo
theorem aj9{l:List Rt}{p:eh}:l.any (nu p)=m5 l p:=by rw[U9,u3];simp[nu]
theorem Lp{ns:List au}{j:Nat}(h:j<ns.length):((ns.take j).map aU++replicate (ns.length-j) []).set j (aU (ns.getD j default))=(ns.take (j+1)).map aU++replicate (ns.length-(j+1)) []:=by
 have e1:((ns.take j).map aU).length=j:=by simp;omega
 rw[show ns.length-j=(ns.length-(j+1))+1 by omega,List.replicate_succ,List.set_append_right _ _ ab,e1,Nat.sub_self,List.set_cons_zero,xJ h,lL,bL,cK h]
 simp
theorem Ni(n:aQ){j:Int}(j0:0<=j):hY n j.toNat=mV n j.toNat (n.2.2.getD j.toNat default) (n.2.2.getD (j-1).toNat default) ((dG n j.toNat).getD (bJ (n.2.2.getD j.toNat default)).toNat default):=by
 unfold hY;rw[show (j-1).toNat=j.toNat-1 by omega]
def OO:Ct:=⟨[.agg ib],[.val cI],λd=>[lq d.1=0,d.1.1.length<=64,∀ c∈d.1.2.2,((dN c).2.1.length:Int)<=1099511627776],λd=>((lS d.1,()),())⟩
def Ul:bw OO.ps->ce:=(λd=>{loops:=(bq 3 (λS=>{ι:=Int×(List (List Rt)),qn:=fj,μ:=λi=>(d.1.1.length-i.1).toNat,inv:=λi=>0<=i.1/\i.1<=d.1.1.length/\i.2=(d.1.1.take i.1.toNat).map aU++replicate (d.1.1.length-i.1.toNat) [],keep:=[1,15,16],slots:=λi=>[(3,.own 524288 1),(17,.int .i64 i.1)],keepN:=[32],names:=λi=>[(524288,.live (.row 90 (.sl dj) i.2))]}) (bq 8 (λS=>{ι:=Int×(List (List Rt)),qn:=fj,μ:=λi=>(d.1.2.2.length-i.1).toNat,inv:=λi=>0<=i.1/\i.1<=d.1.2.2.length/\first (hY d.1) i.1.toNat=0/\i.2=dG d.1 i.1.toNat,keep:=[1,29,30],slots:=λi=>[(3,.own 524288 1),(31,.int .i64 i.1)],keepN:=[32],names:=λi=>[(524288,.live (.row 90 (.sl dj) i.2))]}) cC))})
def sf(c:List aV)(f:Int) :=
 toNat (ai c f).2.1
def IC(a:List au)(b:List aK)(c:List aV)(f:Int)(g:List (List Rt)) :=
 cH (g.getD (sf c f) default)/\okL (g.getD (sf c f) default)/\((length (ai c f).2.2.2.2.1):Int)<=1099511627776/\0<=(ai c f).2.1/\(ai c f).2.1<(ac a)/\length (ay (a.getD (sf c f) default))<=(100000:Nat)/\ao (! decide (dP (f9 (g.getD (sf c f) default) (ai c f)) (bj (a.getD (sf c f) default))=0)) (dP (f9 (g.getD (sf c f) default) (ai c f)) (bj (a.getD (sf c f) default))=lS (a,b,c)) (0<=(ai c f).2.1/\(ai c f).2.1<(ac g)/\ ∃(j:Int) (k:List (List Rt)),(0<=j/\j<=(ac c)/\first (hY (a,b,c)) j.toNat=0/\k=dG (a,b,c) j.toNat)/\toNat ((ac c) -j)<toNat ((ac c) -f)/\c=c/\(ac c)=(ac c)/\aj (f+1)=j/\a=a/\b=b/\c=c/\set g (sf c f) (f9 (g.getD (sf c f) default) (ai c f))=k/\True)
def Cs(c:List aV) :=
 ∀(d:aV),d∈c->((length (dN d).2.1):Int)<=1099511627776
theorem at3 :
 ∀(a:List au)(b:List aK)(c:List aV),(AF a b c)/\True->(lq (a,b,c)=0/\a.length<=(64:Nat)/\ (Cs c))->0<=(ac a)/\(ac a)<=(ac a)/\(↑(24:Nat):Int)*(ac a)<=281474976710656/\(∃(d:Int) (e:List (List Rt)),(0<=d/\d<=(ac a)/\e=List.map aU (take d.toNat a)++replicate (a.length -d.toNat) ([]:List aN))/\a=a/\(ac a)=(ac a)/\0=d/\a=a/\b=b/\c=c/\replicate (toNat (ac a)) ([]:List aN)=e/\True)/\ ∀(d:Int)(e:List (List Rt)),0<=d/\d<=(ac a)/\e=List.map aU (take d.toNat a)++replicate (a.length -d.toNat) ([]:List aN)->ao (decide (d<(ac a))) (0<=d/\d<(ac a)/\0<=d/\d<(ac e)/\ ∃(f:Int) (g:List (List Rt)),(0<=f/\f<=(ac a)/\g=List.map aU (take f.toNat a)++replicate (a.length -f.toNat) ([]:List aN))/\toNat ((ac a) -f)<toNat ((ac a) -d)/\a=a/\(ac a)=(ac a)/\aj (d+1)=f/\a=a/\b=b/\c=c/\set e d.toNat (ai a
 d).2.2.2.2.1=g/\True) ((∃(f:Int) (g:List (List Rt)),(0<=f/\f<=(ac c)/\first (hY (a,b,c)) f.toNat=0/\g=dG (a,b,c) f.toNat)/\c=c/\(ac c)=(ac c)/\0=f/\a=a/\b=b/\c=c/\e=g/\True)/\ ∀(f:Int)(g:List (List Rt)),0<=f/\f<=(ac c)/\first (hY (a,b,c)) f.toNat=0/\g=dG (a,b,c) f.toNat->ao (decide (f<(ac c))) (0<=f/\f<(ac c)/\ao (! decide (0<=(ai c f).1/\(ai c f).1<=1125899906842624)) (1=lS (a,b,c)) (∀(h:Bool),h=decide (0<f)->(ah h)/\(ah h)/\(ah h)/\(h->(ar h)/\(ar h)/\0<=aj (f -1)/\aj (f -1)<(ac c)/\True)/\(ah h)/\(ah h)/\(h->(ar h)/\(ar h)/\True)/\(ar h)/\ao (bif h then decide ((ai c f).1<(ai c (aj (f -1))).1) else false) (6=lS (a,b,c)) (ao (! decide (0<=(ai c f).2.1/\(ai c f).2.1<=aj ((ac a) -1))) (8=lS (a,b,c)) (0<=(ai c f).2.1/\(ai c f).2.1<(ac g)/\ ∀(i:Bool),i=(ai c f).2.2.1->ao i ((ar i)/\(ar i)/\(ar i)/\ao (bif i then ! List.any
 (g.getD (sf c f) default) (nu (ai c f).2.2.2.1) else false) (8=lS (a,b,c)) (IC a b c f g)) (i=false/\(i->false=true)/\ao (bif i then false else false) (8=lS (a,b,c)) (IC a b c f g)))))) (0=lS (a,b,c))):=by
  delta IC AF sf Cs ah ar aj ai ac;rintro ns ls hs ⟨⟨⟨hnl,-⟩,⟨hl,-⟩,⟨hhl,-⟩⟩,-⟩⟨hb,hn,hx⟩;simp only[maxLen] at hl hnl hhl;refine⟨ab,ab,ab,⟨0,_,⟨ab,ab,rfl⟩,by (repeat refine js ?_);simp⟩,?_⟩;rintro j t ⟨j0,j1,rfl⟩;have tl:((ns.take j.toNat).map aU++replicate (ns.length-j.toNat) ([]:List Rt)).length=ns.length:=by simp;omega
  refine aw (λhj=>?_) (λhj=>?_)
  .have hj:=aI hj;refine⟨j0,hj,j0,by rw[tl];exact hj,j+1,_,⟨ab,ab,rfl⟩,ab,?_⟩
   (repeat refine js ?_);refine⟨?_,bv⟩;rw[show (j+1).toNat=j.toNat+1 by omega,← Lp ab];rfl
  have hj:=aL hj;have e0:(ns.take j.toNat).map aU++replicate (ns.length-j.toNat) ([]:List Rt)=dG (ns,ls,hs) 0:=by
   rw[fi ab,show ns.length-j.toNat=0 by omega];simp[dG]
  rw[e0];clear e0 tl hj j0 j1;refine⟨⟨0,_,⟨ab,ab,rfl,rfl⟩,aP⟩,?_⟩;rintro j t ⟨j0,j1,hf,rfl⟩;refine aw (λhj=>?_) (λhj=>?_)
  rotate_left
  .have hj:=aL hj;rw[show j.toNat=hs.length by omega] at hf;exact hf.symm
  have hj:=aI hj;have hm:=bS j0 hj;have tb:=I9 hb hf;have tl:=qJ (ns,ls,hs) j.toNat
  have hit:=λh=>Bd (f:=hY (ns,ls,hs)) (n:=hs.length) j0 hj hf h;have eq:=Ni (ns,ls,hs) j0;have ej:((j.toNat:Nat):Int)=j:=ab;rw[aG (n:=j-1) ab ab,aG (n:=(ns.length:Int)-1) ab ab];refine⟨j0,hj,aw (λh=>?_) (λh=>?_)⟩
  .have h:=gF h;have e:hY (ns,ls,hs) j.toNat=1:=by
    rw[eq];unfold mV;rw[am];dsimp only[fc];omega
   have q:=hit (by rw[e];decide);rw[e] at q;exact q
  have h1:=iD h;have c1:¬ (fc (hs.getD j.toNat default)<0∨1125899906842624<fc (hs.getD j.toNat default)):=by unfold fc;omega
  clear h;intro b hb1
  (repeat refine⟨(by first|(simp;done)|exact λh=>⟨λ_=>h,λ_=>h,by rw[hb1] at h;have:=aI h;omega,by rw[hb1] at h;have:=aI h;omega,bv⟩),?_⟩);rw[hb1,uL];refine aw (λh=>?_) (λh=>?_)
  .have h:=aI h;have e:hY (ns,ls,hs) j.toNat=6:=by
    rw[eq];unfold mV;rw[af c1,am];exact⟨ab,h.2⟩
   have q:=hit (by rw[e];decide);rw[e] at q;exact q
  have c2:¬ (0<j.toNat/\fc (hs.getD j.toNat default)<fc (hs.getD (j-1).toNat default)):=λq=>aL h ⟨ab,q.2⟩;clear h;refine aw (λh=>?_) (λh=>?_)
  .have h:=gF h;have e:hY (ns,ls,hs) j.toNat=8:=by
    rw[eq];unfold mV;rw[af c1,af c2,am];dsimp only[bJ];omega
   have q:=hit (by rw[e];decide);rw[e] at q;exact q
  have h2:=iD h;have h2:0<=bJ (hs.getD j.toNat default)/\bJ (hs.getD j.toNat default)<=(ns.length:Int)-1:=h2;have c3:¬ (bJ (hs.getD j.toNat default)<0∨(ns.length:Int)<=bJ (hs.getD j.toNat default)):=ab;clear h;refine⟨h2.1,by rw[tl];show bJ _<(ns.length:Int);omega,?_⟩;intro b2 hb2;have hb2:b2=pQ (hs.getD j.toNat default):=hb2;refine aw (λq=>?_) (λq=>?_)
  .subst q
   (repeat refine⟨aA,?_⟩);simp only[cond_true];rw[aj9];refine aw (λh=>?_) (λh=>?_)
   .have e:hY (ns,ls,hs) j.toNat=8:=by
     rw[eq];unfold mV;rw[af c1,af c2,af c3,am];exact⟨hb2.symm,(sa _).mp h⟩
    have q:=hit (by rw[e];decide);rw[e] at q;exact q
   have c4:¬ (pQ (hs.getD j.toNat default)=true/\m5 ((dG (ns,ls,hs) j.toNat).getD (bJ (hs.getD j.toNat default)).toNat default) (dN (hs.getD j.toNat default)).1=false):=λz=>by
    have z2:=z.2;have h:(!m5 ((dG (ns,ls,hs) j.toNat).getD (bJ (hs.getD j.toNat default)).toNat default) (dN (hs.getD j.toNat default)).1)=false:=h;rw[z2] at h;cases h
   have wl:(bJ (hs.getD j.toNat default)).toNat<ns.length:=ab;have tr:=tb.r (bJ (hs.getD j.toNat default)).toNat wl;refine⟨tr.1,tr.2,hx _ hm,ab,ab,by have:=(Bu (n:=(ns,ls,hs)) hb wl).len;exact qX this bt,aw (λh=>?_) (λh=>?_)⟩
   .have h:=gF h;have e:hY (ns,ls,hs) j.toNat=dP (f9 ((dG (ns,ls,hs) j.toNat).getD (bJ (hs.getD j.toNat default)).toNat default) (hs.getD j.toNat default)) (bj (ns.getD (bJ (hs.getD j.toNat default)).toNat default)):=by
     rw[eq];unfold mV;rw[af c1,af c2,af c3,af c4]
    have k:=hit (by rw[e];exact h);rw[e] at k;exact k
   .have h:=iD h;have e:hY (ns,ls,hs) j.toNat=0:=by
     rw[eq];unfold mV;rw[af c1,af c2,af c3,af c4];exact h
    refine⟨ab,by rw[qJ];show bJ _<(ns.length:Int);omega,j+1,dG (ns,ls,hs) (j+1).toNat,⟨ab,ab,xK j0 hf e,rfl⟩,ab,?_⟩
    (repeat refine js ?_);refine⟨?_,bv⟩;rw[show (j+1).toNat=j.toNat+1 by omega];rfl
  ·(repeat refine⟨by simp[q],?_⟩);refine aw (λh=>by rw[q] at h;cases h) (λh=>?_);have c4:¬ (pQ (hs.getD j.toNat default)=true/\m5 ((dG (ns,ls,hs) j.toNat).getD (bJ (hs.getD j.toNat default)).toNat default) (dN (hs.getD j.toNat default)).1=false):=λz=>by
    rw[← hb2,q] at z;cases z.1
   have wl:(bJ (hs.getD j.toNat default)).toNat<ns.length:=ab;have tr:=tb.r (bJ (hs.getD j.toNat default)).toNat wl;refine⟨tr.1,tr.2,hx _ hm,ab,ab,by have:=(Bu (n:=(ns,ls,hs)) hb wl).len;exact qX this bt,aw (λh=>?_) (λh=>?_)⟩
   .have h:=gF h;have e:hY (ns,ls,hs) j.toNat=dP (f9 ((dG (ns,ls,hs) j.toNat).getD (bJ (hs.getD j.toNat default)).toNat default) (hs.getD j.toNat default)) (bj (ns.getD (bJ (hs.getD j.toNat default)).toNat default)):=by
     rw[eq];unfold mV;rw[af c1,af c2,af c3,af c4]
    have k:=hit (by rw[e];exact h);rw[e] at k;exact k
   .have h:=iD h;have e:hY (ns,ls,hs) j.toNat=0:=by
     rw[eq];unfold mV;rw[af c1,af c2,af c3,af c4];exact h
    refine⟨ab,by rw[qJ];show bJ _<(ns.length:Int);omega,j+1,dG (ns,ls,hs) (j+1).toNat,⟨ab,ab,xK j0 hf e,rfl⟩,ab,?_⟩
    (repeat refine js ?_);refine⟨?_,bv⟩;rw[show (j+1).toNat=j.toNat+1 by omega];rfl
theorem aO5:aB 91 OO.spec:=aF Tryz.func91 (av (av (av (av (av aD DK) aj7) NF) MH) PH) Ul at3
def Pf:Ct:=⟨[.agg ib],[.val cI],λd=>[∀ c∈d.1.2.2,((dN c).2.1.length:Int)<=1099511627776],λd=>((d9 d.1,()),())⟩
def Ui:bw Pf.ps->ce:=(λd=>{unr:=λn=>match n with|2=>8|_=>0})
theorem YO :
 ∀(a:List au)(b:List aK)(c:List aV),(AF a b c)/\True->(Cs c)->ao (! decide (nR (a,b,c)=0)) (nR (a,b,c)=d9 (a,b,c)) (ao (! decide (lX (a,b,c)=0)) (lX (a,b,c)=d9 (a,b,c)) (ao (! decide (lq (a,b,c)=0)) (lq (a,b,c)=d9 (a,b,c)) (Be (a,b,c)/\ao (! decide (nH (a,b,c)=0)) (nH (a,b,c)=d9 (a,b,c)) ((∀(d:au),d∈a->length (ay d)<=(100000:Nat))/\ao (! decide (oJ (a,b,c)=0)) (oJ (a,b,c)=d9 (a,b,c)) (Be (a,b,c)/\ao (! decide (nT (a,b,c)=0)) (nT (a,b,c)=d9 (a,b,c)) (lq (a,b,c)=0/\a.length<=(64:Nat)/\(Cs c)/\ao (! decide (lS (a,b,c)=0)) (lS (a,b,c)=d9 (a,b,c)) (0=d9 (a,b,c)))))))):=by
  delta AF Cs;rintro ns ls hs-hx;unfold d9;refine aw (λh=>xL (gF h)) (λh=>?_);have h1:=iD h;rw[qP h1];refine aw (λh=>xL (gF h)) (λh=>?_);have h2:=iD h;rw[qP h2];refine aw (λh=>xL (gF h)) (λh=>?_);have h3:=iD h;rw[qP h3];refine⟨HL h2,aw (λh=>xL (gF h)) (λh=>?_)⟩;have h4:=iD h;rw[qP h4];refine⟨λx hx=>qX (O1 h3 x hx).len bt,aw (λh=>xL (gF h)) (λh=>?_)⟩;have h5:=iD h;rw[qP h5];refine⟨HL h2,aw (λh=>xL (gF h)) (λh=>?_)⟩;have h6:=iD h;rw[qP h6];refine⟨h3,?_,hx,aw (λh=>rfl) (λh=>(iD h).symm)⟩;unfold nR at h1;split at h1
  .cases h1
  .dsimp only at *;omega
theorem aO7:aB 39 Pf.spec:=aF Tryz.func39 (av (av (av (av (av (av (av aD aS9) Zb) Tx) Wd) S5) XR) aO5) Ui YO
def RY:Ct:=⟨[.agg ib,.val cP],[.val cI,.val .bool],λd=>[],λd=>((vl d.1 d.2.1,rJ d.1 d.2.1,()),())⟩
def az0:bw RY.ps->ce:=(λd=>{loops:=(bq 2 (λS=>{ι:=Int,μ:=λi=>(d.1.1.length-i).toNat,inv:=λi=>0<=i/\i<=d.1.1.length∧∀ x∈d.1.1.take i.toNat,dC x d.2.1=false,keep:=[1,3,9,10],slots:=λi=>[(11,.int .i64 i)],keepN:=[48]}) cC)})
theorem aV8 :
 ∀(a:List au)(b:List aK)(c:List aV)(d:Int),((a.length<=maxLen/\ ∀(e:au),e∈a->CT.wf bR e)/\(b.length<=maxLen/\ ∀(e:aK),e∈b->CT.wf fU e)/\c.length<=maxLen/\ ∀(e:aV),e∈c->CT.wf fg e)/\(0<=d/\d<=4294967295)/\True->True->(∃(e:Int),(0<=e/\e<=(ac a)/\ ∀(f:au),f∈take e.toNat a->dC f d=false)/\d=d/\a=a/\(ac a)=(ac a)/\0=e/\a=a/\b=b/\c=c/\True)/\ ∀(e:Int),(0<=e/\e<=(ac a)/\ ∀(f:au),f∈take e.toNat a->dC f d=false)->ao (decide (e<(ac a))) (0<=e/\e<(ac a)/\ao (dC (ai a e) d) (e=vl (a,b,c) d/\true=rJ (a,b,c) d) (∃(f:Int),(0<=f/\f<=(ac a)/\ ∀(g:au),g∈take f.toNat a->dC g d=false)/\toNat ((ac a) -f)<toNat ((ac a) -e)/\d=d/\a=a/\(ac a)=(ac a)/\aj (e+1)=f/\a=a/\b=b/\c=c/\True)) (0=vl (a,b,c) d/\false=rJ (a,b,c) d):=by
  delta aj ai ac;rintro ns ls hs a ⟨⟨⟨hnl,-⟩,-⟩,-⟩ -;simp only[maxLen] at hnl;refine⟨⟨0,⟨ab,ab,aA⟩,aP⟩,?_⟩;rintro i ⟨i0,i1,hI⟩;refine bU (λhi=>?_) (λhi=>?_)
  .refine⟨i0,hi,aw (λhm=>?_) (λhm=>?_)⟩
   .have e:=xA (q:=λx=>dC x a) i0 hi hI hm;unfold vl rJ Cv;by_cases k:ns.findIdx (λx=>dC x a)<ns.length
    .rw[am k] at e;dsimp only;rw[am k,cM k];exact⟨e,rfl⟩
    .rw[af k] at e;omega
   .exact⟨i+1,⟨ab,ab,nW i0 hi hI hm⟩,ab,aP⟩
  .have e:=yd (q:=λx=>dC x a) hi hI;unfold vl rJ Cv;by_cases k:ns.findIdx (λx=>dC x a)<ns.length
   .rw[am k] at e;omega
   .dsimp only;rw[af k,dO k];exact⟨rfl,rfl⟩
theorem YG:aB 65 RY.spec:=aF Tryz.func65 (av aD HN) az0 aV8
def WF:Ct:=⟨[.val (.sl dj)],[.own 96 dj],λd=>[(d.1.length:Int)<=134217728],λd=>((d.1,()),())⟩
theorem aI6 :
 ∀(a:List aN),(a.length<=maxLen/\ ∀(b:aN),b∈a->((0<=b.1.1/\b.1.1<=4294967295)/\aq b.1.2)/\(b.2.1.length<=maxLen/\ ∀(c:Int),c∈b.2.1->aq c)/\aq b.2.2)/\True->(ac a)<=134217728-> ∀(b:Bool),(b=true->a.length=(0:Nat))->ao b (([]:List aN)=a) (((0:Nat)+a.length)*(48:Nat)<=(140737488355328:Nat)/\a=a):=by
  delta ac;rintro x ⟨⟨hl,-⟩,-⟩ h b hb;refine aw (λh1=>?_) (λh1=>⟨ab,aA⟩);have:=hb h1;exact (oW this).symm
theorem Ss:aB 118 WF.spec:=aF Tryz.func118 aD aT aI6
def P7:Ct:=⟨[.agg ib,.val cI,.val cI],[.own 96 dj],λd=>[okNet d.1],λd=>((d5 d.1 d.2.1 d.2.2.1,()),())⟩
def XG:bw P7.ps->ce:=(λd=>{loops:=(bq 5 (λS=>{ι:=Int,μ:=λi=>((aU (d.1.1.getD d.2.1.toNat default)).length-i).toNat,inv:=λi=>0<=i/\i<=(aU (d.1.1.getD d.2.1.toNat default)).length,keep:=[1,2,3,7,26,27],slots:=λi=>[(28,.int .i64 i)],keepN:=[64,416]}) (bq 10 (λS=>{ι:=Int×(List Rt),qn:=fj,μ:=λi=>(d.1.2.2.length-i.1).toNat,inv:=λi=>0<=i.1/\i.1<=d.1.2.2.length/\i.2=rm d.1 d.2.1 d.2.2.1 i.1,keep:=[1,2,3,42,43],slots:=λi=>[(7,.own 524288 4),(44,.int .i64 i.1)],keepN:=[64],names:=λi=>[(524288,.live (.row 96 dj i.2))]}) cC))})
def ut(a:List au)(d:Int) :=
 ((length (ai a d).2.2.2.2.1):Int)
def z7(a:List au)(d:Int) :=
 ((length (aU (ai a d))):Int)
theorem U4 :
 ∀(a:List au)(b:List aK)(c:List aV)(d e:Int),((a.length<=maxLen/\ ∀(f:au),f∈a->CT.wf bR f)/\(b.length<=maxLen/\ ∀(f:aK),f∈b->CT.wf fU f)/\c.length<=maxLen/\ ∀(f:aV),f∈c->CT.wf fg f)/\aq d/\aq e/\True->okNet (a,b,c)->ao (! decide (0<=d/\d<=aj ((ac a) -1))) (([]:List aN)=d5 (a,b,c) d e) (0<=d/\d<(ac a)/\(ut a d)<=134217728/\(∃(f:Int),(0<=f/\f<=(z7 a d))/\d=d/\e=e/\(ut a d)=(ut a d)/\0=f/\a=a/\b=b/\c=c/\(ai a d).2.2.2.2.1=(ai a d).2.2.2.2.1/\True)/\ ∀(f:Int),0<=f/\f<=(z7 a d)->ao (decide (f<(ut a d))) (0<=f/\f<(ut a d)/\((length (getD (ai a d).2.2.2.2.1 f.toNat default).2.1):Int)<=1099511627776/\0<=f/\f<(ut a d)/\ ∃(g:Int),(0<=g/\g<=(z7 a d))/\toNat ((z7 a d) -g)<toNat ((z7 a d) -f)/\d=d/\e=e/\(ut a d)=(ut a d)/\aj (f+1)=g/\a=a/\b=b/\c=c/\set (ai a d).2.2.2.2.1 f.toNat (getD (ai a
 d).2.2.2.2.1 f.toNat default)=(ai a d).2.2.2.2.1/\True) ((∃(g:Int) (h:List Rt),(0<=g/\g<=(ac c)/\h=rm (a,b,c) d e g)/\d=d/\e=e/\c=c/\(ac c)=(ac c)/\0=g/\a=a/\b=b/\c=c/\(ai a d).2.2.2.2.1=h/\True)/\ ∀(g:Int)(h:List Rt),0<=g/\g<=(ac c)/\h=rm (a,b,c) d e g->ao (decide (g<(ac c))) (0<=g/\g<(ac c)/\ ∀(i:Bool),i=decide ((ai c g).2.1=d)->(ah i)/\(i->(ar i)/\(ar i)/\True)/\(ar i)/\ao (bif i then decide ((ai c g).1<=e) else false) (cH h/\okL h/\((length (ai c g).2.2.2.2.1):Int)<=1099511627776/\ ∃(j:Int) (k:List Rt),(0<=j/\j<=(ac c)/\k=rm (a,b,c) d e j)/\toNat ((ac c) -j)<toNat ((ac c) -g)/\d=d/\e=e/\c=c/\(ac c)=(ac c)/\aj (g+1)=j/\a=a/\b=b/\c=c/\f9 h (ai c g)=k/\True) (∃(j:Int) (k:List Rt),(0<=j/\j<=(ac c)/\k=rm (a,b,c) d e j)/\toNat ((ac c) -j)<toNat ((ac c) -g)/\d=d/\e=e/\c=c/\(ac c)=(ac c)/\aj
 (g+1)=j/\a=a/\b=b/\c=c/\h=k/\True)) (h=d5 (a,b,c) d e))):=by
  delta ut z7 ah ar aj ai ac;rintro ns ls hs who at' ⟨⟨⟨hnl,-⟩,-,⟨hhl,-⟩⟩,-⟩ ok;simp only[maxLen] at hnl hhl;rw[aG (n:=(ns.length:Int)-1) ab ab];refine aw (λh=>?_) (λh=>?_)
  .have h:=gF h;unfold d5;rw[am (by show who<0∨(ns.length:Int)<=who;omega)]
  have h:=iD h;have hm:=bS (xs:=ns) h.1 ab;have hr:=ok.t _ hm;have eR:(ns.getD who.toNat default).2.2.2.2.1=aU (ns.getD who.toNat default):=rfl;rw[eR];have r1:=hr.2.1;refine⟨h.1,ab,ab,⟨0,⟨ab,ab⟩,aP⟩,?_⟩;rintro j ⟨j0,j1⟩;refine bU (λhj=>?_) (λhj=>?_)
  .refine⟨j0,hj,hr.2.2 _ (bS j0 hj),j0,hj,j+1,⟨ab,ab⟩,ab,?_⟩
   (repeat refine js ?_);exact⟨rX j0 hj,bv⟩
  refine⟨⟨0,_,⟨ab,ab,rfl⟩,aP⟩,?_⟩;clear hj j0 j1;rintro j t ⟨j0,j1,rfl⟩;have hok:=GE ok (at':=at') h.1 (by show who<(ns.length:Int);omega) j.toNat (by show j.toNat<=hs.length;omega)
  rw[show ((j.toNat:Nat):Int)=j by omega] at hok;have hc:=ok.c;refine bU (λhj=>?_) (λhj=>?_)
  .have st:=OR (n:=(ns,ls,hs)) (who:=who) (at':=at') j0 hj;refine⟨j0,hj,?_⟩
   (repeat (refine bY ?_;repeat refine bZ ?_));rw[uL];refine bU (λq=>?_) (λq=>?_)
   .refine⟨hok.s,hok.okL (by dsimp only at hc;omega),ok.s _ (bS j0 hj),j+1,_,⟨ab,ab,rfl⟩,ab,?_⟩
    (repeat refine js ?_);refine⟨?_,bv⟩;rw[st];exact (am q).symm
   .refine⟨j+1,_,⟨ab,ab,rfl⟩,ab,?_⟩
    (repeat refine js ?_);refine⟨?_,bv⟩;rw[st];exact (af q).symm
  .unfold d5;rw[af (by show ¬ (who<0∨(ns.length:Int)<=who);omega),show j=(hs.length:Int) by omega]
theorem OI:aB 49 P7.spec:=aF Tryz.func49 (av (av (av (av aD DK) Ss) wX) NF) XG U4
abbrev Hv:CT := .pair (.sl cI) (.pair (.sl cI) cI)
abbrev Way:Type:=ae×ae×Int
def yh(n:aQ)(a b:Int):Bool:=rJ n a&&rJ n b&&decide (vl n a=vl n b)
def S7:Ct:=⟨[.agg ib,.val cP,.val cP],[.val .bool],λ_=>[],λd=>((yh d.1 d.2.1 d.2.2.1,()),())⟩
theorem Zu :
 ∀(a:List au)(b:List aK)(c:List aV)(d e:Int),((a.length<=maxLen/\ ∀(f:au),f∈a->CT.wf bR f)/\(b.length<=maxLen/\ ∀(f:aK),f∈b->CT.wf fU f)/\c.length<=maxLen/\ ∀(f:aV),f∈c->CT.wf fg f)/\(0<=d/\d<=4294967295)/\(0<=e/\e<=4294967295)/\True->True-> ∀(f:Bool),f=rJ (a,b,c) d->(ar f)/\ ∀(g:Bool),(g=bif f then rJ (a,b,c) e else false)->(g->(ar g)/\(ar g)/\True)/\(ar g)/\(bif g then decide (vl (a,b,c) d=vl (a,b,c) e) else false)=yh (a,b,c) d e:=by
  delta ar;rintro ns ls hs a b - -;intro b1 hb1
  (repeat refine⟨λh_=>(by first|(simp;done)|(simp[h_];done)|(simp_all;done)),?_⟩);intro b2 hb2
  (repeat refine⟨λh_=>(by first|(simp;done)|(simp[h_];done)|(simp_all;done)),?_⟩);rw[hb2,hb1];unfold yh;cases rJ (ns,ls,hs) a <;> cases rJ (ns,ls,hs) b <;> rfl
theorem SZ:aB 25 S7.spec:=aF Tryz.func25 (av aD YG) aT Zu
def ai3:Ct:=⟨[.agg dj],[.val .bool],λ_=>[],λd=>((decide (1<(d.1.2.1.length:Int)),()),())⟩
theorem aN6 :
 ∀(a b:Int)(c:ae)(d:Int),(((0<=a/\a<=4294967295)/\aq b)/\(c.length<=maxLen/\ ∀(e:Int),e∈c->aq e)/\aq d)/\True->True->decide (1<(ac c))=decide (1<(ac c)):=by
  delta ac;rintro a b c e - -;rfl
theorem Mq:aB 51 ai3.spec:=aF Tryz.func51 aD aT aN6
def gR(l:ae):Int:=l.getD (l.length-1) default
def ve(r:Rt)(seed:Int)(k:dZ):Int:=if 1<r.2.1.length then (ju r.2.2 seed k 0 r.2.1.length).1 else 0
def qG(n:aQ)(k:dZ)(here:Int)(x:au)(r:Rt)(ok:Bool)(w:Way):Way :=
 if dC x k.2.1=true then (w.1,w.2.1,1)
 else if iL x=true/\0<w.2.1.length then (w.1,w.2.1,5)
 else if ok=false∨r.2.1.length=0 then (w.1,w.2.1,2)
 else if 1<r.2.1.length/\r.2.2=3 then (w.1,w.2.1,4)
 else if 255<=w.2.1.length then (w.1,w.2.1,3)
 else (w.1++[fB n.2.1 (r.2.1.getD (ve r (sw x) k).toNat default) here],w.2.1++[r.2.1.getD (ve r (sw x) k).toNat default],0)
def lR(n:aQ)(at':Int)(k:dZ)(w:Way):Way :=
 qG n k (gR w.1) (n.1.getD (gR w.1).toNat default) (bf (d5 n (gR w.1) at') k.2.1) (ie (d5 n (gR w.1) at') k.2.1) w
def kY(n:aQ)(at':Int)(k:dZ):Nat->Way->Way
 | 0,w=>w
 | f+1,w=>if w.2.2=0 then kY n at' k f (lR n at' k w) else w
def ly(n:aQ)(at' who:Int)(k:dZ):Way:=kY n at' k 257 ([who],[],0)
structure WN (n:aQ):Prop where
 o:okNet n
 x:∀ who at':Int,0<=who->who<n.1.length→∀ r∈d5 n who at',∀ k∈r.2.1,0<=fB n.2.1 k who/\fB n.2.1 k who<n.1.length
structure TI (n:aQ) (at' who:Int) (k:dZ) (w:Way):Prop where
 l:w.1.length=w.2.1.length+1
 m:w.2.1.length<=255
 r:∀ x∈w.1,0<=x/\x<n.1.length
 e:kY n at' k (257-w.2.1.length) w=ly n at' who k
theorem HE{n:aQ}{at':Int}{k:dZ}{w:Way}(h:w.2.2≠0):∀ f,kY n at' k f w=w
 | 0=>rfl
 | f+1=>by rw[kY,af h]
theorem TI.done{n:aQ}{at' who:Int}{k:dZ}{w:Way}(h:TI n at' who k w)(he:w.2.2≠0):w=ly n at' who k:=by
 rw[← h.e,HE he]
theorem TI.start{n:aQ}{at' who:Int}{k:dZ}(w0:0<=who)(w1:who<n.1.length):TI n at' who k ([who],[],0) :=
 ⟨rfl,Nat.zero_le _,λx hx=>by rw[iP.1 hx];exact⟨w0,w1⟩,rfl⟩
theorem TI.stop{n:aQ}{at' who:Int}{k:dZ}{ns ls:ae}(h:TI n at' who k (ns,ls,0)){e:Int}(he:e≠0)(hs:lR n at' k (ns,ls,0)=(ns,ls,e)):TI n at' who k (ns,ls,e):=by
 refine⟨h.l,h.m,h.r,?_⟩
 have hm:=h.m
 have k1:=h.e
 dsimp only at k1 hm ⊢
 rw[show 257-ls.length=(256-ls.length)+1 by omega,kY,am rfl,hs,HE he] at k1
 rw[HE he];exact k1
theorem TI.go{n:aQ}{at' who:Int}{k:dZ}{ns ls:ae}(h:TI n at' who k (ns,ls,0))(hl:ls.length<255){o l:Int}(ho:0<=o/\o<n.1.length)(hs:lR n at' k (ns,ls,0)=(ns++[o],ls++[l],0)):TI n at' who k (ns++[o],ls++[l],0):=by
 have hll:=h.l
 have k1:=h.e
 dsimp only at k1 hll
 refine⟨by dsimp only;rw[cu,cu,hll];rfl,by dsimp only;rw[cu,ga];omega,λx hx=>?_,?_⟩
 .rcases dw.1 hx with hx|hx
  .exact h.r x hx
  .rw[iP.1 hx];exact ho
 .dsimp only;rw[show 257-ls.length=(256-ls.length)+1 by omega,kY,am rfl,hs] at k1;rw[cu,ga,show 257-(ls.length+1)=256-ls.length by omega];exact k1
theorem aB8{ns:ae}:ns.getD ((ns.length:Int)-1).toNat default=gR ns:=by
 unfold gR;rw[show ((ns.length:Int)-1).toNat=ns.length-1 by omega]
theorem C5{ns:ae}(h:0<ns.length):gR ns∈ns:=by
 unfold gR;exact nX (by omega)
theorem Xz{way seed c n:Int}{k:dZ}(hn:1<=n)(hc:0<=c):0<=(ju way seed k c n).1/\(ju way seed k c n).1<n:=by
 have hr:∀ k,0<=(nU seed k).tmod n/\(nU seed k).tmod n<n:=λk=>⟨sO (xT _ _).1,rK (xT _ _).1 ab⟩
 unfold ju
 split
 .exact⟨f8 _,by dsimp only;omega⟩
 .dsimp only;split
  .exact hr _
  .split
   .exact hr _
   .exact⟨sO hc,rK hc ab⟩
theorem Ht{r:Rt}{seed:Int}{k:dZ}(h:0<r.2.1.length):0<=ve r seed k/\ve r seed k<r.2.1.length:=by
 unfold ve
 split
 .exact Xz ab ab
 .omega
theorem Hg{l:List Rt}{a:Int}(h:ie l a=true):bf l a∈l:=by
 rw[WB] at h
 exact (Yr (aI h)).1
def M2:Ct:=⟨[.agg ib,.val cI,.val cI,.agg xh],[.agg Hv],λd=>[WN d.1,0<=d.2.2.1,d.2.2.1<d.1.1.length],λd=>((ly d.1 d.2.1 d.2.2.1 d.2.2.2.1,()),())⟩
def ac2:bw M2.ps->ce:=(λd=>{loops:=(bq 2 (λS=>{ι:=ae×ae×Int,qn:=rH,μ:=λi=>2*(255-i.2.1.length)+(if i.2.2=0 then 1 else 0),inv:=λi=>TI d.1 d.2.1 d.2.2.1 d.2.2.2.1 (i.1,i.2.1,i.2.2),keep:=[1,4,7,8,9],slots:=λi=>[],keepN:=[80,128,144],names:=λi=>[(160,.live (.cells 61 [.own 524288 1,.own 524289 1,.int .i64 i.2.2])),(524288,.live (.row 3 cI i.1)),(524289,.live (.row 3 cI i.2.1))]}) cC)})
def u9(k:ae) :=
 ai k (aj ((ac k) -1))
def rE(a:List au)(b:List aK)(c:List aV)(d g:Int)(k:ae) :=
 bf (d5 (a,b,c) (u9 k) d) g
def uI(a:List au)(b:List aK)(c:List aV)(d g:Int)(k:ae) :=
 ((length (rE a b c d g k).2.1):Int)
def uV(a:List au)(b:List aK)(c:List aV)(d f g h i j:Int)(k:ae) :=
 ju (rE a b c d g k).2.2 (ai a (k.getD (toNat (aj ((ac k) -1))) default)).2.2.2.2.2.2.2.2.2.2.2.2.2.2 (f,g,h,i,j) (0:Int) (uI a b c d g k)
def Bm(l:ae)(m:Int)(r:ae)(s:Int) :=
 ((2:Nat)*((255:Nat) -r.length)+if s=0 then (1:Nat) else (0:Nat))<(2:Nat)*((255:Nat) -l.length)+if m=0 then (1:Nat) else (0:Nat)
theorem WY :
 ∀(a:List au)(b:List aK)(c:List aV)(d e f g h i j:Int),((a.length<=maxLen/\ ∀(k:au),k∈a->CT.wf bR k)/\(b.length<=maxLen/\ ∀(k:aK),k∈b->CT.wf fU k)/\c.length<=maxLen/\ ∀(k:aV),k∈c->CT.wf fg k)/\aq d/\aq e/\((0<=f/\f<=4294967295)/\(0<=g/\g<=4294967295)/\aq h/\aq i/\aq j)/\True->WN (a,b,c)/\0<=e/\e+1<=(ac a)->(∃(k:ae) (l:ae),∃(m:Int),TI (a,b,c) d e (f,g,h,i,j) (k,l,m)/\d=d/\a=a/\b=b/\c=c/\f=f/\g=g/\h=h/\i=i/\j=j/\(0:Int)=0/\0=m/\[e]=k/\l=([]:ae)/\True)/\ ∀(k l:ae)(m:Int),TI (a,b,c) d e (f,g,h,i,j) (k,l,m)->ao (decide (m=0)) (0<=aj ((ac k) -1)/\aj ((ac k) -1)<(ac k)/\0<=ai k (aj ((ac k) -1))/\ai k (aj ((ac k) -1))<(ac a)/\okNet (a,b,c)/\cH (d5 (a,b,c) (u9 k) d)/\okL (d5 (a,b,c) (u9 k) d)/\ao (dC (ai a (k.getD (toNat (aj ((ac k) -1))) default)) g) (∃(n:ae) (o:ae),∃(p:Int),TI
 (a,b,c) d e (f,g,h,i,j) (n,o,p)/\(((2:Nat)*((255:Nat) -o.length)+if p=0 then (1:Nat) else (0:Nat))<(2:Nat)*((255:Nat) -l.length)+if m=0 then (1:Nat) else (0:Nat))/\d=d/\a=a/\b=b/\c=c/\f=f/\g=g/\h=h/\i=i/\j=j/\(0:Int)=0/\1=p/\k=n/\l=o/\True) (∀(n:Bool),n=(ai a (k.getD (toNat (aj ((ac k) -1))) default)).2.2.2.1->(ah n)/\(ah n)/\(ah n)/\(ar n)/\ao (bif n then decide (0<(ac l)) else false) (∃(o:ae) (p:ae),∃(q:Int),TI (a,b,c) d e (f,g,h,i,j) (o,p,q)/\(((2:Nat)*((255:Nat) -p.length)+if q=0 then (1:Nat) else (0:Nat))<(2:Nat)*((255:Nat) -l.length)+if m=0 then (1:Nat) else (0:Nat))/\d=d/\a=a/\b=b/\c=c/\f=f/\g=g/\h=h/\i=i/\j=j/\(0:Int)=0/\5=q/\k=o/\l=p/\True) (∀(o:Bool),o= ! ie (d5 (a,b,c) (u9 k) d) g->(ah (! o))/\(ah (! o))/\(ah (! o))/\(aE o)/\ao (bif o then true else decide ((uI a b c d g k)=0)) (∃(p:ae) (q:ae),∃(r:Int),TI (a,b,c) d e
 (f,g,h,i,j) (p,q,r)/\(((2:Nat)*((255:Nat) -q.length)+if r=0 then (1:Nat) else (0:Nat))<(2:Nat)*((255:Nat) -l.length)+if m=0 then (1:Nat) else (0:Nat))/\d=d/\a=a/\b=b/\c=c/\f=f/\g=g/\h=h/\i=i/\j=j/\(0:Int)=0/\2=r/\k=p/\l=q/\True) (∀(p:Bool),p=decide (1<(uI a b c d g k))->(ah p)/\(ah p)/\(ar p)/\ao (bif p then decide ((rE a b c d g k).2.2=3) else false) (∃(q:ae) (r:ae),∃(s:Int),TI (a,b,c) d e (f,g,h,i,j) (q,r,s)/\(Bm l m r s)/\d=d/\a=a/\b=b/\c=c/\f=f/\g=g/\h=h/\i=i/\j=j/\(0:Int)=0/\4=s/\k=q/\l=r/\True) (ao (decide (255<=(ac l))) (∃(q:ae) (r:ae),∃(s:Int),TI (a,b,c) d e (f,g,h,i,j) (q,r,s)/\(Bm l m r s)/\d=d/\a=a/\b=b/\c=c/\f=f/\g=g/\h=h/\i=i/\j=j/\(0:Int)=0/\3=s/\k=q/\l=r/\True) (ao (decide (1<(uI a b c d g k))) (0<=(uV a b c d f g h i j k).1/\(uV a b c d f g h i j k).1<(uI a b c d g k)/\(l.length+length [getD (rE a b c d g k).2.1
 (toNat (uV a b c d f g h i j k).1) default])*(8:Nat)<=(140737488355328:Nat)/\0<=(uV a b c d f g h i j k).1/\(uV a b c d f g h i j k).1<(uI a b c d g k)/\(k.length+length [fB b (getD (rE a b c d g k).2.1 (toNat (uV a b c d f g h i j k).1) default) (u9 k)])*(8:Nat)<=(140737488355328:Nat)/\ ∃(q:ae) (r:ae),∃(s:Int),TI (a,b,c) d e (f,g,h,i,j) (q,r,s)/\(Bm l m r s)/\d=d/\a=a/\b=b/\c=c/\f=f/\g=g/\h=h/\i=i/\j=j/\(0:Int)=0/\m=s/\k++[fB b (getD (rE a b c d g k).2.1 (toNat (uV a b c d f g h i j k).1) default) (u9 k)]=q/\l++[getD (rE a b c d g k).2.1 (toNat (uV a b c d f g h i j k).1) default]=r/\True) ((0:Int)<=0/\0<(uI a b c d g k)/\(l.length+length [getD (rE a b c d g k).2.1 (toNat 0) default])*(8:Nat)<=(140737488355328:Nat)/\(0:Int)<=0/\0<(uI a b c d g k)/\(k.length+length [fB b
 (getD (rE a b c d g k).2.1 (toNat 0) default) (u9 k)])*(8:Nat)<=(140737488355328:Nat)/\ ∃(q:ae) (r:ae),∃(s:Int),TI (a,b,c) d e (f,g,h,i,j) (q,r,s)/\(Bm l m r s)/\d=d/\a=a/\b=b/\c=c/\f=f/\g=g/\h=h/\i=i/\j=j/\(0:Int)=0/\m=s/\k++[fB b (getD (rE a b c d g k).2.1 (toNat 0) default) (u9 k)]=q/\l++[getD (rE a b c d g k).2.1 (toNat 0) default]=r/\True))))))) ((k,l,m)=ly (a,b,c) d e (f,g,h,i,j)):=by
  delta uV rE Bm u9 uI ah ar aE aj ai ac;rintro ns0 ls0 hs at' who a b c e f-⟨W,w0,w1⟩;refine⟨⟨_,_,_,TI.start w0 (by show who<(ns0.length:Int);omega),(by repeat' first|exact trivial|refine⟨trivial,?_⟩|refine⟨(by with_reducible rfl),?_⟩|refine⟨aG (by omega) (by omega),?_⟩|refine⟨rfl,?_⟩)⟩,?_⟩;rintro ns ls e1 I;refine aw (λh=>?_) (λh=>I.done (aL h));have h:=aI h;subst h;have hl:=I.l;have hm:=I.m;dsimp only at hl hm;rw[aG (n:=(ns.length:Int)-1) (by omega) (by omega),aB8];have hr:=I.r _ (C5 (ns:=ns) (by omega));have eS:lR (ns0,ls0,hs) at' (a,b,c,e,f) (ns,ls,0)=qG (ns0,ls0,hs) (a,b,c,e,f) (gR ns) (ns0.getD (gR ns).toNat default) (bf (d5 (ns0,ls0,hs) (gR ns) at') b) (ie (d5 (ns0,ls0,hs) (gR ns) at') b) (ns,ls,0):=rfl;have tb:=MT W.o (gR ns) at';have nx:=W.x (gR ns) at' hr.1 hr.2;have lm:=Hg (l:=d5 (ns0,ls0,hs) (gR ns) at') (a:=b);generalize gR ns=q at *
  generalize d5 (ns0,ls0,hs) q at'=T at *;generalize bf T b=r at *;generalize ie T b=ok at *;generalize ns0.getD q.toNat default=X at *;unfold qG at eS;refine⟨by omega,by omega,hr.1,hr.2,W.o,tb.s,tb.okL (by decide),?_⟩;refine aw (λh=>?_) (λh=>?_)
  .rw[am h] at eS;exact⟨_,_,_,I.stop (by decide) eS,by simp,(by repeat' first|exact trivial|refine⟨trivial,?_⟩|refine⟨(by with_reducible rfl),?_⟩|refine⟨aG (by omega) (by omega),?_⟩|refine⟨rfl,?_⟩)⟩
  rw[af (by rw[h];decide)] at eS
  (repeat (intro (b_:Bool) (hb_:b_=_);(repeat refine⟨(by first|(simp;done)|(rw[hb_];simp;done)|(rw[hb_];simp;omega)|(rw[hb_];simp;intros;omega)|(rw[hb_];simp +contextual;done)),?_⟩);subst hb_));refine aw (λh1=>?_) (λh1=>?_)
  .have h1:iL X=true/\0<ls.length:=by
    rw[show X.2.2.2.1=iL X from rfl] at h1;cases hh:iL X <;> rw[hh] at h1
    .cases h1
    .exact⟨rfl,by have:=aI h1;omega⟩
   rw[am h1] at eS;exact⟨_,_,_,I.stop (by decide) eS,by simp,(by repeat' first|exact trivial|refine⟨trivial,?_⟩|refine⟨(by with_reducible rfl),?_⟩|refine⟨aG (by omega) (by omega),?_⟩|refine⟨rfl,?_⟩)⟩
  have h1:¬ (iL X=true/\0<ls.length):=by
   rintro⟨k1,k2⟩;rw[show X.2.2.2.1=iL X from rfl,k1,cond_true,cM (by omega)] at h1;cases h1
  rw[af h1] at eS
  (repeat (intro (b_:Bool) (hb_:b_=_);(repeat refine⟨(by first|(simp;done)|(rw[hb_];simp;done)|(rw[hb_];simp;omega)|(rw[hb_];simp;intros;omega)|(rw[hb_];simp +contextual;done)),?_⟩);subst hb_));refine aw (λh2=>?_) (λh2=>?_)
  .have h2:ok=false∨r.2.1.length=0:=by
    cases ok
    .exact .inl rfl
    .exact .inr (by have:=aI h2;omega)
   rw[am h2] at eS;exact⟨_,_,_,I.stop (by decide) eS,by simp,(by repeat' first|exact trivial|refine⟨trivial,?_⟩|refine⟨(by with_reducible rfl),?_⟩|refine⟨aG (by omega) (by omega),?_⟩|refine⟨rfl,?_⟩)⟩
  have h2:¬ (ok=false∨r.2.1.length=0):=by
   rintro (k|k)
   .rw[k] at h2;cases h2
   .rw[cM (show (r.2.1.length:Int)=0 by omega)] at h2;cases ok <;> cases h2
  rw[af h2] at eS
  (repeat (intro (b_:Bool) (hb_:b_=_);(repeat refine⟨(by first|(simp;done)|(rw[hb_];simp;done)|(rw[hb_];simp;omega)|(rw[hb_];simp;intros;omega)|(rw[hb_];simp +contextual;done)),?_⟩);subst hb_));rw[uL];refine aw (λh3=>?_) (λh3=>?_)
  .have h3:=aI h3;rw[am (show 1<r.2.1.length/\r.2.2=3 from ⟨by omega,h3.2⟩)] at eS;exact⟨_,_,_,I.stop (by decide) eS,by simp,(by repeat' first|exact trivial|refine⟨trivial,?_⟩|refine⟨(by with_reducible rfl),?_⟩|refine⟨aG (by omega) (by omega),?_⟩|refine⟨rfl,?_⟩)⟩
  have h3:=aL h3;rw[af (show ¬ (1<r.2.1.length/\r.2.2=3) from λk=>h3 ⟨by omega,k.2⟩)] at eS;refine aw (λh4=>?_) (λh4=>?_)
  .have h4:=aI h4;rw[am (show 255<=ls.length by omega)] at eS;exact⟨_,_,_,I.stop (by decide) eS,by simp,(by repeat' first|exact trivial|refine⟨trivial,?_⟩|refine⟨(by with_reducible rfl),?_⟩|refine⟨aG (by omega) (by omega),?_⟩|refine⟨rfl,?_⟩)⟩
  have h4:=aL h4;rw[af (show ¬ 255<=ls.length by omega)] at eS;have hok:ok=true:=by
   cases ok
   .exact absurd (.inl rfl) h2
   .rfl
  have hlen:0<r.2.1.length:=by
   have:¬ r.2.1.length=0:=λk=>h2 (.inr k);omega
  have pr:=Ht (r:=r) (seed:=sw X) (k:=(a,b,c,e,f)) hlen;have nk:=nx r (lm hok) _ (bS pr.1 pr.2);have goal:=I.go (by omega) nk eS;unfold ve at goal pr;refine aw (λh5=>?_) (λh5=>?_)
  .have h5:=aI h5;rw[am (show 1<r.2.1.length by omega)] at goal pr;exact⟨pr.1,pr.2,by simp only[ga];omega,pr.1,pr.2,by simp only[ga];omega,_,_,_,goal,Nat.add_lt_add_right (by simp only[cu,ga];omega) _,(by repeat' first|exact trivial|refine⟨trivial,?_⟩|refine⟨(by with_reducible rfl),?_⟩|refine⟨aG (by omega) (by omega),?_⟩|refine⟨rfl,?_⟩)⟩
  .have h5:=aL h5;rw[af (show ¬ 1<r.2.1.length by omega)] at goal pr;exact⟨pr.1,pr.2,by simp only[ga];omega,pr.1,pr.2,by simp only[ga];omega,_,_,_,goal,Nat.add_lt_add_right (by simp only[cu,ga];omega) _,(by repeat' first|exact trivial|refine⟨trivial,?_⟩|refine⟨(by with_reducible rfl),?_⟩|refine⟨aG (by omega) (by omega),?_⟩|refine⟨rfl,?_⟩)⟩
theorem MY:aB 16 M2.spec:=aF Tryz.func16 (av (av (av (av (av (av aD OI) Gc) HN) Mq) QW) RP) ac2 WY
def zf(s t:Int)(l:ae)(c:aV):ae:=if s<fc c/\fc c<=t/\gR l<fc c then l++[fc c] else l
theorem YZ{s t:Int}{l:ae}{c:aV}(h:0<l.length):0<(zf s t l c).length:=by
 unfold zf;split
 .simp
 .exact h
structure WI (n:aQ) (w:Way):Prop where
 l:w.1.length=w.2.1.length+1
 m:w.2.1.length<=255
 r:∀ x∈w.1,0<=x/\x<n.1.length
theorem WI.step{n:aQ}(W:WN n){at':Int}{k:dZ}{w:Way}(h:WI n w):WI n (lR n at' k w):=by
 have hl:=h.l
 have hr:=h.r _ (C5 (ns:=w.1) (by omega))
 have lm:=Hg (l:=d5 n (gR w.1) at') (a:=k.2.1)
 have nx:=W.x (gR w.1) at' hr.1 hr.2
 unfold lR qG
 split
 .exact⟨h.l,h.m,h.r⟩
 split
 .exact⟨h.l,h.m,h.r⟩
 split
 .exact⟨h.l,h.m,h.r⟩
 rename_i h2
 split
 .exact⟨h.l,h.m,h.r⟩
 split
 .exact⟨h.l,h.m,h.r⟩
 rename_i h4
 have hok:ie (d5 n (gR w.1) at') k.2.1=true:=by
  cases hh:ie (d5 n (gR w.1) at') k.2.1
  .exact absurd (.inl hh) h2
  .rfl
 have pr:=Ht (r:=bf (d5 n (gR w.1) at') k.2.1) (seed:=sw (n.1.getD (gR w.1).toNat default)) (k:=k) (by
  have:¬ (bf (d5 n (gR w.1) at') k.2.1).2.1.length=0:=λe=>h2 (.inr e);omega)
 have ho:=nx _ (lm hok) _ (bS pr.1 pr.2)
 refine⟨by dsimp only;rw[cu,cu,hl];rfl,by dsimp only;rw[cu,ga];omega,λx hx=>?_⟩
 rcases dw.1 hx with hx|hx
 .exact h.r x hx
 .rw[iP.1 hx];exact ho
theorem WI.run{n:aQ}(W:WN n){at':Int}{k:dZ}:∀(f:Nat){w:Way},WI n w->WI n (kY n at' k f w)
 | 0,w,h=>h
 | f+1,w,h=>by
  rw[kY];split
  .exact WI.run W f (h.step W)
  .exact h
def m8(n:aQ)(w:Way)(i:Nat):Bool:=dJ (n.1.getD (w.1.getD i default).toNat default)
def cX(n:aQ)(w:Way):Nat->Int
 | 0=>0
 | i+1=>cX n w i+(if 1<=i/\m8 n w i=false then 1 else 0)
def jW(n:aQ)(w:Way)(ttl:Int)(i:Nat):Bool:=(decide (i+1=w.1.length)&&decide (w.2.2=1))||(!m8 n w i&&decide (cX n w i+1=ttl))
def w9(n:aQ)(w:Way)(ttl:Int):Nat:=(range (w.1.length-1)).findIdx λj=>jW n w ttl (j+1)
def ir(n:aQ)(w:Way)(ttl:Int):Bool:=decide (1<=ttl/\ttl<=255)&&decide (w9 n w ttl<w.1.length-1)
def iF(n:aQ)(w:Way)(ttl:Int):Int:=if ir n w ttl=true then (w9 n w ttl:Int)+1 else 0
def Cg(n:aQ)(w:Way):Prop:=∀ x∈w.1,0<=x/\x<n.1.length
theorem vh(n:aQ)(w:Way):∀ i,0<=cX n w i
 | 0=>f8 _
 | i+1=>by
  have:=vh n w i;rw[cX];split <;> omega
theorem JL{n:aQ}{w:Way}{ttl i:Int}(t1:1<=ttl)(t2:ttl<=255)(i1:1<=i)(i2:i<w.1.length)(hj:∀ j:Nat,1<=j->(j:Int)<i->jW n w ttl j=false)(hs:jW n w ttl i.toNat=true):i=iF n w ttl/\true=ir n w ttl:=by
 have hl:i.toNat-1<(range (w.1.length-1)).length:=by rw[List.length_range];omega
 have e:w9 n w ttl=i.toNat-1:=by
  unfold w9;refine (List.findIdx_eq hl).2 ⟨?_,λj hj'=>?_⟩
  .rw[List.getElem_range,show i.toNat-1+1=i.toNat by omega];exact hs
  .rw[List.getElem_range];exact hj (j+1) ab ab
 have eB:ir n w ttl=true:=by
  unfold ir;rw[e,cM ⟨t1,t2⟩,cM (show i.toNat-1<w.1.length-1 by omega)];rfl
 refine⟨?_,eB.symm⟩
 unfold iF
 rw[am eB,e];omega
theorem Rz{n:aQ}{w:Way}{ttl:Int}(h:∀ j:Nat,1<=j->(j:Int)<w.1.length->jW n w ttl j=false):0=iF n w ttl/\false=ir n w ttl:=by
 have e:w9 n w ttl=(range (w.1.length-1)).length:=by
  unfold w9;refine List.findIdx_eq_length_of_false λj hj=>?_;have:=List.mem_range.1 hj;exact h (j+1) ab ab
 have eB:ir n w ttl=false:=by
  unfold ir;rw[e,List.length_range,dO (Nat.lt_irrefl _),Bool.and_false]
 refine⟨?_,eB.symm⟩
 unfold iF
 rw[af (by rw[eB];decide)]
theorem aE9{n:aQ}{w:Way}{ttl:Int}(h:ttl<1∨255<ttl):0=iF n w ttl/\false=ir n w ttl:=by
 have eB:ir n w ttl=false:=by
  unfold ir;rw[dO ab,Bool.false_and]
 refine⟨?_,eB.symm⟩
 unfold iF
 rw[af (by rw[eB];decide)]
theorem TJ{n:aQ}{w:Way}{ttl i:Int}(i0:0<=i)(h:i=(w.1.length:Int)-1/\w.2.2=1):jW n w ttl i.toNat=true:=by
 unfold jW
 rw[cM (show i.toNat+1=w.1.length by omega),cM h.2];rfl
theorem Lz{n:aQ}{w:Way}{ttl:Int}{i:Nat}(ho:m8 n w i=false)(h:cX n w i+1=ttl):jW n w ttl i=true:=by
 unfold jW
 rw[ho,cM h];simp
theorem CE{n:aQ}{w:Way}{ttl i:Int}(i0:0<=i)(h:¬ (i=(w.1.length:Int)-1/\w.2.2=1))(k:m8 n w i.toNat=true∨¬ cX n w i.toNat+1=ttl):jW n w ttl i.toNat=false:=by
 unfold jW
 rw[Bool.or_eq_false_iff,Bool.and_eq_false_iff,Bool.and_eq_false_iff,pj,pj,pj]
 refine⟨?_,k.imp (λh=>by rw[h];rfl) id⟩
 by_cases e:i.toNat+1=w.1.length
 .exact .inr λh2=>h ⟨ab,h2⟩
 .exact .inl e
theorem Wc{n:aQ}{w:Way}{i:Int}(i1:1<=i):cX n w (i+1).toNat=cX n w i.toNat+(if m8 n w i.toNat=false then 1 else 0):=by
 rw[show (i+1).toNat=i.toNat+1 by omega,cX]
 by_cases h:m8 n w i.toNat=false
 .rw[am h,am ⟨ab,h⟩]
 .rw[af h,af λk=>h k.2]
theorem R9{n:aQ}{w:Way}{ttl i:Int}(hj:∀ j:Nat,1<=j->(j:Int)<i->jW n w ttl j=false)(i1:1<=i)(h:jW n w ttl i.toNat=false):∀ j:Nat,1<=j->(j:Int)<i+1->jW n w ttl j=false:=λj j1 j2=>by
 by_cases e:(j:Int)<i
 .exact hj j j1 e
 .rw[show j=i.toNat by omega];exact h
def NM:Ct:=⟨[.agg ib,.agg Hv,.val cI],[.val cI,.val .bool],λd=>[Cg d.1 d.2.1],λd=>((iF d.1 d.2.1 d.2.2.1,ir d.1 d.2.1 d.2.2.1,()),())⟩
def aL8:bw NM.ps->ce:=(λd=>{loops:=(bq 5 (λS=>{ι:=Int×Int,qn:=fj,μ:=λi=>(d.2.1.1.length-i.1).toNat,inv:=λi=>1<=i.1/\(i.1=1∨i.1<=d.2.1.1.length)/\i.2=d.2.2.1-cX d.1 d.2.1 i.1.toNat/\1<=i.2∧∀ j:Nat,1<=j->(j:Int)<i.1->jW d.1 d.2.1 d.2.2.1 j=false,keep:=[3,4,8],slots:=λi=>[(2,.int .i64 i.2),(9,.int .i64 i.1)],keepN:=[64,80]}) cC)})
theorem at9 :
 ∀(a:List au)(b:List aK)(c:List aV)(d e:ae)(f g:Int),((a.length<=maxLen/\ ∀(h:au),h∈a->CT.wf bR h)/\(b.length<=maxLen/\ ∀(h:aK),h∈b->CT.wf fU h)/\c.length<=maxLen/\ ∀(h:aV),h∈c->CT.wf fg h)/\((d.length<=maxLen/\ ∀(h:Int),h∈d->aq h)/\(e.length<=maxLen/\ ∀(h:Int),h∈e->aq h)/\aq f)/\aq g/\True->(∀(h:Int),h∈d->0<=h/\h<(ac a))-> ∀(h:Bool),h=decide (g<1)->(ah (! h))/\(aE h)/\ao (bif h then true else decide (255<g)) (0=iF (a,b,c) (d,e,f) g/\false=ir (a,b,c) (d,e,f) g) ((∃(i:Int) (j:Int),(1<=i/\(i=1∨i<=(ac d))/\j=g -cX (a,b,c) (d,e,f) i.toNat/\1<=j/\ ∀(k:Nat),(1:Nat)<=k->(↑k:Int)<i->jW (a,b,c) (d,e,f) g k=false)/\g=j/\aj ((ac d) -1)=aj ((ac d) -1)/\1=i/\a=a/\b=b/\c=c/\d=d/\e=e/\f=f/\True)/\ ∀(i j:Int),(1<=i/\(i=1∨i<=(ac d))/\j=g -cX (a,b,c) (d,e,f) i.toNat/\1<=j/\ ∀(k:Nat),(1:Nat)<=k->(↑k:Int)<i->jW (a,b,c) (d,e,f) g k=false)->ao
 (decide (i<=aj ((ac d) -1))) (∀(k:Bool),k=decide (i=aj ((ac d) -1))->(ah k)/\(ah k)/\(ar k)/\ao (bif k then decide (f=1) else false) (i=iF (a,b,c) (d,e,f) g/\true=ir (a,b,c) (d,e,f) g) (0<=i/\i<(ac d)/\0<=ai d i/\ai d i<(ac a)/\ao (! (ai a (ai d i)).2.2.2.2.2.2.2.2.2.2.2.2.1) (ao (decide (aj (j -1)=0)) (i=iF (a,b,c) (d,e,f) g/\true=ir (a,b,c) (d,e,f) g) (∃(l:Int) (m:Int),(1<=l/\(l=1∨l<=(ac d))/\m=g -cX (a,b,c) (d,e,f) l.toNat/\1<=m/\ ∀(n:Nat),(1:Nat)<=n->(↑n:Int)<l->jW (a,b,c) (d,e,f) g n=false)/\toNat ((ac d) -l)<toNat ((ac d) -i)/\aj (j -1)=m/\aj ((ac d) -1)=aj ((ac d) -1)/\aj (i+1)=l/\a=a/\b=b/\c=c/\d=d/\e=e/\f=f/\True)) (ao (decide (j=0)) (i=iF (a,b,c) (d,e,f) g/\true=ir (a,b,c) (d,e,f) g) (∃(l:Int) (m:Int),(1<=l/\(l=1∨l<=(ac d))/\m=g -cX (a,b,c) (d,e,f) l.toNat/\1<=m/\ ∀(n:Nat),(1:Nat)<=n->(↑n:Int)<l->jW (a,b,c) (d,e,f) g
 n=false)/\toNat ((ac d) -l)<toNat ((ac d) -i)/\j=m/\aj ((ac d) -1)=aj ((ac d) -1)/\aj (i+1)=l/\a=a/\b=b/\c=c/\d=d/\e=e/\f=f/\True)))) (0=iF (a,b,c) (d,e,f) g/\false=ir (a,b,c) (d,e,f) g)):=by
  delta ah ar aE aj ai ac;rintro ns ls hs u v e ttl ⟨-,⟨⟨hu,-⟩,-⟩,-⟩ hw;simp only[maxLen] at hu
  (repeat (refine bY ?_;repeat refine bZ ?_));rw[lx,aG (n:=(u.length:Int)-1) ab ab];refine aw (λh=>aE9 (aI h)) (λh=>?_);have h:=aL h;refine⟨⟨1,ttl,⟨ab,.inl rfl,by show ttl=ttl-cX _ _ 1;rw[show cX (ns,ls,hs) (u,v,e) 1=0 from rfl];omega,ab,λj j1 j2=>ab⟩,aP⟩,?_⟩;rintro i t ⟨i1,i2,ht,t1,hj⟩;have sn:=vh (ns,ls,hs) (u,v,e) i.toNat
  rw[aG (n:=t-1) ab ab];refine aw (λhi=>?_) (λhi=>?_)
  rotate_left
  .have hi:=aL hi;exact Rz λj j1 j2=>hj j j1 (by dsimp only at j2;omega)
  have hi:=aI hi;have sx:=Wc (n:=(ns,ls,hs)) (w:=(u,v,e)) i1
  (repeat (refine bY ?_;repeat refine bZ ?_));rw[uL];refine aw (λh1=>?_) (λh1=>?_)
  .have h1:=aI h1;exact JL ab ab i1 (by show i<(u.length:Int);omega) hj (TJ ab h1)
  have h1:=aL h1;have hr:=hw _ (bS (xs:=u) (i:=i) ab ab);refine⟨ab,ab,hr.1,hr.2,?_⟩;have eo:m8 (ns,ls,hs) (u,v,e) i.toNat=(ns.getD (u.getD i.toNat default).toNat default).2.2.2.2.2.2.2.2.2.2.2.2.1:=rfl;rw[← eo];refine aw (λh2=>?_) (λh2=>?_)
  .have h2:m8 (ns,ls,hs) (u,v,e) i.toNat=false:=by simpa using h2
   rw[am h2] at sx;refine bU (λh3=>?_) (λh3=>?_)
   .exact JL ab ab i1 (by show i<(u.length:Int);omega) hj (Lz h2 ab)
   .refine⟨i+1,_,⟨ab,.inr ab,rfl,ab,R9 hj i1 (CE ab h1 (.inr ab))⟩,ab,?_⟩;refine⟨ab,?_⟩;exact aP
  .have h2:m8 (ns,ls,hs) (u,v,e) i.toNat=true:=by simpa using h2
   rw[af (by rw[h2];decide)] at sx;refine bU (λh3=>?_) (λh3=>?_)
   .have:=h3;omega
   .refine⟨i+1,t,⟨ab,.inr ab,ab,ab,R9 hj i1 (CE ab h1 (.inl h2))⟩,ab,aP⟩
theorem V5:aB 20 NM.spec:=aF Tryz.func20 aD aL8 at9
def o3(x:au)(k:Int):Int:=if 0<=cy x k then ((ay x).getD (cy x k).toNat default).1 else 0
def yj(n:aQ)(at':Int)(w:Way)(i to:Int):Rt:=bf (d5 n (w.1.getD i.toNat default) at') to
def lz(n:aQ)(at':Int)(w:Way)(i to:Int):Bool :=
 if i<1∨(w.1.length:Int)<=i∨(w.2.1.length:Int)<i then false
 else if ku (n.1.getD (w.1.getD i.toNat default).toNat default)=true∨ie (d5 n (w.1.getD i.toNat default) at') to=false∨(yj n at' w i to).2.1.length=0 then false
 else if fS (n.1.getD (w.1.getD i.toNat default).toNat default)=3 then true
 else if fS (n.1.getD (w.1.getD i.toNat default).toNat default)=4 then true
 else if fS (n.1.getD (w.1.getD i.toNat default).toNat default)=1 then decide (0<=cy (n.1.getD (w.1.getD i.toNat default).toNat default) (w.2.1.getD (i-1).toNat default))
 else if 1<(yj n at' w i to).2.1.length then false
 else decide (0<=cy (n.1.getD (w.1.getD i.toNat default).toNat default) ((yj n at' w i to).2.1.getD 0 default))
def oa(n:aQ)(at':Int)(w:Way)(i to:Int):Int :=
 if lz n at' w i to=false then 0
 else if fS (n.1.getD (w.1.getD i.toNat default).toNat default)=3 then fy (n.1.getD (w.1.getD i.toNat default).toNat default)
 else if fS (n.1.getD (w.1.getD i.toNat default).toNat default)=4 then oB (n.1.getD (w.1.getD i.toNat default).toNat default)
 else if fS (n.1.getD (w.1.getD i.toNat default).toNat default)=1 then o3 (n.1.getD (w.1.getD i.toNat default).toNat default) (w.2.1.getD (i-1).toNat default)
 else o3 (n.1.getD (w.1.getD i.toNat default).toNat default) ((yj n at' w i to).2.1.getD 0 default)
def VS:Ct:=⟨[.val cI,.box 92 bR],[.val cP,.val .bool],λd=>[],λd=>((o3 d.2.1 d.1,decide (0<=cy d.2.1 d.1),()),(d.2.1,()))⟩
theorem ai0 :
 ∀(a:Int)(b:au),aq a/\CT.wf bR b/\True->True->ao (decide (cy b a<0)) (0=o3 b a/\false=decide (0<=cy b a)/\b=b) (0<=cy b a/\cy b a<(ac b.1)/\(getD b.1 (toNat (cy b a)) default).1=o3 b a/\true=decide (0<=cy b a)/\b=b):=by
  delta ac;rintro k d - -;unfold o3;refine bU (λh=>?_) (λh=>?_)
  .rw[af ab,dO ab];exact⟨rfl,rfl,rfl⟩
  .have hl:cy d k<(ay d).length:=by
    unfold cy gW;split <;> omega
   rw[am ab,cM ab];exact⟨ab,hl,rfl,rfl,rfl⟩
theorem VF:aB 54 VS.spec:=aF Tryz.func54 (av aD Bo) aT ai0
theorem aO6{n:aQ}{at':Int}{w:Way}{i to:Int}(h:lz n at' w i to=false):0=oa n at' w i to/\false=lz n at' w i to:=by
 refine⟨?_,h.symm⟩
 unfold oa;rw[am h]
def af1:Ct:=⟨[.agg ib,.val cI,.agg Hv,.val cI,.val cP],[.val cP,.val .bool],λd=>[okNet d.1,Cg d.1 d.2.2.1],λd=>((oa d.1 d.2.1 d.2.2.1 d.2.2.2.1 d.2.2.2.2.1,lz d.1 d.2.1 d.2.2.1 d.2.2.2.1 d.2.2.2.2.1,()),())⟩
theorem aC0 :
 ∀(a:List au)(b:List aK)(c:List aV)(d:Int)(e f:ae)(g h i:Int),((a.length<=maxLen/\ ∀(j:au),j∈a->CT.wf bR j)/\(b.length<=maxLen/\ ∀(j:aK),j∈b->CT.wf fU j)/\c.length<=maxLen/\ ∀(j:aV),j∈c->CT.wf fg j)/\aq d/\((e.length<=maxLen/\ ∀(j:Int),j∈e->aq j)/\(f.length<=maxLen/\ ∀(j:Int),j∈f->aq j)/\aq g)/\aq h/\(0<=i/\i<=4294967295)/\True->(okNet (a,b,c)/\ ∀(j:Int),j∈e->0<=j/\j<(ac a))-> ∀(j:Bool),j=decide (h<1)->(ah (! j))/\(ah (! j))/\((! j)->(ar (! j))/\(ar (! j))/\True)/\(aE j)/\ ∀(k:Bool),(k=bif j then true else decide ((ac e)<=h))->(ah (! k))/\(ah (! k))/\((! k)->(ar (! k))/\(ar (! k))/\True)/\(aE k)/\ao (bif k then true else decide ((ac f)<h)) (0=oa (a,b,c) d (e,f,g) h i/\false=lz (a,b,c) d (e,f,g) h i) (0<=h/\h<(ac e)/\0<=ai e h/\ai e h<(ac a)/\0<=h/\h<(ac e)/\okNet (a,b,c)/\cH (d5 (a,b,c) (ai e h) d)/\okL (d5
 (a,b,c) (ai e h) d)/\ ∀(l:Bool),l=(ai a (ai e h)).2.2.2.2.2.2.2.2.2.2.2.1->(ah (! l))/\(aE l)/\ ∀(m:Bool),(m=bif l then true else ! ie (d5 (a,b,c) (ai e h) d) i)->(ah (! m))/\(ah (! m))/\(ah (! m))/\(aE m)/\ao (bif m then true else decide (((length (bf (d5 (a,b,c) (ai e h) d) i).2.1):Int)=0)) (0=oa (a,b,c) d (e,f,g) h i/\false=lz (a,b,c) d (e,f,g) h i) (ao (decide ((ai a (ai e h)).2.2.2.2.2.1=3)) ((ai a (ai e h)).2.1=oa (a,b,c) d (e,f,g) h i/\true=lz (a,b,c) d (e,f,g) h i) (ao (decide ((ai a (ai e h)).2.2.2.2.2.1=4)) ((ai a (ai e h)).2.2.2.2.2.2.1=oa (a,b,c) d (e,f,g) h i/\true=lz (a,b,c) d (e,f,g) h i) (ao (decide ((ai a (ai e h)).2.2.2.2.2.1=1)) (0<=aj (h -1)/\aj (h -1)<(ac f)/\o3 (ai a (ai e h)) (ai f (aj (h -1)))=oa (a,b,c) d (e,f,g) h i/\decide (0<=cy (ai a (ai e h)) (ai f (aj (h -1))))=lz (a,b,c) d
 (e,f,g) h i) (ao (decide (1<((length (bf (d5 (a,b,c) (ai e h) d) i).2.1):Int))) (0=oa (a,b,c) d (e,f,g) h i/\false=lz (a,b,c) d (e,f,g) h i) ((0:Int)<=0/\0<((length (bf (d5 (a,b,c) (ai e h) d) i).2.1):Int)/\o3 (ai a (ai e h)) (getD (bf (d5 (a,b,c) (ai e h) d) i).2.1 (toNat 0) default)=oa (a,b,c) d (e,f,g) h i/\decide (0<=cy (ai a (ai e h)) (getD (bf (d5 (a,b,c) (ai e h) d) i).2.1 (toNat 0) default))=lz (a,b,c) d (e,f,g) h i)))))):=by
  delta ah ar aE aj ai ac;rintro ns ls hs at' u v e i to ⟨-,⟨i0,i1⟩,⟨⟨hu,-⟩,⟨hv,-⟩,-⟩,-⟩⟨ok,hw⟩;simp only[maxLen] at hu hv
  (repeat (refine bY ?_;repeat refine bZ ?_));rw[lx,lx];have out:(i<1∨(u.length:Int)<=i)∨(v.length:Int)<i->lz (ns,ls,hs) at' (u,v,e) i to=false:=λh=>by
   unfold lz;rw[am (by dsimp only;omega)]
  refine aw (λh=>aO6 (out (aI h))) (λh=>?_);clear out;have h:=aL h;have hr:=hw _ (bS (xs:=u) (i:=i) ab ab);have tb:=MT ok (u.getD i.toNat default) at';rw[aG (n:=i-1) ab ab];have eK:lz (ns,ls,hs) at' (u,v,e) i to=(if ku (ns.getD (u.getD i.toNat default).toNat default)=true∨ie (d5 (ns,ls,hs) (u.getD i.toNat default) at') to=false∨(bf (d5 (ns,ls,hs) (u.getD i.toNat default) at') to).2.1.length=0 then false
   else if fS (ns.getD (u.getD i.toNat default).toNat default)=3 then true
   else if fS (ns.getD (u.getD i.toNat default).toNat default)=4 then true
   else if fS (ns.getD (u.getD i.toNat default).toNat default)=1 then decide (0<=cy (ns.getD (u.getD i.toNat default).toNat default) (v.getD (i-1).toNat default))
   else if 1<(bf (d5 (ns,ls,hs) (u.getD i.toNat default) at') to).2.1.length then false
   else decide (0<=cy (ns.getD (u.getD i.toNat default).toNat default) ((bf (d5 (ns,ls,hs) (u.getD i.toNat default) at') to).2.1.getD 0 default))):=by
   unfold lz yj;rw[af (by dsimp only;omega)]
  have eV:oa (ns,ls,hs) at' (u,v,e) i to=(if lz (ns,ls,hs) at' (u,v,e) i to=false then 0
   else if fS (ns.getD (u.getD i.toNat default).toNat default)=3 then fy (ns.getD (u.getD i.toNat default).toNat default)
   else if fS (ns.getD (u.getD i.toNat default).toNat default)=4 then oB (ns.getD (u.getD i.toNat default).toNat default)
   else if fS (ns.getD (u.getD i.toNat default).toNat default)=1 then o3 (ns.getD (u.getD i.toNat default).toNat default) (v.getD (i-1).toNat default)
   else o3 (ns.getD (u.getD i.toNat default).toNat default) ((bf (d5 (ns,ls,hs) (u.getD i.toNat default) at') to).2.1.getD 0 default)):=rfl
  refine⟨ab,ab,hr.1,hr.2,ab,ab,ok,tb.s,tb.okL bt,?_⟩;rw[eV];generalize lz (ns,ls,hs) at' (u,v,e) i to=K at eK ⊢;generalize ie (d5 (ns,ls,hs) (u.getD i.toNat default) at') to=lb at *;generalize bf (d5 (ns,ls,hs) (u.getD i.toNat default) at') to=r at *;generalize ns.getD (u.getD i.toNat default).toNat default=X at *;intro b hb
  (repeat refine⟨λh_=>(by first|(simp;done)|(simp[h_];done)|(simp_all;done)),?_⟩);intro b2 hb2
  (repeat refine⟨λh_=>(by first|(simp;done)|(simp[h_];done)|(simp_all;done)),?_⟩);have tot:(bif b2 then true else decide ((r.2.1.length:Int)=0))=decide (ku X=true∨lb=false∨r.2.1.length=0):=by
   rw[hb2,hb,show X.2.2.2.2.2.2.2.2.2.2.2.1=ku X from rfl];cases ku X <;> cases lb <;> by_cases hz:r.2.1.length=0 <;> simp[hz]
  rw[tot];refine aw (λh1=>?_) (λh1=>?_)
  .rw[am (aI h1)] at eK;rw[eK,am rfl];exact⟨rfl,rfl⟩
  have h1:=aL h1;rw[af h1] at eK;have hlen:0<r.2.1.length:=by
   have:¬ r.2.1.length=0:=λk=>h1 (.inr (.inr k));omega
  refine aw (λh2=>?_) (λh2=>?_)
  .rw[am (show fS X=3 from aI h2)] at eK;rw[eK,af bt,am (show fS X=3 from aI h2)];exact⟨rfl,rfl⟩
  have h2:¬ fS X=3:=aL h2;rw[af h2] at eK ⊢;refine aw (λh3=>?_) (λh3=>?_)
  .rw[am (show fS X=4 from aI h3)] at eK;rw[eK,af bt,am (show fS X=4 from aI h3)];exact⟨rfl,rfl⟩
  have h3:¬ fS X=4:=aL h3;rw[af h3] at eK ⊢;have pv:∀ k,cy X k<0->o3 X k=0:=λk hk=>by unfold o3;rw[af ab]
  refine aw (λh4=>?_) (λh4=>?_)
  .have h4:fS X=1:=aI h4;rw[am h4] at eK ⊢;refine⟨ab,ab,?_,eK.symm⟩;split
   next q=>rw[eK] at q;exact pv _ (by have:=aL q;omega)
   .rfl
  have h4:¬ fS X=1:=aL h4;rw[af h4] at eK ⊢;refine bU (λh5=>?_) (λh5=>?_)
  .rw[am (show 1<r.2.1.length by have:=h5;omega)] at eK;rw[eK,am rfl];exact⟨rfl,rfl⟩
  .rw[af (show ¬ 1<r.2.1.length by have:=h5;omega)] at eK;refine⟨ab,ab,?_,eK.symm⟩;split
   next q=>rw[eK] at q;exact pv _ (by have:=aL q;rw[show toNat (0:Int)=0 from rfl];omega)
   .rfl
theorem ab4:aB 22 af1.spec:=aF Tryz.func22 (av (av (av (av aD OI) Gc) Mq) VF) aT aC0
def my(n:aQ)(l:ae):Int:=l.foldl (λs k=>s+gS (n.2.1.getD k.toNat default)) 0
def lV(n:aQ)(l:ae):Int:=l.foldl (λs k=>s+(gS (n.2.1.getD k.toNat default)+fK (n.2.1.getD k.toNat default))) 0
structure E5 (n:aQ) (l:ae):Prop where
 len:l.length<=1000
 k:∀ k∈l,0<=k/\k<n.2.1.length
 d:∀ x∈n.2.1,(0<=gS x/\gS x<=1000)/\0<=fK x/\fK x<=1000
theorem TP{n:aQ}:∀(l:ae),(∀ k∈l,0<=k/\k<n.2.1.length)->(∀ x∈n.2.1,(0<=gS x/\gS x<=1000)/\0<=fK x/\fK x<=1000)→∀ k:Nat,k<=l.length->(0<=my n (l.take k)/\my n (l.take k)<=1000*k)/\0<=lV n (l.take k)/\lV n (l.take k)<=2000*k:=by
 intro l hk hd k
 induction k with
 | zero=>intro _;exact⟨⟨f8 _,f8 _⟩,f8 _,f8 _⟩
 | succ k ih =>
  intro h;have ih:=ih ab;have e:l.take (k+1)=l.take k++[l.getD k default]:=by
   have:=rk (l:=l) (k:=(k:Int)) ab ab;rw[show ((k:Int)+1).toNat=k+1 by omega,Int.toNat_natCast] at this;exact this
  have hm:=hk _ (nX (xs:=l) (i:=k) ab);have hx:=hd _ (bS hm.1 hm.2);unfold my lV at ih ⊢;rw[e,iG,iG];simp only[List.foldl_cons,List.foldl_nil];omega
def MA:Ct:=⟨[.agg ib,.val (.sl cI)],[.val cI,.val cI],λd=>[E5 d.1 d.2.1],λd=>((my d.1 d.2.1,lV d.1 d.2.1,()),())⟩
def aL7:bw MA.ps->ce:=(λd=>{loops:=(bq 2 (λS=>{ι:=Int×Int×Int,qn:=rH,μ:=λi=>(d.2.1.length-i.1).toNat,inv:=λi=>0<=i.1/\i.1<=d.2.1.length/\i.2.1=my d.1 (d.2.1.take i.1.toNat)/\i.2.2=lV d.1 (d.2.1.take i.1.toNat),keep:=[2,8,9],slots:=λi=>[(4,.int .i64 i.2.1),(5,.int .i64 i.2.2),(10,.int .i64 i.1)],keepN:=[48]}) cC)})
theorem XI :
 ∀(a:List au)(b:List aK)(c:List aV)(d:ae),((a.length<=maxLen/\ ∀(e:au),e∈a->CT.wf bR e)/\(b.length<=maxLen/\ ∀(e:aK),e∈b->CT.wf fU e)/\c.length<=maxLen/\ ∀(e:aV),e∈c->CT.wf fg e)/\(d.length<=maxLen/\ ∀(e:Int),e∈d->aq e)/\True->E5 (a,b,c) d->(∃(e:Int) (f:Int),∃(g:Int),(0<=e/\e<=(ac d)/\f=my (a,b,c) (take e.toNat d)/\g=lV (a,b,c) (take e.toNat d))/\0=f/\0=g/\d=d/\(ac d)=(ac d)/\0=e/\a=a/\b=b/\c=c/\True)/\ ∀(e f g:Int),0<=e/\e<=(ac d)/\f=my (a,b,c) (take e.toNat d)/\g=lV (a,b,c) (take e.toNat d)->ao (decide (e<(ac d))) (0<=e/\e<(ac d)/\ ∀(h:Bool),h=decide (0<=ai d e)->(ah h)/\(ah h)/\(h->(ar h)/\(ar h)/\True)/\(ar h)/\ao (bif h then decide (ai d e<(ac b)) else false) (0<=ai d e/\ai d e<(ac b)/\0<=ai d e/\ai d e<(ac b)/\0<=ai d e/\ai d e<(ac b)/\ ∃(i:Int) (j:Int),∃(k:Int),(0<=i/\i<=(ac d)/\j=my
 (a,b,c) (take i.toNat d)/\k=lV (a,b,c) (take i.toNat d))/\toNat ((ac d) -i)<toNat ((ac d) -e)/\aj (f+(ai b (ai d e)).2.2.1)=j/\aj (g+aj ((ai b (ai d e)).2.2.1+(ai b (ai d e)).2.2.2.1))=k/\d=d/\(ac d)=(ac d)/\aj (e+1)=i/\a=a/\b=b/\c=c/\True) (∃(i:Int) (j:Int),∃(k:Int),(0<=i/\i<=(ac d)/\j=my (a,b,c) (take i.toNat d)/\k=lV (a,b,c) (take i.toNat d))/\toNat ((ac d) -i)<toNat ((ac d) -e)/\f=j/\g=k/\d=d/\(ac d)=(ac d)/\aj (e+1)=i/\a=a/\b=b/\c=c/\True)) (f=my (a,b,c) d/\g=lV (a,b,c) d):=by
  delta ah ar aj ai ac;rintro ns ls hs l-⟨hn,hk,hd⟩;refine⟨⟨0,0,0,⟨ab,ab,rfl,rfl⟩,aP⟩,?_⟩;rintro j a b ⟨j0,j1,ea,eb⟩;have B:=TP (n:=(ns,ls,hs)) l hk hd j.toNat ab;rw[← ea,← eb] at B;refine aw (λhj=>?_) (λhj=>?_)
  rotate_left
  .have hj:=aL hj;rw[fi ab] at ea eb;exact⟨ea,eb⟩
  have hj:=aI hj;have km:=hk _ (bS j0 hj);dsimp only at km;have hx:=hd _ (bS (xs:=ls) km.1 km.2);have st:=rk (l:=l) j0 hj;have e1:my (ns,ls,hs) (l.take (j+1).toNat)=a+gS (ls.getD (l.getD j.toNat default).toNat default):=by
   rw[st,ea];unfold my;rw[iG];rfl
  have e2:lV (ns,ls,hs) (l.take (j+1).toNat)=b+(gS (ls.getD (l.getD j.toNat default).toNat default)+fK (ls.getD (l.getD j.toNat default).toNat default)):=by
   rw[st,eb];unfold lV;rw[iG];rfl
  refine⟨j0,hj,?_⟩;intro b1 hb1
  (repeat refine⟨λh_=>(by first|(simp;done)|(simp[h_];done)|(simp_all;done)),?_⟩);rw[hb1,uL];refine aw (λh=>?_) (λh=>absurd km (aL h));rw[show (ls.getD (l.getD j.toNat default).toNat default).2.2.1=gS (ls.getD (l.getD j.toNat default).toNat default) from rfl,show (ls.getD (l.getD j.toNat default).toNat default).2.2.2.1=fK (ls.getD (l.getD j.toNat default).toNat default) from rfl];generalize gS (ls.getD (l.getD j.toNat default).toNat default)=x at *;generalize fK (ls.getD (l.getD j.toNat default).toNat default)=y at *;rw[aG (n:=a+x) ab ab,aG (n:=x+y) ab ab,aG (n:=b+(x+y)) ab ab];exact⟨km.1,km.2,km.1,km.2,km.1,km.2,j+1,_,_,⟨ab,ab,e1.symm,e2.symm⟩,ab,aP⟩
theorem TX:aB 21 MA.spec:=aF Tryz.func21 aD aL7 XI
def wN(n:aQ)(k:dZ):Nat->Way
 | 0=>([0],[],0)
 | j+1=>if (wN n k j).2.2=0 then lR n 0 k (wN n k j) else wN n k j
theorem Q8{n:aQ}{a:Int}{k:dZ}:∀(f:Nat)(w:Way),kY n a k (f+1) w=if (kY n a k f w).2.2=0 then lR n a k (kY n a k f w) else kY n a k f w
 | 0,w=>rfl
 | f+1,w=>by
  rw[kY];by_cases h:w.2.2=0
  .rw[am h,Q8 f (lR n a k w)];have e:kY n a k (f+1) w=kY n a k f (lR n a k w):=by rw[kY,am h]
   rw[e]
  .have e:kY n a k (f+1) w=w:=by rw[kY,af h]
   rw[af h,e,af h]
theorem QQ(n:aQ)(k:dZ):∀ j,wN n k j=kY n 0 k j ([0],[],0)
 | 0=>rfl
 | j+1=>by rw[Q8,← QQ n k j];rfl
theorem vZ(n:aQ)(k:dZ):ly n 0 0 k=wN n k 257:=(QQ n k 257).symm
theorem Q0(n:aQ)(a:Int)(k:dZ)(w:Way):(∃ e,e≠0/\lR n a k w=(w.1,w.2.1,e))∨∃ o l,lR n a k w=(w.1++[o],w.2.1++[l],0):=by
 unfold lR qG
 split
 .exact .inl ⟨1,bt,rfl⟩
 split
 .exact .inl ⟨5,bt,rfl⟩
 split
 .exact .inl ⟨2,bt,rfl⟩
 split
 .exact .inl ⟨4,bt,rfl⟩
 split
 .exact .inl ⟨3,bt,rfl⟩
 .exact .inr ⟨_,_,rfl⟩
theorem CS{n:aQ}{k:dZ}{j:Nat}(h:(wN n k j).2.2=0):wN n k (j+1)=lR n 0 k (wN n k j):=by rw[wN,am h]
theorem Df{n:aQ}{k:dZ}{j:Nat}(h:(wN n k j).2.2≠0):∀ m,j<=m->wN n k m=wN n k j
 | 0,hm=>by rw[show j=0 by omega]
 | m+1,hm=>by
  by_cases hj:j=m+1
  .rw[hj]
  .have ih:=Df h m ab;rw[wN,ih,af h]
theorem aI3{n:aQ}{k:dZ}{j m:Nat}(hm:m<=j)(h:(wN n k j).2.2=0):(wN n k m).2.2=0:=fq λq=>by
 rw[Df q j hm] at h;exact q h
theorem BI{n:aQ}{k:dZ}:∀{j:Nat},(wN n k j).2.2=0->(wN n k j).2.1.length=j/\(wN n k j).1.length=j+1
 | 0,_=>⟨rfl,rfl⟩
 | j+1,h=>by
  have h0:=aI3 (YH j) h;obtain⟨i1,i2⟩:=BI h0;rw[CS h0] at h ⊢;rcases Q0 n 0 k (wN n k j) with⟨e,he,es⟩|⟨o,l,es⟩
  .rw[es] at h;exact absurd h he
  .rw[es];simp[i1,i2]
theorem Fw{n:aQ}{k:dZ}{j:Nat}:∀ m,j<=m->(wN n k j).1 <+: (wN n k m).1/\(wN n k j).2.1 <+: (wN n k m).2.1
 | 0,hm=>by rw[show j=0 by omega];exact⟨List.prefix_rfl,List.prefix_rfl⟩
 | m+1,hm=>by
  by_cases hj:j=m+1
  .rw[hj];exact⟨List.prefix_rfl,List.prefix_rfl⟩
  .obtain⟨a,b⟩:=Fw (n:=n) (k:=k) (j:=j) m ab;by_cases h:(wN n k m).2.2=0
   .rw[CS h];rcases Q0 n 0 k (wN n k m) with⟨e,he,es⟩|⟨o,l,es⟩
    .rw[es];exact⟨a,b⟩
    .rw[es];exact⟨a.trans (List.prefix_append _ _),b.trans (List.prefix_append _ _)⟩
   .rw[Df h (m+1) ab];exact⟨a,b⟩
theorem FX{α:Type} [Inhabited α] {l m:List α} (h:l <+: m) {i:Nat} (hi:i<l.length):m.getD i default=l.getD i default:=by
 obtain⟨t,rfl⟩:=h
 rw[bL,bL,kP hi]
structure On (n:aQ) (k:dZ) (j:Nat):Prop where
 go:(wN n k j).2.2=0
 jb:j<=256
def gQ(n:aQ)(k:dZ)(j:Nat):Int:=(ly n 0 0 k).1.getD j default
def d7(n:aQ)(k:dZ)(j:Nat):Int:=if j=0 then -1 else (ly n 0 0 k).2.1.getD (j-1) default
theorem On.at{n:aQ}{k:dZ}{j:Nat}(h:On n k j):gR (wN n k j).1=gQ n k j/\(wN n k j).2.1.length=j:=by
 obtain⟨h1,h2⟩:=BI h.go
 obtain⟨p,-⟩:=Fw (n:=n) (k:=k) (j:=j) 257 (by have:=h.jb;omega)
 refine⟨?_,h1⟩
 unfold gR gQ
 rw[vZ,h2,FX p ab]
 rfl
theorem On.stop{n:aQ}{k:dZ}{j:Nat}(h:On n k j){e:Int}(he:e≠0)(hs:lR n 0 k (wN n k j)=((wN n k j).1,(wN n k j).2.1,e)) :
  (ly n 0 0 k).2.2=e/\(ly n 0 0 k).1.length=j+1/\(ly n 0 0 k).2.1.length=j:=by
 obtain⟨h1,h2⟩:=BI h.go
 have e1:wN n k (j+1)=((wN n k j).1,(wN n k j).2.1,e):=by rw[CS h.go,hs]
 rw[vZ,Df (j:=j+1) (by rw[e1];exact he) 257 (by have:=h.jb;omega),e1]
 exact⟨rfl,h2,h1⟩
theorem On.next{n:aQ}{k:dZ}{j:Nat}(h:On n k j)(hj:j<255){o l:Int}(hs:lR n 0 k (wN n k j)=((wN n k j).1++[o],(wN n k j).2.1++[l],0)) :
  On n k (j+1)/\gQ n k (j+1)=o/\d7 n k (j+1)=l/\(ly n 0 0 k).2.1.take (j+1)=(ly n 0 0 k).2.1.take j++[l]/\j+2<=(ly n 0 0 k).1.length/\j+1<=(ly n 0 0 k).2.1.length:=by
 obtain⟨h1,h2⟩:=BI h.go
 have e1:wN n k (j+1)=((wN n k j).1++[o],(wN n k j).2.1++[l],0):=by rw[CS h.go,hs]
 obtain⟨p1,p2⟩:=Fw (n:=n) (k:=k) (j:=j+1) 257 ab
 rw[e1] at p1 p2
 have l1:((wN n k j).1++[o]).length=j+2:=by rw[cu,h2];rfl
 have l2:((wN n k j).2.1++[l]).length=j+1:=by rw[cu,h1];rfl
 refine⟨⟨by rw[e1],ab⟩,?_,?_,?_,?_,?_⟩
 .unfold gQ;rw[vZ,FX p1 (by rw[l1];omega),bL,jU ab,h2,Nat.sub_self];rfl
 .unfold d7;rw[af ab,vZ,FX p2 (by rw[l2];omega),bL,jU ab,h1,show j+1-1-j=0 by omega];rfl
 .rw[vZ];obtain⟨t,ht⟩:=p2;have ht:(wN n k j).2.1++[l]++t=(wN n k 257).2.1:=ht;rw[← ht,List.take_left' l2,ia,List.take_left' h1]
 .rw[vZ,← l1];exact p1.length_le
 .rw[vZ,← l2];exact p2.length_le
theorem On.lens{n:aQ}{k:dZ}{j:Nat}(h:On n k j):j+1<=(ly n 0 0 k).1.length/\j<=(ly n 0 0 k).2.1.length:=by
 obtain⟨h1,h2⟩:=BI h.go
 obtain⟨p1,p2⟩:=Fw (n:=n) (k:=k) (j:=j) 257 (by have:=h.jb;omega)
 have a:=p1.length_le
 have b:=p2.length_le
 rw[vZ]
 omega
structure rQ (n:aQ):Prop where
 c:d9 n=0
 h:n.2.2=[]
 l:∀ x∈n.2.1,oo x=0
 b:∀ x∈n.1,∀ r∈aU x,r.2.2≠3
 a:xg n
theorem rQ.rt{n:aQ}(C:rQ n){who:Int}(h0:0<=who)(h1:who<n.1.length):d5 n who 0=aU (n.1.getD who.toNat default):=by
 unfold d5 rm
 rw[af ab,C.h];rfl
theorem UY{x:au}{s:ct}{r:Rt}{k:dZ}(h0:0<=jz s)(hr:r.2.2≠3)(hn:r.2.1.length≠0):ja x s r k=r.2.1.getD (ve r (sw x) k).toNat default:=by
 unfold ja lO ve
 by_cases a:r.2.1.length=1
 .rw[am a,af ab];rfl
 .rw[af a,am ab];unfold ju;by_cases c:(r.2.1.length:Int)<1∨16<(r.2.1.length:Int)∨jz s<0∨r.2.2<1∨3<r.2.2
  .have c':(r.2.1.length:Int)<1∨16<(r.2.1.length:Int)∨(0:Int)<0∨r.2.2<1∨3<r.2.2:=ab;rw[am c,am c']
  .have c':¬ ((r.2.1.length:Int)<1∨16<(r.2.1.length:Int)∨(0:Int)<0∨r.2.2<1∨3<r.2.2):=ab;rw[af c,af c'];by_cases e:r.2.2=1
   .rw[am e,am e]
   .have e2:r.2.2=2:=ab;rw[af e,am e2,af e,am e2]
def fD(p:bz)(c:Int):bz:=(p.1,p.2.1,p.2.2.1,p.2.2.2.1,p.2.2.2.2.1,p.2.2.2.2.2-c)
theorem xR{p:bz}(g:da p){c:Int}(h0:0<=c)(h1:c<p.2.2.2.2.2):da (fD p c):=by
 obtain⟨k1,k2,k3,k4,k5⟩:=lh.1 g.ok
 exact⟨lh.2 ⟨k1,k2,k3,by simp only[fD];omega,by simp only[fD];omega⟩,g.s,g.d⟩
theorem ay1{p:bz}(g:da p){c:Int}(h0:0<=c)(h1:c+1<p.2.2.2.2.2):gu (build (fD p c))=0/\ig (build (fD p c))=build (fD p (c+1)):=by
 have g2:=xR g h0 ab
 obtain⟨-,k⟩:=Um g2.ok g2.s g2.d
 obtain⟨a,b,-⟩:=k (by show 2<=p.2.2.2.2.2-c;omega)
 refine⟨a,?_⟩
 rw[b]
 unfold fD
 rw[show p.2.2.2.2.2-c-1=p.2.2.2.2.2-(c+1) by omega]
theorem Zn{p:bz}(g:da p){c:Int}(h0:0<=c)(h1:c<p.2.2.2.2.2):bc (build (fD p c))=bc (build p):=by
 have g2:=xR g h0 h1
 rw[Gu g2.ok g2.s g2.d,Gu g.ok g.s g.d];rfl
theorem Xs{v:aJ}(h:(aC v).2.2=[]):dq v=v:=by
 unfold dq
 rw[h]
 simp only[List.length_nil,Nat.zero_sub]
 rfl
theorem Pv(w:aJ)(f:bg)(r:List bg)(hA:At w f r):∃ es,bh (fw w)=bh w++es ∧
  (∀ x∈aM (fw w),x∈r∨(f7 x=(cS w).2.1.2/\0<(cS w).2.1.2.length))/\bM (fw w)=(if (cS w).2.2=1 then bM w++[(aO f,bm f,f7 f)] else bM w) ∧
  ((cS w).2.2≠0→∃ es',es=(iB f,aO f,bm f,gN f,(cS w).2.2)::es'):=by
 have eE:bh (eZ w)=if (cS w).2.2≠0 then bh w++[(iB f,aO f,bm f,gN f,(cS w).2.2)] else bh w:=by
  rw[vm,hA.en,hA.eF];rfl
 have eD:bM (eZ w)=(if (cS w).2.2=1 then bM w++[(aO f,bm f,f7 f)] else bM w):=by
  rw[vm,t8,hA.dl,hA.eF];rfl
 have eF:aM (eZ w)=r:=by
  rw[vm,t8];exact hA.fl
 have fin:∀ es,(∃ x,bh x=bh (eZ w)++es/\x=fw w)→∃ es,bh (fw w)=bh w++es/\((cS w).2.2≠0→∃ es',es=(iB f,aO f,bm f,gN f,(cS w).2.2)::es'):=by
  rintro es ⟨x,hx,rfl⟩;rw[eE] at hx;by_cases h:(cS w).2.2≠0
  .rw[am h,ia] at hx;exact⟨_,hx,λ_=>⟨es,rfl⟩⟩
  .rw[af h] at hx;exact⟨_,hx,λk=>absurd k h⟩
 rw[EG] at fin ⊢
 split
 next hp=>
  rw[am hp] at fin;have hd:=(HJ (eZ w) (iJ w) (cS w).2.1).2.1;rcases ae5 (eZ w) (iJ w) (cS w).2.1 with⟨why,-,e1,e2⟩|⟨g,-,g2,-,e1,e2⟩
  .obtain⟨es,h1,h2⟩:=fin _ ⟨_,e1,rfl⟩;exact⟨es,h1,λx hx=>by rw[e2,eF] at hx;exact .inl hx,by rw[hd,eD],h2⟩
  .obtain⟨es,h1,h2⟩:=fin [] ⟨_,by rw[e1,jG],rfl⟩;refine⟨es,h1,λx hx=>?_,by rw[hd,eD],h2⟩;rw[e2,eF] at hx;rcases zo.1 hx with rfl|hx
   .exact .inr ⟨g2,hp⟩
   .exact .inl hx
 next hp=>rw[af hp] at fin;obtain⟨es,h1,h2⟩:=fin [] ⟨_,by rw[jG],rfl⟩;exact⟨es,h1,λx hx=>by rw[eF] at hx;exact .inl hx,eD,h2⟩
def Cl(A:ae->Prop):Prop:=(∀ b,A b)∨∀ b,A b→¬ dH b/\(gu b=0->A (ig b))
structure PB (n:aQ) (e0:fm) (A:ae->Prop) (w:aJ):Prop where
 ok:sJ w
 en:∃ r,bh w=e0::r
 fl:∀ f∈aM w,A (f7 f)
 dl:uE e0=2→∀ d∈bM w,A d.2.2
theorem PB.step{n:aQ}{e0:fm}{A:ae->Prop}{w:aJ}(h:PB n e0 A w)(hA:Cl A){f:bg}{r:List bg}(e:aM w=f::r):PB n e0 A (fw w):=by
 obtain⟨es,e1,e2,e3,-⟩:=Pv w f r (h.ok.at e)
 have hf:=h.fl f (by rw[e];exact fW)
 refine⟨(h.ok.step e).1,?_,?_,?_⟩
 .obtain⟨q,hq⟩:=h.en;exact⟨q++es,by rw[e1,hq];rfl⟩
 .rcases hA with hA|hA
  .exact λx _=>hA _
  intro x hx;rcases e2 x hx with k|⟨k,hp⟩
  .exact h.fl x (by rw[e];exact fL _ k)
  rw[k];obtain⟨hno,hlow⟩:=hA _ hf;have eH:cS w=bn (dY w) f:=by unfold cS;rw[(h.ok.at e).eF]
  rw[eH] at hp ⊢;have h2:(bn (dY w) f).2.2≠2:=PF hno;have h0:(bn (dY w) f).2.2=0:=fq λq=>by
   have:(bn (dY w) f).2.1=iN:=MR h2 q;rw[this] at hp;exact absurd hp (by show ¬ 0<([]:ae).length;simp)
  have F:=DU h0;have em:=AV (t:=aO f) F;have em:bn (dY w) f=_:=em;rw[em];dsimp only;split
  next q=>refine hlow ?_;have ht:=F.ttl;rw[gu,af (λz=>z F.dec),af];intro z;refine ht ⟨q.1,q.2,?_⟩;rw[aY,am F.dec];exact z
  .exact hf
 .intro hw d hd;rw[e3] at hd;split at hd
  .rcases dw.1 hd with hd|hd
   .exact h.dl hw d hd
   .rw[iP.1 hd];exact hf
  .exact h.dl hw d hd
theorem PB.run{n:aQ}{e0:fm}{A:ae->Prop}{to:Int}(hA:Cl A):∀(m:Nat){w:aJ},PB n e0 A w->jD w<=m->PB n e0 A (jx w to)
 | m,w,h,hm=>by
  cases hb:j7 w to with
  | false=>rw[Il hb];exact h
  | true =>
   rw[Dd h.ok.s.weak hb];cases e:aM w with
   | nil=>unfold j7 at hb;rw[e] at hb;cases hb
   | cons f r =>
    have k2:=(h.ok.step e).2;cases m with
    | zero=>omega
    | succ m=>exact PB.run hA m (h.step hA e) ab
def wW(fr:Int)(b:ae):Prop:=bytes b∧¬ dH b/\cL b=fr/\dm b=1/\(b.drop 20).getD 0 default=11
theorem aj2{fr:Int}{b:ae}(h:wW fr b)(hl:gu b=0):wW fr (ig b):=by
 obtain⟨h1,h2,h3,h4,h5⟩:=h
 obtain⟨e1,e2,e3⟩:=Jt h1 hl
 have hn:=NZ h1 h2
 rw[am hl] at hn
 refine⟨(NX h1 hl).2,hn,?_,?_,by rw[e3];exact h5⟩
 .unfold cL at h3 ⊢;rw[e1];exact h3
 .unfold dm at h4 ⊢;rw[e1];exact h4
theorem ao0(fr:Int):Cl (wW fr) := .inr λb h=>⟨h.2.1,aj2 h⟩
theorem Vi{b:ae}{f id ttl:Int}(hb:bytes b)(hf:u32 f)(h:fY b 11 0 id ttl=0):wW f (jv b f 11 0 id ttl):=by
 have hn:=EM hb hf h
 have hk:=D6 (f:=f) hb h
 have hg:pF 11 0 id ttl:=fq λk=>by rw[fY,am k] at h;cases h
 have ha:dH b:=fq λk=>by rw[fY,af (λq=>q hg),af k] at h;cases h
 obtain⟨-,e,en,ei⟩:=BW (src:=f) hg ha
 rw[e] at hn hk ⊢
 obtain⟨s1,s2,s3,s4⟩:=yi (src:=f) (dst:=cL b) (proto:=1) (data:=iE (11,0,b.take 28)) hg.2.2 ab hf (sE hb 12) (FG _) (Et en (Dx hb))
 refine⟨hk.2,hn,?_,?_,?_⟩
 .rw[cL,s2]
 .rw[dm,s2]
 .rw[s3,(Jc en).1]
theorem aD3{fr:Int}{b:ae}(h:wW fr b)(hr:t5 b):(jQ b).2.1=fr/\(jQ b).2.2.1=1:=by
 obtain⟨h1,h2,h3,h4,h5⟩:=h
 rw[jQ,am hr]
 refine⟨h3,?_⟩
 have hp:=hr.2.1
 have ep:kC b=oT (gf b) (b.drop 20):=by
  unfold kC;rw[af (λk=>by rw[h5] at k;exact absurd k.2.2 bt),am h4]
 show (kC b).2.1.2.1=1
 rw[ep] at hp ⊢
 have hu:kJ (b.drop 20)=0:=fq λk=>by
  unfold oT at hp;rw[af k] at hp;cases hp
 unfold oT
 rw[am hu]
 have e1:(kr (b.drop 20)).1=11:=by unfold kr;rw[am hu];exact h5
 show uR (kr (b.drop 20)).1 _=1
 rw[e1];rfl
abbrev bd(n:aQ)(p:bz):Way:=ly n 0 0 (bc (build p))
abbrev db(p:bz):Int:=p.2.2.2.2.2
theorem aT9{x:au}{s:ct}{lk t:Int}{b:ae}(N:nP x)(A:uq x)(hrt:∀ r∈bT s,kX r (bj x))(hb:bytes b)(hd:bX b=0)
  (h2:(dD (dW (jc x s lk t b) 11 0) (jq (jc x s lk t b) 11 0) (jc x s lk t b) 0).2.2=2) :
  ∃ L,wW (kO x (ci x lk) L) (dD (dW (jc x s lk t b) 11 0) (jq (jc x s lk t b) 11 0) (jc x s lk t b) 0).2.1.2/\0<=cy x L ∧
   ((bf (bT s) (lE (aY b).1)).2.1.length=1->L=(bf (bT s) (lE (aY b).1)).2.1.getD 0 default):=by
 obtain⟨a1,a2,a3⟩:=FN h2
 have hL:0<=cy x (j8 (dW (jc x s lk t b) 11 0) (jc x s lk t b)):=FA hrt a2 _ _
 refine⟨j8 (dW (jc x s lk t b) 11 0) (jc x s lk t b),?_,hL,λh1=>?_⟩
 .rw[a3];have ha:dH b:=by
   have a1:fY b 11 0 0 (iM x)=0:=a1;have hg:pF 11 0 0 (iM x):=fq λk=>by rw[fY,am k] at a1;cases a1
   exact fq λk=>by rw[fY,af (λq=>q hg),af k] at a1;cases a1
  obtain⟨⟨-,-,-,i0,i1⟩,-⟩:=w7 hb hd;have hn:iW (iu (jc x s lk t b)) (iM x):=IQ (w:=jc x s lk t b) N.id N.form (by
   show 0<=pU (aY b).1/\pU (aY b).1<=65535;rw[aY,am hd];exact⟨i0,i1⟩)
  exact Vi hb (Pq N A hL) (by show fY b 11 0 _ (iM x)=0;rw[fY,af (λk=>k ⟨.inl rfl,ab,hn⟩),am ha])
 .show ja x _ (bf (bT s) (lE (aY b).1)) _=_;unfold ja;rw[am h1]
theorem Zr{n:aQ}(C:rQ n){w:Way}{i:Nat}{to:Int}(hi:0<=w.1.getD i default/\w.1.getD i default<n.1.length)(N:nP (n.1.getD (w.1.getD i default).toNat default))(h:lz n 0 w i to=true){L:Int}
  (hL:(bf (aU (n.1.getD (w.1.getD i default).toNat default)) to).2.1.length=1->L=(bf (aU (n.1.getD (w.1.getD i default).toNat default)) to).2.1.getD 0 default) :
  kO (n.1.getD (w.1.getD i default).toNat default) (ci (n.1.getD (w.1.getD i default).toNat default) (w.2.1.getD (i-1) default)) L=oa n 0 w i to:=by
 have e1:((i:Nat):Int).toNat=i:=Int.toNat_natCast i
 have e2:(((i:Nat):Int)-1).toNat=i-1:=ab
 have er:yj n 0 w i to=bf (aU (n.1.getD (w.1.getD i default).toNat default)) to:=by unfold yj;rw[e1,C.rt hi.1 hi.2]
 unfold oa
 rw[af (by rw[h];decide)]
 unfold lz at h
 simp only[e1,e2,er] at h ⊢
 clear er
 generalize n.1.getD (w.1.getD i default).toNat default=x at *
 generalize bf (aU x) to=r at *
 have ad:∀ k,0<=cy x k->adr x (cy x k)=o3 x k:=λk hk=>by
  have:=(sW hk).1;have this:cy x k<(ay x).length:=this;unfold adr o3;rw[af ab,am hk]
 split at h
 .cases h
 split at h
 .cases h
 rename_i h0
 unfold kO
 split at h
 next s3=>rw[am s3,af ab,am s3]
 rename_i s3
 rw[af s3,af s3]
 split at h
 next s4=>rw[am s4,af ab,am s4]
 rename_i s4
 rw[af s4,af s4]
 split at h
 next s1=>
  have h:=aI h;rw[am s1,af ab];have ei:ci x (w.2.1.getD (i-1) default)=cy x (w.2.1.getD (i-1) default):=by unfold ci;omega
  rw[ei];exact ad _ h
 rename_i s1
 rw[af s1]
 split at h
 .cases h
 rename_i h2
 have h:=aI h
 have hr:fS x=2:=by
  have:=N.form;unfold mK at this;omega
 rw[am hr,hL ab]
 exact ad _ h
theorem Ts{n:aQ}{w:Way}{T:Int}(t1:1<=T)(t2:T<=255)(h:ir n w T=false):w.2.2≠1∨w.1.length<=1:=fq λk=>by
 have k1:w.2.2=1/\2<=w.1.length:=ab
 unfold ir at h
 rw[cM ⟨t1,t2⟩,Bool.true_and] at h
 have h:=aL h
 refine h ?_
 unfold w9
 have e:w.1.length-1=(range (w.1.length-1)).length:=by rw[List.length_range]
 conv=>rhs;rw[e]
 refine List.findIdx_lt_length.2 ⟨w.1.length-2,List.mem_range.2 ab,?_⟩
 unfold jW
 rw[cM (show w.1.length-2+1+1=w.1.length by omega),cM k1.1]
 rfl
structure PA (n:aQ) (p:bz) (j:Nat) (w:aJ):Prop where
 ok:sJ w
 net:aC w=n
 on:On n (bc (build p)) j
 fl:∃ t o,aM w=[(t,o,gQ n (bc (build p)) j,d7 n (bc (build p)) j,0,build (fD p (cX n (bd n p) j)))]/\(my n ((bd n p).2.1.take j)<=t/\t<=lV n ((bd n p).2.1.take j))/\0<=t/\t<=4294967296*j
 ttl:cX n (bd n p) j<db p
 lk:0<j->0<=d7 n (bc (build p)) j
 en:bh w=[]
 dl:bM w=[]
 ns:∀ m:Nat,1<=m->m<j→¬ (m8 n (bd n p) m=false/\cX n (bd n p) m+1=db p)
 jb:(j:Int)+(if m8 n (bd n p) j=true then 1 else 0)<=2*cX n (bd n p) j+2
 bal:∀ i:Nat,0<=jz ((cq w).getD i default)/\jz ((cq w).getD i default)<=j
def vB(n:aQ)(p:bz):Prop:=((bd n p).2.2=5/\iF n (bd n p) (db p)=((bd n p).1.length:Int)-1)∨((bd n p).2.2=2/\(bd n p).1.length=1)
structure Fin (n:aQ) (p:bz) (e0:fm) (dl:List qx):Prop where
 lost:ir n (bd n p) (db p)=true->vB n p->uE e0=6∨uE e0=8
 here:ir n (bd n p) (db p)=true→¬ vB n p->e0.2.2.1=(bd n p).1.getD (iF n (bd n p) (db p)).toNat default/\e0.2.2.2.1=(bd n p).2.1.getD ((iF n (bd n p) (db p)).toNat-1) default ∧
  my n ((bd n p).2.1.take (iF n (bd n p) (db p)).toNat)<=e0.2.1/\e0.2.1<=lV n ((bd n p).2.1.take (iF n (bd n p) (db p)).toNat)
 src:ir n (bd n p) (db p)=true→¬ vB n p->uE e0=2->lz n 0 (bd n p) (iF n (bd n p) (db p)) p.1=true→¬ ((bd n p).2.2=1/\iF n (bd n p) (db p)=((bd n p).1.length:Int)-1) →
  ∀ d∈dl,t5 d.2.2->(jQ d.2.2).2.1=oa n 0 (bd n p) (iF n (bd n p) (db p)) p.1/\(jQ d.2.2).2.2.1=1
theorem WO{n:aQ}{w:Way}{T:Int}(h:w.1.length<=1):ir n w T=false:=by
 unfold ir
 rw[show w.1.length-1=0 by omega]
 simp
theorem Z5{w:aJ}{k:Int}(hs:gZ (aC w).1.length (cU w k))(hn:0<=bQ w/\bQ w<=1125899906842624):bQ w+gS (cU w k)<=jI w k:=by
 obtain⟨-,-,-,-,-,d1,d2,j1,j2,-⟩:=hs
 have hh:0<=oD (cU w k) (ky w k):=Ke _
 have e1:IntKind.i64.wrap (fK (cU w k)+1)=fK (cU w k)+1:=aG ab ab
 have e2:IntKind.u64.wrap (fK (cU w k)+1)=fK (cU w k)+1:=DW ab ab
 have hd:0<=Int.tdiv (oD (cU w k) (ky w k)) 65536:=Int.tdiv_nonneg hh ab
 have t0:=Int.tmod_nonneg (fK (cU w k)+1) hd
 have t1:=Int.tmod_lt_of_pos (Int.tdiv (oD (cU w k) (ky w k)) 65536) (show 0<fK (cU w k)+1 by omega)
 have el:vV w k=Int.tmod (Int.tdiv (oD (cU w k) (ky w k)) 65536) (fK (cU w k)+1):=by
  unfold vV;rw[e1,e2,aG ab ab]
 have e3:IntKind.i64.wrap (bQ w+gS (cU w k))=bQ w+gS (cU w k):=aG ab ab
 have e4:jI w k=bQ w+gS (cU w k)+vV w k:=by
  unfold jI;rw[e3,aG ab ab]
 omega
theorem al0(w:dQ):(iy w).2.2≠0:=by
 unfold iy
 split
 .show (1:Int)≠0;decide
 .exact yW.1
structure xC (n:aQ) (p:bz) (j:Nat) (w:aJ) (x:au) (s:ct) (t o:Int):Prop where
 e:aM w=[(t,o,gQ n (bc (build p)) j,d7 n (bc (build p)) j,0,build (fD p (cX n (bd n p) j)))]
 hx:x=n.1.getD (gQ n (bc (build p)) j).toNat default
 hs:s=(cq w).getD (gQ n (bc (build p)) j).toNat default
 nd:0<=gQ n (bc (build p)) j/\gQ n (bc (build p)) j<n.1.length
 st:dY w=fJ (gY w []) t
 H:cS w=fI x s (d7 n (bc (build p)) j) t (build (fD p (cX n (bd n p) j)))
 rt:bT s=aU x
 rr:∀ r∈bT s,kX r (bj x)
 N:nP x
 A:uq x
 W:lR n 0 (bc (build p)) (wN n (bc (build p)) j)=qG n (bc (build p)) (gQ n (bc (build p)) j) x (bf (aU x) p.2.1) (ie (aU x) p.2.1) (wN n (bc (build p)) j)
 V:fI x s (d7 n (bc (build p)) j) t (build (fD p (cX n (bd n p) j))) =
  if dC x p.2.1=true then iy (jc x s (d7 n (bc (build p)) j) t (build (fD p (cX n (bd n p) j)))) else if iL x=true/\d7 n (bc (build p)) j ≠ -1 then (s,iN,6) else fO (jc x s (d7 n (bc (build p)) j) t (build (fD p (cX n (bd n p) j))))
theorem Az{p:bz}(g:da p):(bc (build p)).2.1=p.2.1:=by rw[Gu g.ok g.s g.d]
theorem PA.sees{n:aQ}{p:bz}{j:Nat}{w:aJ}(C:rQ n)(g:da p)(h:PA n p j w){t o:Int}
  (e:aM w=[(t,o,gQ n (bc (build p)) j,d7 n (bc (build p)) j,0,build (fD p (cX n (bd n p) j)))]) :
  ∃ x s,xC n p j w x s t o:=by
 have hA:=h.ok.at e
 have hnd:0<=gQ n (bc (build p)) j/\gQ n (bc (build p)) j<n.1.length:=by
  have:=hA.fk.nd;rw[hA.net,h.net] at this;exact this
 have hst:dY w=fJ (gY w []) t:=by
  unfold dY;rw[Xs (by show (aC w).2.2=[];rw[h.net];exact C.h)];unfold iJ;rw[e];rfl
 have gq:=xR g (vh n (bd n p) j) h.ttl
 obtain⟨d1,d2⟩:=AM gq
 have k:=h.ok.s.st (gQ n (bc (build p)) j).toNat (by rw[h.net];omega)
 have d0:(dk w).toNat=0:=by
  have:=h.ok.s.done;rw[h.net,C.h] at this;simp only[List.length_nil] at this;omega
 have hlt:(gQ n (bc (build p)) j).toNat<n.1.length:=ab
 refine⟨_,_,e,rfl,rfl,hnd,hst,?_,?_,?_,uv C.c hlt,C.a _ hlt,?_,?_⟩
 .unfold cS bn;rw[hA.eF,hst];show fI ((aC w).1.getD _ _) _ _ _ _=_;rw[h.net];rfl
 .rw[k.2,h.net,d0];show (n.1.map aU).getD _ _=_;rw[bL,List.getElem?_map,cK hlt,bL,cK hlt];rfl
 .have:=k.1.rt;rw[h.net] at this;exact this
 .unfold lR;rw[h.on.at.1,C.rt hnd.1 hnd.2,Az g]
 .show gb (_,_,_,_,_,oY)=_;unfold gb;dsimp only;rw[af (λq=>q d1),d2];show (if dC _ p.2.1=true then _ else _)=_;rw[← d2];rfl
theorem PA.ends{n:aQ}{p:bz}{j:Nat}{w:aJ}(h:PA n p j w){x:au}{s:ct}{t o:Int}(S:xC n p j w x s t o)
  {A:ae->Prop} (hw:(cS w).2.2≠0) (hA:0<(cS w).2.1.2.length->A (cS w).2.1.2) (h1:(cS w).2.2=2∨∀ b,A b) :
  PB n (0,t,gQ n (bc (build p)) j,d7 n (bc (build p)) j,(cS w).2.2) A (fw w):=by
 obtain⟨es,e1,e2,e3,e4⟩:=Pv w _ _ (h.ok.at S.e)
 obtain⟨es',e4⟩:=e4 hw
 refine⟨(h.ok.step S.e).1,⟨es',by rw[e1,h.en,e4];rfl⟩,λf hf=>?_,λhw2 d hd=>?_⟩
 .rcases e2 f hf with k|⟨k1,k2⟩
  .cases k
  .rw[k1];exact hA k2
 .rcases h1 with h1|h1
  .rw[e3,h1,af bt,h.dl] at hd;cases hd
  .exact h1 _
theorem JR{n:aQ}{p:bz}{j:Nat}{w:aJ}(h:PA n p j w)(hT:db p<=8):j<=16:=by
 have h1:=h.jb
 have h2:=h.ttl
 have:(0:Int)<=(if m8 n (bd n p) j=true then 1 else 0):=by split <;> omega
 omega
theorem PA.before{n:aQ}{p:bz}{j:Nat}{w:aJ}(h:PA n p j w):∀ m:Nat,1<=m->(m:Int)<j->jW n (bd n p) (db p) m=false:=λm h1 h2=>by
 have hl:=h.on.lens.1
 have hl:j+1<=(bd n p).1.length:=hl
 have k:=h.ns m h1 ab
 have e:((m:Nat):Int).toNat=m:=Int.toNat_natCast m
 have:=CE (n:=n) (w:=bd n p) (ttl:=db p) (i:=m) ab (λq=>ab) (by
  rw[e];by_cases a:m8 n (bd n p) m=false
  .exact .inr λq=>k ⟨a,q⟩
  .exact .inl (by simpa using a))
 rwa [e] at this
theorem PA.here{n:aQ}{p:bz}{j:Nat}{w:aJ}(h:PA n p j w)(hT:1<=db p/\db p<=8)(h0:0<j)(hs:jW n (bd n p) (db p) j=true):iF n (bd n p) (db p)=j:=by
 have hl:=h.on.lens.1
 have hl:j+1<=(bd n p).1.length:=hl
 exact (JL (i:=j) hT.1 ab ab ab h.before (by rw[Int.toNat_natCast];exact hs)).1.symm
theorem PA.place{n:aQ}{p:bz}{j:Nat}{w:aJ}(h:PA n p j w){t o:Int}(e:aM w=[(t,o,gQ n (bc (build p)) j,d7 n (bc (build p)) j,0,build (fD p (cX n (bd n p) j)))])(h0:0<j)(hv:iF n (bd n p) (db p)=j)(why:Int) :
  let e0:fm:=(0,t,gQ n (bc (build p)) j,d7 n (bc (build p)) j,why)
  e0.2.2.1=(bd n p).1.getD (iF n (bd n p) (db p)).toNat default/\e0.2.2.2.1=(bd n p).2.1.getD ((iF n (bd n p) (db p)).toNat-1) default ∧
  my n ((bd n p).2.1.take (iF n (bd n p) (db p)).toNat)<=e0.2.1/\e0.2.1<=lV n ((bd n p).2.1.take (iF n (bd n p) (db p)).toNat):=by
 intro e0
 obtain⟨t',o',e',⟨k1,k2⟩,-⟩:=h.fl
 rw[e] at e'
 simp only[List.cons.injEq,br] at e'
 obtain⟨⟨rfl,-⟩,-⟩:=e'
 rw[hv,Int.toNat_natCast]
 refine⟨rfl,?_,k1,k2⟩
 show d7 n (bc (build p)) j=_
 unfold d7
 rw[af ab]
theorem Fin.none{n:aQ}{p:bz}{e0:fm}{dl:List qx}(h:ir n (bd n p) (db p)=false):Fin n p e0 dl :=
 ⟨λk=>absurd (h▸k) bt,λk=>absurd (h▸k) bt,λk=>absurd (h▸k) bt⟩
theorem Mb{n:aQ}{p:bz}{j:Nat}{w:aJ}(h:PA n p j w)(hl:(bd n p).1.length=j+1)(hs:0<j->jW n (bd n p) (db p) j=false):ir n (bd n p) (db p)=false:=by
 refine (Rz (n:=n) (w:=bd n p) (ttl:=db p) λm h1 h2=>?_).2.symm
 by_cases k:m=j
 .rw[k];exact hs ab
 .exact h.before m h1 ab
theorem PA.owns{n:aQ}{p:bz}{j:Nat}{w:aJ}(hT:1<=db p/\db p<=8)(g:da p)(h:PA n p j w){x:au}{s:ct}{t o:Int}(S:xC n p j w x s t o)(ho:dC x p.2.1=true) :
  (cS w).2.2≠0∧∀ dl,Fin n p (0,t,gQ n (bc (build p)) j,d7 n (bc (build p)) j,(cS w).2.2) dl:=by
 have eH:cS w=iy (jc x s (d7 n (bc (build p)) j) t (build (fD p (cX n (bd n p) j)))):=by rw[S.H,S.V,am ho]
 refine⟨by rw[eH];exact al0 _,λdl=>?_⟩
 obtain⟨w1,w2,w3⟩:=h.on.stop (e:=1) bt (by rw[S.W];unfold qG;rw[Az g,am ho])
 have w1:(bd n p).2.2=1:=w1
 have w2:(bd n p).1.length=j+1:=w2
 by_cases h0:j=0
 .exact Fin.none (WO ab)
 have hs:jW n (bd n p) (db p) j=true:=by
  unfold jW;rw[cM (show j+1=(bd n p).1.length by omega),cM w1];rfl
 have hv:=h.here hT ab hs
 have hc:¬ vB n p:=λk=>by
  rcases k with k|k <;> omega
 exact⟨λ_ k=>absurd k hc,λ_ _=>h.place S.e ab hv _,λ_ _ _ _ k=>absurd ⟨w1,ab⟩ k⟩
theorem PA.host{n:aQ}{p:bz}{j:Nat}{w:aJ}(hT:1<=db p/\db p<=8)(g:da p)(h:PA n p j w){x:au}{s:ct}{t o:Int}(S:xC n p j w x s t o)(ho:¬ dC x p.2.1=true)(hh:iL x=true/\d7 n (bc (build p)) j ≠ -1) :
  cS w=(s,iN,6)∧∀ dl,Fin n p (0,t,gQ n (bc (build p)) j,d7 n (bc (build p)) j,(cS w).2.2) dl:=by
 have eH:cS w=(s,iN,6):=by rw[S.H,S.V,af ho,am hh]
 refine⟨eH,λdl=>?_⟩
 have h0:0<j:=by
  refine Nat.pos_of_ne_zero λq=>hh.2 ?_;rw[q];rfl
 obtain⟨w1,w2,w3⟩:=h.on.stop (e:=5) bt (by rw[S.W];unfold qG;rw[Az g,af ho,am ⟨hh.1,by rw[h.on.at.2];exact h0⟩])
 have w1:(bd n p).2.2=5:=w1
 have w2:(bd n p).1.length=j+1:=w2
 by_cases hs:jW n (bd n p) (db p) j=true
 .have hv:=h.here hT h0 hs;have hc:vB n p := .inl ⟨w1,ab⟩;exact⟨λ_ _=>.inl (by rw[eH];rfl),λ_ k=>absurd hc k,λ_ k=>absurd hc k⟩
 .exact Fin.none (Mb h w2 λ_=>by simpa using hs)
theorem PA.over{n:aQ}{p:bz}{j:Nat}{w:aJ}(hT:1<=db p/\db p<=8)(g:da p)(C:rQ n)(h:PA n p j w){x:au}{s:ct}{t o:Int}(S:xC n p j w x s t o)(ho:¬ dC x p.2.1=true)(hh:¬ (iL x=true/\d7 n (bc (build p)) j ≠ -1))
  (hl:d7 n (bc (build p)) j ≠ -1) (hq:dJ x=false) (ht:db p-cX n (bd n p) j<2) :
  ∃ A,Cl A/\(cS w).2.2≠0/\(0<(cS w).2.1.2.length->A (cS w).2.1.2)/\((cS w).2.2=2∨∀ b,A b) ∧
   ∀ dl,((cS w).2.2=2→∀ d∈dl,A d.2.2)->Fin n p (0,t,gQ n (bc (build p)) j,d7 n (bc (build p)) j,(cS w).2.2) dl:=by
 have gq:=xR g (vh n (bd n p) j) h.ttl
 obtain⟨d1,d2⟩:=AM gq
 have eT:tI (aY (build (fD p (cX n (bd n p) j)))).1=db p-cX n (bd n p) j:=by rw[d2];rfl
 have eS:lE (aY (build (fD p (cX n (bd n p) j)))).1=p.1:=by rw[d2];rfl
 have eH:cS w=dD (dW (jc x s (d7 n (bc (build p)) j) t (build (fD p (cX n (bd n p) j)))) 11 0) (jq (jc x s (d7 n (bc (build p)) j) t (build (fD p (cX n (bd n p) j)))) 11 0) (jc x s (d7 n (bc (build p)) j) t (build (fD p (cX n (bd n p) j)))) 0:=by
  rw[S.H,S.V,af ho,af hh];unfold fO;rw[am ⟨hl,hq,by show tI (aY _).1<2;rw[eT];exact ht⟩]
 have hw:=yW (B:=dW (jc x s (d7 n (bc (build p)) j) t (build (fD p (cX n (bd n p) j)))) 11 0) (F:=jq (jc x s (d7 n (bc (build p)) j) t (build (fD p (cX n (bd n p) j)))) 11 0) (w:=jc x s (d7 n (bc (build p)) j) t (build (fD p (cX n (bd n p) j)))) (own:=0)
 rw[← eH] at hw
 have h0:0<j:=by
  refine Nat.pos_of_ne_zero λq=>hl ?_;rw[q];rfl
 have ob:m8 n (bd n p) j=false:=by
  have:=S.hx;rw[this] at hq;exact hq
 have hs:=Lz (n:=n) (w:=bd n p) (ttl:=db p) (i:=j) ob (by have:=h.ttl;omega)
 have hv:=h.here hT h0 hs
 have hlen:=h.on.lens.1
 have hlen:j+1<=(bd n p).1.length:=hlen
 have h16:=JR h hT.2
 have hc:¬ vB n p:=by
  have W:=S.W;unfold qG at W;rw[Az g,af ho,af (λq=>hh ⟨q.1,hl⟩),h.on.at.2] at W;rintro (⟨k1,k2⟩|⟨k1,k2⟩)
  .have st:∀ e:Int,e≠0->e≠5→¬ lR n 0 (bc (build p)) (wN n (bc (build p)) j)=((wN n (bc (build p)) j).1,(wN n (bc (build p)) j).2.1,e):=λe e0 e5 q=>by
    obtain⟨w1,-⟩:=h.on.stop e0 q;have w1:(bd n p).2.2=e:=w1;omega
   split at W
   .exact st 2 bt bt W
   split at W
   .exact st 4 bt bt W
   split at W
   .exact st 3 bt bt W
   .obtain⟨-,-,-,-,k,-⟩:=h.on.next ab W;have k:j+2<=(bd n p).1.length:=k;omega
  .omega
 by_cases hA:(cS w).2.2=2/\lz n 0 (bd n p) j p.1=true
 .obtain⟨a1,a2⟩:=hA;obtain⟨L,b1,b2,b3⟩:=aT9 (x:=x) (s:=s) (lk:=d7 n (bc (build p)) j) (t:=t) S.N S.A S.rr (Kc _) d1 (by rw[← eH];exact a1);rw[← eH] at b1;rw[eS,S.rt] at b3;have hx:=S.hx;have hN:=S.N;have e1:=Zr (n:=n) C (w:=bd n p) (i:=j) (to:=p.1) S.nd (by rw[hx] at hN;exact hN) a2 (L:=L) (by rw[hx] at b3;exact b3);have e2:d7 n (bc (build p)) j=(bd n p).2.1.getD (j-1) default:=by unfold d7;rw[af ab]
  have e3:n.1.getD ((bd n p).1.getD j default).toNat default=x:=hx.symm;rw[e3,← e2] at e1;rw[e1] at b1;refine⟨wW (oa n 0 (bd n p) j p.1),ao0 _,hw.1,λ_=>b1,.inl a1,λdl hd=>⟨λ_ k=>absurd k hc,λ_ _=>h.place S.e h0 hv _,λ_ _ k2 k3 _ d hdl hr=>?_⟩⟩;rw[hv];exact aD3 (hd a1 d hdl) hr
 .refine⟨λ_=>True,.inl λ_=>trivial,hw.1,λ_=>trivial,.inr λ_=>trivial,λdl _=>⟨λ_ k=>absurd k hc,λ_ _=>h.place S.e h0 hv _,λ_ _ k2 k3 _=>absurd ⟨k2,by rw[hv] at k3;exact k3⟩ hA⟩⟩
theorem PA.noway{n:aQ}{p:bz}{j:Nat}{w:aJ}(hT:1<=db p/\db p<=8)(g:da p)(h:PA n p j w){x:au}{s:ct}{t o:Int}(S:xC n p j w x s t o)(ho:¬ dC x p.2.1=true)(hh:¬ (iL x=true/\d7 n (bc (build p)) j ≠ -1))
  (ht:¬ (d7 n (bc (build p)) j ≠ -1/\dJ x=false/\db p-cX n (bd n p) j<2)) (hw:fV s p.2.1=false) :
  (cS w).2.2≠0/\(cS w).2.2≠1∧∀ dl,Fin n p (0,t,gQ n (bc (build p)) j,d7 n (bc (build p)) j,(cS w).2.2) dl:=by
 have gq:=xR g (vh n (bd n p) j) h.ttl
 obtain⟨d1,d2⟩:=AM gq
 have eT:tI (aY (build (fD p (cX n (bd n p) j)))).1=db p-cX n (bd n p) j:=by rw[d2];rfl
 have eD:jm (aY (build (fD p (cX n (bd n p) j)))).1=p.2.1:=by rw[d2];rfl
 have hwhy:(cS w).2.2≠0/\(cS w).2.2≠1:=by
  have eH:cS w=if d7 n (bc (build p)) j = -1 then (s,iN,8) else dD (dW (jc x s (d7 n (bc (build p)) j) t (build (fD p (cX n (bd n p) j)))) 3 0) (jq (jc x s (d7 n (bc (build p)) j) t (build (fD p (cX n (bd n p) j)))) 3 0) (jc x s (d7 n (bc (build p)) j) t (build (fD p (cX n (bd n p) j)))) 0:=by
   rw[S.H,S.V,af ho,af hh];unfold fO;rw[af (by rintro⟨q1,q2,q3⟩;exact ht ⟨q1,q2,by rw[← eT];exact q3⟩),am (by show fV s (jm (aY _).1)=false;rw[eD];exact hw)];rfl
  rw[eH];split
  .exact⟨by show (8:Int)≠0;decide,by show (8:Int)≠1;decide⟩
  .exact yW
 refine⟨hwhy.1,hwhy.2,λdl=>?_⟩
 have hr:ie (aU x) p.2.1=false∨(bf (aU x) p.2.1).2.1.length=0:=by
  unfold fV at hw;rw[S.rt,Bool.and_eq_false_iff,pj] at hw;exact hw.imp id λk=>ab
 obtain⟨w1,w2,w3⟩:=h.on.stop (e:=2) bt (by
  rw[S.W];unfold qG;rw[Az g,af ho,af (λq=>hh ⟨q.1,λz=>by
   have h2:=q.2;rw[h.on.at.2] at h2;have:=h.lk h2;omega⟩),am hr])
 have w1:(bd n p).2.2=2:=w1
 have w2:(bd n p).1.length=j+1:=w2
 refine Fin.none (Mb h w2 λh0=>?_)
 have hl:=h.lk h0
 have:=CE (n:=n) (w:=bd n p) (ttl:=db p) (i:=j) ab (λq=>ab) (by
  rw[Int.toNat_natCast];by_cases a:m8 n (bd n p) j=true
  .exact .inl a
  .refine .inr λq=>ht ⟨ab,?_,ab⟩;have hx:=S.hx;have a:m8 n (bd n p) j=false:=by simpa using a
   rw[hx];exact a)
 rwa [Int.toNat_natCast] at this
theorem ax3(n:aQ)(l:ae)(k:Int):my n (l++[k])=my n l+gS (n.2.1.getD k.toNat default):=by
 unfold my;rw[iG];rfl
theorem TY(n:aQ)(l:ae)(k:Int):lV n (l++[k])=lV n l+(gS (n.2.1.getD k.toNat default)+fK (n.2.1.getD k.toNat default)):=by
 unfold lV;rw[iG];rfl
theorem aj8{v:aJ}{f:bg}{l:Int}{b:ae}(h0:oo (cU v l)=0)(hf:aM v=[])(ho:jI v l<=1125899906842624) :
  ∃ o,aM (eM v f (l,b))=[(jI v l,o,fB (aC v).2.1 l (bm f),l,iB f,b)]/\bh (eM v f (l,b))=bh v/\bM (eM v f (l,b))=bM v/\cq (eM v f (l,b))=cq v:=by
 have hh:0<=oD (cU v l) (ky v l):=Ke _
 have t0:=Int.tmod_nonneg 65536 hh
 unfold eM
 dsimp only
 rw[af (by rw[h0];show ¬ _<(0:Int);omega),af (by rw[hf];simp;omega)]
 refine⟨bK v,?_,rfl,rfl,rfl⟩
 show fM (aM v) _=_
 rw[hf];rfl
theorem PA.fwd{n:aQ}{p:bz}{j:Nat}{w:aJ}(hT:1<=db p/\db p<=8)(g:da p)(C:rQ n)(h:PA n p j w){x:au}{s:ct}{t o:Int}(S:xC n p j w x s t o)(ho:¬ dC x p.2.1=true)(hh:¬ (iL x=true/\d7 n (bc (build p)) j ≠ -1))
  (ht:¬ (d7 n (bc (build p)) j ≠ -1/\dJ x=false/\db p-cX n (bd n p) j<2)) (hw:¬ fV s p.2.1=false):PA n p (j+1) (fw w):=by
 have hA:=h.ok.at S.e
 have h16:=JR h hT.2
 have gq:=xR g (vh n (bd n p) j) h.ttl
 obtain⟨d1,d2⟩:=AM gq
 have eT:tI (aY (build (fD p (cX n (bd n p) j)))).1=db p-cX n (bd n p) j:=by rw[d2];rfl
 have eD:jm (aY (build (fD p (cX n (bd n p) j)))).1=p.2.1:=by rw[d2];rfl
 have hlk:(d7 n (bc (build p)) j ≠ -1)↔1<=j:=by
  constructor
  .intro k;refine Nat.pos_of_ne_zero λq=>k ?_;rw[q];rfl
  .intro k;have:=h.lk k;omega
 have F:JM x s (d7 n (bc (build p)) j) (build (fD p (cX n (bd n p) j))):=⟨d1,by rw[eD];exact ho,hh,by rintro⟨q1,q2,q3⟩;exact ht ⟨q1,q2,by rw[← eT];exact q3⟩,by rw[eD];exact hw⟩
 have M:=AV (t:=t) F
 have er:zH s (build (fD p (cX n (bd n p) j)))=bf (aU x) p.2.1:=by unfold zH;rw[eD,S.rt]
 have hrm:=JQ hw
 rw[S.rt] at hrm
 have hwy:ie (aU x) p.2.1=true/\0<(bf (aU x) p.2.1).2.1.length:=by
  unfold fV at hw;rw[S.rt,Bool.and_eq_false_iff,pj] at hw;refine⟨by cases q:ie (aU x) p.2.1 with
   | false=>exact absurd (.inl q) hw
   | true=>rfl,fq λq=>hw (.inr q)⟩
 have hxm:x∈n.1:=by rw[S.hx];exact bS S.nd.1 S.nd.2
 have hr3:=C.b x hxm _ hrm
 have bal:=h.bal (gQ n (bc (build p)) j).toNat
 rw[← S.hs] at bal
 rw[er,Zn g (vh n (bd n p) j) h.ttl,UY bal.1 hr3 ab] at M
 rw[← S.H] at M
 have W:=S.W
 unfold qG at W
 rw[Az g,af ho,h.on.at.2,af (λq=>hh ⟨q.1,hlk.2 q.2⟩),af (by rintro (q|q) <;> simp_all),af (λq=>hr3 q.2),af ab] at W
 obtain⟨on',n1,n2,n3,n4,n5⟩:=h.on.next ab W
 have n3:(bd n p).2.1.take (j+1)=(bd n p).2.1.take j++[_]:=n3
 generalize (bf (aU x) p.2.1).2.1.getD (ve (bf (aU x) p.2.1) (sw x) (bc (build p))).toNat default=l at M W n1 n2 n3
 have oq:m8 n (bd n p) j=dJ x:=by have:=S.hx;rw[this];rfl
 have eDat:(if d7 n (bc (build p)) j ≠ -1/\dJ x=false then ig (build (fD p (cX n (bd n p) j))) else build (fD p (cX n (bd n p) j)))=build (fD p (cX n (bd n p) (j+1)))/\cX n (bd n p) (j+1)<db p:=by
  rw[cX,oq];by_cases q:1<=j/\dJ x=false
  .rw[am ⟨hlk.2 q.1,q.2⟩,am q];have k:¬ db p-cX n (bd n p) j<2:=λz=>ht ⟨hlk.2 q.1,q.2,z⟩;exact⟨(ay1 g (vh n (bd n p) j) (by show _<db p;omega)).2,ab⟩
  .rw[af (λz=>q ⟨hlk.1 z.1,z.2⟩),af q,Int.add_zero];exact⟨rfl,h.ttl⟩
 rw[eDat.1] at M
 have hlen:0<(build (fD p (cX n (bd n p) (j+1)))).length:=by
  rcases (xR g (vh n (bd n p) (j+1)) eDat.2).len with k|k <;> omega
 have hp:0<(cS w).2.1.2.length:=by rw[M];exact hlen
 obtain⟨l0,l1,l2⟩:=hA.out hp
 rw[M] at l0
 rw[M,h.net] at l1 l2
 have l0:0<=l:=l0
 have l1:l<n.2.1.length:=l1
 have l2:gZ n.1.length (n.2.1.getD l.toNat default):=l2
 have ec:eZ w=iC (dY w) ((cq (dY w)).set (gQ n (bc (build p)) j).toNat (cS w).1):=by
  have hwhy:(cS w).2.2=0:=by rw[M]
  unfold eZ mU;rw[af ab,af ab];unfold uo;rw[hA.eF];rfl
 have es:fw w=eM (eZ w) (t,o,gQ n (bc (build p)) j,d7 n (bc (build p)) j,0,build (fD p (cX n (bd n p) j))) (l,build (fD p (cX n (bd n p) (j+1)))):=by
  rw[EG,am hp,hA.eF,M]
 obtain⟨t',o',e',⟨k1,k2⟩,k3,k4⟩:=h.fl
 rw[S.e] at e'
 simp only[List.cons.injEq,br] at e'
 obtain⟨⟨rfl,-⟩,-⟩:=e'
 have cN:aC (eZ w)=n:=by rw[ec,S.st];exact h.net
 have cF:aM (eZ w)=[]:=by rw[ec,S.st];rfl
 have cE:bh (eZ w)=[]:=by rw[ec,S.st];exact h.en
 have cD:bM (eZ w)=[]:=by rw[ec,S.st];exact h.dl
 have cW:bQ (eZ w)=t:=by rw[ec,S.st];rfl
 have tl:cU (eZ w) l=n.2.1.getD l.toNat default:=by unfold cU;rw[cN]
 have hs:gZ (aC (eZ w)).1.length (cU (eZ w) l):=by rw[tl,cN];exact l2
 have ht0:t<=4294967296*16:=by
  have:(j:Int)<=16:=ab;omega
 have o1:=AP (k:=l) hs (by rw[cW];omega)
 have o2:=Z5 (k:=l) hs (by rw[cW];omega)
 rw[cW,tl] at o1 o2
 obtain⟨-,-,-,-,-,b1,b2,b3,b4,-⟩:=l2
 obtain⟨od,f1,f2,f3,f4⟩:=aj8 (v:=eZ w) (f:=(t,o,gQ n (bc (build p)) j,d7 n (bc (build p)) j,0,build (fD p (cX n (bd n p) j)))) (l:=l) (b:=build (fD p (cX n (bd n p) (j+1)))) (by rw[tl];exact C.l _ (bS l0 l1)) cF ab
 rw[← es] at f1 f2 f3 f4
 rw[cN] at f1
 refine⟨(h.ok.step S.e).1,by rw[(h.ok.s.weak.step S.e).2.1,h.net],on',⟨jI (eZ w) l,od,?_,?_,ab,by push_cast;omega⟩,eDat.2,λ_=>by rw[n2];exact l0,by rw[f2,cE],by rw[f3,cD],λm m1 m2=>?_,?_,λi=>?_⟩
 .rw[f1,n1,n2];rfl
 .rw[n3,ax3,TY];omega
 .by_cases q:m=j
  .rw[q,oq];exact λz=>ht ⟨hlk.2 ab,z.1,ab⟩
  .exact h.ns m m1 ab
 .have jb:=h.jb;have hd:=Mi C.c (k:=l) (x:=gQ n (bc (build p)) j) ⟨l0,l1⟩;have hnd:=S.nd;have kn:=((h.ok.step S.e).1.s.fo _ (by rw[f1];exact iP.2 rfl)).nd.1;have kn:0<=fB n.2.1 l (gQ n (bc (build p)) j):=kn;have e1:m8 n (bd n p) (j+1)=dJ (n.1.getD (fB n.2.1 l (gQ n (bc (build p)) j)).toNat default):=by rw[← n1];rfl
  have hx:=S.hx;rw[← hx] at hd;rw[cX,oq,e1];rw[oq] at jb;have s0:j=0->cX n (bd n p) j=0:=λq=>by rw[q];rfl
  cases q:dJ x with
  | true =>
   rw[hd q kn,af bt,af aA];rw[q,am rfl] at jb
   push_cast;omega
  | false =>
   rw[q,af bt] at jb;have:∀ b:Bool,(if b=true then (1:Int) else 0)<=1:=λb=>by cases b <;> decide
   have b1:=this (dJ (n.1.getD (fB n.2.1 l (gQ n (bc (build p)) j)).toNat default));generalize (if dJ (n.1.getD (fB n.2.1 l (gQ n (bc (build p)) j)).toNat default)=true then (1:Int) else 0)=u at b1 ⊢;by_cases q1:1<=j
   .rw[am (⟨q1,rfl⟩:1<=j/\false=false)]
    push_cast;omega
   .rw[af (λz=>q1 z.1),s0 ab];have:j=0:=ab;subst this;simp only[gk,Int.add_zero,Int.mul_zero]
    push_cast;omega
 .have ee:(cq (fw w)).getD i default=((cq w).set (gQ n (bc (build p)) j).toNat (gz s (bf (aU x) p.2.1))).getD i default:=by rw[f4,ec,S.st,M];rfl
  have bi:=h.bal i;rw[ee];have hp:0<=jz (gz s (bf (aU x) p.2.1))/\jz (gz s (bf (aU x) p.2.1))<=j+1:=by
   unfold gz;split
   .omega
   .show 0<=IntKind.i64.wrap (jz s+1)/\IntKind.i64.wrap (jz s+1)<=_;rw[aG ab ab];omega
  push_cast
  rw[bL,List.getElem?_set];rw[bL] at bi;split
  .split
   .exact hp
   .show 0<=(0:Int)/\(0:Int)<=_;omega
  .omega
end Go.RS
namespace Go.SX
open Go
variable {P:Program}
theorem DV(w:World)(dT sT ty kW:TypeId)(z g o dLen dCap:Nat)(a:Addr)(oE vg:Nat)(cur:Array Value)(t:TypeId)(cs:List Value)
  (hu:P.underlying dT=some (.slice kW)) (hs:(P.info? kW).map (·.size)=some z)
  (hg:w.heap[g]? = some (.cells cur t (0,0))) (hn:cs.length=Nat.min oE dLen*z)
  (hsrc:∀ j v,cs[j]? = some v->w.cell? (a.add j)=some v) (hfit:o+cs.length<=cur.size) (h1:∀ v∈cs,v.oneCell'=true) :
  (Builtin.copy_ #[dT,sT] ty #[.slice (some ⟨g,o,none⟩) dLen dCap,.slice (some a) oE vg]).run P w =
   .ok (goInt (Nat.min oE dLen)) (w.setRow g (cur.toList.take o++cs++cur.toList.drop (o+cs.length)).toArray):=by
 have hl:=run_loadCells_list (P:=P) w a cs hsrc
 have hst:=run_storeCells_at P g o t cs 0 cur w hg (by simpa using hfit) h1
 cases hq:P.info? kW with
 | none=>simp[hq] at hs
 | some i =>
  have hi:i.size=z:=by simpa[hq] using hs
  simp[Builtin.copy_,run_underlying hu,Builtin.lenOf,Builtin.firstCells,sizeOf,typeInfo,hq,hi,← hn,hl,hst]
end Go.SX
namespace Go.SX
open Go.ChangeShapes Go.WideShapes Go.ChangeAt Go.RowKit
def Ap{H:Type}(f:(t:CT)->TypeId->t.D->DataW H):List Field->(t:CT)->t.D->List (DataW H)
 | [],_,_=>[]
 | [fd],t,d=>[f t fd.type d]
 | fd::g::r,.pair a b,(x,y)=>f a fd.type x::Ap f (g::r) b y
 | _::_::_,_,_=>[]
def yJ{H:Type}(f:(t:CT)->TypeId->t.D->DataW H)(e:TypeId):Nat->(t:CT)->t.D->List (DataW H)
 | 0,_,_=>[]
 | 1,t,d=>[f t e d]
 | n+2,.pair a b,(x,y)=>f a e x::yJ f e (n+1) b y
 | _+2,_,_=>[]
def po{H:Type}(P:Program):Nat->(t:CT)->TypeId->t.D->DataW H
 | 0,_,_,_ => .agg []
 | n+1,t,τ,d=>match P.underlying τ,t,d with
  | some (.int k),.int _,d => .lit (.int k d)
  | some .bool,.bool,d => .lit (.bool d)
  | some (.struct fs),t,d => .agg (Ap (po P n) fs.toList t d)
  | some (.array k e),t,d => .agg (yJ (po P n) e k t d)
  | _,_,_ => .agg []
def ub:CT->Bool
 | .int _=>true
 | .bool=>true
 | .pair a b=>ub a&&ub b
 | _=>false
section
variable {H:Type} {enc:TypeId×Value->H} {P:Program} {w:World} {base:Nat} {held:Bool}
theorem Pg{A:Nat->Prop}{f:CT->TypeId->Bool}{F:(t:CT)->TypeId->t.D->DataW H}{cs:List Value}{n:Nat}
  (hf:∀ t τ cs d p,f t τ=true->ub t=true->DataW.trod enc P w base (λ_=>true) held n τ cs=some (F t τ d,p)->Rd A w t (λj=>cs[j]?) 0 d) :
  ∀(fs:List Field)(t:CT)(o:Nat)(d:t.D)(xs:List (DataW H×List MemPlace)),uN P f fs t o=true->ub t=true->xs.length=fs.length->xs.map (·.1)=Ap F fs t d →
   (∀ i (h1:i<fs.length) (h2:i<xs.length),DataW.trod enc P w base (λ_=>true) held n fs[i].type ((cs.drop fs[i].offset).take (P.cellsOf fs[i].type))=some xs[i])->Rd A w t (λj=>cs[j]?) o d
 | [],t,o,d,xs,h,_,_,_,_=>by cases h
 | [fd],t,o,d,xs,h,ht,hl,he,hx=>by
  simp only[uN,dK] at h;obtain⟨⟨h1,h2⟩,h3⟩:=h;have h2:=bG h2;have h3:=bG h3
  match xs,hl with
  | [x],_ =>
   have:=hx 0 (by simp) (by simp);simp only[List.getElem_cons_zero] at this;simp only[fF,List.map_nil,Ap,List.cons.injEq,io] at he;have hd:=hf t fd.type _ d x.2 h1 ht (by rw[this,← he]);rw[h2] at hd;exact vT h3 hd
 | fd::g::r,.pair a b,o,(d1,d2),xs,h,ht,hl,he,hx=>by
  simp only[uN,dK] at h;obtain⟨⟨⟨h1,h2⟩,h3⟩,h4⟩:=h;simp only[ub,dK] at ht;have h2:=bG h2;have h3:=bG h3
  match xs,hl with
  | x::ys,hl =>
   simp only[fF,Ap,List.cons.injEq] at he;have:=hx 0 (by simp) (by simp);simp only[List.getElem_cons_zero] at this;have hd:=hf a fd.type _ d1 x.2 h1 ht.1 (by rw[this,← he.1]);rw[h2] at hd;have hd':=Pg hf (g::r) b (o+a.size) d2 ys h4 ht.2 (by simpa using hl) he.2 (λi k1 k2=>by
    have:=hx (i+1) (by simpa using k1) (by simpa using k2);simpa only[List.getElem_cons_succ] using this)
   exact⟨vT h3 hd,hd'⟩
 | _::_::_,.int _,_,_,_,h,_,_,_,_=>by cases h
 | _::_::_,.bool,_,_,_,h,_,_,_,_=>by cases h
 | _::_::_,.str,_,_,_,h,_,_,_,_=>by cases h
 | _::_::_,.sl _,_,_,_,h,_,_,_,_=>by cases h
theorem Lt{A:Nat->Prop}{f:CT->TypeId->Bool}{F:(t:CT)->TypeId->t.D->DataW H}{cs:List Value}{n:Nat}{e:TypeId}
  (hf:∀ t τ cs d p,f t τ=true->ub t=true->DataW.trod enc P w base (λ_=>true) held n τ cs=some (F t τ d,p)->Rd A w t (λj=>cs[j]?) 0 d) :
  ∀(k:Nat)(t:CT)(i:Nat)(d:t.D)(xs:List (DataW H×List MemPlace)),uu P f e k t=true->ub t=true->xs.length=k->xs.map (·.1)=yJ F e k t d →
   (∀ j (h2:j<xs.length),DataW.trod enc P w base (λ_=>true) held n e ((cs.drop ((i+j)*P.cellsOf e)).take (P.cellsOf e))=some xs[j])->Rd A w t (λj=>cs[j]?) (i*P.cellsOf e) d
 | 0,t,i,d,xs,h,_,_,_,_=>by cases h
 | 1,t,i,d,xs,h,ht,hl,he,hx=>by
  simp only[uu,dK] at h;obtain⟨h1,h2⟩:=h;have h2:=bG h2
  match xs,hl with
  | [x],_ =>
   have:=hx 0 (by simp);simp only[List.getElem_cons_zero] at this;simp only[fF,List.map_nil,yJ,List.cons.injEq,io] at he;have hd:=hf t e _ d x.2 h1 ht (by rw[this,← he]);exact vT h2 hd
 | k+2,.pair a b,i,(d1,d2),xs,h,ht,hl,he,hx=>by
  simp only[uu,dK] at h;obtain⟨⟨h1,h2⟩,h4⟩:=h;simp only[ub,dK] at ht;have h2:=bG h2
  match xs,hl with
  | x::ys,hl =>
   simp only[fF,yJ,List.cons.injEq] at he;have:=hx 0 (by simp);simp only[List.getElem_cons_zero] at this;have hd:=hf a e _ d1 x.2 h1 ht.1 (by rw[this,← he.1]);have hd':=Lt hf (k+1) b (i+1) d2 ys h4 ht.2 (by simpa using hl) he.2 (λj k2=>by
    have:=hx (j+1) (by simpa using k2);simp only[List.getElem_cons_succ] at this;rw[← this];congr 4;omega)
   refine⟨vT h2 hd,?_⟩;rw[fP,jZ] at hd';rw[← h2];exact hd'
 | _+2,.int _,_,_,_,h,_,_,_,_=>by cases h
 | _+2,.bool,_,_,_,h,_,_,_,_=>by cases h
 | _+2,.str,_,_,_,h,_,_,_,_=>by cases h
 | _+2,.sl _,_,_,_,h,_,_,_,_=>by cases h
theorem Hw:∀(n:Nat)(t:CT)(τ:TypeId)(fuel:Nat)(cs:List Value)(d:t.D)(p:List MemPlace),mP P n t τ=true->ub t=true->DataW.trod enc P w base (λ_=>true) held fuel τ cs=some (po P n t τ d,p) →
  Rd (λb=>b<w.heap.size) w t (λj=>cs[j]?) 0 d
 | 0,t,τ,fuel,cs,d,p,h,_,_=>by cases h
 | n+1,t,τ,fuel,cs,d,p,h,ht,hx=>by
  cases hu:P.underlying τ with
  | none=>cases t <;> simp[mP,hu] at h
  | some ty =>
   cases ty with
   | int k =>
    cases t with
    | int k' =>
     simp only[mP,hu] at h;cases mo h;obtain⟨m,rfl,e,hw⟩:=DataW.trod_int hu hx;unfold po at e;rw[hu] at e;simp only[br,DataW.lit.injEq,Lit.int.injEq,true_and] at e;obtain⟨rfl,-⟩:=e;exact⟨by simp,Lh hw⟩
    | _=>simp[mP,hu] at h
   | bool =>
    cases t with
    | bool =>
     obtain⟨b,rfl,e⟩:=DataW.trod_bool hu hx;unfold po at e;rw[hu] at e;simp only[br,DataW.lit.injEq,Lit.bool.injEq] at e;obtain⟨rfl,-⟩:=e;simp[Rd]
    | _=>simp[mP,hu] at h
   | struct fs =>
    have h':uN P (mP P n) fs.toList t 0=true:=by cases t <;> simpa[mP,hu] using h
    have ed:po (H:=H) P (n+1) t τ d = .agg (Ap (po P n) fs.toList t d):=by
     cases t <;> first|(cases ht;done)|(unfold po;rw[hu])
    obtain⟨xs,m,_,e,hl,hlen,hf⟩:=DataW.trod_struct hu hx;rw[ed] at e;simp only[br,DataW.agg.injEq] at e;refine Pg (F:=po P n) (n:=m) (λt τ cs d p h1 h2 h3=>Hw n t τ m cs d p h1 h2 h3) fs.toList _ 0 d xs h' ht (by simpa using hlen) e.1.symm λi h1 h2=>?_;have:=hf i fs[i] (Array.getElem?_eq_getElem (by simpa using h1));rw[cK h2] at this;simpa using this
   | array k e' =>
    have h':uu P (mP P n) e' k t=true:=by cases t <;> simpa[mP,hu] using h
    have ed:po (H:=H) P (n+1) t τ d = .agg (yJ (po P n) e' k t d):=by
     cases t <;> first|(cases ht;done)|(unfold po;rw[hu])
    obtain⟨xs,m,_,e,hl,hlen,hf⟩:=DataW.trod_array hu hx;rw[ed] at e;simp only[br,DataW.agg.injEq] at e;have:=Lt (F:=po P n) (n:=m) (cs:=cs) (e:=e') (λt τ cs d p h1 h2 h3=>Hw n t τ m cs d p h1 h2 h3) k _ 0 d xs h' ht hlen e.1.symm λj h2=>by
     have:=hf j (by omega);rw[cK h2] at this;simpa using this
    simpa using this
   | _=>cases t <;> first|(cases ht;done)|(simp[mP,hu] at h;done)
end
theorem globs_one{P:Program}{w:World}{name:String}{t:CT}{v:t.D}{g n:Nat}{τ:TypeId}{d:DataW Unit}(h:laidMetH P [(name,d)] w)(hh:([(name,d)].all λx=>x.2.handleName?.isNone)=true)
  (hg:P.globalNamed name=some g) (hτ:(P.globals[g]?).map (·.type)=some τ) (hf:mP P n t τ=true) (hs:ub t=true) (hd:d=po P n t τ v) :
  g<w.heap.size/\Rd (λb=>b<w.heap.size) w t (λo=>w.cell? ⟨g,o,none⟩) 0 v:=by
 rw[MakeChecks.laidMetH_plain _ _ _ hh] at h
 obtain⟨ps,⟨g0,t0,cs0,f0,p0,q0,hg0,ht0,hv0,hd0,_,_⟩,_,_⟩:=h
 obtain rfl:=Option.some.inj (hg.symm.trans hg0)
 obtain rfl:=Option.some.inj (hτ.symm.trans ht0)
 rw[hd] at hd0
 have hr:=Hw n t τ f0 cs0.toList v p0 hf hs hd0
 have hlt:g<w.heap.size:=by
  have hv:=hv0;simp only[World.var?,hg,Option.bind_some] at hv;split at hv
  next hb=>exact (Array.getElem?_eq_some_iff.1 hb).1
  .cases hv
 refine⟨hlt,?_⟩
 refine iA (λ_ h=>h) (λ_ _ _=>rfl) t _ _ _ _ (λj hj=>?_) hr
 have:=World.var?_cell hg hv0 j
 rw[gk,this];simp
end Go.SX
