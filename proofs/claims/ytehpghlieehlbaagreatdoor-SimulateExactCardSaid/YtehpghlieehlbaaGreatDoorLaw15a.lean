/- Ref14c: the reference's check of networks. -/
import Derived.Test.YtehpghlieehlbaaGreatDoorRef14
import Derived.Test.YtehpghlieehlbaaGreatDoorTopod
import Derived.Test.YtehpghlieehlbaaGreatDoorSim0
import Derived.Test.YtehpghlieehlbaaGreatDoorNetg
set_option maxRecDepth 100000
set_option linter.unusedVariables false
open Int (toNat)
open List (length take getD set replicate drop)
namespace Go.RS
open Go.SX Go.Proofs
theorem Hs(ns:List ar)(a:Int):∀ k:Nat,gq a (gn ns k)=true↔∃ j:Nat,j<k/\a∈cz (ns.getD j default)
 | 0=>⟨λh=>by (cases h),λ⟨j,hj,_⟩=>absurd hj (Nat.not_lt_zero _)⟩
 | k+1=>by
  have e:gn ns (k+1)=mR k (cz (ns.getD k default)) (gn ns k):=by unfold gn;rw[mM,j9];rfl
  rw[e,B1.1,oo,ng,Hs ns a k];constructor
  .rintro (h|⟨j,hj,h⟩)
   .exact⟨k,ab,h⟩
   .exact⟨j,ab,h⟩
  .rintro⟨j,hj,h⟩;by_cases q:j=k
   .subst q;exact .inl h
   .exact .inr ⟨j,ab,h⟩
theorem ay9{x:ar}{j:Nat}(h:j<(aA x).length):(bq x).getD j default=((aA x).getD j default).2:=by
 unfold bq
 rw[ce,ce,List.getElem?_map,cF h];rfl
def Re:Ct:=⟨[.agg gS],[.val cI],λd=>[∀ c∈d.1.2.2,((dB c).2.1.length:Int)<=1099511627776],λd=>((dA d.1,()),())⟩
def au5:bu Re.ps->bS:=(λd=>{loops:=(bm 4 (λS=>{ι:=Int,μ:=λi=>(d.1.2.1.length-i).toNat,inv:=λi=>0<=i/\i<=d.1.2.1.length∧∀ x∈d.1.2.1.take i.toNat,ia d.1.1.length x,keep:=[1],slots:=λi=>[(3,.int .i64 i)],keepN:=[32]}) (bm 10 (λS=>{ι:=Int,μ:=λi=>(d.1.1.length-i).toNat,inv:=λi=>0<=i/\i<=d.1.1.length/\first (jY d.1) i.toNat=0,keep:=[1],slots:=λi=>[(5,.int .i64 i)],keepN:=[32]}) (bm 16 (λS=>{ι:=Int,μ:=λi=>((bq (d.1.1.getD (S.i 5).toNat default)).length-i).toNat,inv:=λi=>0<=i/\i<=(bq (d.1.1.getD (S.i 5).toNat default)).length∧∀ q∈(bq (d.1.1.getD (S.i 5).toNat default)).take i.toNat,mh d.1 (S.i 5).toNat q=false,keep:=[1,5],slots:=λi=>[(7,.int .i64 i)],keepN:=[32]}) (bm 22 (λS=>{ι:=Int,μ:=λi=>(d.1.2.1.length-i).toNat,inv:=λi=>0<=i/\i<=d.1.2.1.length∧∀ k:Nat,(k:Int)<i->my d.1 k=false,keep:=[1],slots:=λi=>[(9,.int .i64 i)],keepN:=[32]}) (bm 27 (λS=>{ι:=Int,μ:=λi=>(d.1.1.length-i).toNat,inv:=λi=>0<=i/\i<=d.1.1.length∧∀ u:Nat,(u:Int)<i→∀ k:Nat,k<u→∀ a∈cz (d.1.1.getD u default),fH (d.1.1.getD k default) a=false,keep:=[1],slots:=λi=>[(10,.int .i64 i)],keepN:=[32]}) (bm 31 (λS=>{ι:=Int,μ:=λi=>(S.i 10-i).toNat,inv:=λi=>0<=i/\i<=S.i 10∧∀ z:Nat,(z:Int)<i→∀ a∈cz (d.1.1.getD (S.i 10).toNat default),fH (d.1.1.getD z default) a=false,keep:=[1,10,11],slots:=λi=>[(12,.int .i64 i)],keepN:=[32,3520]}) (bm 34 (λS=>{ι:=Int,μ:=λi=>((cz (d.1.1.getD (S.i 10).toNat default)).length-i).toNat,inv:=λi=>0<=i/\i<=(cz (d.1.1.getD (S.i 10).toNat default)).length∧∀ a∈(cz (d.1.1.getD (S.i 10).toNat default)).take i.toNat,fH (d.1.1.getD (S.i 12).toNat default) a=false,keep:=[1,10,11,12],slots:=λi=>[(13,.int .i64 i)],keepN:=[32,3520]}) (bm 39 (λS=>{ι:=Int,μ:=λi=>(d.1.2.1.length-i).toNat,inv:=λi=>0<=i/\i<=d.1.2.1.length∧∀ x∈d.1.2.1.take i.toNat,ja d.1.1 x=false,keep:=[1],slots:=λi=>[(14,.int .i64 i)],keepN:=[32]}) ci))))))))})
def vI(a:List ar)(h i:Int) :=
 getD (ah a h).1 i.toNat default
def vw(a:List ar)(j:Int) :=
 ((length (cz (ah a j))):Int)
def Jb(a:List ar)(j:Int) :=
 0<=j/\j<=(ac a)/\ ∀(k:Nat),(↑k:Int)<j-> ∀(l:Nat),l<k-> ∀(m:Int),m∈cz (a.getD k default)->fH (a.getD l default) m=false
def xV(a:List ar)(h:Int) :=
 ((length (bq (ah a h))):Int)
theorem ak9 :
 ∀(a:List ar)(b:List aN)(c:List aT),((a.length<=maxLen/\ ∀(d:ar),d∈a->CT.wf bN d)/\(b.length<=maxLen/\ ∀(d:aN),d∈b->CT.wf gh d)/\c.length<=maxLen/\ ∀(d:aT),d∈c->CT.wf ft d)/\True->(∀(d:aT),d∈c->((length (dB d).2.1):Int)<=1099511627776)-> ∀(d:Bool),d=decide ((ac a)<1)->(ae (! d))/\(ae (! d))/\(ae (! d))/\(aF d)/\ ∀(e:Bool),(e=bif d then true else decide (64<(ac a)))->(ae (! e))/\(ae (! e))/\(ae (! e))/\(aF e)/\ ∀(f:Bool),(f=bif e then true else decide (128<(ac b)))->(ae (! f))/\(ae (! f))/\(ae (! f))/\(aF f)/\ao (bif f then true else decide (64<(ac c))) (5=dA (a,b,c)) ((∃(g:Int),(0<=g/\g<=(ac b)/\ ∀(h:Int×Int×Int×Int×Int×Int),h∈take g.toNat b->ia a.length h)/\0=g/\a=a/\b=b/\c=c/\True)/\ ∀(g:Int),(0<=g/\g<=(ac b)/\ ∀(h:Int×Int×Int×Int×Int×Int),h∈take g.toNat b->ia a.length h)->ao (decide (g<(ac b)))
 (0<=g/\g<(ac b)/\ ∀(h:Bool),h=decide ((ah b g).1<0)->(ae (! h))/\(ae (! h))/\(ae (! h))/\((! h)->(aq (! h))/\(aq (! h))/\True)/\(aF h)/\ ∀(i:Bool),(i=bif h then true else decide ((ac a)<=(ah b g).1))->(ae (! i))/\(ae (! i))/\(aF i)/\ ∀(j:Bool),(j=bif i then true else decide ((ah b g).2.1<0))->(ae (! j))/\(ae (! j))/\(ae (! j))/\((! j)->(aq (! j))/\(aq (! j))/\True)/\(aF j)/\ ∀(k:Bool),(k=bif j then true else decide ((ac a)<=(ah b g).2.1))->(ae (! k))/\(ae (! k))/\((! k)->(aq (! k))/\(aq (! k))/\True)/\(aF k)/\ ∀(l:Bool),(l=bif k then true else decide ((ah b g).1=(ah b g).2.1))->(ae (! l))/\(ae (! l))/\(aF l)/\ ∀(m:Bool),(m=bif l then true else decide ((ah b g).2.2.1<1))->(ae (! m))/\(ae (! m))/\(aF m)/\ ∀(n:Bool),(n=bif m then true else decide (1073741824<(ah b g).2.2.1))->(ae (! n))/\(ae (! n))/\(aF n)/\ ∀(o:Bool),(o=bif n then true else decide
 ((ah b g).2.2.2.1<0))->(ae (! o))/\(ae (! o))/\(aF o)/\ ∀(p:Bool),(p=bif o then true else decide (1073741824<(ah b g).2.2.2.1))->(ae (! p))/\(ae (! p))/\(aF p)/\ ∀(q:Bool),(q=bif p then true else decide ((ah b g).2.2.2.2.1<0))->(ae (! q))/\(ae (! q))/\(aF q)/\ao (bif q then true else decide (65536<(ah b g).2.2.2.2.1)) (11=dA (a,b,c)) (∃(r:Int),(0<=r/\r<=(ac b)/\ ∀(s:Int×Int×Int×Int×Int×Int),s∈take r.toNat b->ia a.length s)/\toNat ((ac b) -r)<toNat ((ac b) -g)/\ai (g+1)=r/\a=a/\b=b/\c=c/\True)) ((∃(h:Int),(0<=h/\h<=(ac a)/\first (jY (a,b,c)) h.toNat=0)/\0=h/\a=a/\b=b/\c=c/\True)/\ ∀(h:Int),0<=h/\h<=(ac a)/\first (jY (a,b,c)) h.toNat=0->ao (decide (h<(ac a))) (0<=h/\h<(ac a)/\ao (! decide (dN (ah a h)=0)) (dN (ah a h)=dA (a,b,c)) ((∃(i:Int),(0<=i/\i<=(xV a h)/\ ∀(j:Int),j∈take i.toNat (bq (ah a h))->mh (a,b,c)
 h.toNat j=false)/\h=h/\0=i/\a=a/\b=b/\c=c/\True)/\ ∀(i:Int),(0<=i/\i<=(xV a h)/\ ∀(j:Int),j∈take i.toNat (bq (ah a h))->mh (a,b,c) h.toNat j=false)->0<=h/\h<(ac a)/\ao (decide (i<((length (ah a h).1):Int))) (0<=h/\h<(ac a)/\0<=i/\i<((length (ah a h).1):Int)/\ ∀(j:Bool),j=decide ((ac b)<=(vI a h i).2)->(ae (! j))/\((! j)->(aq (! j))/\(aq (! j))/\0<=(vI a h i).2/\(vI a h i).2<(ac b)/\True)/\(ae (! j))/\(ae (! j))/\((! j)->(aq (! j))/\(aq (! j))/\True)/\(ae (! j))/\ ∀(k:Bool),k= ! decide ((b.getD (toNat (vI a h i).2) default).1=h)->(ae (! j&&k))/\((! j&&k)->(aq (! j&&k))/\(aq (! j&&k))/\0<=(vI a h i).2/\(vI a h i).2<(ac b)/\True)/\(ae (! j&&k))/\(ae (! j&&k))/\((! j&&k)->(aq (! j&&k))/\(aq (! j&&k))/\True)/\((! j)->(aq (! j))/\(k->(! j&&k))/\True)/\(aF j)/\ao (bif j then true else bif k then ! decide ((b.getD (toNat
 (vI a h i).2) default).2.1=h) else false) (11=dA (a,b,c)) (∃(l:Int),(0<=l/\l<=(xV a h)/\ ∀(m:Int),m∈take l.toNat (bq (ah a h))->mh (a,b,c) h.toNat m=false)/\toNat ((xV a h) -l)<toNat ((xV a h) -i)/\h=h/\ai (i+1)=l/\a=a/\b=b/\c=c/\True)) (∃(j:Int),(0<=j/\j<=(ac a)/\first (jY (a,b,c)) j.toNat=0)/\toNat ((ac a) -j)<toNat ((ac a) -h)/\ai (h+1)=j/\a=a/\b=b/\c=c/\True))) ((∃(i:Int),(0<=i/\i<=(ac b)/\ ∀(j:Nat),(↑j:Int)<i->my (a,b,c) j=false)/\0=i/\a=a/\b=b/\c=c/\True)/\ ∀(i:Int),(0<=i/\i<=(ac b)/\ ∀(j:Nat),(↑j:Int)<i->my (a,b,c) j=false)->ao (decide (i<(ac b))) (0<=i/\i<(ac b)/\0<=(ah b i).1/\(ah b i).1<(ac a)/\ ∀(j:Bool),j=decide (cG (a.getD (toNat (ah b i).1) default) i<0)->(ae (! j))/\(ae (! j))/\((! j)->(aq (! j))/\(aq (! j))/\0<=i/\i<(ac b)/\True)/\(ae (! j))/\(ae (! j))/\((! j)->(aq (! j))/\(aq (! j))/\0<=(ah
 b i).2.1/\(ah b i).2.1<(ac a)/\True)/\(ae (! j))/\((! j)->(aq (! j))/\(aq (! j))/\True)/\(ae (! j))/\(aF j)/\ao (bif j then true else decide (cG (a.getD (toNat (ah b i).2.1) default) i<0)) (11=dA (a,b,c)) (∃(k:Int),(0<=k/\k<=(ac b)/\ ∀(l:Nat),(↑l:Int)<k->my (a,b,c) l=false)/\toNat ((ac b) -k)<toNat ((ac b) -i)/\ai (i+1)=k/\a=a/\b=b/\c=c/\True)) ((∃(j:Int),(Jb a j)/\0=j/\a=a/\b=b/\c=c/\True)/\ ∀(j:Int),(Jb a j)->ao (decide (j<(ac a))) (0<=j/\j<(ac a)/\length (aA (ah a j))<=(100000:Nat)/\(∃(k:Int),(0<=k/\k<=j/\ ∀(l:Nat),(↑l:Int)<k-> ∀(m:Int),m∈cz (ah a j)->fH (a.getD l default) m=false)/\j=j/\0=k/\a=a/\b=b/\c=c/\cz (ah a j)=cz (ah a j)/\True)/\ ∀(k:Int),(0<=k/\k<=j/\ ∀(l:Nat),(↑l:Int)<k-> ∀(m:Int),m∈cz (ah a j)->fH (a.getD l default) m=false)->ao (decide (k<j)) ((∃(l:Int),(0<=l/\l<=(vw a j)/\ ∀(m:Int),m∈take
 l.toNat (cz (ah a j))->fH (ah a k) m=false)/\j=j/\k=k/\0=l/\a=a/\b=b/\c=c/\cz (ah a j)=cz (ah a j)/\True)/\ ∀(l:Int),(0<=l/\l<=(vw a j)/\ ∀(m:Int),m∈take l.toNat (cz (ah a j))->fH (ah a k) m=false)->ao (decide (l<(vw a j))) (0<=k/\k<(ac a)/\0<=l/\l<(vw a j)/\ao (fH (ah a k) (getD (cz (ah a j)) l.toNat default)) (10=dA (a,b,c)) (∃(m:Int),(0<=m/\m<=(vw a j)/\ ∀(n:Int),n∈take m.toNat (cz (ah a j))->fH (ah a k) n=false)/\toNat ((vw a j) -m)<toNat ((vw a j) -l)/\j=j/\k=k/\ai (l+1)=m/\a=a/\b=b/\c=c/\cz (ah a j)=cz (ah a j)/\True)) (∃(m:Int),(0<=m/\m<=j/\ ∀(n:Nat),(↑n:Int)<m-> ∀(o:Int),o∈cz (ah a j)->fH (a.getD n default) o=false)/\toNat (j -m)<toNat (j -k)/\j=j/\ai (k+1)=m/\a=a/\b=b/\c=c/\cz (ah a j)=cz (ah a j)/\True)) (∃(l:Int),(0<=l/\l<=(ac a)/\ ∀(m:Nat),(↑m:Int)<l-> ∀(n:Nat),n<m->
 ∀(o:Int),o∈cz (a.getD m default)->fH (a.getD n default) o=false)/\toNat ((ac a) -l)<toNat ((ac a) -j)/\ai (j+1)=l/\a=a/\b=b/\c=c/\True)) ((∃(k:Int),(0<=k/\k<=(ac b)/\ ∀(l:Int×Int×Int×Int×Int×Int),l∈take k.toNat b->ja a l=false)/\0=k/\a=a/\b=b/\c=c/\True)/\ ∀(k:Int),(0<=k/\k<=(ac b)/\ ∀(l:Int×Int×Int×Int×Int×Int),l∈take k.toNat b->ja a l=false)->ao (decide (k<(ac b))) (0<=k/\k<(ac b)/\0<=(ah b k).1/\(ah b k).1<(ac a)/\ ∀(l:Bool),l=(a.getD (toNat (ah b k).1) default).2.2.2.2.2.2.2.2.2.2.2.2.1->(ae l)/\(ae l)/\(l->(aq l)/\(aq l)/\0<=k/\k<(ac b)/\True)/\(ae l)/\(ae l)/\(l->(aq l)/\(aq l)/\0<=(ah b k).2.1/\(ah b k).2.1<(ac a)/\True)/\(ae l)/\(ae l)/\(aq l)/\ao (bif l then (a.getD (toNat (ah b k).2.1) default).2.2.2.2.2.2.2.2.2.2.2.2.1 else false) (13=dA (a,b,c)) (∃(m:Int),(0<=m/\m<=(ac b)/\
 ∀(n:Int×Int×Int×Int×Int×Int),n∈take m.toNat b->ja a n=false)/\toNat ((ac b) -m)<toNat ((ac b) -k)/\ai (k+1)=m/\a=a/\b=b/\c=c/\True)) (ku (a,b,c)=0/\a.length<=(64:Nat)/\(∀(l:aT),l∈c->((length (dB l).2.1):Int)<=1099511627776)/\ld (a,b,c)=dA (a,b,c))))))):=by
  delta vI vw Jb xV ae aq aF ai ah ac;rintro ns ls hs ⟨⟨⟨hnl,-⟩,⟨hl,-⟩,⟨hhl,-⟩⟩,-⟩ hx;simp only[maxLen] at hl hnl hhl;intro b1 hb1
  (repeat refine⟨λh_=>(by first|(simp;done)|(simp[h_];done)|(simp_all;done)),?_⟩);intro b2 hb2
  (repeat refine⟨λh_=>(by first|(simp;done)|(simp[h_];done)|(simp_all;done)),?_⟩);intro b3 hb3
  (repeat refine⟨λh_=>(by first|(simp;done)|(simp[h_];done)|(simp_all;done)),?_⟩);rw[hb3,hb2,hb1,lR,lR,lR];refine av (λh=>?_) (λh=>?_)
  .have h:=aL h;have e:nG (ns,ls,hs)=5:=by unfold nG;rw[am (by dsimp only;omega)]
   unfold dA;rw[e];rfl
  have h:=aO h;have e1:nG (ns,ls,hs)=0:=by unfold nG;rw[af (by dsimp only;omega)]
  have eC:dA (ns,ls,hs)=ml (lG (ns,ls,hs)) (ml (ku (ns,ls,hs)) (ml (mU (ns,ls,hs)) (ml (nT (ns,ls,hs)) (ml (nq (ns,ls,hs)) (ld (ns,ls,hs)))))):=by unfold dA;rw[pX e1]
  rw[eC];clear eC e1 hb1 hb2 hb3;refine⟨⟨0,⟨ab,ab,aC⟩,aM⟩,?_⟩;rintro i ⟨i0,i1,hI⟩;refine av (λhi=>?_) (λhi=>?_)
  .have hi:=aL hi;have hm:=bW i0 hi;have dG:=λh=>nY i0 hi hI (P:=ia ns.length) h;refine⟨i0,hi,?_⟩;generalize ls.getD i.toNat default=l at hm dG ⊢;intro c1 hc1
   (repeat refine⟨λh_=>(by first|(simp;done)|(simp[h_];done)|(simp_all;done)),?_⟩);intro c2 hc2
   (repeat refine⟨λh_=>(by first|(simp;done)|(simp[h_];done)|(simp_all;done)),?_⟩);intro c3 hc3
   (repeat refine⟨λh_=>(by first|(simp;done)|(simp[h_];done)|(simp_all;done)),?_⟩);intro c4 hc4
   (repeat refine⟨λh_=>(by first|(simp;done)|(simp[h_];done)|(simp_all;done)),?_⟩);intro c5 hc5
   (repeat refine⟨λh_=>(by first|(simp;done)|(simp[h_];done)|(simp_all;done)),?_⟩);intro c6 hc6
   (repeat refine⟨λh_=>(by first|(simp;done)|(simp[h_];done)|(simp_all;done)),?_⟩);intro c7 hc7
   (repeat refine⟨λh_=>(by first|(simp;done)|(simp[h_];done)|(simp_all;done)),?_⟩);intro c8 hc8
   (repeat refine⟨λh_=>(by first|(simp;done)|(simp[h_];done)|(simp_all;done)),?_⟩);intro c9 hc9
   (repeat refine⟨λh_=>(by first|(simp;done)|(simp[h_];done)|(simp_all;done)),?_⟩);intro c10 hc10
   (repeat refine⟨λh_=>(by first|(simp;done)|(simp[h_];done)|(simp_all;done)),?_⟩);rw[hc10,hc9,hc8,hc7,hc6,hc5,hc4,hc3,hc2,hc1,lR,lR,lR,lR,lR,lR,lR,lR,lR,lR];refine bt (λh=>?_) (λh=>?_)
   .have e:lG (ns,ls,hs)=11:=by
     unfold lG;rw[af];intro k;have k:ia ns.length l:=aL (List.all_eq_true.1 k l hm);unfold ia lA lB mL iH mP at k;omega
    rw[e];rfl
   .exact⟨i+1,⟨ab,ab,dG (by unfold ia lA lB mL iH mP;omega)⟩,ab,aM⟩
  have hi:=aO hi;rw[dm ab] at hI;have e2:lG (ns,ls,hs)=0:=by
   unfold lG;rw[am];exact List.all_eq_true.2 λl hl=>dM (hI l hl)
  rw[pX e2];have he:=H7 e2;clear hI hi;refine⟨⟨0,⟨ab,ab,rfl⟩,aM⟩,?_⟩;rintro i ⟨i0,i1,hf⟩;refine av (λhi=>?_) (λhi=>?_)
  .have hi:=aL hi;have ei:((i.toNat:Nat):Int)=i:=ab;have hit:=λh=>Ai (f:=jY (ns,ls,hs)) (n:=ns.length) i0 hi hf h;have bad:∀{v R:Int},v≠0->jY (ns,ls,hs) i.toNat=v->v=ml (ku (ns,ls,hs)) R:=λhv e=>by
    have k:=hit (by rw[e];exact hv);rw[e] at k;rw[show ku (ns,ls,hs)=_ from k.symm];exact xE hv
   refine⟨i0,hi,av (λh=>?_) (λh=>?_)⟩
   .have h:=fQ h;exact bad h (am h)
   have h:=gH h;have nv:=GK h;have k0:=Py nv.bad;have hlen:(bq (ns.getD i.toNat default)).length=(aA (ns.getD i.toNat default)).length:=by simp[bq]
   have n32:=nv.len;refine⟨⟨0,⟨ab,ab,aC⟩,aM⟩,?_⟩;rintro j ⟨j0,j1,hj⟩;refine⟨i0,hi,av (λhk=>?_) (λhk=>?_)⟩
   rotate_left
   .have hk:=aO hk;have hk:¬ j<((aA (ns.getD i.toNat default)).length:Int):=hk;rw[dm ab] at hj;refine⟨i+1,⟨ab,ab,xD i0 hf ?_⟩,ab,aM⟩;unfold jY;rw[af (λq=>q h),af];intro q;obtain⟨k,hk,q⟩:=List.any_eq_true.1 q;rw[hj k hk] at q;cases q
   have hk:=aL hk;have hk2:j<((bq (ns.getD i.toNat default)).length:Int):=by
    have:j<((aA (ns.getD i.toNat default)).length:Int):=hk;omega
   have hm:=bW j0 hk2;have dG:=λh=>nY j0 hk2 hj h (P:=λk=>mh (ns,ls,hs) i.toNat k=false);have kk:=k0 _ hm;have eg:((ns.getD i.toNat default).1.getD j.toNat default).2=(bq (ns.getD i.toNat default)).getD j.toNat default:=(ay9 ab).symm;refine⟨i0,hi,j0,hk,?_⟩;rw[eg];generalize (bq (ns.getD i.toNat default)).getD j.toNat default=k at hm dG kk ⊢;intro b hb
   (repeat refine⟨λh_=>(by first|exact⟨λ_=>h_,λ_=>h_,kk,by rw[hb] at h_;have:=fQ h_;omega,bv⟩|((repeat refine⟨λ_=>h_,?_⟩);exact⟨i0,hi,bv⟩)|((repeat refine⟨λ_=>h_,?_⟩);exact⟨j0,hk,bv⟩)|(simp;done)|(simp[h_];done)|(simp_all;done)),?_⟩);intro b2 hb2
   (repeat refine⟨λh_=>(by first|exact⟨λ_=>h_,λ_=>h_,kk,by rw[hb] at h_;have:=fQ (Bool.and_eq_true_iff.1 h_).1;omega,bv⟩|((repeat refine⟨λ_=>h_,?_⟩);exact⟨i0,hi,bv⟩)|((repeat refine⟨λ_=>h_,?_⟩);exact⟨j0,hk,bv⟩)|(simp;done)|(simp[h_];done)|(simp_all;done)),?_⟩);have tot:(bif b then true else bif b2 then !decide ((ls.getD k.toNat default).2.1=i) else false)=mh (ns,ls,hs) i.toNat k:=by
    rw[hb,hb2];unfold mh lA lB;rw[ei];cases decide ((ls.length:Int)<=k) <;> cases decide ((ls.getD k.toNat default).1=i) <;> cases decide ((ls.getD k.toNat default).2.1=i) <;> rfl
   rw[tot];refine av (λht=>?_) (λht=>?_)
   .refine bad bi ?_;unfold jY;rw[af (λq=>q h),am (List.any_eq_true.2 ⟨_,hm,ht⟩)]
   .exact⟨j+1,⟨ab,ab,dG ht⟩,ab,aM⟩
  have hi:=aO hi;rw[show i.toNat=ns.length by omega] at hf;have e3:ku (ns,ls,hs)=0:=hf;rw[pX e3];clear hf hi;have hp:∀ x∈ns,(aA x).length<=100000:=λx hx=>ta (PQ e3 x hx).len bi;refine⟨⟨0,⟨ab,ab,λk hk=>ab⟩,aM⟩,?_⟩;rintro i ⟨i0,i1,hI⟩;refine av (λhi=>?_) (λhi=>?_)
  .have hi:=aL hi;have hm:=bW i0 hi;have e:=he _ hm;have ei:((i.toNat:Nat):Int)=i:=ab;refine⟨i0,hi,e.1,e.2.1,?_⟩;intro b hb
   (repeat refine⟨λh_=>(by first|((repeat refine⟨λ_=>h_,?_⟩);first|exact⟨i0,hi,bv⟩|exact⟨e.2.2.1,e.2.2.2,bv⟩)|(simp;done)|(simp[h_];done)|(simp_all;done)),?_⟩);refine oT (λho=>?_) (λx1 x2=>?_)
   .have e4:mU (ns,ls,hs)=11:=by
     unfold mU;rw[am];refine List.any_eq_true.2 ⟨i.toNat,List.mem_range.2 (show i.toNat<ls.length by omega),?_⟩;unfold my;rw[oo,ei];rcases ho with h|h
     .exact .inl (hb.symm.trans h)
     .exact .inr h
    rw[e4];rfl
   .refine⟨i+1,⟨ab,ab,λk hk=>?_⟩,ab,aM⟩;by_cases e2:(k:Int)<i
    .exact hI k e2
    .have:k=i.toNat:=ab;subst this;unfold my;rw[Bool.or_eq_false_iff,ei];exact⟨hb.symm.trans x1,x2⟩
  have hi:=aO hi;have e4:mU (ns,ls,hs)=0:=by
   unfold mU;rw[af];intro h;obtain⟨k,h1,h2⟩:=List.any_eq_true.1 h;have h1:k<ls.length:=List.mem_range.1 h1;rw[hI k ab] at h2;cases h2
  rw[pX e4];clear hI hi;refine⟨⟨0,⟨ab,ab,λu hu=>ab⟩,aM⟩,?_⟩;rintro i ⟨i0,i1,hI⟩;refine av (λhi=>?_) (λhi=>?_)
  .have hi:=aL hi;have ei:((i.toNat:Nat):Int)=i:=ab;have hpx:=hp _ (bW i0 hi);have al:(cz (ns.getD i.toNat default)).length<=100001:=by
    unfold cz lL;rw[cD,qm];split
    .rw[List.length_nil];omega
    .rw[eU];omega
   refine⟨i0,hi,hpx,⟨0,⟨ab,ab,λz hz=>ab⟩,aM⟩,?_⟩;rintro k ⟨k0,k1,hK⟩;refine av (λhk=>?_) (λhk=>?_)
   rotate_left
   .have hk:=aO hk;refine⟨i+1,⟨ab,ab,λu hu z hz a ha=>?_⟩,ab,aM⟩;by_cases q:(u:Int)<i
    .exact hI u q z hz a ha
    .have:u=i.toNat:=ab;subst this;exact hK z ab a ha
   have hk:=aL hk;refine⟨⟨0,⟨ab,ab,aC⟩,aM⟩,?_⟩;rintro x ⟨x0,x1,hX⟩;refine av (λhx1=>?_) (λhx1=>?_)
   rotate_left
   .have hx1:=aO hx1;rw[dm ab] at hX;refine⟨k+1,⟨ab,ab,λz hz a ha=>?_⟩,ab,aM⟩;by_cases q:(z:Int)<k
    .exact hK z q a ha
    .have:z=k.toNat:=ab;subst this;exact hX a ha
   have hx1:=aL hx1;have hm:=bW x0 hx1;have nx:=λh=>nY x0 hx1 hX h (P:=λa=>fH (ns.getD k.toNat default) a=false);refine⟨k0,ab,x0,hx1,av (λq=>?_) (λq=>?_)⟩
   .have e5:nT (ns,ls,hs)=10:=by
     unfold nT;rw[am];exact List.any_eq_true.2 ⟨i.toNat,List.mem_range.2 (show i.toNat<ns.length by omega),List.any_eq_true.2 ⟨_,hm,(Hs ns _ i.toNat).2 ⟨k.toNat,ab,LR.1 q⟩⟩⟩
    rw[e5];rfl
   .exact⟨x+1,⟨ab,ab,nx q⟩,ab,aM⟩
  have hi:=aO hi;have e5:nT (ns,ls,hs)=0:=by
   unfold nT;rw[af];intro h;obtain⟨u,hu,h2⟩:=List.any_eq_true.1 h;obtain⟨a,ha,h3⟩:=List.any_eq_true.1 h2;have hu:u<ns.length:=List.mem_range.1 hu;obtain⟨j,hj,h4⟩:=(Hs ns a u).1 h3;have:=hI u ab j hj a ha;rw[LR.2 h4] at this;cases this
  rw[pX e5];clear hI hi;refine⟨⟨0,⟨ab,ab,aC⟩,aM⟩,?_⟩;rintro i ⟨i0,i1,hI⟩;refine av (λhi=>?_) (λhi=>?_)
  .have hi:=aL hi;have hm:=bW i0 hi;have e:=he _ hm;refine⟨i0,hi,e.1,e.2.1,?_⟩;intro b hb
   (repeat refine⟨λh_=>(by first|((repeat refine⟨λ_=>h_,?_⟩);first|exact⟨i0,hi,bv⟩|exact⟨e.2.2.1,e.2.2.2,bv⟩)|(simp;done)|(simp[h_];done)|(simp_all;done)),?_⟩);refine pT (λx1 x2=>?_) (λhno=>?_)
   .have e6:nq (ns,ls,hs)=13:=by
     unfold nq;rw[am];refine List.any_eq_true.2 ⟨_,hm,?_⟩;unfold ja;rw[dr];exact⟨hb.symm.trans x1,x2⟩
    rw[e6];rfl
   .refine⟨i+1,⟨ab,ab,nY i0 hi hI ?_⟩,ab,aM⟩;unfold ja;rw[Bool.and_eq_false_iff];rcases hno with h|h
    .exact .inl (hb.symm.trans h)
    .exact .inr h
  have hi:=aO hi;rw[dm ab] at hI;have e6:nq (ns,ls,hs)=0:=by
   unfold nq;rw[af];intro h;obtain⟨l,h1,h2⟩:=List.any_eq_true.1 h;rw[hI l h1] at h2;cases h2
  rw[pX e6];exact⟨e3,ab,hx,rfl⟩
theorem Ms:aD 10 Re.spec:=aH Tryz.func10 (au (au (au (au (au aE T9) LY) SE) Pr) aX2) au5 ak9
set_option maxHeartbeats 2000000
instance:DecidableEq Rt:=inferInstanceAs (DecidableEq ((Int×Int)×ad×Int))
instance:DecidableEq bY:=inferInstanceAs (DecidableEq (List Rt×Int×ad×(Int×Int)×Int))
def gB(a b:aJ):Bool:=decide (bg a=bg b)&&decide (bj a=bj b)&&decide (bX a=bX b)&&decide ((aU a:List bY)=aU b)&&decide (bH a=bH b)&&decide ((ax a:List aW)=ax b)&&decide ((aY a:List pB)=aY b)&&decide ((aV a:List lO)=aV b)
theorem HY{a b:aJ}:gB a b=true↔(bg a=bg b/\bj a=bj b/\bX a=bX b/\aU a=aU b/\bH a=bH b/\ax a=ax b/\aY a=aY b/\aV a=aV b):=by
 unfold gB
 simp only[dr,ng,and_assoc]
theorem Ax{a b:aJ}:gB a b=true↔a.2=b.2:=by
 rw[HY]
 constructor
 .rintro⟨h1,h2,h3,h4,h5,h6,h7,h8⟩;obtain⟨a0,a1,a2,a3,a4,a5,a6,a7,a8⟩:=a;obtain⟨b0,b1,b2,b3,b4,b5,b6,b7,b8⟩:=b;simp only[bg,bj,bX,aU,bH,ax,aY,aV] at h1 h2 h3 h4 h5 h6 h7 h8;subst h1 h2 h3 h4 h5 h6 h7 h8;rfl
 .intro h;unfold bg bj bX aU bH ax aY aV;rw[h];exact⟨rfl,rfl,rfl,rfl,rfl,rfl,rfl,rfl⟩
theorem CN{a b:aJ}(h:¬ (bg a=bg b/\bj a=bj b/\bX a=bX b/\aU a=aU b/\bH a=bH b/\ax a=ax b/\aY a=aY b/\aV a=aV b)):false=gB a b:=by
 cases e:gB a b with
 | false=>rfl
 | true=>exact absurd (HY.1 e) h
theorem JA{a b:Bool}:(bif a then true else b)=false↔a=false/\b=false:=by cases a <;> cases b <;> simp
theorem FZ{a b:Bool}:(bif a then true else b)=true↔a=true∨b=true:=by cases a <;> cases b <;> simp
theorem IY{p:Prop} [Decidable p]:(!decide p)=false↔p:=by by_cases h:p <;> simp[h]
theorem GU{p:Prop} [Decidable p]:(!decide p)=true↔¬ p:=by by_cases h:p <;> simp[h]
theorem aA0{l:List aW}{f x:aW}(h:∃ y∈l,aI f<aI y):da (l++[x]) f=da l f++[x]:=by
 unfold da
 have e:∀{l:List aW},(∃ y∈l,aI f<aI y)->(l++[x]).takeWhile (λx=>decide (aI x<=aI f))=l.takeWhile (λx=>decide (aI x<=aI f))/\(l++[x]).dropWhile (λx=>decide (aI x<=aI f))=l.dropWhile (λx=>decide (aI x<=aI f))++[x]:=by
  intro l
  induction l with
  | nil=>rintro⟨y,hy,-⟩;cases hy
  | cons a l ih =>
   rintro⟨y,hy,hh⟩;by_cases ha:aI a<=aI f
   .have hy:y∈l:=by
     rcases dj.1 hy with rfl|hy
     .omega
     .exact hy
    obtain⟨i1,i2⟩:=ih ⟨y,hy,hh⟩;rw[jS,List.takeWhile_cons_of_pos (by simpa using ha),List.takeWhile_cons_of_pos (by simpa using ha),List.dropWhile_cons_of_pos (by simpa using ha),List.dropWhile_cons_of_pos (by simpa using ha),i1,i2];exact⟨rfl,rfl⟩
   .rw[jS,List.takeWhile_cons_of_neg (by simpa using ha),List.takeWhile_cons_of_neg (by simpa using ha),List.dropWhile_cons_of_neg (by simpa using ha),List.dropWhile_cons_of_neg (by simpa using ha)];exact⟨rfl,rfl⟩
 obtain⟨e1,e2⟩:=e h
 rw[e1,e2]
 simp
theorem M1{l m:List aW}{f:aW}(h:∀ y∈l,aI y<=aI f):da (l++m) f=l++da m f:=Yz h
def TP:Ct:=⟨[.agg fX],[.agg rf],λd=>[qO d.1],λd=>((d.1,()),())⟩
def lm :=
 (140737488355328:Nat)
theorem Vl :
 ∀(a:(List ar×List aN×List aT)×Int×Int×Int×List (List aG×Int×ad×(Int×Int)×Int)×ad×List (Int×Int×Int×Int×Int×ad)×List (Int×Int×ad)×List (Int×Int×Int×Int×Int)),CT.wf fX a/\True->(lT (az a)/\((length (aU a)):Int)<=1000000/\((length (bH a)):Int)<=1000000/\((length (ax a)):Int)<=1000000/\((length (aY a)):Int)<=1000000000000/\((length (aV a)):Int)<=1000000000000/\(∀(b:bY),b∈aU a->((length (fD b)):Int)<=1000000/\okL (bn b))/\(∀(b:aW),b∈ax a->((length (eI b)):Int)<=1000000)/\ ∀(b:pB),b∈aY a->(ac b.2.2)<=1000000)->a.2.2.2.2.1.length*(80:Nat)<=(lm)/\a.2.2.2.2.2.1.length*(8:Nat)<=(lm)/\a.2.2.2.2.2.2.1.length*(64:Nat)<=(lm)/\a.2.2.2.2.2.2.2.1.length*(40:Nat)<=(lm)/\a.2.2.2.2.2.2.2.2.length*(40:Nat)<=(lm)/\a=a:=by
  delta lm ac;rintro d-⟨h1,h2,h3,h4,h5,h6,h7,h8,h9⟩;have h2:(d.2.2.2.2.1.length:Int)<=1000000:=h2;have h3:(d.2.2.2.2.2.1.length:Int)<=1000000:=h3;have h4:(d.2.2.2.2.2.2.1.length:Int)<=1000000:=h4;have h5:(d.2.2.2.2.2.2.2.1.length:Int)<=1000000000000:=h5;have h6:(d.2.2.2.2.2.2.2.2.length:Int)<=1000000000000:=h6;exact⟨ab,ab,ab,ab,ab,rfl⟩
theorem IG:aD 59 TP.spec:=aH Tryz.func59 aE aR Vl
def KO:Ct:=⟨[.val (.sl jM),.agg jM],[.own 134 jM],λd=>[(d.1.length:Int)<=1000000],λd=>((da d.1 d.2.1,()),())⟩
def ay5:bu KO.ps->bS:=(λd=>{loops:=(bm 4 (λS=>{ι:=Int×(List aW)×Bool,qn:=qU,μ:=λi=>(d.1.length-i.1).toNat,inv:=λi=>0<=i.1/\i.1<=d.1.length/\(i.2.2=false->i.2.1=d.1.take i.1.toNat∧∀ x∈d.1.take i.1.toNat,aI x<=aI d.2.1)/\(i.2.2=true->i.2.1=da (d.1.take i.1.toNat) d.2.1∧∃ x∈d.1.take i.1.toNat,aI d.2.1<aI x),keep:=[0,3],slots:=λi=>[(5,.own 524288 6),(6,.bool i.2.2),(7,.int .i64 i.1)],keepN:=[64],names:=λi=>[(524288,.live (.row 134 jM i.2.1))]}) ci)})
def J5(a:List (Int×Int×Int×Int×Int×ad))(b c d e f:Int)(g:ad)(l:Int)(m:List aW)(n:Bool) :=
 0<=l/\l<=(ac a)/\(n=false->m=take l.toNat a/\ ∀(o:Int×Int×Int×Int×Int×ad),o∈take l.toNat a->aI o<=aI (b,c,d,e,f,g))/\(n=true->m=da (take l.toNat a) (b,c,d,e,f,g)/\ ∃(o:Int×Int×Int×Int×Int×ad),o∈take l.toNat a/\aI (b,c,d,e,f,g)<aI o)
def G2(a:List (Int×Int×Int×Int×Int×ad))(b c d e f:Int)(g:ad)(h:Int)(i:List aW)(j:Bool) :=
 h<=(ac a)/\(j=false->i=take h.toNat a/\ ∀(k:Int×Int×Int×Int×Int×ad),k∈take h.toNat a->aI k<=aI (b,c,d,e,f,g))/\(j=true->i=da (take h.toNat a) (b,c,d,e,f,g)/\ ∃(k:Int×Int×Int×Int×Int×ad),k∈take h.toNat a/\aI (b,c,d,e,f,g)<aI k)
theorem Uh :
 ∀(a:List (Int×Int×Int×Int×Int×ad))(b c d e f:Int)(g:ad),(a.length<=maxLen/\ ∀(h:Int×Int×Int×Int×Int×ad),h∈a->aj h.1/\aj h.2.1/\aj h.2.2.1/\aj h.2.2.2.1/\aj h.2.2.2.2.1/\h.2.2.2.2.2.length<=maxLen/\ ∀(i:Int),i∈h.2.2.2.2.2->0<=i/\i<=255)/\(aj b/\aj c/\aj d/\aj e/\aj f/\g.length<=maxLen/\ ∀(h:Int),h∈g->0<=h/\h<=255)/\True->(ac a)<=1000000->(∃(h:Int) (i:List aW),∃(j:Bool),(0<=h/\(G2 a b c d e f g h i j))/\a=a/\false=j/\0=h/\b=b/\c=c/\d=d/\e=e/\f=f/\g=g/\i=([]:List (Int×Int×Int×Int×Int×ad))/\True)/\ ∀(h:Int)(i:List aW)(j:Bool),0<=h/\(G2 a b c d e f g h i j)->ao (decide (h<(ac a))) (∀(k:Bool),k= ! j->(k->(aq k)/\(aq k)/\0<=h/\h<(ac a)/\True)/\(ae k)/\(ae k)/\(ae k)/\(k->(aq k)/\(aq k)/\True)/\(aq k)/\ao (bif k then decide (b<(ah a h).1) else false) ((i.length+length [(b,c,d,e,f,g)])*(64:Nat)<=(lm)/\0<=h/\h<(ac
 a)/\(length (i++[(b,c,d,e,f,g)])+length [ah a h])*(64:Nat)<=(lm)/\ ∃(l:Int) (m:List aW),∃(n:Bool),(J5 a b c d e f g l m n)/\toNat ((ac a) -l)<toNat ((ac a) -h)/\a=a/\true=n/\ai (h+1)=l/\b=b/\c=c/\d=d/\e=e/\f=f/\g=g/\i++[(b,c,d,e,f,g)]++[ah a h]=m/\True) (0<=h/\h<(ac a)/\(i.length+length [ah a h])*(64:Nat)<=(lm)/\ ∃(l:Int) (m:List aW),∃(n:Bool),(J5 a b c d e f g l m n)/\toNat ((ac a) -l)<toNat ((ac a) -h)/\a=a/\j=n/\ai (h+1)=l/\b=b/\c=c/\d=d/\e=e/\f=f/\g=g/\i++[ah a h]=m/\True)) (ao (! j) ((i.length+length [(b,c,d,e,f,g)])*(64:Nat)<=(lm)/\i++[(b,c,d,e,f,g)]=da a (b,c,d,e,f,g)) (i=da a (b,c,d,e,f,g))):=by
  delta lm J5 G2 ae aq ai ah ac;rintro l a b c e f g ⟨⟨hl0,-⟩,-⟩ hl;obtain⟨x,hx⟩:∃ x:aW,x=(a,b,c,e,f,g):=⟨_,rfl⟩
  rw[← hx];have ha:a=aI x:=by rw[hx];rfl
  rw[ha];refine⟨⟨0,[],false,⟨ab,ab,λ_=>⟨rfl,λy hy=>by simp at hy⟩,λh=>by cases h⟩,aM⟩,?_⟩;rintro i out dn ⟨i0,i1,h1,h2⟩;have hol:out.length<=1000001:=by
   cases dn with
   | false=>rw[(h1 rfl).1,cW];omega
   | true=>rw[(h2 rfl).1,Bo,cW];omega
  refine bt (λhi=>?_) (λhi=>?_)
  .have en:=nK i0 hi;have hm:l.getD i.toNat default∈l.take (i+1).toNat:=by rw[en];simp
   rintro b0 rfl
   (repeat refine⟨(by first|(simp;done)|(simp;omega)|(intros;exact⟨i0,hi,bv⟩)),?_⟩);refine pT (λk1 k2=>?_) (λk=>?_)
   .have k2:aI x<aI (l.getD i.toNat default):=aL k2;have k1:dn=false:=by simpa using k1
    obtain⟨e1,e2⟩:=h1 k1;refine⟨by simp only[eU];omega,i0,hi,by simp only[cD,eU];omega,i+1,out++[x]++[l.getD i.toNat default],true,⟨ab,ab,λh=>(by cases h),λ_=>⟨?_,_,hm,k2⟩⟩,ab,?_⟩
    rotate_left
    ·(repeat refine iK ?_);exact trivial
    .rw[e1,en,M1 e2];have:da [l.getD i.toNat default] x=[x,l.getD i.toNat default]:=by
      unfold da;rw[List.takeWhile_cons_of_neg (by simpa using k2),List.dropWhile_cons_of_neg (by simpa using k2)];rfl
     rw[this];simp
   .refine⟨i0,hi,by simp only[eU];omega,i+1,out++[l.getD i.toNat default],dn,⟨ab,ab,λh=>?_,λh=>?_⟩,ab,?_⟩
    rotate_left 2
    ·(repeat refine iK ?_);exact trivial
    .obtain⟨e1,e2⟩:=h1 h;have k2:¬ aI x<aI (l.getD i.toNat default):=by
      rcases k with k|k
      .rw[h] at k;cases k
      .exact aO k
     rw[e1,en];refine⟨rfl,λy hy=>?_⟩;rcases dH.1 hy with hy|hy
     .exact e2 y hy
     .rw[jR.1 hy];omega
    .obtain⟨e1,y,hy,e2⟩:=h2 h;rw[e1,en];exact⟨(aA0 ⟨y,hy,e2⟩).symm,y,g7 _ hy,e2⟩
  .have et:l.take i.toNat=l:=dm ab;rw[et] at h1 h2;refine av (λk=>?_) (λk=>?_)
   .have k:dn=false:=by simpa using k
    obtain⟨e1,e2⟩:=h1 k;refine⟨by simp only[eU];omega,?_⟩;rw[e1];have:=M1 (m:=[]) e2;rw[ke] at this;rw[this];rfl
   .have k:dn=true:=by simpa using k
    exact (h2 k).1
theorem Pf:aD 64 KO.spec:=aH Tryz.func64 aE ay5 Uh
def MT:Ct:=⟨[.ago rf,.val cI],[.agg rf],λd=>[m6 (cB d.1 d.2.1),lT (az d.1)],λd=>((cq (cB d.1 d.2.1),()),())⟩
def Vg:bu MT.ps->bS:=(λd=>{loops:=(bm 2 (λS=>{ι:=Int×(List bY),qn:=fj,μ:=λi=>((az d.1).2.2.length-i.1).toNat,inv:=λi=>m6 (kf (fL (cB d.1 d.2.1) i.2) i.1)/\cq (kf (fL (cB d.1 d.2.1) i.2) i.1)=cq (cB d.1 d.2.1),keep:=[1,2,4],slots:=λi=>[],keepN:=[80,2097153,2097154,2097155,2097156],names:=λi=>[(48,.live (.cells 39 (cR gS d.1.1++[.int .i64 d.2.1,.int .i64 d.1.2.2.1,.int .i64 i.1,.own 524288 6,.own 2097153 1,.own 2097154 6,.own 2097155 3,.own 2097156 5]))),(524288,.live (.row 123 i7 i.2))]}) ci)})
theorem Tn :
 ∀(a:List ar)(b:List aN)(c:List aT)(d e f:Int)(g:List (List aG×Int×ad×(Int×Int)×Int))(h:ad)(i:List (Int×Int×Int×Int×Int×ad))(j:List (Int×Int×ad))(k:List (Int×Int×Int×Int×Int))(l:Int),(((a.length<=maxLen/\ ∀(m:ar),m∈a->CT.wf bN m)/\(b.length<=maxLen/\ ∀(m:aN),m∈b->CT.wf gh m)/\c.length<=maxLen/\ ∀(m:aT),m∈c->CT.wf ft m)/\aj d/\aj e/\aj f/\(g.length<=maxLen/\ ∀(m:List aG×Int×ad×(Int×Int)×Int),m∈g->(m.1.length<=maxLen/\ ∀(n:aG),n∈m.1->((0<=n.1.1/\n.1.1<=4294967295)/\aj n.1.2)/\(n.2.1.length<=maxLen/\ ∀(o:Int),o∈n.2.1->aj o)/\aj n.2.2)/\aj m.2.1/\(m.2.2.1.length<=maxLen/\ ∀(n:Int),n∈m.2.2.1->aj n)/\(aj m.2.2.2.1.1/\aj m.2.2.2.1.2)/\aj m.2.2.2.2)/\(h.length<=maxLen/\ ∀(m:Int),m∈h->aj m)/\(i.length<=maxLen/\ ∀(m:Int×Int×Int×Int×Int×ad),m∈i->aj m.1/\aj m.2.1/\aj m.2.2.1/\aj m.2.2.2.1/\aj
 m.2.2.2.2.1/\m.2.2.2.2.2.length<=maxLen/\ ∀(n:Int),n∈m.2.2.2.2.2->0<=n/\n<=255)/\(j.length<=maxLen/\ ∀(m:Int×Int×ad),m∈j->aj m.1/\aj m.2.1/\m.2.2.length<=maxLen/\ ∀(n:Int),n∈m.2.2->0<=n/\n<=255)/\k.length<=maxLen/\ ∀(m:Int×Int×Int×Int×Int),m∈k->aj m.1/\aj m.2.1/\aj m.2.2.1/\aj m.2.2.2.1/\aj m.2.2.2.2)/\aj l/\True->(m6 (cB ((a,b,c),d,e,f,g,h,i,j,k) l)/\(ac a)<=1000000/\(ac b)<=1000000/\(ac c)<=1000000/\(∀(m:ar),m∈a->((length (aA m)):Int)<=1000000/\okL (bf m))/\ ∀(m:aT),m∈c->((length (dB m).2.1):Int)<=1099511627776)->(∃(m:Int) (n:List bY),(m6 (kf (fL (cB ((a,b,c),d,e,f,g,h,i,j,k) l) n) m)/\cq (kf (fL (cB ((a,b,c),d,e,f,g,h,i,j,k) l) n) m)=cq (cB ((a,b,c),d,e,f,g,h,i,j,k) l))/\l=l/\(0:Int)=0/\(0:Int)=0/\(0:Int)=0/\h=h/\i=i/\j=j/\k=k/\a=a/\b=b/\c=c/\l=l/\e=e/\f=m/\g=n/\True)/\ ∀(m:Int) (n:List
 bY),m6 (kf (fL (cB ((a,b,c),d,e,f,g,h,i,j,k) l) n) m)/\cq (kf (fL (cB ((a,b,c),d,e,f,g,h,i,j,k) l) n) m)=cq (cB ((a,b,c),d,e,f,g,h,i,j,k) l)-> ∀(o:Bool),o=decide (m<(ac c))->(ae o)/\(ae o)/\(ae o)/\(o->(aq o)/\(aq o)/\0<=m/\m<(ac c)/\True)/\(ae o)/\(ae o)/\(o->(aq o)/\(aq o)/\True)/\(aq o)/\ao (bif o then decide ((ah c m).1<=l) else false) (0<=m/\m<(ac c)/\0<=(ah c m).2.1/\(ah c m).2.1<(ac n)/\cK (n.getD (toNat (ah c m).2.1) default).1/\okL (n.getD (toNat (ah c m).2.1) default).1/\((length (ah c m).2.2.2.2.1):Int)<=1099511627776/\0<=(ah c m).2.1/\(ah c m).2.1<(ac n)/\ ∃(p:Int) (q:List bY),(m6 (kf (fL (cB ((a,b,c),d,e,f,g,h,i,j,k) l) q) p)/\cq (kf (fL (cB ((a,b,c),d,e,f,g,h,i,j,k) l) q) p)=cq (cB ((a,b,c),d,e,f,g,h,i,j,k) l))/\toNat ((ac c)
 -p)<toNat ((ac c) -m)/\l=l/\(0:Int)=0/\(0:Int)=0/\(0:Int)=0/\h=h/\i=i/\j=j/\k=k/\a=a/\b=b/\c=c/\l=l/\e=e/\ai (m+1)=p/\set n (toNat (ah c m).2.1) (fT (n.getD (toNat (ah c m).2.1) default).1 (ah c m),(n.getD (toNat (ah c m).2.1) default).2)=q/\True) (((a,b,c),l,e,m,n,h,i,j,k)=cq (cB ((a,b,c),d,e,f,g,h,i,j,k) l)):=by
  delta ae aq ai ah ac;rintro ns ls hs now ord dn0 sts cr fl dl en t ⟨⟨⟨-,-,⟨hl,-⟩⟩,-⟩,-⟩⟨h,-,-,-,-,hcp⟩;simp only[maxLen] at hl;refine⟨⟨dn0,sts,⟨h,rfl⟩,aM⟩,?_⟩;rintro dn st ⟨hv,he⟩;obtain⟨v,hw⟩:∃ v:aJ,v=kf (fL (cB ((ns,ls,hs),now,ord,dn0,sts,cr,fl,dl,en) t) st) dn:=⟨_,rfl⟩
  rw[← hw] at hv he;have hdn:bX v=dn:=by rw[hw];rfl
  have hd0:0<=dn:=by rcases hv with q|q;have:=q.done.1;omega;have:=q.2;omega
  (repeat (refine bO ?_;repeat refine bP ?_));refine pT (λh1 h2=>?_) (λh12=>?_)
  rotate_left
  .rw[← he,Nv,hw]
   .rfl
   .intro k;unfold mY at k;rw[hw,dr] at k;rcases h12 with q|q
    .exact absurd (k.1.symm.trans q) aC
    .exact absurd (k.2.symm.trans q) aC
  have hd1:dn<hs.length:=aL h1;have hv:fv v:=hv.resolve_right λq=>by
   have q1:hs=[]:=by have:=q.1;rw[hw] at this;exact this
   rw[q1] at hd1;simp at hd1;omega
  have hdue:mY v=true:=by
   unfold mY;rw[hw,dr];exact⟨h1,h2⟩
  have eN:az v=(ns,ls,hs):=by rw[hw];rfl
  have eS:aU v=st:=by rw[hw];rfl
  have hk:dn.toNat<(az v).2.2.length:=by rw[eN];show dn.toNat<hs.length;omega
  obtain⟨-,⟨w0,w1⟩,hc⟩:=Bb hv.net hk;have hlen:=hv.len;have hsw:=hv.chg hdue;have hst:=(NY hv hdue).symm.trans he;rw[eN,eS] at hlen;rw[eN] at w0 w1 hc;have hlen:st.length=ns.length:=hlen;obtain⟨c,ec⟩:∃ c:aT,c=hs.getD dn.toNat default:=⟨_,rfl⟩
  have w0:0<=bI c:=by rw[ec];exact w0
  have w1:bI c<ns.length:=by rw[ec];exact w1
  have hi:(bI c).toNat<(az v).1.length:=by rw[eN];show (bI c).toNat<ns.length;omega
  obtain⟨c1,c2⟩:=uU (hv.chk hi);rw[eS] at c1 c2;have et:jL v=c:=by rw[ec,hw];rfl
  have ed:bX v=dn:=by rw[hw];rfl
  have ev:mg v=kf (fL (cB ((ns,ls,hs),now,ord,dn0,sts,cr,fl,dl,en) t) (st.set (bI c).toNat (EP (st.getD (bI c).toNat default) (fT (bn (st.getD (bI c).toNat default)) c)))) (dn+1):=by
   unfold mg;rw[et,ed,eS,aQ ab ab,hw];rfl
  rw[ev] at hsw hst;have hin:((dB c).2.1.length:Int)<=1099511627776:=hcp c (by rw[ec];exact bW hd0 hd1);rw[← ec];refine⟨hd0,hd1,w0,by rw[hlen];exact w1,c1,c2,hin,w0,by rw[hlen];exact w1,dn+1,_,⟨.inl hsw,hst⟩,by show (hs.length-(dn+1)).toNat<(hs.length-dn).toNat;omega,?_⟩
  (repeat refine iK ?_);exact⟨rfl,bv⟩
theorem N7:aD 61 MT.spec:=aH Tryz.func61 (au aE Oc) Vg Tn
theorem ao5{n:cC}(h:dA n=0){i:Nat}(hi:i<n.1.length):dN (n.1.getD i default)=0:=by
 have hb:=um (BS h).2.2.1 i hi
 unfold jY at hb
 split at hb
 next k=>exact absurd hb k
 next k=>exact Classical.not_not.1 k
theorem XQ{w:aJ}{f:aW}{k:Int}{o:ad}{nn:Nat}(h8:ia nn (cP w k)) :
  (Int.tmod (mN (cP w k) (i5 w k)) 65536<mP (cP w k)->eJ w f (k,o)=lP (oE w ((bH w).set k.toNat (IntKind.i64.wrap (i5 w k+1)))) f k 3) ∧
  (¬ Int.tmod (mN (cP w k) (i5 w k)) 65536<mP (cP w k) →
   (1125899906842624<jv w k∨(4096:Int)<=(ax w).length->eJ w f (k,o)=lP (oE w ((bH w).set k.toNat (IntKind.i64.wrap (i5 w k+1)))) f k 7) ∧
   (¬ (1125899906842624<jv w k∨(4096:Int)<=(ax w).length)->eJ w f (k,o)=vH (oE w ((bH w).set k.toNat (IntKind.i64.wrap (i5 w k+1)))) (jv w k,0,f7 (az w).2.1 k (bh f),k,fG f,o))):=by
 obtain⟨-,-,-,-,-,d1,d2,j1,j2,l1,l2⟩:=h8
 have e:IntKind.wrap .u64 (mP (cP w k))=mP (cP w k):=yp l1 ab
 refine⟨λh=>?_,λh=>⟨λq=>?_,λq=>?_⟩⟩
 .unfold eJ;exact am (by rw[e];exact h)
 .unfold eJ;dsimp only;rw[af (by rw[e];exact h)];exact am q
 .unfold eJ;dsimp only;rw[af (by rw[e];exact h)];exact af q
def MU:Ct:=⟨[.ago rf],[.agg rf],λd=>[mq d.1,ax d.1≠[]],λd=>((dI d.1,()),())⟩
def ah6:bu MU.ps->bS:=(λd=>{cuts:=(bm 8 (λS=>{ι:=aJ,inv:=λi=>i=jk d.1,keep:=[2,3,5,6],slots:=λi=>[(1,.ptr 32 0)],keepN:=[48,64,96],names:=λi=>[(32,.live (.cells 39 (cR gS (az i)++[.int .i64 (bg i),.int .i64 (bj i),.int .i64 (bX i),.own 524288 6,.own 524289 1,.own 524290 6,.own 524291 3,.own 524292 5]))),(524288,.live (.row 123 i7 (aU i))),(524289,.live (.row 3 cI (bH i))),(524290,.live (.row 134 jM (ax i))),(524291,.live (.row 88 sG (aY i))),(524292,.live (.row 78 qE (aV i)))]}) (bm 10 (λS=>{ι:=aJ,inv:=λi=>i=cu d.1,keep:=[2,3,5,6],slots:=λi=>[(1,.ptr 32 0)],keepN:=[48,64,96],names:=λi=>[(32,.live (.cells 39 (cR gS (az i)++[.int .i64 (bg i),.int .i64 (bj i),.int .i64 (bX i),.own 524288 6,.own 524289 1,.own 524290 6,.own 524291 3,.own 524292 5]))),(524288,.live (.row 123 i7 (aU i))),(524289,.live (.row 3 cI (bH i))),(524290,.live (.row 134 jM (ax i))),(524291,.live (.row 88 sG (aY i))),(524292,.live (.row 78 qE (aV i)))]}) ci))})
def bK(i:List (Int×Int×Int×Int×Int×ad)) :=
 ah i (0:Int)
def zw(C:Int)(G:aJ) :=
 getD (az G).2.1 C.toNat default
def Gi(C:Int)(G:aJ) :=
 ir (bits BinOp.xor IntKind.u64 (ir (IntKind.wrap .u64 (zw C G).2.2.2.2.2)) (IntKind.wrap .u64 (getD (bH G) C.toNat default)))
def F4(C:Int)(G:aJ) :=
 ai (bg G+(zw C G).2.2.1)+ai (Int.tmod (IntKind.wrap .u64 (Int.tdiv (Gi C G) (65536:Int))) (IntKind.wrap .u64 (ai ((zw C G).2.2.2.1+1))))
def DG(i:List (Int×Int×Int×Int×Int×ad))(l:List ar)(r:List (List aG×Int×ad×(Int×Int)×Int)) :=
 fC (l.getD (toNat (bK i).2.2.1) default) (r.getD (toNat (bK i).2.2.1) default) (bK i).2.2.2.1 (bK i).1 (bK i).2.2.2.2.2
theorem aA8 :
 ∀(a:List ar)(b:List aN)(c:List aT)(d e f:Int)(g:List (List aG×Int×ad×(Int×Int)×Int))(h:ad)(i:List (Int×Int×Int×Int×Int×ad))(j:List (Int×Int×ad))(k:List (Int×Int×Int×Int×Int)),(((a.length<=maxLen/\ ∀(l:ar),l∈a->CT.wf bN l)/\(b.length<=maxLen/\ ∀(l:aN),l∈b->CT.wf gh l)/\c.length<=maxLen/\ ∀(l:aT),l∈c->CT.wf ft l)/\aj d/\aj e/\aj f/\(g.length<=maxLen/\ ∀(l:List aG×Int×ad×(Int×Int)×Int),l∈g->(l.1.length<=maxLen/\ ∀(m:aG),m∈l.1->((0<=m.1.1/\m.1.1<=4294967295)/\aj m.1.2)/\(m.2.1.length<=maxLen/\ ∀(n:Int),n∈m.2.1->aj n)/\aj m.2.2)/\aj l.2.1/\(l.2.2.1.length<=maxLen/\ ∀(m:Int),m∈l.2.2.1->aj m)/\(aj l.2.2.2.1.1/\aj l.2.2.2.1.2)/\aj l.2.2.2.2)/\(h.length<=maxLen/\ ∀(l:Int),l∈h->aj l)/\(i.length<=maxLen/\ ∀(l:Int×Int×Int×Int×Int×ad),l∈i->aj l.1/\aj l.2.1/\aj l.2.2.1/\aj l.2.2.2.1/\aj
 l.2.2.2.2.1/\l.2.2.2.2.2.length<=maxLen/\ ∀(m:Int),m∈l.2.2.2.2.2->0<=m/\m<=255)/\(j.length<=maxLen/\ ∀(l:Int×Int×ad),l∈j->aj l.1/\aj l.2.1/\l.2.2.length<=maxLen/\ ∀(m:Int),m∈l.2.2->0<=m/\m<=255)/\k.length<=maxLen/\ ∀(l:Int×Int×Int×Int×Int),l∈k->aj l.1/\aj l.2.1/\aj l.2.2.1/\aj l.2.2.2.1/\aj l.2.2.2.2)/\True->mq ((a,b,c),d,e,f,g,h,i,j,k)/\(ax ((a,b,c),d,e,f,g,h,i,j,k)=([]:List aW)->False)->(0:Int)<=0/\0<(ac i)/\(0:Int)<=1/\1<=(ac i)/\m6 (cB ((a,b,c),d,e,f,g,h,drop 1 i,j,k) (bK i).1)/\lT (az ((a,b,c),d,e,f,g,h,drop 1 i,j,k))/\ ∀(l:List ar)(m:List aN)(n:List aT)(o p q:Int)(r:List (List aG×Int×ad×(Int×Int)×Int))(s:ad)(t:List (Int×Int×Int×Int×Int×ad))(u:List (Int×Int×ad))(v:List (Int×Int×Int×Int×Int)),((l,m,n),o,p,q,r,s,t,u,v)=cq (cB ((a,b,c),d,e,f,g,h,drop 1 i,j,k) (bK i).1)->0<=(bK
 i).2.2.1/\(bK i).2.2.1<(ac l)/\0<=(bK i).2.2.1/\(bK i).2.2.1<(ac r)/\ud (l.getD (toNat (bK i).2.2.1) default) (r.getD (toNat (bK i).2.2.1) default) (bK i).1 (bK i).2.2.2.2.2/\ ∀(w:List aG)(x:Int)(y:ad)(z A B C:Int)(D:ad)(E:Int),(w,x,y,(z,A),B)=(DG i l r).1/\(C,D)=(DG i l r).2.1/\E=(DG i l r).2.2->0<=(bK i).2.2.1/\(bK i).2.2.1<(ac r)/\ao (decide (E=1)) (length (bK i).2.2.2.2.2*(1:Nat)<=(lm)/\(u.length+length [((bK i).1,(bK i).2.2.1,(bK i).2.2.2.2.2)])*(40:Nat)<=(lm)/\ ∃(F:aJ),F=jk ((a,b,c),d,e,f,g,h,i,j,k)/\E=E/\(0:Int)=0/\(0:Int)=0/\(0:Int)=0/\(bK i).1=(bK i).1/\(bK i).2.1=(bK i).2.1/\(bK i).2.2.1=(bK i).2.2.1/\(bK i).2.2.2.1=(bK i).2.2.2.1/\(bK i).2.2.2.2.1=(bK i).2.2.2.2.1/\(bK i).2.2.2.2.2=(bK i).2.2.2.2.2/\C=C/\D=D/\l=(az F).1/\m=(az F).2.1/\n=(az F).2.2/\o=bg F/\p=bj
 F/\q=bX F/\set r (toNat (bK i).2.2.1) (w,x,y,(z,A),B)=aU F/\s=bH F/\t=ax F/\u++[((bK i).1,(bK i).2.2.1,(bK i).2.2.2.2.2)]=aY F/\v=aV F/\True) (∃(F:aJ),F=jk ((a,b,c),d,e,f,g,h,i,j,k)/\E=E/\(0:Int)=0/\(0:Int)=0/\(0:Int)=0/\(bK i).1=(bK i).1/\(bK i).2.1=(bK i).2.1/\(bK i).2.2.1=(bK i).2.2.1/\(bK i).2.2.2.1=(bK i).2.2.2.1/\(bK i).2.2.2.2.1=(bK i).2.2.2.2.1/\(bK i).2.2.2.2.2=(bK i).2.2.2.2.2/\C=C/\D=D/\l=(az F).1/\m=(az F).2.1/\n=(az F).2.2/\o=bg F/\p=bj F/\q=bX F/\set r (toNat (bK i).2.2.1) (w,x,y,(z,A),B)=aU F/\s=bH F/\t=ax F/\u=aY F/\v=aV F/\True)/\ ∀(F:aJ),F=jk ((a,b,c),d,e,f,g,h,i,j,k)->ao (! decide (E=0)) ((length (aV F)+length [((bK i).2.2.2.2.1,(bK i).1,(bK i).2.2.1,(bK i).2.2.2.1,E)])*(40:Nat)<=(lm)/\ ∃(G:aJ),G=cu
 ((a,b,c),d,e,f,g,h,i,j,k)/\E=E/\(0:Int)=0/\(0:Int)=0/\(0:Int)=0/\(bK i).1=(bK i).1/\(bK i).2.1=(bK i).2.1/\(bK i).2.2.1=(bK i).2.2.1/\(bK i).2.2.2.1=(bK i).2.2.2.1/\(bK i).2.2.2.2.1=(bK i).2.2.2.2.1/\(bK i).2.2.2.2.2=(bK i).2.2.2.2.2/\C=C/\D=D/\(az F).1=(az G).1/\(az F).2.1=(az G).2.1/\(az F).2.2=(az G).2.2/\bg F=bg G/\bj F=bj G/\bX F=bX G/\aU F=aU G/\bH F=bH G/\ax F=ax G/\aY F=aY G/\aV F++[((bK i).2.2.2.2.1,(bK i).1,(bK i).2.2.1,(bK i).2.2.2.1,E)]=aV G/\True) (∃(G:aJ),G=cu ((a,b,c),d,e,f,g,h,i,j,k)/\E=E/\(0:Int)=0/\(0:Int)=0/\(0:Int)=0/\(bK i).1=(bK i).1/\(bK i).2.1=(bK i).2.1/\(bK i).2.2.1=(bK i).2.2.1/\(bK i).2.2.2.1=(bK i).2.2.2.1/\(bK i).2.2.2.2.1=(bK i).2.2.2.2.1/\(bK i).2.2.2.2.2=(bK i).2.2.2.2.2/\C=C/\D=D/\(az F).1=(az G).1/\(az F).2.1=(az G).2.1/\(az F).2.2=(az
 G).2.2/\bg F=bg G/\bj F=bj G/\bX F=bX G/\aU F=aU G/\bH F=bH G/\ax F=ax G/\aY F=aY G/\aV F=aV G/\True)/\ ∀(G:aJ),G=cu ((a,b,c),d,e,f,g,h,i,j,k)-> ∀(H:Bool),H= ! decide (E=0)->(ae H)/\(aq H)/\ao (bif H then ! decide (E=2) else false) ((az G,bg G,bj G,bX G,aU G,bH G,ax G,aY G,aV G)=dI ((a,b,c),d,e,f,g,h,i,j,k)) (0<=C/\C<((length (az G).2.1):Int)/\0<=C/\C<((length (bH G)):Int)/\0<=C/\C<((length (bH G)):Int)/\0<=C/\C<((length (bH G)):Int)/\(65536:Int)≠(0:Int)/\ao (decide (ai (Int.tmod (Gi C G) (65536:Int))<(zw C G).2.2.2.2.1)) ((length (aV G)+length [((bK i).2.2.2.2.1,(bK i).1,(bK i).2.2.1,C,(3:Int))])*(40:Nat)<=(lm)/\(az G,bg G,bj G,bX G,aU G,set (bH G) C.toNat (ai (getD (bH G) C.toNat default+1)),ax G,aY G,aV G++[((bK i).2.2.2.2.1,(bK i).1,(bK
 i).2.2.1,C,(3:Int))])=dI ((a,b,c),d,e,f,g,h,i,j,k)) ((65536:Int)≠(0:Int)/\IntKind.wrap .u64 (ai ((zw C G).2.2.2.1+1))≠(0:Int)/\ ∀(I:Bool),I=decide (1125899906842624<ai (F4 C G))->(ae (! I))/\(ae (! I))/\(ae (! I))/\(aF I)/\ao (bif I then true else decide (4096<=((length (ax G)):Int))) ((length (aV G)+length [((bK i).2.2.2.2.1,(bK i).1,(bK i).2.2.1,C,(7:Int))])*(40:Nat)<=(lm)/\(az G,bg G,bj G,bX G,aU G,set (bH G) C.toNat (ai (getD (bH G) C.toNat default+1)),ax G,aY G,aV G++[((bK i).2.2.2.2.1,(bK i).1,(bK i).2.2.1,C,(7:Int))])=dI ((a,b,c),d,e,f,g,h,i,j,k)) (((length (ax G)):Int)<=1000000/\(az G,bg G,ai (bj G+1),bX G,aU G,set (bH G) C.toNat (ai (getD (bH G) C.toNat default+1)),da (ax G) (ai (F4 C G),bj G,f7 (az G).2.1 C (bK i).2.2.1,C,(bK i).2.2.2.2.1,D),aY G,aV
 G)=dI ((a,b,c),d,e,f,g,h,i,j,k)))):=by
  delta bK F4 lm DG Gi zw ae aq aF ai ah ac;rintro ns ls hs now ord dn sts cr fl dl en-⟨h,hne⟩;obtain⟨f,r,rfl⟩:∃ f r,fl=f::r:=List.exists_cons_of_ne_nil hne;obtain⟨w,hw⟩:∃ w:aJ,w=((ns,ls,hs),now,ord,dn,sts,cr,f::r,dl,en):=⟨_,rfl⟩
  have e0:(f::r).getD (toNat 0) default=f:=rfl;have e1:drop 1 (f::r)=r:=rfl;simp only[e0,e1];rw[← hw] at h ⊢;have A:=h.at (w:=w) (f:=f) (r:=r) (by rw[hw];rfl)
  have ew:cB (fU w (ax w).tail) (aI (gY w))=cB ((ns,ls,hs),now,ord,dn,sts,cr,r,dl,en) f.1:=by rw[A.eF,hw];rfl
  have hcp:=h.c;have ewn:az w=(ns,ls,hs):=by rw[hw];rfl
  refine⟨ab,by simp only[cQ];omega,ab,by simp only[cQ];omega,by rw[← ew];exact .inl A.h0.weak,by rw[ewn] at hcp;exact hcp,?_⟩;rw[← ew];intro a1 a2 a3 a4 a5 a6 a7 a8 a9 a10 a11 hv;have hv:((a1,a2,a3),a4,a5,a6,a7,a8,a9,a10,a11)=dQ w:=hv;have hi:(bh f).toNat<(az (dQ w)).1.length:=by have:=A.fk.nd;omega
  have hnd:=A.fk.nd;have hlen:=A.s.len;obtain⟨st,-⟩:=A.s.st _ hi;have hpot:(0:Int)<=jf w:=ab;have N:=tA A.s.net hi;have hnv:dN ((az (dQ w)).1.getD (bh f).toNat default)=0:=ao5 A.s.net hi;have hdl:=h.d;have hen:=h.e;have E1:a1=(az (dQ w)).1:=by rw[← hv];rfl
  have E7:a7=aU (dQ w):=by rw[← hv];rfl
  have E10:a10=aY w:=by rw[← A.dl,← hv];rfl
  have E11:a11=aV w:=by rw[← A.en,← hv];rfl
  have eH:gG w=fC (a1.getD (bh f).toNat default) (a7.getD (bh f).toNat default) (f8 f) (aI f) (eI f):=by unfold gG bd;rw[A.eF,E1,E7]
  have hfd:((eI f).length:Int)<=2000:=A.fk.d;have hft:=A.fk.t;have hnw:=A.s.now;refine⟨hnd.1,by rw[E1];exact hnd.2,hnd.1,by rw[E7,hlen];exact hnd.2,by rw[E1,E7];exact⟨hnv,st.more ab,⟨by show 0<=aI f;omega,hft.2⟩,by show ((eI f).length:Int)<=1000000;omega⟩,?_⟩;intro b1 b2 b3 b4 b5 b6 o1 o2 why hh;obtain⟨hh1,hh2,hh3⟩:=hh;have hh1:(b1,b2,b3,(b4,b5),b6)=(gG w).1:=by rw[eH];exact hh1
  have hh2:(o1,o2)=(gG w).2.1:=by rw[eH];exact hh2
  have hh3:why=(gG w).2.2:=by rw[eH];exact hh3
  have eA:rP w=((a1,a2,a3),a4,a5,a6,a7.set (bh f).toNat (b1,b2,b3,(b4,b5),b6),a8,a9,a10,a11):=by unfold rP;rw[A.eF,hh1,← hv];rfl
  refine⟨hnd.1,by rw[E7,hlen];exact hnd.2,?_⟩;have lenD:((aY w).length:Int)<=999999999000:=ab;have lenE:((aV w).length:Int)<=999999999000:=ab;refine⟨bt (λk=>?_) (λk=>?_),?_⟩
  .have k:why=1:=k;have eB:jk w=((a1,a2,a3),a4,a5,a6,a7.set (bh f).toNat (b1,b2,b3,(b4,b5),b6),a8,a9,a10++[(aI f,bh f,eI f)],a11):=by
    rw[o5,am (hh3▸k),eA,A.eF,← hv];rfl
   have hfd':((f.2.2.2.2.2).length:Int)<=2000:=hfd;exact⟨ab,by rw[E10];simp only[eU];omega,_,eB.symm,aM⟩
  .have k:¬ why=1:=k;have eB:jk w=((a1,a2,a3),a4,a5,a6,a7.set (bh f).toNat (b1,b2,b3,(b4,b5),b6),a8,a9,a10,a11):=by
    rw[o5,af (hh3▸k),eA,← hv];rfl
   exact⟨_,eB.symm,aM⟩
  rintro B rfl;have eBn:aV (jk w)=aV w:=by rw[o5];show aV (rP w)=_;rw[eA];exact E11
  refine⟨av (λk=>?_) (λk=>?_),?_⟩
  .have k:¬ why=0:=fQ k;refine⟨by rw[eBn];simp only[eU];omega,cu w,rfl,?_⟩;have eC:cu w=EZ (jk w) (aV (jk w)++[(fG f,aI f,bh f,f8 f,why)]):=by rw[rF,am (hh3▸k),A.eF,← hh3,eBn,← A.en]
   rw[eC];exact aM
  .have k:why=0:=gH k;refine⟨cu w,rfl,?_⟩;have eC:cu w=jk w:=by unfold cu;rw[af (by rw[← hh3,k];simp)]
   rw[eC];exact aM
  rintro C rfl;have eCe:((aV (cu w)).length:Int)<=999999999001:=by
   rw[rF];show ((if (gG w).2.2≠0 then aV (dQ w)++[(fG (gY w),aI (gY w),bh (gY w),f8 (gY w),(gG w).2.2)] else aV (dQ w)).length:Int)<=_;rw[A.en];split
   .rw[cD,eU];omega
   .omega
  have c1:az (cu w)=az w:=by rw[rF,o5];exact A.net
  have c2:ax (cu w)=ax (dQ w):=by rw[rF,o5];rfl
  have c4:bH (cu w)=bH (dQ w):=by rw[rF,o5];rfl
  have hO:(gG w).2.1=(o1,o2):=hh2.symm;have O:=A.s.weak.out A.fk.wk;have eHH:gG w=bd (dQ w) f:=by unfold gG;rw[A.eF]
  rw[← eHH] at O;rintro b rfl
  (repeat refine⟨(by first|(simp;done)),?_⟩);refine pT (λk1 k2=>?_) (λk=>?_)
  .have k1:=fQ k1;have k2:=fQ k2;have o0:=O.none (hh3▸k1) (hh3▸k2);rw[EX,o0,af (by simp[iw])];rfl
  have hr:(gG w).2.2=0∨(gG w).2.2=2:=by
   rw[← hh3];rcases k with k|k
   .exact .inl (gH k)
   .exact .inr (gH k)
  have hp:=(O.some hr).1;obtain⟨k1,k2,k3⟩:=A.out hp;rw[hO] at k1 k2 k3 hp;have hcl:(bH (cu w)).length=(az w).2.1.length:=by rw[c4,← A.net];exact A.s.cl
  have k3:ia (az w).1.length (cP (cu w) o1):=by show ia _ ((az (cu w)).2.1.getD o1.toNat default);rw[c1];exact k3
  obtain⟨C1,C2⟩:=XQ (w:=cu w) (f:=f) (k:=o1) (o:=o2) k3;obtain⟨-,-,-,-,-,d1,d2,j1,j2,l1,l2⟩:=k3;have eS:dI w=eJ (cu w) f (o1,o2):=by rw[EX,hO,am hp,A.eF]
  have hm:=Hu (bits .xor .u64 (ir (IntKind.wrap .u64 (uH (cP (cu w) o1)))) (IntKind.wrap .u64 (i5 (cu w) o1)));have hm0:=sn (b:=65536) hm.1;have hm1:=th (b:=65536) hm.1 bi;have hfn:=A.s.fn;refine⟨k1,by rw[c1];exact k2,k1,by rw[hcl];exact k2,k1,by rw[hcl];exact k2,k1,by rw[hcl];exact k2,bi,?_⟩;rw[show IntKind.i64.wrap (Int.tmod (ir (bits .xor .u64 (ir (IntKind.wrap .u64 (((az (cu w)).2.1.getD o1.toNat default).2.2.2.2.2))) (IntKind.wrap .u64 ((bH (cu w)).getD o1.toNat default)))) 65536)=Int.tmod (mN (cP (cu w) o1) (i5 (cu w) o1)) 65536 from aQ (by exact Int.le_trans bi hm0) (by have:=hm1;exact Int.le_trans (Int.le_of_lt hm1) bi)];refine av (λq=>?_) (λq=>?_)
  .have q:=aL q;rw[eS,C1 q];exact⟨by simp only[eU];omega,rfl⟩
  have q:=aO q;obtain⟨C3,C4⟩:=C2 q;have e1:IntKind.i64.wrap (iH (cP (cu w) o1)+1)=iH (cP (cu w) o1)+1:=aQ ab ab;have e2:IntKind.u64.wrap (iH (cP (cu w) o1)+1)=iH (cP (cu w) o1)+1:=yp ab ab;have eq:IntKind.u64.wrap (Int.tdiv (mN (cP (cu w) o1) (i5 (cu w) o1)) 65536)=Int.tdiv (mN (cP (cu w) o1) (i5 (cu w) o1)) 65536:=by
   unfold mN;rw[Aj hm.1];exact yp ab ab
  refine⟨bi,?_,?_⟩
  .show IntKind.u64.wrap (IntKind.i64.wrap (iH (cP (cu w) o1)+1))≠0;rw[e1,e2];omega
  have eo:jv (cu w) o1=IntKind.i64.wrap (IntKind.i64.wrap (bg (cu w)+((az (cu w)).2.1.getD o1.toNat default).2.2.1)+IntKind.i64.wrap (Int.tmod (IntKind.u64.wrap (Int.tdiv (mN (cP (cu w) o1) (i5 (cu w) o1)) 65536)) (IntKind.u64.wrap (IntKind.i64.wrap (((az (cu w)).2.1.getD o1.toNat default).2.2.2.1+1))))):=by
   rw[eq];rfl
  have fin:∀ over:Int,jv (cu w) o1=over→∀ b:Bool,b=decide (1125899906842624<over)->ao (bif b then true else decide (4096<=((ax (cu w)).length:Int))) (((aV (cu w)).length+[(f.2.2.2.2.1,f.1,f.2.2.1,o1,7)].length)*40<=140737488355328/\lP (oE (cu w) ((bH (cu w)).set o1.toNat (IntKind.i64.wrap ((bH (cu w)).getD o1.toNat default+1)))) f o1 7=dI w)
    (((ax (cu w)).length:Int)<=1000000/\vH (oE (cu w) ((bH (cu w)).set o1.toNat (IntKind.i64.wrap ((bH (cu w)).getD o1.toNat default+1)))) (over,0,f7 (az (cu w)).2.1 o1 (bh f),o1,fG f,o2)=dI w):=by
   rintro over rfl b rfl;refine oT (λho=>?_) (λq1 q2=>?_)
   .rw[eS,C3 (by rcases ho with q|q;exact .inl (aL q);exact .inr (aL q))];exact⟨by simp only[eU];omega,rfl⟩
   .rw[eS,C4 (by rintro (q|q);exact absurd q (aO q1);exact absurd q (aO q2))];exact⟨by rw[c2];omega,rfl⟩
  intro b hb;have:=fin _ eo b hb
  (repeat refine⟨(by first|(simp;done)|(rw[hb];simp;done)|(rw[hb];simp;omega)),?_⟩);exact this
theorem Na:aD 58 MU.spec:=aH Tryz.func58 (Cp (au (au (au (au (au aE (Ct.named N7)) (Ct.named Wt)) MV) ZF) Pf) (d:=18)) ah6 aA8
def Qh:Ct:=⟨[.agg gS],[.agg fX,.val cI],λd=>[lT d.1],λd=>((oR d.1,dA d.1,()),())⟩
def V1:bu Qh.ps->bS:=(λd=>{loops:=(bm 6 (λS=>{ι:=Int×(List bY),qn:=fj,μ:=λi=>(d.1.1.length-i.1).toNat,inv:=λi=>0<=i.1/\i.1<=d.1.1.length/\i.2=(d.1.1.take i.1.toNat).map lJ,keep:=[1,2,5],slots:=λi=>[(6,.int .i64 i.1)],keepN:=[32,48,288],names:=λi=>[(96,.live (.cells 39 (cR gS d.1++[.int .i64 0,.int .i64 0,.int .i64 0,.own 524288 6,.own 288 1,.nilsl,.nilsl,.nilsl]))),(524288,.live (.row 123 i7 i.2))]}) ci)})
def td :=
 ((([]:List ar),([]:List aN),([]:List aT)),(0:Int),(0:Int),(0:Int),([]:List (List aG×Int×ad×(Int×Int)×Int)),([]:ad),([]:List (Int×Int×Int×Int×Int×ad)),([]:List (Int×Int×ad)),([]:List (Int×Int×Int×Int×Int)))
def Fk(a:List ar)(d:Int) :=
 (bf (ah a d),(0:Int),replicate (length (aA (ah a d))) (0:Int),(w ((ah a d).2.2.2.2.2.2.2.2.2.2.1.1*(ah a d).2.2.2.2.2.2.2.2.2.2.1.2),(0:Int)),(0:Int))
theorem ai2 :
 ∀(a:List ar)(b:List aN)(c:List aT),((a.length<=maxLen/\ ∀(d:ar),d∈a->CT.wf bN d)/\(b.length<=maxLen/\ ∀(d:aN),d∈b->CT.wf gh d)/\c.length<=maxLen/\ ∀(d:aT),d∈c->CT.wf ft d)/\True->((ac a)<=1000000/\(ac b)<=1000000/\(ac c)<=1000000/\(∀(d:ar),d∈a->((length (aA d)):Int)<=1000000/\okL (bf d))/\ ∀(d:aT),d∈c->((length (dB d).2.1):Int)<=1099511627776)->(∀(d:aT),d∈c->((length (dB d).2.1):Int)<=1099511627776)/\ao (! decide (dA (a,b,c)=0)) ((td)=oR (a,b,c)/\dA (a,b,c)=dA (a,b,c)) (0<=(ac b)/\(ac b)<=(ac b)/\(↑(8:Nat):Int)*(ac b)<=281474976710656/\(∃(d:Int) (e:List bY),(0<=d/\d<=(ac a)/\e=List.map lJ (take d.toNat a))/\0=d/\a=a/\b=b/\c=c/\(0:Int)=0/\(0:Int)=0/\(0:Int)=0/\replicate (toNat (ac b)) (0:Int)=replicate (toNat (ac b))
 (0:Int)/\a=a/\b=b/\c=c/\(0:Int)=0/\(0:Int)=0/\(0:Int)=0/\e=([]:List (List aG×Int×ad×(Int×Int)×Int))/\True)/\ ∀(d:Int)(e:List bY),0<=d/\d<=(ac a)/\e=List.map lJ (take d.toNat a)->ao (decide (d<(ac a))) (0<=d/\d<(ac a)/\okL (bf (ah a d))/\((length (aA (ah a d))):Int)<=1000000/\(e.length+length [(Fk a d)])*(80:Nat)<=(lm)/\ ∃(f:Int) (g:List bY),(0<=f/\f<=(ac a)/\g=List.map lJ (take f.toNat a))/\toNat ((ac a) -f)<toNat ((ac a) -d)/\ai (d+1)=f/\a=a/\b=b/\c=c/\(0:Int)=0/\(0:Int)=0/\(0:Int)=0/\replicate (toNat (ac b)) (0:Int)=replicate (toNat (ac b)) (0:Int)/\a=a/\b=b/\c=c/\(0:Int)=0/\(0:Int)=0/\(0:Int)=0/\e++[(Fk a d)]=g/\True) (((a,b,c),(0:Int),(0:Int),(0:Int),e,replicate (toNat (ac b)) (0:Int),([]:List (Int×Int×Int×Int×Int×ad)),([]:List (Int×Int×ad)),([]:List
 (Int×Int×Int×Int×Int)))=oR (a,b,c)/\0=dA (a,b,c))):=by
  delta td lm Fk ai ah ac;rintro ns ls hs ⟨⟨⟨hl0,-⟩,⟨hl1,-⟩,-⟩,-⟩⟨h1,h2,h3,h4,h5⟩;have h1:(ns.length:Int)<=1000000:=h1;have h2:(ls.length:Int)<=1000000:=h2;refine⟨h5,av (λh=>?_) (λh=>?_)⟩
  .have h:=fQ h;exact⟨by unfold oR;rw[af h];rfl,by trivial⟩
  have h:=gH h;refine⟨ab,ab,ab,⟨0,[],⟨ab,ab,rfl⟩,aM⟩,?_⟩;rintro j st ⟨j0,j1,rfl⟩;refine bt (λhj=>?_) (λhj=>?_)
  .have hx:=h4 _ (bW j0 hj);refine⟨j0,hj,hx.2,hx.1,by simp only[qm,cW,eU];omega,j+1,_,⟨ab,ab,rfl⟩,ab,?_⟩
   (repeat refine iK ?_);refine⟨?_,bv⟩;rw[nK j0 hj,lr];rfl
  .refine⟨?_,h.symm⟩;unfold oR kq;rw[am h,dm ab];rfl
theorem ao9:aD 11 Qh.spec:=aH Tryz.func11 (au (au aE Ms) aO5) V1 ai2
def aS3:Ct:=⟨[.agg fX],[.val cI,.val .bool],λ_=>[],λd=>((mH d.1,iZ d.1,()),())⟩
theorem am0 :
 ∀(a:(List ar×List aN×List aT)×Int×Int×Int×List (List aG×Int×ad×(Int×Int)×Int)×ad×List (Int×Int×Int×Int×Int×ad)×List (Int×Int×ad)×List (Int×Int×Int×Int×Int)),CT.wf fX a/\True->True->ao (decide ((ac a.2.2.2.2.2.2.1)=0)) (0=mH a/\false=iZ a) ((0:Int)<=0/\0<(ac a.2.2.2.2.2.2.1)/\(getD a.2.2.2.2.2.2.1 (toNat 0) default).1=mH a/\true=iZ a):=by
  delta ac;intro d _ _;have eF:d.2.2.2.2.2.2.1=ax d:=rfl;rw[eF];unfold mH iZ;cases e:ax d with
  | nil=>exact⟨rfl,rfl⟩
  | cons f r=>exact⟨ab,by simp only[cQ];omega,rfl,rfl⟩
theorem ae3:aD 22 aS3.spec:=aH Tryz.func22 aE aR am0
def aM7:Ct:=⟨[.agg fX,.val cI,.val cI,.val (.sl bz)],[.agg fX,.val cI,.val cI],λd=>[gb d.1,(d.2.2.2.1.length:Int)<=1000000],λd=>((gI d.1 d.2.1 d.2.2.1 d.2.2.2.1,jj d.1 d.2.1 d.2.2.1,fO d.1 d.2.1 d.2.2.1,()),())⟩
theorem YM :
 ∀(a:(List ar×List aN×List aT)×Int×Int×Int×List (List aG×Int×ad×(Int×Int)×Int)×ad×List (Int×Int×Int×Int×Int×ad)×List (Int×Int×ad)×List (Int×Int×Int×Int×Int))(b c:Int)(d:ad),CT.wf fX a/\aj b/\aj c/\(d.length<=maxLen/\ ∀(e:Int),e∈d->0<=e/\e<=255)/\True->gb a/\(ac d)<=1000000-> ∀(e:Bool),e=decide (c<0)->(ae (! e))/\(ae (! e))/\(ae (! e))/\((! e)->(aq (! e))/\(aq (! e))/\True)/\(aF e)/\ao (bif e then true else decide ((ac a.1.1)<=c)) ((td)=gI a b c d/\0=jj a b c/\8=fO a b c) (ao (decide (1125899906842624<b)) ((td)=gI a b c d/\0=jj a b c/\1=fO a b c) (ao (decide (b<a.2.1)) ((td)=gI a b c d/\0=jj a b c/\6=fO a b c) (ao (decide (4096<=(ac a.2.2.2.2.2.2.1))) ((td)=gI a b c d/\0=jj a b c/\5=fO a b c) (qO a/\d.length*(1:Nat)<=(lm)/\(ac a.2.2.2.2.2.2.1)<=1000000/\(a.1,a.2.1,ai
 (a.2.2.1+1),a.2.2.2.1,a.2.2.2.2.1,a.2.2.2.2.2.1,da a.2.2.2.2.2.2.1 (b,a.2.2.1,c,(-1:Int),a.2.2.1,d),a.2.2.2.2.2.2.2)=gI a b c d/\a.2.2.1=jj a b c/\0=fO a b c)))):=by
  delta td lm ae aq aF ai ac;rintro d t who b-⟨hE,hb⟩
  (repeat (refine bO ?_;repeat refine bP ?_));refine oT (λho=>?_) (λq1 q2=>?_)
  .have e:fO d t who=8:=by unfold fO;rw[am (by rcases ho with q|q;exact .inl (aL q);exact .inr (aL q))]
   unfold gI jj;rw[e];exact⟨rfl,rfl,rfl⟩
  have q1:=aO q1;have q2:=aO q2;have h:mq d:=hE.resolve_right λq=>by
   have q3:d.1.1=[]:=by rw[q.1];rfl
   rw[q3] at q2;simp at q2;omega
  have hfn:=h.s.fn;have e1:fO d t who=if 1125899906842624<t then 1 else if t<bg d then 6 else if (4096:Int)<=(ax d).length then 5 else 0:=by
   unfold fO;rw[af (by rintro (q|q);exact q1 q;exact q2 q)]
  refine av (λk=>?_) (λk=>?_)
  .have e:fO d t who=1:=by rw[e1,am (aL k)]
   unfold gI jj;rw[e];exact⟨rfl,rfl,rfl⟩
  rw[af (aO k)] at e1;refine av (λk=>?_) (λk=>?_)
  .have k:t<bg d:=aL k;have e:fO d t who=6:=by rw[e1,am k]
   unfold gI jj;rw[e];exact⟨rfl,rfl,rfl⟩
  have k:¬ t<bg d:=aO k;rw[af k] at e1;refine av (λk=>?_) (λk=>?_)
  .have k:(4096:Int)<=(ax d).length:=aL k;have e:fO d t who=5:=by rw[e1,am k]
   unfold gI jj;rw[e];exact⟨rfl,rfl,rfl⟩
  have k:¬ (4096:Int)<=(ax d).length:=aO k;rw[af k] at e1;have eF:d.2.2.2.2.2.2.1=ax d:=rfl;unfold gI jj;rw[e1,eF];exact⟨h.cp,ab,ab,rfl,rfl,rfl⟩
theorem av6:aD 19 aM7.spec:=aH Tryz.func19 (au (au aE IG) Pf) aR YM
def Y8:Ct:=⟨[.agg fX],[.agg fX,.val .bool],λd=>[gb d.1],λd=>((o6 d.1,iZ d.1,()),())⟩
theorem av4 :
 ∀(a:(List ar×List aN×List aT)×Int×Int×Int×List (List aG×Int×ad×(Int×Int)×Int)×ad×List (Int×Int×Int×Int×Int×ad)×List (Int×Int×ad)×List (Int×Int×Int×Int×Int)),CT.wf fX a/\True->mq a∨nA a->ao (decide ((ac a.2.2.2.2.2.2.1)=0)) (a=o6 a/\false=iZ a) (qO a/\mq a/\ax a≠([]:List aW)/\dI a=o6 a/\true=iZ a):=by
  delta ac;intro d _ h;have h:gb d:=h;have eF:d.2.2.2.2.2.2.1=ax d:=rfl;rw[eF];unfold o6 iZ;refine bt (λk=>?_) (λk=>?_)
  .have k:ax d=[]:=nI ab;rw[am k,k];exact⟨rfl,aC⟩
  .have k:ax d≠[]:=λe=>k (by rw[e];rfl);rw[af k];exact⟨h.cp,h.fl k,k,rfl,by simp[k]⟩
theorem XK:aD 15 Y8.spec:=aH Tryz.func15 (au (au aE IG) Na) aR av4
def N1:Ct:=⟨[.agg fX,.val cI],[.agg fX,.val cI],λd=>[gb d.1],λd=>((jx d.1 d.2.1,iY d.1 d.2.1,()),())⟩
def XM:bu N1.ps->bS:=(λd=>{loops:=(bm 6 (λS=>{ι:=aJ,μ:=λi=>jf i,inv:=λi=>gb i/\iW i d.2.1=iW d.1 d.2.1,keep:=[1,4],slots:=λi=>[(2,.ptr 48 0)],keepN:=[80],names:=λi=>[(48,.live (.cells 39 (cR gS (az i)++[.int .i64 (bg i),.int .i64 (bj i),.int .i64 (bX i),.own 524288 6,.own 524289 1,.own 524290 6,.own 524291 3,.own 524292 5]))),(524288,.live (.row 123 i7 (aU i))),(524289,.live (.row 3 cI (bH i))),(524290,.live (.row 134 jM (ax i))),(524291,.live (.row 88 sG (aY i))),(524292,.live (.row 78 qE (aV i)))]}) ci)})
def qx(c:aJ) :=
 dI (az c,c.2)
theorem Zl :
 ∀(a:(List ar×List aN×List aT)×Int×Int×Int×List (List aG×Int×ad×(Int×Int)×Int)×ad×List (Int×Int×Int×Int×Int×ad)×List (Int×Int×ad)×List (Int×Int×Int×Int×Int))(b:Int),CT.wf fX a/\aj b/\True->mq a∨nA a->ao (decide (1125899906842624<b)) ((td)=jx a b/\1=iY a b) (ao (decide (b<a.2.1)) ((td)=jx a b/\6=iY a b) (qO a/\(∃(c:aJ),(gb c/\iW c b=iW a b)/\b=b/\(0:Int)=0/\(0:Int)=0/\(0:Int)=0/\a.1.1=(az c).1/\a.1.2.1=(az c).2.1/\a.1.2.2=(az c).2.2/\a.2.1=bg c/\a.2.2.1=bj c/\a.2.2.2.1=bX c/\a.2.2.2.2.1=aU c/\a.2.2.2.2.2.1=bH c/\a.2.2.2.2.2.2.1=ax c/\a.2.2.2.2.2.2.2.1=aY c/\a.2.2.2.2.2.2.2.2=aV c/\True)/\ ∀(c:aJ),gb c/\iW c b=iW a b-> ∀(d:Bool),d=decide (0<((length (ax c)):Int))->(ae d)/\(d->(aq d)/\(0:Int)<=0/\0<((length (ax c)):Int)/\True)/\(ae d)/\(ae d)/\(d->(aq d)/\(aq d)/\True)/\(aq d)/\ao
 (bif d then decide ((getD (ax c) (toNat 0) default).1<=b) else false) (mq (az c,c.2)/\ax (az c,c.2)≠([]:List aW)/\ ∃(e:aJ),(gb e/\iW e b=iW a b)/\jf e<jf c/\b=b/\(0:Int)=0/\(0:Int)=0/\(0:Int)=0/\(qx c).1.1=(az e).1/\(qx c).1.2.1=(az e).2.1/\(qx c).1.2.2=(az e).2.2/\(qx c).2.1=bg e/\(qx c).2.2.1=bj e/\(qx c).2.2.2.1=bX e/\(qx c).2.2.2.2.1=aU e/\(qx c).2.2.2.2.2.1=bH e/\(qx c).2.2.2.2.2.2.1=ax e/\(qx c).2.2.2.2.2.2.2.1=aY e/\(qx c).2.2.2.2.2.2.2.2=aV e/\True) (m6 (cB (az c,c.2) b)/\lT (az (az c,c.2))/\cq (cB (az c,c.2) b)=jx a b/\0=iY a b))):=by
  delta td qx ae aq;rintro d to-h;have h:gb d:=h;refine av (λk=>?_) (λk=>?_)
  .have k:=aL k;have e:iY d to=1:=by unfold iY;rw[am k]
   unfold jx;rw[e];exact⟨rfl,rfl⟩
  have k:=aO k;refine av (λq=>?_) (λq=>?_)
  .have q:to<bg d:=aL q;have e:iY d to=6:=by unfold iY;rw[af k,am q]
   unfold jx;rw[e];exact⟨rfl,rfl⟩
  have q:¬ to<bg d:=aO q;have e:iY d to=0:=by unfold iY;rw[af k,af q]
  have hnow:0<=bg d:=by rcases h with q|q;exact q.s.now.1;exact q.2.1
  have hnq:bg d<=to:=ab;refine⟨h.cp,⟨d,⟨h,rfl⟩,aM⟩,?_⟩;rintro v ⟨hv,he⟩;have hv:gb v:=hv
  (repeat (refine bO ?_;repeat refine bP ?_));have eB:(bif decide (0<((ax v).length:Int)) then decide (((ax v).getD (toNat 0) default).1<=to) else false)=jQ v to:=by
   unfold jQ;cases ax v with
   | nil=>rfl
   | cons f r=>simp only[cQ];rw[show decide (0<((r.length+1:Nat):Int))=true from dM ab];rfl
  rw[eB];refine av (λhb=>?_) (λhb=>?_)
  .cases ef:ax v with
   | nil=>unfold jQ at hb;rw[ef] at hb;cases hb
   | cons f r =>
    have hv:=hv.fl (by rw[ef];simp);obtain⟨s1,s2⟩:=hv.step ef;exact⟨hv,by show ax v≠[];rw[ef];simp,dI v,⟨.inl s1,(JL hv.s.weak hb).symm.trans he⟩,s2,aM⟩
  .have hR:iW d to=v:=by rw[← he];exact FY hb
   refine⟨by rcases hv with q|q;exact .inl (q.s.wait hb ⟨ab,ab⟩).weak;exact q.ch to,hv.cp.1,?_,e.symm⟩;unfold jx;rw[am e];show cq (cB v to)=cq (cB (iW d to) to);rw[hR]
theorem am2:aD 17 N1.spec:=aH Tryz.func17 (au (au (au aE IG) Na) N7) XM Zl
def Mu:Ct:=⟨[.val (.sl qE),.val (.sl qE)],[.val .bool],λ_=>[],λd=>((decide (d.1=d.2.1),()),())⟩
def SS:bu Mu.ps->bS:=(λd=>{loops:=(bm 4 (λS=>{ι:=Int,μ:=λi=>(d.1.length-i).toNat,inv:=λi=>0<=i/\i<=d.1.length/\d.1.length=d.2.1.length/\d.1.take i.toNat=d.2.1.take i.toNat,keep:=[0,1],slots:=λi=>[(5,.int .i64 i)]}) ci)})
theorem ab5 :
 ∀(a b:List (Int×Int×Int×Int×Int)),(a.length<=maxLen/\ ∀(c:Int×Int×Int×Int×Int),c∈a->aj c.1/\aj c.2.1/\aj c.2.2.1/\aj c.2.2.2.1/\aj c.2.2.2.2)/\(b.length<=maxLen/\ ∀(c:Int×Int×Int×Int×Int),c∈b->aj c.1/\aj c.2.1/\aj c.2.2.1/\aj c.2.2.2.1/\aj c.2.2.2.2)/\True->True->ao (! decide ((ac a)=(ac b))) (false=decide (a=b)) ((∃(c:Int),(0<=c/\c<=(ac a)/\a.length=b.length/\take c.toNat a=take c.toNat b)/\a=a/\b=b/\0=c/\True)/\ ∀(c:Int),0<=c/\c<=(ac a)/\a.length=b.length/\take c.toNat a=take c.toNat b->ao (decide (c<(ac a))) (0<=c/\c<(ac a)/\0<=c/\c<(ac b)/\ao (! (decide ((ah a c).1=(ah b c).1)&&(decide ((ah a c).2.1=(ah b c).2.1)&&(decide ((ah a c).2.2.1=(ah b c).2.2.1)&&(decide ((ah a c).2.2.2.1=(ah b c).2.2.2.1)&&(decide ((ah a c).2.2.2.2=(ah b c).2.2.2.2)&&true)))))) (false=decide (a=b)) (∃(d:Int),(0<=d/\d<=(ac a)/\a.length=b.length/\take
 d.toNat a=take d.toNat b)/\toNat ((ac a) -d)<toNat ((ac a) -c)/\a=a/\b=b/\ai (c+1)=d/\True)) (true=decide (a=b))):=by
  delta ai ah ac;rintro x y ⟨⟨hl,-⟩,-⟩ -;simp only[maxLen] at hl;refine av (λh=>?_) (λh=>?_)
  .have h:=fQ h;exact (dw (λe=>h (by rw[e]))).symm
  have h:=gH h;refine⟨⟨0,⟨ab,ab,ab,rfl⟩,aM⟩,?_⟩;rintro j ⟨j0,j1,j2,j3⟩;refine bt (λhj=>?_) (λhj=>?_)
  .refine⟨j0,hj,j0,ab,av (λk=>?_) (λk=>?_)⟩
   .refine (dw (λe=>?_)).symm;rw[e] at k;simp at k
   .simp only[rT,dr,jz,iD] at k;obtain⟨k1,k2,k3,k4,k5⟩:=k;have ee:x.getD j.toNat default=y.getD j.toNat default:=Prod.ext k1 (Prod.ext k2 (Prod.ext k3 (Prod.ext k4 k5)));exact⟨j+1,⟨ab,ab,j2,by rw[nK j0 hj,nK j0 ab,j3,ee]⟩,ab,aM⟩
  .rw[dm ab,dm ab] at j3;exact (dM j3).symm
theorem aX6:aD 33 Mu.spec:=aH Tryz.func33 aE SS ab5
def QB:Ct:=⟨[.agg fX,.agg fX],[.val .bool],λ_=>[],λd=>((gB d.1 d.2.1,()),())⟩
def aP6:bu QB.ps->bS:=(λd=>{loops:=(bm 4 (λS=>{ι:=Int,μ:=λi=>((aU d.1).length-i).toNat,inv:=λi=>0<=i/\i<=(aU d.1).length/\d.1.2.1=d.2.1.2.1/\d.1.2.2.1=d.2.1.2.2.1/\d.1.2.2.2.1=d.2.1.2.2.2.1/\(aU d.1).length=(aU d.2.1).length/\bH d.1=bH d.2.1/\(ax d.1).length=(ax d.2.1).length/\(aY d.1).length=(aY d.2.1).length/\aV d.1=aV d.2.1/\(aU d.1).take i.toNat=(aU d.2.1).take i.toNat,keep:=[2,3],slots:=λi=>[(5,.int .i64 i)],keepN:=[48,64]}) (bm 9 (λS=>{ι:=Int,μ:=λi=>((ax d.1).length-i).toNat,inv:=λi=>0<=i/\i<=(ax d.1).length/\d.1.2.1=d.2.1.2.1/\d.1.2.2.1=d.2.1.2.2.1/\d.1.2.2.2.1=d.2.1.2.2.2.1/\aU d.1=aU d.2.1/\bH d.1=bH d.2.1/\(ax d.1).length=(ax d.2.1).length/\(aY d.1).length=(aY d.2.1).length/\aV d.1=aV d.2.1/\(ax d.1).take i.toNat=(ax d.2.1).take i.toNat,keep:=[2,3],slots:=λi=>[(6,.int .i64 i)],keepN:=[48,64]}) (bm 15 (λS=>{ι:=Int,μ:=λi=>((aY d.1).length-i).toNat,inv:=λi=>0<=i/\i<=(aY d.1).length/\d.1.2.1=d.2.1.2.1/\d.1.2.2.1=d.2.1.2.2.1/\d.1.2.2.2.1=d.2.1.2.2.2.1/\aU d.1=aU d.2.1/\bH d.1=bH d.2.1/\ax d.1=ax d.2.1/\(aY d.1).length=(aY d.2.1).length/\aV d.1=aV d.2.1/\(aY d.1).take i.toNat=(aY d.2.1).take i.toNat,keep:=[2,3],slots:=λi=>[(9,.int .i64 i)],keepN:=[48,64]}) ci)))})
def wc(a b:(List ar×List aN×List aT)×Int×Int×Int×List (List aG×Int×ad×(Int×Int)×Int)×ad×List (Int×Int×Int×Int×Int×ad)×List (Int×Int×ad)×List (Int×Int×Int×Int×Int)) :=
 a.1.1=a.1.1/\a.1.2.1=a.1.2.1/\a.1.2.2=a.1.2.2/\a.2.1=a.2.1/\a.2.2.1=a.2.2.1/\a.2.2.2.1=a.2.2.2.1/\a.2.2.2.2.1=a.2.2.2.2.1/\a.2.2.2.2.2.1=a.2.2.2.2.2.1/\a.2.2.2.2.2.2.1=a.2.2.2.2.2.2.1/\a.2.2.2.2.2.2.2.1=a.2.2.2.2.2.2.2.1/\a.2.2.2.2.2.2.2.2=a.2.2.2.2.2.2.2.2/\b.1.1=b.1.1/\b.1.2.1=b.1.2.1/\b.1.2.2=b.1.2.2/\b.2.1=b.2.1/\b.2.2.1=b.2.2.1/\b.2.2.2.1=b.2.2.2.1/\b.2.2.2.2.1=b.2.2.2.2.1/\b.2.2.2.2.2.1=b.2.2.2.2.2.1/\b.2.2.2.2.2.2.1=b.2.2.2.2.2.2.1/\b.2.2.2.2.2.2.2.1=b.2.2.2.2.2.2.2.1/\b.2.2.2.2.2.2.2.2=b.2.2.2.2.2.2.2.2/\True
theorem VA :
 ∀(a b:(List ar×List aN×List aT)×Int×Int×Int×List (List aG×Int×ad×(Int×Int)×Int)×ad×List (Int×Int×Int×Int×Int×ad)×List (Int×Int×ad)×List (Int×Int×Int×Int×Int)),CT.wf fX a/\CT.wf fX b/\True->True-> ∀(c:Bool),c= ! decide (a.2.1=b.2.1)->(ae (! c))/\(ae (! c))/\((! c)->(aq (! c))/\(aq (! c))/\True)/\(aF c)/\ ∀(d:Bool),(d=bif c then true else ! decide (a.2.2.1=b.2.2.1))->(ae (! d))/\(ae (! d))/\((! d)->(aq (! d))/\(aq (! d))/\True)/\(aF d)/\ ∀(e:Bool),(e=bif d then true else ! decide (a.2.2.2.1=b.2.2.2.1))->(ae (! e))/\(ae (! e))/\(ae (! e))/\(ae (! e))/\((! e)->(aq (! e))/\(aq (! e))/\True)/\(aF e)/\ ∀(f:Bool),(f=bif e then true else ! decide ((ac a.2.2.2.2.1)=(ac b.2.2.2.2.1)))->(ae (! f))/\(ae (! f))/\((! f)->(aq (! f))/\(aq (! f))/\True)/\(ae (! f))/\(aF f)/\ ∀(g:Bool),(g=bif f then true else ! decide
 (a.2.2.2.2.2.1=b.2.2.2.2.2.1))->(ae (! g))/\(ae (! g))/\(ae (! g))/\(ae (! g))/\((! g)->(aq (! g))/\(aq (! g))/\True)/\(aF g)/\ ∀(h:Bool),(h=bif g then true else ! decide ((ac a.2.2.2.2.2.2.1)=(ac b.2.2.2.2.2.2.1)))->(ae (! h))/\(ae (! h))/\(ae (! h))/\(ae (! h))/\((! h)->(aq (! h))/\(aq (! h))/\True)/\(aF h)/\ ∀(i:Bool),(i=bif h then true else ! decide ((ac a.2.2.2.2.2.2.2.1)=(ac b.2.2.2.2.2.2.2.1)))->(ae (! i))/\(ae (! i))/\((! i)->(aq (! i))/\(aq (! i))/\True)/\(ae (! i))/\(aF i)/\ao (bif i then true else ! decide (a.2.2.2.2.2.2.2.2=b.2.2.2.2.2.2.2.2)) (false=gB a b) ((∃(j:Int),(0<=j/\j<=((length (aU a)):Int)/\a.2.1=b.2.1/\a.2.2.1=b.2.2.1/\a.2.2.2.1=b.2.2.2.1/\length (aU a)=length (aU b)/\bH a=bH b/\length (ax a)=length (ax b)/\length (aY a)=length (aY b)/\aV a=aV b/\take j.toNat (aU a)=take j.toNat
 (aU b))/\0=j/\(wc a b))/\ ∀(j:Int),0<=j/\j<=((length (aU a)):Int)/\a.2.1=b.2.1/\a.2.2.1=b.2.2.1/\a.2.2.2.1=b.2.2.2.1/\length (aU a)=length (aU b)/\bH a=bH b/\length (ax a)=length (ax b)/\length (aY a)=length (aY b)/\aV a=aV b/\take j.toNat (aU a)=take j.toNat (aU b)->ao (decide (j<(ac a.2.2.2.2.1))) (0<=j/\j<(ac a.2.2.2.2.1)/\0<=j/\j<(ac b.2.2.2.2.1)/\ao (! decide (getD a.2.2.2.2.1 j.toNat default=getD b.2.2.2.2.1 j.toNat default)) (false=gB a b) (∃(k:Int),(0<=k/\k<=((length (aU a)):Int)/\a.2.1=b.2.1/\a.2.2.1=b.2.2.1/\a.2.2.2.1=b.2.2.2.1/\length (aU a)=length (aU b)/\bH a=bH b/\length (ax a)=length (ax b)/\length (aY a)=length (aY b)/\aV a=aV b/\take k.toNat (aU a)=take k.toNat (aU b))/\toNat (((length (aU a)):Int) -k)<toNat
 (((length (aU a)):Int) -j)/\ai (j+1)=k/\(wc a b))) ((∃(k:Int),(0<=k/\k<=((length (ax a)):Int)/\a.2.1=b.2.1/\a.2.2.1=b.2.2.1/\a.2.2.2.1=b.2.2.2.1/\aU a=aU b/\bH a=bH b/\length (ax a)=length (ax b)/\length (aY a)=length (aY b)/\aV a=aV b/\take k.toNat (ax a)=take k.toNat (ax b))/\0=k/\(wc a b))/\ ∀(k:Int),0<=k/\k<=((length (ax a)):Int)/\a.2.1=b.2.1/\a.2.2.1=b.2.2.1/\a.2.2.2.1=b.2.2.2.1/\aU a=aU b/\bH a=bH b/\length (ax a)=length (ax b)/\length (aY a)=length (aY b)/\aV a=aV b/\take k.toNat (ax a)=take k.toNat (ax b)->ao (decide (k<(ac a.2.2.2.2.2.2.1))) (0<=k/\k<(ac a.2.2.2.2.2.2.1)/\0<=k/\k<(ac b.2.2.2.2.2.2.1)/\ ∀(l:Bool),l= ! decide ((getD a.2.2.2.2.2.2.1 k.toNat default).1=(getD b.2.2.2.2.2.2.1 k.toNat default).1)->(ae (! l))/\(ae (! l))/\((! l)->(aq (!
 l))/\(aq (! l))/\True)/\(aF l)/\ ∀(m:Bool),(m=bif l then true else ! decide ((getD a.2.2.2.2.2.2.1 k.toNat default).2.1=(getD b.2.2.2.2.2.2.1 k.toNat default).2.1))->(ae (! m))/\(ae (! m))/\((! m)->(aq (! m))/\(aq (! m))/\True)/\(aF m)/\ ∀(n:Bool),(n=bif m then true else ! decide ((getD a.2.2.2.2.2.2.1 k.toNat default).2.2.1=(getD b.2.2.2.2.2.2.1 k.toNat default).2.2.1))->(ae (! n))/\(ae (! n))/\((! n)->(aq (! n))/\(aq (! n))/\True)/\(aF n)/\ ∀(o:Bool),(o=bif n then true else ! decide ((getD a.2.2.2.2.2.2.1 k.toNat default).2.2.2.1=(getD b.2.2.2.2.2.2.1 k.toNat default).2.2.2.1))->(ae (! o))/\(ae (! o))/\((! o)->(aq (! o))/\(aq (! o))/\True)/\(aF o)/\ ∀(p:Bool),(p=bif o then true else ! decide ((getD a.2.2.2.2.2.2.1 k.toNat default).2.2.2.2.1=(getD b.2.2.2.2.2.2.1 k.toNat default).2.2.2.2.1))->(ae (! p))/\(ae (! p))/\((! p)->(aq
 (! p))/\(aq (! p))/\True)/\(ae (! p))/\(aF p)/\ao (bif p then true else ! decide ((getD a.2.2.2.2.2.2.1 k.toNat default).2.2.2.2.2=(getD b.2.2.2.2.2.2.1 k.toNat default).2.2.2.2.2)) (false=gB a b) (∃(q:Int),(0<=q/\q<=((length (ax a)):Int)/\a.2.1=b.2.1/\a.2.2.1=b.2.2.1/\a.2.2.2.1=b.2.2.2.1/\aU a=aU b/\bH a=bH b/\length (ax a)=length (ax b)/\length (aY a)=length (aY b)/\aV a=aV b/\take q.toNat (ax a)=take q.toNat (ax b))/\toNat (((length (ax a)):Int) -q)<toNat (((length (ax a)):Int) -k)/\ai (k+1)=q/\(wc a b))) ((∃(l:Int),(0<=l/\l<=((length (aY a)):Int)/\a.2.1=b.2.1/\a.2.2.1=b.2.2.1/\a.2.2.2.1=b.2.2.2.1/\aU a=aU b/\bH a=bH b/\ax a=ax b/\length (aY a)=length (aY b)/\aV a=aV b/\take l.toNat (aY a)=take l.toNat (aY b))/\0=l/\(wc a b))/\
 ∀(l:Int),0<=l/\l<=((length (aY a)):Int)/\a.2.1=b.2.1/\a.2.2.1=b.2.2.1/\a.2.2.2.1=b.2.2.2.1/\aU a=aU b/\bH a=bH b/\ax a=ax b/\length (aY a)=length (aY b)/\aV a=aV b/\take l.toNat (aY a)=take l.toNat (aY b)->ao (decide (l<(ac a.2.2.2.2.2.2.2.1))) (0<=l/\l<(ac a.2.2.2.2.2.2.2.1)/\0<=l/\l<(ac b.2.2.2.2.2.2.2.1)/\ ∀(m:Bool),m= ! decide ((getD a.2.2.2.2.2.2.2.1 l.toNat default).1=(getD b.2.2.2.2.2.2.2.1 l.toNat default).1)->(ae (! m))/\(ae (! m))/\((! m)->(aq (! m))/\(aq (! m))/\True)/\(aF m)/\ ∀(n:Bool),(n=bif m then true else ! decide ((getD a.2.2.2.2.2.2.2.1 l.toNat default).2.1=(getD b.2.2.2.2.2.2.2.1 l.toNat default).2.1))->(ae (! n))/\(ae (! n))/\((! n)->(aq (! n))/\(aq (! n))/\True)/\(ae (! n))/\(aF n)/\ao (bif n then true else ! decide ((getD a.2.2.2.2.2.2.2.1 l.toNat default).2.2=(getD
 b.2.2.2.2.2.2.2.1 l.toNat default).2.2)) (false=gB a b) (∃(o:Int),(0<=o/\o<=((length (aY a)):Int)/\a.2.1=b.2.1/\a.2.2.1=b.2.2.1/\a.2.2.2.1=b.2.2.2.1/\aU a=aU b/\bH a=bH b/\ax a=ax b/\length (aY a)=length (aY b)/\aV a=aV b/\take o.toNat (aY a)=take o.toNat (aY b))/\toNat (((length (aY a)):Int) -o)<toNat (((length (aY a)):Int) -l)/\ai (l+1)=o/\(wc a b))) (true=gB a b)))):=by
  delta wc ae aq aF ai ac;rintro d e ⟨⟨-,-,-,-,⟨hs0,-⟩,-,⟨hf0,-⟩,⟨hd0,-⟩,-⟩,-⟩ -;simp only[maxLen] at hs0 hf0 hd0;have hs0:(aU d).length<=2^63-1:=hs0;have hf0:(ax d).length<=2^63-1:=hf0;have hd0:(aY d).length<=2^63-1:=hd0
  (repeat (refine bO ?_;repeat refine bP ?_));have eS:∀ d:aJ,d.2.2.2.2.1=aU d:=λ_=>rfl;have eF:∀ d:aJ,d.2.2.2.2.2.2.1=ax d:=λ_=>rfl;have eD:∀ d:aJ,d.2.2.2.2.2.2.2.1=aY d:=λ_=>rfl;simp only[eS,eF,eD];refine av (λk=>?_) (λk=>?_)
  .refine CN (λh=>?_);obtain⟨h1,h2,h3,h4,h5,h6,h7,h8⟩:=h;simp only[FZ,GU] at k;rcases k with ((((((k|k)|k)|k)|k)|k)|k)|k
   .exact k h1
   .exact k h2
   .exact k h3
   .exact k (by rw[h4])
   .exact k h5
   .exact k (by rw[h6])
   .exact k (by rw[h7])
   .exact k h8
  simp only[JA,IY] at k;obtain⟨⟨⟨⟨⟨⟨⟨h1,h2⟩,h3⟩,h4⟩,h5⟩,h6⟩,h7⟩,h8⟩:=k;have h4:(aU d).length=(aU e).length:=ab;have h6:(ax d).length=(ax e).length:=ab;have h7:(aY d).length=(aY e).length:=ab;refine⟨⟨0,⟨ab,ab,h1,h2,h3,h4,h5,h6,h7,h8,rfl⟩,aM⟩,?_⟩;rintro j ⟨j0,j1,-,-,-,-,-,-,-,-,j3⟩;refine av (λhj=>?_) (λhj=>?_)
  .have hj:=aL hj;refine⟨j0,hj,j0,ab,av (λk=>?_) (λk=>?_)⟩
   .have k:=fQ k;exact CN (λh=>k (by rw[h.2.2.2.1]))
   .have k:=gH k;exact⟨j+1,⟨ab,ab,h1,h2,h3,h4,h5,h6,h7,h8,by rw[nK j0 hj,nK j0 ab,j3,k]⟩,ab,aM⟩
  have hj:=aO hj;rw[dm ab,dm ab] at j3;refine⟨⟨0,⟨ab,ab,h1,h2,h3,j3,h5,h6,h7,h8,rfl⟩,aM⟩,?_⟩;rintro i ⟨i0,i1,-,-,-,-,-,-,-,-,i3⟩;refine av (λhi=>?_) (λhi=>?_)
  .have hi:=aL hi;refine⟨i0,hi,i0,ab,?_⟩
   (repeat (refine bO ?_;repeat refine bP ?_));refine av (λk=>?_) (λk=>?_)
   .refine CN (λh=>?_);simp only[FZ,GU] at k;rcases k with ((((k|k)|k)|k)|k)|k <;> exact k (by rw[h.2.2.2.2.2.1])
   .simp only[JA,IY] at k;obtain⟨⟨⟨⟨⟨k1,k2⟩,k3⟩,k4⟩,k5⟩,k6⟩:=k;have ee:(ax d).getD i.toNat default=(ax e).getD i.toNat default:=Prod.ext k1 (Prod.ext k2 (Prod.ext k3 (Prod.ext k4 (Prod.ext k5 k6))));exact⟨i+1,⟨ab,ab,h1,h2,h3,j3,h5,h6,h7,h8,by rw[nK i0 hi,nK i0 ab,i3,ee]⟩,ab,aM⟩
  have hi:=aO hi;rw[dm ab,dm ab] at i3;refine⟨⟨0,⟨ab,ab,h1,h2,h3,j3,h5,i3,h7,h8,rfl⟩,aM⟩,?_⟩;rintro m ⟨m0,m1,-,-,-,-,-,-,-,-,m3⟩;refine av (λhm=>?_) (λhm=>?_)
  .have hm:=aL hm;refine⟨m0,hm,m0,ab,?_⟩
   (repeat (refine bO ?_;repeat refine bP ?_));refine av (λk=>?_) (λk=>?_)
   .refine CN (λh=>?_);simp only[FZ,GU] at k;rcases k with (k|k)|k <;> exact k (by rw[h.2.2.2.2.2.2.1])
   .simp only[JA,IY] at k;obtain⟨⟨k1,k2⟩,k3⟩:=k;have ee:(aY d).getD m.toNat default=(aY e).getD m.toNat default:=Prod.ext k1 (Prod.ext k2 k3);exact⟨m+1,⟨ab,ab,h1,h2,h3,j3,h5,i3,h7,h8,by rw[nK m0 hm,nK m0 ab,m3,ee]⟩,ab,aM⟩
  have hm:=aO hm;rw[dm ab,dm ab] at m3;exact (HY.2 ⟨h1,h2,h3,j3,h5,i3,m3,h8⟩).symm
theorem Ry:aD 23 QB.spec:=aH Tryz.func23 (au (au (au (au aE Kj) aX6) an9) AK) aP6 VA
theorem au3{α:Type} [Inhabited α] {l:List α} {k:Int} (h0:0<=k) (h1:k<l.length):l.take (k+1).toNat=l.take k.toNat++[l.getD k.toNat default]:=by
 rw[show (k+1).toNat=k.toNat+1 by omega,List.take_add_one,cF ab,ce,cF ab];rfl
def wg(k:Int)(x:ar):Prop:=(x.1.length:Int)<=k/\(bf x).length<=k∧∀ r∈bf x,(r.2.1.length:Int)<=k
def dK(k:Int)(n:cC):Prop:=(n.1.length:Int)<=k/\(n.2.1.length:Int)<=k/\(n.2.2.length:Int)<=k/\(∀ x∈n.1,wg k x)∧∀ c∈n.2.2,(c.2.2.2.2.1.length:Int)<=k
def RZ:Ct:=⟨[.val (.sl cJ)],[.own 93 cJ],λd=>[okL d.1],λd=>((d.1,()),())⟩
def aK5:bu RZ.ps->bS:=(λd=>{loops:=(bm 3 (λS=>{ι:=Int×(List Rt),qn:=fj,μ:=λi=>(d.1.length-i.1).toNat,inv:=λi=>0<=i.1/\i.1<=d.1.length/\i.2=d.1.take i.1.toNat,keep:=[0],slots:=λi=>[(3,.own 524288 4),(4,.int .i64 i.1)],names:=λi=>[(524288,.live (.row 93 cJ i.2))]}) ci)})
def rb :=
 (140737488355328:Nat)
theorem WP :
 ∀(a:List aG),(a.length<=maxLen/\ ∀(b:aG),b∈a->((0<=b.1.1/\b.1.1<=4294967295)/\aj b.1.2)/\(b.2.1.length<=maxLen/\ ∀(c:Int),c∈b.2.1->aj c)/\aj b.2.2)/\True->((ac a)<=134217728/\ ∀(b:Rt),b∈a->(ac b.2.1)<=1099511627776)->(∃(b:Int) (c:List Rt),(0<=b/\b<=(ac a)/\c=take b.toNat a)/\a=a/\0=b/\c=([]:List aG)/\True)/\ ∀(b:Int)(c:List Rt),0<=b/\b<=(ac a)/\c=take b.toNat a->ao (decide (b<(ac a))) (0<=b/\b<(ac a)/\((length (ah a b).2.1):Int)<=1099511627776/\(c.length+length [ah a b])*(48:Nat)<=(rb)/\ ∃(d:Int) (e:List Rt),(0<=d/\d<=(ac a)/\e=take d.toNat a)/\toNat ((ac a) -d)<toNat ((ac a) -b)/\a=a/\ai (b+1)=d/\c++[ah a b]=e/\True) (c=a):=by
  delta rb ai ah ac;rintro l ⟨⟨hl,-⟩,-⟩⟨h1,h2⟩;simp only[maxLen] at hl;refine⟨⟨0,[],⟨ab,ab,rfl⟩,aM⟩,?_⟩;rintro j m ⟨j0,j1,rfl⟩;refine bt (λhj=>?_) (λhj=>?_)
  .refine⟨j0,hj,h2 _ (bW j0 hj),by simp only[cW,cQ,List.length_nil];omega,j+1,_,⟨ab,ab,rfl⟩,ab,?_⟩
   (repeat refine iK ?_);exact⟨(au3 j0 hj).symm,bv⟩
  .rw[dm ab]
theorem as3:aD 46 RZ.spec:=aH Tryz.func46 (au aE AQ) aK5 WP
theorem If{k:Int}{n:cC}(h:dK k n):dK (k+1) n:=by
 obtain⟨h1,h2,h3,h4,h5⟩:=h
 exact⟨ab,ab,ab,λx hx=>by obtain⟨a,b,c⟩:=h4 x hx;exact⟨ab,ab,λr hr=>by have:=c r hr;omega⟩,λc hc=>by have:=h5 c hc;omega⟩
theorem DQ{ns:List ar}{i:Nat}{x' y:ar}(hy:y∈ns.set i x'):y∈ns∨y=x':=wz hy
theorem Hc{k:Int}{x y:ar}(h:wg k x)(hp:y.1.length<=x.1.length)(hr:bf y=bf x):wg (k+1) y:=by
 obtain⟨a,b,c⟩:=h
 exact⟨ab,by rw[hr];omega,λr hq=>by rw[hr] at hq;have:=c r hq;omega⟩
theorem Cm{k:Int}{ns:List ar}{ls:List aN}{cs:List aT}(h:dK k (ns,ls,cs)){ns':List ar}{ls':List aN}{cs':List aT}(h1:ns'.length<=ns.length+1)(h2:ls'.length<=ls.length+1)(h3:cs'.length<=cs.length+1)
  (h4:∀ x∈ns',x∈ns∨wg (k+1) x) (h5:∀ c∈cs',c∈cs∨(c.2.2.2.2.1.length:Int)<=k+1):dK (k+1) (ns',ls',cs'):=by
 obtain⟨a1,a2,a3,a4,a5⟩:=If h
 obtain⟨b1,b2,b3,-,-⟩:=h
 simp only at b1 b2 b3
 refine⟨by simp only;omega,by simp only;omega,by simp only;omega,λx hx=>(h4 x hx).elim (a4 x) id,λc hc=>(h5 c hc).elim (a5 c) id⟩
theorem nj{k:Int}{ns:List ar}{ls:List aN}{cs:List aT}(h:dK k (ns,ls,cs)){i:Int}(h0:0<=i)(hi:i<ns.length){x':ar}(hp:x'.1.length<=(ns.getD i.toNat default).1.length)(hr:bf x'=bf (ns.getD i.toNat default))
  {ls':List aN} (hl:ls'.length<=ls.length+1):dK (k+1) (ns.set i.toNat x',ls',cs) :=
 Cm h (by rw[fV];omega) hl ab (λy hy=>(DQ hy).elim .inl λe=>.inr (e▸Hc (h.2.2.2.1 _ (bW h0 hi)) hp hr)) (λc hc=>.inl hc)
theorem aK6{ns:List ar}{i:Int}(h0:0<=i)(hi:i<ns.length)(x':ar):(ns.set i.toNat x').getD i.toNat default=x':=by
 rw[ce,List.getElem?_set_self ab,fu]
def al6:Cn:=⟨[.box 105 iA,.agg gS],[.agg gS],λd=>[ay d.1,dK 1000 d.2.1],λd y=>ay y.2.1∧∀ k:Int,1<=k->dK k d.2.1->dK (k+1) y.1.1,λd h=>⟨((d.2.1,()),(d.1,())),h.1,λk _ h=>If h⟩⟩
def t5(c:List ar)(g:Int) :=
 getD (set c g.toNat (ah c g)) g.toNat default
def Bm(d:List aN)(j s:Int) :=
 getD (set d j.toNat ((ah d j).1,(ah d j).2.1,s,(ah d j).2.2.2)) j.toNat default
theorem aE5 :
 ∀(a:ad)(b:Int)(c:List ar)(d:List aN)(e:List aT),((a.length<=maxLen/\ ∀(f:Int),f∈a->0<=f/\f<=255)/\aj b)/\((c.length<=maxLen/\ ∀(f:ar),f∈c->CT.wf bN f)/\(d.length<=maxLen/\ ∀(f:aN),f∈d->CT.wf gh f)/\e.length<=maxLen/\ ∀(f:aT),f∈e->CT.wf ft f)/\True->(ay (a,b)/\(ac c)<=1000/\(ac d)<=1000/\(ac e)<=1000/\(∀(f:ar),f∈c->wg (1000:Int) f)/\ ∀(f:aT),f∈e->(ac f.2.2.2.2.1)<=1000)->c.length*(152:Nat)<=(rb)/\d.length*(48:Nat)<=(rb)/\e.length*(72:Nat)<=(rb)/\ ∀(f:Bool),f=decide ((ac c)=0)->(ae (! f))/\(ae (! f))/\(ae (! f))/\(aF f)/\ao (bif f then true else decide ((ac d)=0)) (ay (a,b)/\ ∀(g:Int),1<=g->dK g (c,d,e)->dK (g+1) (c,d,e)) (ay (a,b)/\ ∀(g:Int)(h:ad)(i:Int),0<=g/\(g<(ac c)∨g=0)/\ay (h,i)->0<=g/\g<(ac c)/\ay (h,i)/\ ∀(j:Int)(k:ad)(l:Int),0<=j/\(j<(ac d)∨j=0)/\ay (k,l)->0<=j/\j<(ac d)/\length (ah
 c g).1*(16:Nat)<=(rb)/\g.toNat=g.toNat/\ay (k,l)/\ ∀(m:Int)(n:ad)(o:Int),0<=m/\(m<max (1:Int) ((length (ah c g).1):Int)∨m=0)/\ay (n,o)->ay (n,o)/\ ∀(p:Int)(q:ad)(r:Int),0<=p/\(p<16∨p=0)/\ay (q,r)->ao (decide (p=0)) (ay (q,r)/\ ∀(s:Int)(t:ad)(u:Int),ay (t,u)/\aj s->ay (t,u)/\ ∀(v:Int),1<=v->dK v (c,d,e)->dK (v+1) (set c g.toNat (ah c g),set d j.toNat (s,(ah d j).2),e)) (ao (decide (p=1)) (ay (q,r)/\ ∀(s:Int)(t:ad)(u:Int),ay (t,u)/\aj s->ay (t,u)/\ ∀(v:Int)(w:ad)(x:Int),ay (w,x)/\aj v->ay (w,x)/\ ∀(y:Int),1<=y->dK y (c,d,e)->dK (y+1) (set c g.toNat (ah c g),set (set d j.toNat ((ah d j).1,(ah d j).2.1,s,(ah d j).2.2.2)) j.toNat ((Bm d j s).1,(Bm d j s).2.1,(Bm d j s).2.2.1,v,(Bm d j s).2.2.2.2),e)) (ao (decide (p=2)) (ay (q,r)/\ ∀(s:Int)(t:ad)(u:Int),ay (t,u)/\aj
 s->ay (t,u)/\ ∀(v:Int),1<=v->dK v (c,d,e)->dK (v+1) (set c g.toNat (ah c g),set d j.toNat ((ah d j).1,(ah d j).2.1,(ah d j).2.2.1,(ah d j).2.2.2.1,s,(ah d j).2.2.2.2.2),e)) (ao (decide (p=3)) (g.toNat=g.toNat/\ao (decide (m<((length (ah c g).1):Int))) (g.toNat=g.toNat/\ay (q,r)/\ ∀(s:Int)(t:ad)(u:Int),ay (t,u)/\aj s->0<=m/\m<((length (ah c g).1):Int)/\ay (t,u)/\ ∀(v:Int),1<=v->dK v (c,d,e)->dK (v+1) (set c g.toNat (set (ah c g).1 m.toNat ((getD (ah c g).1 m.toNat default).1,s),(ah c g).2),d,e)) (ay (q,r)/\ ∀(s:Int),1<=s->dK s (c,d,e)->dK (s+1) (set c g.toNat (ah c g),d,e))) (ao (decide (p=4)) (g.toNat=g.toNat/\ao (decide (m<((length (ah c g).1):Int))) (g.toNat=g.toNat/\ay (q,r)/\ ∀(s:Int)(t:ad)(u:Int),ay (t,u)/\0<=s/\s<=4294967295->0<=m/\m<((length (ah c g).1):Int)/\ay (t,u)/\
 ∀(v:Int),1<=v->dK v (c,d,e)->dK (v+1) (set c g.toNat (set (ah c g).1 m.toNat (s,(getD (ah c g).1 m.toNat default).2),(ah c g).2),d,e)) (ay (q,r)/\ ∀(s:Int),1<=s->dK s (c,d,e)->dK (s+1) (set c g.toNat (ah c g),d,e))) (ao (decide (p=5)) (ay (q,r)/\ ∀(s:Int)(t:ad)(u:Int),ay (t,u)/\0<=s/\s<=4294967295->g.toNat=g.toNat/\ay (t,u)/\ ∀(v:Int),1<=v->dK v (c,d,e)->dK (v+1) (set c g.toNat ((ah c g).1,s,(ah c g).2.2),d,e)) (ao (decide (p=6)) (ay (q,r)/\ ∀(s:Int)(t:ad)(u:Int),ay (t,u)/\aj s->ay (t,u)/\ ∀(v:Int)(w:ad)(x:Int),0<=v/\(v<7∨v=0)/\ay (w,x)->g.toNat=g.toNat/\g.toNat=g.toNat/\ay (w,x)/\ ∀(y:Int),1<=y->dK y (c,d,e)->dK (y+1) (set c g.toNat ((ah c g).1,(ah c g).2.1,(ah c g).2.2.1,(ah c g).2.2.2.1,(ah c g).2.2.2.2.1,s,(ah c g).2.2.2.2.2.2.1,v,(ah c g).2.2.2.2.2.2.2.2),d,e)) (ao (decide (p=7)) (ay
 (q,r)/\ ∀(s:Int)(t:ad)(u:Int),ay (t,u)/\aj s->ay (t,u)/\ ∀(v:Int)(w:ad)(x:Int),ay (w,x)/\aj v->g.toNat=g.toNat/\g.toNat=g.toNat/\ay (w,x)/\ ∀(y:Int),1<=y->dK y (c,d,e)->dK (y+1) (set c g.toNat ((ah c g).1,(ah c g).2.1,(ah c g).2.2.1,(ah c g).2.2.2.1,(ah c g).2.2.2.2.1,(ah c g).2.2.2.2.2.1,(ah c g).2.2.2.2.2.2.1,(ah c g).2.2.2.2.2.2.2.1,s,v,(ah c g).2.2.2.2.2.2.2.2.2.2),d,e)) (ao (decide (p=8)) (ay (q,r)/\ ∀(s:Int)(t:ad)(u:Int),ay (t,u)/\aj s->ay (t,u)/\ ∀(v:Int)(w:ad)(x:Int),ay (w,x)/\aj v->g.toNat=g.toNat/\ay (w,x)/\ ∀(y:Int),1<=y->dK y (c,d,e)->dK (y+1) (set c g.toNat ((ah c g).1,(ah c g).2.1,(ah c g).2.2.1,(ah c g).2.2.2.1,(ah c g).2.2.2.2.1,(ah c g).2.2.2.2.2.1,(ah c g).2.2.2.2.2.2.1,(ah c g).2.2.2.2.2.2.2.1,(ah c g).2.2.2.2.2.2.2.2.1,(ah c g).2.2.2.2.2.2.2.2.2.1,(s,v),(ah c
 g).2.2.2.2.2.2.2.2.2.2.2),d,e)) (ao (decide (p=9)) (ay (q,r)/\ ∀(s:Int)(t:ad)(u:Int),ay (t,u)/\aj s->ay (t,u)/\ ∀(v:Int)(w:ad)(x:Int),ay (w,x)/\aj v->g.toNat=g.toNat/\g.toNat=g.toNat/\ay (w,x)/\ ∀(y:Int),1<=y->dK y (c,d,e)->dK (y+1) (set c g.toNat ((ah c g).1,(ah c g).2.1,v,(ah c g).2.2.2.1,(ah c g).2.2.2.2.1,(ah c g).2.2.2.2.2.1,(ah c g).2.2.2.2.2.2.1,(ah c g).2.2.2.2.2.2.2.1,(ah c g).2.2.2.2.2.2.2.2.1,(ah c g).2.2.2.2.2.2.2.2.2.1,(ah c g).2.2.2.2.2.2.2.2.2.2.1,(ah c g).2.2.2.2.2.2.2.2.2.2.2.1,(ah c g).2.2.2.2.2.2.2.2.2.2.2.2.1,s,(ah c g).2.2.2.2.2.2.2.2.2.2.2.2.2.2),d,e)) (ao (decide (p=10)) (g.toNat=g.toNat/\ay (q,r)/\ ∀(s:Int),1<=s->dK s (c,d,e)->dK (s+1) (set c g.toNat (([]:List (Int×Int)),(ah c g).2),d,e)) (ao (decide (p=11)) (g.toNat=g.toNat/\ay (q,r)/\ ∀(s:Int),1<=s->dK s (c,d,e)->dK (s+1) (set c g.toNat ((ah c
 g).1,(ah c g).2.1,(ah c g).2.2.1,(ah c g).2.2.2.1,(ah c g).2.2.2.2.1,(ah c g).2.2.2.2.2.1,(ah c g).2.2.2.2.2.2.1,(ah c g).2.2.2.2.2.2.2.1,(ah c g).2.2.2.2.2.2.2.2.1,(ah c g).2.2.2.2.2.2.2.2.2.1,(ah c g).2.2.2.2.2.2.2.2.2.2.1,(ah c g).2.2.2.2.2.2.2.2.2.2.2.1,true,(ah c g).2.2.2.2.2.2.2.2.2.2.2.2.2),d,e)) (ao (decide (p=12)) (ay (q,r)/\ ∀(s:Int)(t:ad)(u:Int),ay (t,u)/\aj s->ay (t,u)/\ ∀(v:Int)(w:ad)(x:Int),ay (w,x)/\aj v->ay (w,x)/\ ∀(y:Int)(z:ad)(A:Int),0<=y/\(y<2∨y=0)/\ay (z,A)->ay (z,A)/\ ∀(B C:Int)(D:ad)(E:Int),ay (D,E)/\ga (B,C)=true->ay (D,E)/\ ∀(F:Int)(G:ad)(H:Int),0<=F/\(F<4∨F=0)/\ay (G,H)->ay (G,H)/\ ∀(I:Int)(J:ad)(K:Int),0<=I/\(I<4∨I=0)/\ay (J,K)->(e.length+length [(s,v,decide (y=1),(B,C),[F],ai ((1:Int)+I))])*(72:Nat)<=(rb)/\ay (J,K)/\ ∀(L:Int),1<=L->dK L (c,d,e)->dK (L+1) (set c
 g.toNat (ah c g),d,e++[(s,v,decide (y=1),(B,C),[F],ai ((1:Int)+I))])) (ao (decide (p=13)) ((0:Int)<=0/\0<(ac d)/\(d.length+length [d.getD (toNat 0) default])*(48:Nat)<=(rb)/\ay (q,r)/\ ∀(s:Int),1<=s->dK s (c,d,e)->dK (s+1) (set c g.toNat (ah c g),d++[d.getD (toNat 0) default],e)) (ao (decide (p=14)) ((0:Int)<=0/\0<((length (set c g.toNat (ah c g))):Int)/\(length (set c g.toNat (ah c g))+length [getD (set c g.toNat (ah c g)) (toNat 0) default])*(152:Nat)<=(rb)/\ay (q,r)/\ ∀(s:Int),1<=s->dK s (c,d,e)->dK (s+1) (set c g.toNat (ah c g)++[getD (set c g.toNat (ah c g)) (toNat 0) default],d,e)) (ao (decide (p=15)) (okL (t5 c g).2.2.2.2.1/\ay (q,r)/\ ∀(s:Int)(t:ad)(u:Int),ay (t,u)/\0<=s/\s<=4294967295->ay (t,u)/\ ∀(v:Int)(w:ad)(x:Int),0<=v/\(v<34∨v=0)/\ay (w,x)->ay (w,x)/\
 ∀(y:Int)(z:ad)(A:Int),ay (z,A)/\aj y->ay (z,A)/\ ∀(B:Int)(C:ad)(D:Int),0<=B/\(B<5∨B=0)/\ay (C,D)->(length (t5 c g).2.2.2.2.1+length [((s,v),[y],B)])*(48:Nat)<=(rb)/\ay (C,D)/\ ∀(E:Int),1<=E->dK E (c,d,e)->dK (E+1) (set (set c g.toNat (ah c g)) g.toNat ((t5 c g).1,(t5 c g).2.1,(t5 c g).2.2.1,(t5 c g).2.2.2.1,(t5 c g).2.2.2.2.1++[((s,v),[y],B)],(t5 c g).2.2.2.2.2),d,e)) (ay (q,r)/\ ∀(s:Int),1<=s->dK s (c,d,e)->dK (s+1) (set c g.toNat (ah c g),d,e)))))))))))))))))):=by
  delta t5 Bm rb ae aF ai ah ac;rintro l p ns ls cs-⟨hc,n1,n2,n3,n4,n5⟩;refine⟨ab,ab,ab,?_⟩
  (repeat (refine bO ?_;repeat refine bP ?_))
  (repeat refine⟨rfl,?_⟩);refine oT (λ_=>⟨hc,λk _ h=>If h⟩) (λz1 z2=>⟨hc,?_⟩);have z1:=aO z1;have z2:=aO z2;rintro i l1 p1 ⟨i0,i1,hc1⟩;have i1:i<(ns.length:Int):=ab
  (repeat refine⟨rfl,?_⟩);refine⟨i0,i1,hc1,?_⟩;rintro j l2 p2 ⟨j0,j1,hc2⟩;have j1:j<(ls.length:Int):=ab;have X:=n4 _ (bW i0 i1);have X1:=X.1
  (repeat refine⟨rfl,?_⟩);refine⟨j0,j1,ab,?_⟩
  (repeat refine⟨rfl,?_⟩);refine⟨hc2,?_⟩;rintro k0 l3 p3 ⟨k00,k01,hc3⟩
  (repeat refine⟨rfl,?_⟩);refine⟨hc3,?_⟩;rintro w l4 p4 ⟨-,-,hc4⟩
  (repeat refine⟨rfl,?_⟩);refine av (λ_=>?_) (λ_=>?_)
  ·(repeat refine⟨rfl,?_⟩);refine⟨hc4,?_⟩;rintro a l5 p5 ⟨hc5,-⟩
   (repeat refine⟨rfl,?_⟩);exact⟨hc5,λk hk h=>nj h i0 i1 (by first|exact eZ _|simp) (by rfl) (by first|exact nB _|simp)⟩
  (repeat refine⟨rfl,?_⟩);refine av (λ_=>?_) (λ_=>?_)
  ·(repeat refine⟨rfl,?_⟩);refine⟨hc4,?_⟩;rintro a l5 p5 ⟨hc5,-⟩
   (repeat refine⟨rfl,?_⟩);refine⟨hc5,?_⟩;rintro b l6 p6 ⟨hc6,-⟩
   (repeat refine⟨rfl,?_⟩);exact⟨hc6,λk hk h=>nj h i0 i1 (by first|exact eZ _|simp) (by rfl) (by first|exact nB _|simp)⟩
  (repeat refine⟨rfl,?_⟩);refine av (λ_=>?_) (λ_=>?_)
  ·(repeat refine⟨rfl,?_⟩);refine⟨hc4,?_⟩;rintro a l5 p5 ⟨hc5,-⟩
   (repeat refine⟨rfl,?_⟩);exact⟨hc5,λk hk h=>nj h i0 i1 (by first|exact eZ _|simp) (by rfl) (by first|exact nB _|simp)⟩
  (repeat refine⟨rfl,?_⟩);refine av (λ_=>?_) (λ_=>?_)
  ·(repeat refine⟨rfl,?_⟩);refine bt (λkk=>?_) (λ_=>?_)
   ·(repeat refine⟨rfl,?_⟩);refine⟨hc4,?_⟩;rintro a l5 p5 ⟨hc5,-⟩
    (repeat refine⟨rfl,?_⟩);refine⟨k00,kk,?_⟩
    (repeat refine⟨rfl,?_⟩);exact⟨hc5,λk hk h=>nj h i0 i1 (by first|exact eZ _|simp) (by rfl) (by first|exact nB _|simp)⟩
   ·(repeat refine⟨rfl,?_⟩);exact⟨hc4,λk hk h=>nj h i0 i1 (by first|exact eZ _|simp) (by rfl) (by first|exact nB _|simp)⟩
  (repeat refine⟨rfl,?_⟩);refine av (λ_=>?_) (λ_=>?_)
  ·(repeat refine⟨rfl,?_⟩);refine bt (λkk=>?_) (λ_=>?_)
   ·(repeat refine⟨rfl,?_⟩);refine⟨hc4,?_⟩;rintro a l5 p5 ⟨hc5,-,-⟩
    (repeat refine⟨rfl,?_⟩);refine⟨k00,kk,?_⟩
    (repeat refine⟨rfl,?_⟩);exact⟨hc5,λk hk h=>nj h i0 i1 (by first|exact eZ _|simp) (by rfl) (by first|exact nB _|simp)⟩
   ·(repeat refine⟨rfl,?_⟩);exact⟨hc4,λk hk h=>nj h i0 i1 (by first|exact eZ _|simp) (by rfl) (by first|exact nB _|simp)⟩
  (repeat refine⟨rfl,?_⟩);refine av (λ_=>?_) (λ_=>?_)
  ·(repeat refine⟨rfl,?_⟩);refine⟨hc4,?_⟩;rintro a l5 p5 ⟨hc5,-,-⟩
   (repeat refine⟨rfl,?_⟩);exact⟨hc5,λk hk h=>nj h i0 i1 (by first|exact eZ _|simp) (by rfl) (by first|exact nB _|simp)⟩
  (repeat refine⟨rfl,?_⟩);refine av (λ_=>?_) (λ_=>?_)
  ·(repeat refine⟨rfl,?_⟩);refine⟨hc4,?_⟩;rintro a l5 p5 ⟨hc5,-⟩
   (repeat refine⟨rfl,?_⟩);refine⟨hc5,?_⟩;rintro b l6 p6 ⟨-,-,hc6⟩
   (repeat refine⟨rfl,?_⟩);exact⟨hc6,λk hk h=>nj h i0 i1 (by first|exact eZ _|simp) (by rfl) (by first|exact nB _|simp)⟩
  (repeat refine⟨rfl,?_⟩);refine av (λ_=>?_) (λ_=>?_)
  ·(repeat refine⟨rfl,?_⟩);refine⟨hc4,?_⟩;rintro a l5 p5 ⟨hc5,-⟩
   (repeat refine⟨rfl,?_⟩);refine⟨hc5,?_⟩;rintro b l6 p6 ⟨hc6,-⟩
   (repeat refine⟨rfl,?_⟩);exact⟨hc6,λk hk h=>nj h i0 i1 (by first|exact eZ _|simp) (by rfl) (by first|exact nB _|simp)⟩
  (repeat refine⟨rfl,?_⟩);refine av (λ_=>?_) (λ_=>?_)
  ·(repeat refine⟨rfl,?_⟩);refine⟨hc4,?_⟩;rintro a l5 p5 ⟨hc5,-⟩
   (repeat refine⟨rfl,?_⟩);refine⟨hc5,?_⟩;rintro b l6 p6 ⟨hc6,-⟩
   (repeat refine⟨rfl,?_⟩);exact⟨hc6,λk hk h=>nj h i0 i1 (by first|exact eZ _|simp) (by rfl) (by first|exact nB _|simp)⟩
  (repeat refine⟨rfl,?_⟩);refine av (λ_=>?_) (λ_=>?_)
  ·(repeat refine⟨rfl,?_⟩);refine⟨hc4,?_⟩;rintro a l5 p5 ⟨hc5,-⟩
   (repeat refine⟨rfl,?_⟩);refine⟨hc5,?_⟩;rintro b l6 p6 ⟨hc6,-⟩
   (repeat refine⟨rfl,?_⟩);exact⟨hc6,λk hk h=>nj h i0 i1 (by first|exact eZ _|simp) (by rfl) (by first|exact nB _|simp)⟩
  (repeat refine⟨rfl,?_⟩);refine av (λ_=>?_) (λ_=>?_)
  ·(repeat refine⟨rfl,?_⟩);exact⟨hc4,λk hk h=>nj h i0 i1 (by first|exact eZ _|simp) (by rfl) (by first|exact nB _|simp)⟩
  (repeat refine⟨rfl,?_⟩);refine av (λ_=>?_) (λ_=>?_)
  ·(repeat refine⟨rfl,?_⟩);exact⟨hc4,λk hk h=>nj h i0 i1 (by first|exact eZ _|simp) (by rfl) (by first|exact nB _|simp)⟩
  (repeat refine⟨rfl,?_⟩);refine av (λ_=>?_) (λ_=>?_)
  ·(repeat refine⟨rfl,?_⟩);refine⟨hc4,?_⟩;rintro a l5 p5 ⟨hc5,-⟩
   (repeat refine⟨rfl,?_⟩);refine⟨hc5,?_⟩;rintro b l6 p6 ⟨hc6,-⟩
   (repeat refine⟨rfl,?_⟩);refine⟨hc6,?_⟩;rintro c l7 p7 ⟨-,-,hc7⟩
   (repeat refine⟨rfl,?_⟩);refine⟨hc7,?_⟩;rintro q1 q2 l8 p8 ⟨hc8,-⟩
   (repeat refine⟨rfl,?_⟩);refine⟨hc8,?_⟩;rintro f l9 p9 ⟨-,-,hc9⟩
   (repeat refine⟨rfl,?_⟩);refine⟨hc9,?_⟩;rintro g la pa ⟨-,-,hca⟩
   (repeat refine⟨rfl,?_⟩);refine⟨by simp only[eU];omega,hca,λk hk h=>Cm h (by rw[fV];omega) ab aC (λy hy=>(DQ hy).elim .inl λe=>.inr (e▸Hc (h.2.2.2.1 _ (bW i0 i1)) (eZ _) rfl)) (λc hc=>?_)⟩;rcases dH.1 hc with hc|hc
   .exact .inl hc
   .right;have:=jR.1 hc;subst this;simp only[eU];omega
  (repeat refine⟨rfl,?_⟩);refine av (λ_=>?_) (λ_=>?_)
  .exact⟨ab,ab,by simp only[eU];omega,by (repeat refine⟨rfl,?_⟩);exact⟨hc4,λk hk h=>nj h i0 i1 (by first|exact eZ _|simp) (by rfl) (by first|exact nB _|simp)⟩⟩
  (repeat refine⟨rfl,?_⟩);refine av (λ_=>?_) (λ_=>?_)
  ·(repeat refine⟨rfl,?_⟩);refine⟨ab,by rw[fV];omega,by simp only[fV,eU];omega,hc4,λk hk h=>Cm h aC ab ab (λy hy=>?_) (λc hc=>.inl hc)⟩;have key:∀ y∈ns.set i.toNat _,y∈ns∨wg (k+1) y:=λy hy=>(DQ hy).elim .inl λe=>.inr (e▸Hc (h.2.2.2.1 _ (bW i0 i1)) (eZ _) rfl);rcases dH.1 hy with hy|hy
   .exact key y hy
   .have:=jR.1 hy;subst this;exact key _ (bW (i:=0) ab (by rw[fV];omega))
  (repeat refine⟨rfl,?_⟩);refine av (λ_=>?_) (λ_=>?_)
  .rw[aK6 i0 i1];have hx2:((bf (ns.getD i.toNat default)).length:Int)<=1000:=X.2.1;refine⟨⟨by show ((bf (ns.getD i.toNat default)).length:Int)<=_;omega,λr hr=>by have:=X.2.2 r hr;omega⟩,hc4,?_⟩;rintro a l5 p5 ⟨hc5,-,-⟩
   (repeat refine⟨rfl,?_⟩);refine⟨hc5,?_⟩;rintro b l6 p6 ⟨-,-,hc6⟩
   (repeat refine⟨rfl,?_⟩);refine⟨hc6,?_⟩;rintro c l7 p7 ⟨hc7,-⟩
   (repeat refine⟨rfl,?_⟩);refine⟨hc7,?_⟩;rintro e l8 p8 ⟨-,-,hc8⟩;refine⟨by show ((bf (ns.getD i.toNat default)).length+_)*48<=_;simp only[eU];omega,hc8,λk hk h=>?_⟩;rw[List.set_set];refine Cm h (by rw[fV];omega) ab ab (λy hy=>(DQ hy).elim .inl λe=>.inr ?_) (λc hc=>.inl hc);subst e;have M:wg k (ns.getD i.toNat default):=h.2.2.2.1 _ (bW i0 i1);obtain⟨m1,m2,m3⟩:=M
   (repeat refine⟨rfl,?_⟩);refine⟨by show ((ns.getD i.toNat default).1.length:Int)<=_;omega,?_,λr hr=>?_⟩
   .show (((bf (ns.getD i.toNat default)++[_]).length:Nat):Int)<=_;rw[cD,eU];omega
   .have hr:r∈bf (ns.getD i.toNat default)++[((a,b),[c],_)]:=hr;rcases dH.1 hr with hr|hr
    .have:=m3 r hr;omega
    .have:=jR.1 hr;subst this;simp only[eU];omega
  (repeat refine⟨rfl,?_⟩);exact⟨hc4,λk hk h=>nj h i0 i1 (by first|exact eZ _|simp) (by rfl) (by first|exact nB _|simp)⟩
theorem WF:aD 8 al6.spec:=nC Tryz.func8 (ar3 (af4 (aB6 (au (au (au (au (au aE ra) QS) ES) aU0) as3)) (d:=225) (n:=176)) (d:=259)) aR aE5
theorem DN.nb{n:cC}(h:DN n):dK 1000 n:=by
 have n7:=h.n7
 have l10:=h.l10
 have h3:=h.h3
 refine⟨by omega,by omega,by omega,λx hx=>?_,λc hc=>?_⟩
 .obtain⟨i,hi,rfl⟩:=List.mem_iff_getElem.1 hx;have e:n.1.getD i default=n.1[i]:=by rw[ce,cF hi,fu]
  have p:=h.p i hi;have t:=h.t i hi;rw[e] at p t;have hl:=z5 i 0 n.2.1;rw[← p] at hl;have hl:(n.1[i]).1.length<=2*n.2.1.length:=hl;have h20:=NS t;exact⟨by omega,by omega,λr hr=>by have:=HJ (t.2 r hr);omega⟩
 .rcases (h.c c hc).x with k|⟨q,-,k⟩
  .have k:c.2.2.2.2.1=[]:=k;rw[k];simp
  .have k:c.2.2.2.2.1=[q.2]:=k;rw[k];simp
theorem Lt(i:Int):∀(k:Nat)(ls:List aN),(∀ l∈ls,lA l≠lB l)->(portsF i k ls).Pairwise (λa b=>a.2<b.2/\a.1<b.1)∧∀ q∈portsF i k ls,(k:Int)<=q.2/\gA k<q.1
 | _,[],_=>by simp[portsF]
 | k,l::r,h=>by
  obtain⟨h1,h2⟩:=Lt i (k+1) r (λx hx=>h x (fw _ hx));have hl:=h l fF;have e:pd i k l=[]∨∃ a:Int,(a=1∨a=2)/\pd i k l=[(gA k+a,(k:Int))]:=by
   unfold pd;by_cases ha:lA l=i
   .rw[am ha,af ab];exact .inr ⟨1,.inl rfl,rfl⟩
   .rw[af ha];by_cases hb:lB l=i
    .rw[am hb];exact .inr ⟨2,.inr rfl,rfl⟩
    .rw[af hb];exact .inl rfl
  rw[portsF];unfold gA at *;rcases e with e|⟨a,ha,e⟩ <;> rw[e]
  .rw[pH];exact⟨h1,λq hq=>by have:=h2 q hq;omega⟩
  .rw[List.singleton_append];refine⟨List.pairwise_cons.2 ⟨λq hq=>?_,h1⟩,λq hq=>?_⟩
   .have:=h2 q hq;simp only;omega
   .rcases dj.1 hq with rfl|hq
    .simp only;omega
    .have:=h2 q hq;omega
theorem Qy{l:List oe}{q:oe->Bool}{i:Nat}(hi:i<l.length)(hq:q (l.getD i default)=true)(hn:∀ j:Nat,j<i->q (l.getD j default)=false):iy q l=i:=by
 have e:l.findIdx q=i:=by
  rw[List.findIdx_eq hi];refine⟨by rwa [ce,cF hi,fu] at hq,λj hj=>?_⟩;have:=hn j hj
  rwa [ce,cF ab,fu] at this
 unfold iy
 rw[e,am hi]
theorem VG{q:Int×Int->Bool}{l:List (Int×Int)}{y:Int×Int}(hy:y∈l)(hq:q y=true):0<=iy q l:=by
 have hlt:l.findIdx q<l.length:=List.findIdx_lt_length_of_exists ⟨y,hy,hq⟩
 unfold iy;rw[am hlt];omega
theorem M7{α:Type} [Inhabited α] {R:α->α->Prop} {l:List α} (h:l.Pairwise R) {k j:Nat} (hk:k<j) (hj:j<l.length):R (l.getD k default) (l.getD j default):=by
 rw[ce,ce,cF hj,cF ab,fu,fu]
 exact List.pairwise_iff_getElem.1 h _ _ _ _ hk
theorem HK{a:Int}(h:167837696<=a/\a<=167903300):fq a:=by
 right
 unfold fE
 have:a/16777216=10:=ab
 rw[af ab,af ab,am (.inl this)]
theorem au2{a n:Int}(h:n=32):ga (a,n)=true:=by
 subst h
 unfold ga
 have:sz 32=1:=bi
 rw[this]
 simp only[jz]
 omega
theorem RG{links:ad}:∀{l:List Rt}{q:Option d8},cK l->(∀ p,q=some p→∀ r∈l,bL p r.1)->(∀ r∈l,ga r.1=true/\lI r links)->chk links q l=0
 | [],_,_,_,_=>rfl
 | r::rs,q,hs,hq,hr=>by
  obtain⟨v,w⟩:=hr r fF;obtain⟨s1,s2⟩:=List.pairwise_cons.1 hs;rw[chk,af (by rw[v];simp)];have e:q.any (λq=>decide (0<=gD q r.1))=false:=by
   cases q with
   | none=>rfl
   | some p =>
    have:=hq p rfl r fF;simp only[Option.any_some,sC];rw[Jt];exact λk=>k this
  rw[af (by rw[e];simp),af (by simpa using w)];exact RG s2 (λp hp x hx=>by cases hp;exact s1 x hx) (λx hx=>hr x (fw _ hx))
structure GT (m:Nat) (links:ad) (l:List Rt):Prop where
 s:cK l
 n:l.length<=m
 r:∀ r∈l,ga r.1=true/\lI r links
theorem GT.ok{m:Nat}{links:ad}{l:List Rt}(h:GT m links l)(hm:m<=64):dJ l links=0:=by
 have:=h.n
 unfold dJ
 rw[af ab]
 exact RG h.s (λp hp=>by cases hp) h.r
theorem DN.gt{n:cC}(h:DN n){i:Nat}(hi:i<n.1.length):GT 20 (bq (n.1.getD i default)) (bf (n.1.getD i default)):=by
 have t:=h.t i hi
 refine⟨t.1,NS t,λr hr=>?_⟩
 have k:=t.2 r hr
 have l10:=h.l10
 have hl:=HJ k
 refine⟨au2 k.len,⟨ab,λj hj=>⟨λh0=>?_,?_⟩⟩,k.w0,k.w1⟩
 .rw[ce,ce,cF hj,cF ab,fu,fu];exact List.pairwise_iff_getElem.1 k.pw _ _ _ _ ab
 .rw[(h.links hi)];rw[ce,cF hj,fu];exact k.ln _ (List.getElem_mem hj)
theorem DN.pw{n:cC}(h:DN n){i:Nat}(hi:i<n.1.length):(aA (n.1.getD i default)).Pairwise (λa b=>a.2<b.2/\a.1<b.1):=by
 rw[h.p i hi]
 exact (Lt i 0 n.2.1 λl hl=>(h.g l hl).2.2.1).1
theorem DN.node{n:cC}(h:DN n){i:Nat}(hi:i<n.1.length)(hp:0<(aA (n.1.getD i default)).length):dN (n.1.getD i default)=0:=by
 have pw:=h.pw hi
 have d:=h.d i hi
 have n7:=h.n7
 have l10:=h.l10
 have hlen:(aA (n.1.getD i default)).length<=20:=by
  rw[h.p i hi];have:=z5 i 0 n.2.1;omega
 have gt:=h.gt hi
 have ports:∀ j:Nat,j<(aA (n.1.getD i default)).length->g9 (n.1.getD i default) j=0:=λj hj=>by
  have hm:(aA (n.1.getD i default)).getD j default∈aA (n.1.getD i default):=pf hj;have hadr:=h.padr hi (qM (f:=(·.1)) hm);have hlnk:=(h.links hi).1 (qM (f:=(·.2)) hm);have ne:∀ k:Nat,k<j->((aA (n.1.getD i default)).getD k default).2<((aA (n.1.getD i default)).getD j default).2/\((aA (n.1.getD i default)).getD k default).1<((aA (n.1.getD i default)).getD j default).1:=λk hk=>M7 pw hk hj;have ea:jo (n.1.getD i default) ((aA (n.1.getD i default)).getD j default).1=j:=Qy hj (by simp[gZ]) (λk hk=>by have:=ne k hk;simp only[gZ,sC];omega);have el:cG (n.1.getD i default) ((aA (n.1.getD i default)).getD j default).2=j:=Qy hj (by simp[iq]) (λk hk=>by have:=ne k hk;simp only[iq,sC];omega);have hu:fq ((aA (n.1.getD i default)).getD j default).1:=HK ab;unfold g9;have:=hlnk.1;rw[ea,el,af (by rintro (k|k);exact k hu;omega),af ab]
 have hloop:¬ nU (n.1.getD i default):=by
  rintro⟨k0,k⟩;have hl:=d.loop.resolve_left k0;rcases k with k|k
  .exact k (HK ab)
  .have:=h.padr hi (KP.1 k);omega
 have hform:¬ mJ (n.1.getD i default):=by
  have o:=d.own;have f:=d.first;unfold mJ;rintro (k|k|⟨k1,k2⟩|⟨k1,k2⟩|⟨k1,k2⟩|k|k)
  .omega
  .rcases d.src with s|⟨s,-⟩|⟨s,-⟩ <;> omega
  .rcases d.src with s|⟨s,s2⟩|⟨s,-⟩ <;> omega
  .have:=d.fix.resolve_left k1;exact k2 (HK ab)
  .rcases d.src with s|⟨s,s2⟩|⟨s,s2⟩ <;> omega
  .omega
  .omega
 have hid:io (n.1.getD i default)=0:=by
  unfold io;rw[am];obtain⟨⟨a,b⟩,⟨c,e⟩,f,g⟩:=d.id;exact dM ⟨a,b,c,e,f,g⟩
 have hb:gu (jE (n.1.getD i default))=0:=by
  unfold gu;rw[am];rcases d.lim with k|k
  .exact .inl k
  .right;omega
 rw[Iu ab (Do ports) hloop hform,af (λk=>k hid),af (λk=>k hb)]
 exact gt.ok ab
theorem KF(ns:List ar)(a:Int):∀ k:Nat,gq a (gn ns k)=true↔∃ j:Nat,j<k/\a∈cz (ns.getD j default)
 | 0=>by simp[gn,gq]
 | k+1=>by
  have e:gn ns (k+1)=mR k (cz (ns.getD k default)) (gn ns k):=by unfold gn;rw[mM,j9];rfl
  rw[e,B1.1,oo,ng,KF ns a k];constructor
  .rintro (h|⟨j,hj,h⟩)
   .exact⟨k,ab,h⟩
   .exact⟨j,ab,h⟩
  .rintro⟨j,hj,h⟩;by_cases e:j=k
   .subst e;exact .inl h
   .exact .inr ⟨j,ab,h⟩
theorem DN.tabs{n:cC}(h:DN n):∀ i:Nat,i<=n.2.2.length→∀ k:Nat,k<n.1.length->GT (20+i) (bq (n.1.getD k default)) ((dD n i).getD k default)
 | 0,_,k,hk=>by
  rw[dD,A0 hk];exact h.gt hk
 | i+1,hi,k,hk=>by
  have ih:=h.tabs i ab;have hc:=h.c _ (pf (i:=i) (xs:=n.2.2) ab);rw[dD];by_cases e:(bI (n.2.2.getD i default)).toNat=k
  .rw[e,jN (by rw[qo];omega)];have g:=ih k hk;obtain⟨r,hr,p1,p2⟩:=hc.p;rw[e] at hr;have gr:=(h.gt hk).r r hr;have hx:=hc.x;rw[e] at hx;refine⟨?_,?_,λx hx'=>?_⟩
   .unfold fT;rw[af (by rw[hc.r];simp)];exact I4 g.s
   .unfold fT;rw[af (by rw[hc.r];simp)];have:=Rz ((dD n i).getD k default) (dB (n.2.2.getD i default));have:=g.n;omega
   .unfold fT at hx';rw[af (by rw[hc.r];simp)] at hx';rcases Lx hx' with rfl|hx'
    .refine⟨by rw[p1];exact gr.1,⟨?_,by rw[p2];exact gr.2.2⟩⟩;rcases hx with q|⟨y,hy,q⟩ <;> rw[q]
     .exact⟨aC,λj hj=>absurd hj aC⟩
     .refine⟨aC,λj hj=>?_⟩;have:j=0:=by simpa using hj
      subst this;exact⟨λk=>absurd k ab,qM (f:=(·.2)) hy⟩
    .exact g.r x hx'
  .have g:=ih k hk;have e2:((dD n i).set (bI (n.2.2.getD i default)).toNat (fT ((dD n i).getD (bI (n.2.2.getD i default)).toNat default) (n.2.2.getD i default))).getD k default=(dD n i).getD k default:=by
    exact m7 e
   rw[e2];exact⟨g.s,by have:=g.n;omega,g.r⟩
theorem DN.right{n:cC}(h:DN n)(hp:∀ i:Nat,i<n.1.length->0<(aA (n.1.getD i default)).length):dA n=0:=by
 have n3:=h.n3
 have n7:=h.n7
 have l10:=h.l10
 have h3:=h.h3
 have e1:nG n=0:=by unfold nG;rw[af ab]
 have e2:lG n=0:=by
  unfold lG;rw[am];rw[List.all_eq_true];intro l hl;obtain⟨a,b,c,d,e,f,g⟩:=h.g l hl;refine dM ?_;unfold ia;omega
 have e3:ku n=0:=Do λi hi=>by
  unfold jY;rw[af (λk=>k (h.node hi (hp i hi))),af];rw[List.any_eq_true];rintro⟨k,hk,hs⟩;obtain⟨a,b,c⟩:=(h.links hi).1 hk;unfold mh at hs;simp only[oo,oX,jz,Bool.or_eq_false_iff,sC] at hs;rcases hs with hs|⟨s1,s2⟩
  .omega
  .rcases c with c|c
   .exact s1 c
   .exact s2 c
 have e4:mU n=0:=by
  unfold mU;rw[af];rw[List.any_eq_true];rintro⟨k,hk,hs⟩;have hk:=List.mem_range.1 hk;obtain⟨⟨a0,a1⟩,⟨b0,b1⟩,-⟩:=h.g _ (pf hk);unfold my at hs;simp only[oo,jz] at hs;have key:∀ i:Int,0<=i->i<n.1.length->(lA (n.2.1.getD k default)=i∨lB (n.2.1.getD k default)=i)→¬ cG (n.1.getD i.toNat default) k<0:=λi i0 i1 hq hlt=>by
   have hi:i.toNat<n.1.length:=ab;have:(k:Int)∈bq (n.1.getD i.toNat default):=(h.links hi).2 ⟨ab,ab,by rw[Int.toNat_natCast];rcases hq with q|q;left;omega;right;omega⟩;obtain⟨y,hy,e⟩:=List.mem_map.1 this;have:=VG (q:=iq k) hy (by simp[iq,e]);have e5:cG (n.1.getD i.toNat default) k=iy (iq k) (aA (n.1.getD i.toNat default)):=rfl;omega
  rcases hs with hs|hs
  .exact key _ a0 a1 (.inl rfl) hs
  .exact key _ b0 b1 (.inr rfl) hs
 have e5:nT n=0:=by
  unfold nT;rw[af];unfold Sb;rw[List.any_eq_true];rintro⟨i,hi,hs⟩;have hi:=List.mem_range.1 hi;obtain⟨a,ha,hm⟩:=List.any_eq_true.1 hs;obtain⟨j,hj,hb⟩:=(KF n.1 a i).1 hm;have:=h.apart (i:=i) (j:=j) hi ab ha hb;omega
 have e6:nq n=0:=by
  unfold nq;rw[af];rw[List.any_eq_true];rintro⟨l,hl,hs⟩;rw[h.o l hl] at hs;cases hs
 have e7:ld n=0:=Do λi hi=>by
  have hc:=h.c _ (pf (i:=i) (xs:=n.2.2) hi);have ha:=hc.at';have hw:=hc.w;have hk:(bI (n.2.2.getD i default)).toNat<n.1.length:=ab;have hs:0<i->iu (n.2.2.getD (i-1) default)<=iu (n.2.2.getD i default):=λh0=>M7 h.s ab hi;have g:=h.tabs (i+1) ab _ hk;rw[dD,jN (by rw[qo];omega)] at g;unfold ie mC;rw[af ab,af (by rintro⟨k0,k1⟩;have:=hs k0;omega),af ab,af (by rintro⟨k0,-⟩;rw[hc.r] at k0;cases k0)];exact g.ok ab
 unfold dA ml
 simp[e1,e2,e3,e4,e5,e6,e7]
set_option maxHeartbeats 1000000
theorem Js{k:Int}{n:cC}(h:dK k n)(hk:k<=1000000):lT n:=by
 obtain⟨h1,h2,h3,h4,h5⟩:=h
 refine⟨ab,ab,ab,λx hx=>?_,λc hc=>?_⟩
 .obtain⟨a,b,c⟩:=h4 x hx;exact⟨by show (x.1.length:Int)<=1000000;omega,ab,λr hr=>by have:=c r hr;omega⟩
 .have:=h5 c hc;show (c.2.2.2.2.1.length:Int)<=_;omega
theorem dG.new{n:cC}{B:Int}(h:dA n=0)(ha:wC n)(hc:lT n)(h0:0<=B)(h1:B<=549755813888):dG B (kq n):=by
 have e:jf (kq n)=0:=rfl
 exact⟨h1,by rw[e];exact (dF.new h).more ab,ha,hc,λx hx=>(by cases hx),by rw[e];show ((0:Nat):Int)+2*((0:Nat):Int)<=B;omega,by rw[e];show ((0:Nat):Int)+((0:Nat):Int)<=B;omega⟩
theorem aQ9{n:cC}{f:aW}(hb:bytes (eI f)):pn n f<=1114:=by
 have:=OF hb
 unfold pn
 have h1:(if dY (n.1.getD (bh f).toNat default)=true then 1 else 0)<=1:=by split <;> omega
 have h2:(if f8 f = -1 then 2 else 0)<=2:=by split <;> omega
 have h3:(if cH (eI f) then 600 else 0)<=600:=by split <;> omega
 omega
theorem dG.send{w:aJ}{B:Int}(h:dG B w)(hB:B+4000<=549755813888){at' who:Int}{b:ad}(he:fO w at' who=0)(hb:bytes b)(hl:(b.length:Int)<=2000) :
  dG (B+4000) (lY w at' who b)/\bj (lY w at' who b)=bj w+1/\az (lY w at' who b)=az w:=by
 unfold fO at he
 split at he
 .cases he
 rename_i q1
 split at he
 .cases he
 rename_i q2
 split at he
 .cases he
 rename_i q3
 split at he
 .cases he
 rename_i q4
 obtain⟨s1,s2⟩:=h.sB.send ab (at':=at') (who:=who) (b:=b) ⟨ab,ab⟩ ⟨ab,ab⟩ hb hl ab
 have hp:jf (lY w at' who b)=jf w+pn (az w) (at',bj w,who,-1,bj w,b):=LM _ _ _
 have hf:pn (az w) (at',bj w,who,-1,bj w,b)<=1114:=aQ9 hb
 have h1:=h.e
 have h2:=h.d
 exact⟨⟨hB,s1.more ab,h.a,h.c,h.dd,by show ((aV w).length:Int)+_<=_;omega,by show ((aY w).length:Int)+_<=_;omega⟩,s2,rfl⟩
theorem DN.newOk{n:cC}(h:DN n)(hp:∀ i,i<n.1.length->0<(aA (n.1.getD i default)).length):dG 4000 (kq n):=dG.new (h.right hp) (λi hi=>ad5 h hi) (Js h.nb bi) bi bi
def qL:cC:=([([(167772161,0)],0,0,true,[((0,0),[0],1)],1,0,0,0,0,(0,0),false,false,64,0),([(167772162,0)],0,0,false,[((0,0),[0],1)],1,0,0,0,0,(0,0),false,false,64,0)],[(0,1,10,0,0,0)],[])
def vE:ad:=build (167772161,167772169,17,0,0,1)
theorem G9:dA qL=0:=by decide +kernel
theorem Zx:(aY (xG (lY (kq qL) 0 0 vE) 100)).length=1/\((aY (xG (lY (kq qL) 0 0 vE) 100)).getD 0 default).1=20/\bg (xG (lY (kq qL) 0 0 vE) 100)=100:=by decide +kernel
theorem Uy:wC qL:=by
 intro i hi
 have hi:i<2:=hi
 match i,hi with
 | 0,_=>unfold qZ u32;decide
 | 1,_=>unfold qZ u32;decide
theorem MO:lT qL:=by
 refine⟨bi,bi,bi,λx hx=>?_,λc hc=>by cases hc⟩
 have hx:x∈[(([(167772161,0)],0,0,true,[((0,0),[0],1)],1,0,0,0,0,(0,0),false,false,64,0):ar),([(167772162,0)],0,0,false,[((0,0),[0],1)],1,0,0,0,0,(0,0),false,false,64,0)]:=hx
 unfold okL
 rcases dj.1 hx with rfl|hx
 .decide
 .rcases dj.1 hx with rfl|hx
  .decide
  .cases hx
theorem Kd:dG 4000 (kq qL):=dG.new G9 Uy MO (by decide) (by decide)
theorem I3:fO (kq qL) 0 0=0:=by decide +kernel
structure yV (m:Int) (w:aJ):Prop where
 ok:dG (4000+4000*m) w
 m9:0<=m/\m<=9
 now:bg w=0
 fn:((ax w).length:Int)=m
 ord:bj w=m
 en:aV w=[]
 dl:aY w=[]
 at':∀ f∈ax w,aI f<=40
 og:∀ o,0<=o->o<bj w->xA (lq o (ax w)) (nz o (aV w))
theorem yV.new{n:cC}(h:dG 4000 (kq n)):yV 0 (kq n) :=
 ⟨h.more bi bi,⟨bi,bi⟩,rfl,rfl,rfl,rfl,rfl,λf hf=>(by cases hf),λo h0 h1=>by have h1:o<0:=h1;omega⟩
theorem yV.send{w:aJ}{m:Int}(h:yV m w)(hm:m+1<=9){at':Int}{b:ad}(h0:0<=at')(h1:at'<=40)(hb:bytes b)(hl:(b.length:Int)<=2000):fO w at' 0=0/\yV (m+1) (lY w at' 0 b):=by
 have hm0:=h.m9
 have he:fO w at' 0=0:=by
  have hn:=yz h.ok.s.net;have:=h.now;have:=h.fn;unfold fO;rw[af ab,af ab,af ab,af ab]
 obtain⟨k1,k2,k3⟩:=h.ok.send ab he hb hl
 have hf:∀ f∈ax w,fG f<bj w:=λf hf=>(h.ok.s.fo f hf).g.2
 obtain⟨g1,g2⟩:=UY (w:=w) (at':=at') (who:=0) (b:=b) hf (λe he=>by rw[h.en] at he;cases he)
 have ho:=h.ord
 have hfn:=h.fn
 refine⟨he,k1.more ab ab,⟨ab,ab⟩,h.now,?_,by rw[k2];omega,h.en,h.dl,λf hf=>?_,λo o0 o1=>?_⟩
 .show ((da (ax w) (at',bj w,0,-1,bj w,b)).length:Int)=_;rw[Bo];omega
 .rcases xX.1 hf with rfl|hf
  .exact h1
  .exact h.at' f hf
 .by_cases e:o=bj w
  .rw[e];exact g1
  .obtain⟨e1,e2⟩:=g2 o e;rw[e1,e2];exact h.og o o0 (by rw[k2] at o1;omega)
def L8:Cn:=⟨[.agg gS],[.val cy,.val cy],λ_=>[],λd y=>u32 y.1.1/\u32 y.1.2.1,λd h=>⟨((0,0,()),()),by unfold u32;decide,by unfold u32;decide⟩⟩
def aP3:bu L8.ps->bS:=(λd=>{loops:=(bm 4 (λS=>{ι:=Int,μ:=λi=>i.toNat,inv:=λi=>0<=i/\i+1<=d.1.1.length/\0<(aA (d.1.1.getD 0 default)).length,keep:=[1],slots:=λi=>[(4,.int .i64 i)],keepN:=[32]}) ci)})
def El(a:List ar) :=
 (0:Nat)<length (aA (a.getD (0:Nat) default))
def BB(a:List ar) :=
 ((length (ah a (0:Int)).1):Int)
def D6(a:List ar) :=
 getD (ah a (0:Int)).1 (toNat 0) default
theorem TE :
 ∀(a:List ar)(b:List aN)(c:List aT),((a.length<=maxLen/\ ∀(d:ar),d∈a->CT.wf bN d)/\(b.length<=maxLen/\ ∀(d:aN),d∈b->CT.wf gh d)/\c.length<=maxLen/\ ∀(d:aT),d∈c->CT.wf ft d)/\True->True-> ∀(d:Bool),d=decide ((ac a)=0)->(ae (! d))/\((! d)->(aq (! d))/\(0:Int)<=0/\0<(ac a)/\True)/\(ae (! d))/\(ae (! d))/\(ae (! d))/\(ae (! d))/\(aF d)/\ao (bif d then true else decide ((BB a)=0)) (u32 (0:Int)/\u32 (0:Int)) ((∃(e:Int),(0<=e/\e+1<=(ac a)/\(El a))/\ai ((ac a) -1)=e/\a=a/\b=b/\c=c/\True)/\ ∀(e:Int),0<=e/\e+1<=(ac a)/\(El a)->ao (decide (0<e)) (0<=e/\e<(ac a)/\ ∀(f:Bool),f=(ah a e).2.2.2.1->(ae f)/\(f->(aq f)/\(aq f)/\0<=e/\e<(ac a)/\True)/\(ae f)/\(ae f)/\(ae f)/\(ae f)/\(aq f)/\ao (bif f then decide (0<((length (ah a e).1):Int)) else false) ((0:Int)<=0/\0<(ac a)/\(0:Int)<=0/\0<(BB a)/\0<=e/\e<(ac
 a)/\(0:Int)<=0/\0<((length (ah a e).1):Int)/\u32 (D6 a).1/\u32 (getD (ah a e).1 (toNat 0) default).1) (∃(g:Int),(0<=g/\g+1<=(ac a)/\(El a))/\g.toNat<e.toNat/\ai (e -1)=g/\a=a/\b=b/\c=c/\True)) ((0:Int)<=0/\0<(ac a)/\(0:Int)<=0/\0<(BB a)/\(0:Int)<=0/\0<(ac a)/\(0:Int)<=0/\0<(BB a)/\u32 (D6 a).1/\u32 (D6 a).1)):=by
  delta El BB D6 ae aq aF ai ah ac;rintro ns ls hs ⟨⟨⟨hnl,hw⟩,-⟩,-⟩ -;simp only[maxLen] at hnl;have hu:∀ j:Int,0<=j->j<ns.length->(0:Int)<((ns.getD j.toNat default).1.length:Int)->u32 ((ns.getD j.toNat default).1.getD (toNat 0) default).1:=by
   intro j j0 j1 hp;exact ((hw _ (bW j0 j1)).1.2 _ (bW bi hp)).1
  intro b hb
  (repeat refine⟨λh_=>(by first|exact⟨λ_=>h_,ab,by rw[hb] at h_;have:=fQ h_;omega,bv⟩|(simp;done)|(simp[h_];done)|(simp_all;done)),?_⟩);rw[hb,lR];refine av (λh=>?_) (λh=>?_)
  .exact⟨by unfold u32;decide,by unfold u32;decide⟩
  have h:=aO h;have hn0:0<ns.length:=ab;have hp0:0<(aA (ns.getD 0 default)).length:=by show 0<(ns.getD (toNat 0) default).1.length;omega
  have hz:(0:Int)<((ns.getD (toNat 0) default).1.length:Int):=by show (0:Int)<((aA (ns.getD 0 default)).length:Int);omega
  rw[aQ (n:=(ns.length:Int)-1) ab ab];refine⟨⟨(ns.length:Int)-1,⟨ab,ab,hp0⟩,aM⟩,?_⟩;rintro i ⟨i0,i1,-⟩;refine bt (λhi=>?_) (λhi=>?_)
  .refine⟨i0,ab,?_⟩;intro b2 hb2
   (repeat refine⟨λh_=>(by first|exact⟨λ_=>h_,λ_=>h_,i0,ab,bv⟩|(simp;done)|(simp[h_];done)|(simp_all;done)),?_⟩);refine pT (λk1 k2=>?_) (λk=>?_)
   .have k2:=aL k2;exact⟨ab,ab,ab,hz,i0,ab,ab,k2,hu 0 ab ab hz,hu i i0 ab k2⟩
   .rw[aQ ab ab];exact⟨i-1,⟨ab,ab,hp0⟩,ab,aM⟩
  .exact⟨ab,ab,ab,hz,ab,ab,ab,hz,hu 0 ab ab hz,hu 0 ab ab hz⟩
theorem Va:aD 27 L8.spec:=nC Tryz.func27 aE aP3 TE
def ae8:Cn:=⟨[.box 105 iA,.val (.sl bz)],[.own 5 bz],λd=>[ay d.1,(d.2.1.length:Int)<=1000000],λd y=>(y.1.1.length:Int)<=d.2.1.length+1/\bytes y.1.1/\ay y.2.1,λd h=>⟨(([],()),(d.1,())),by simp;omega,λx hx=>(by cases hx),h.1⟩⟩
theorem YE :
 ∀(a:ad)(b:Int)(c:ad),((a.length<=maxLen/\ ∀(d:Int),d∈a->0<=d/\d<=255)/\aj b)/\(c.length<=maxLen/\ ∀(d:Int),d∈c->0<=d/\d<=255)/\True->ay (a,b)/\(ac c)<=1000000->c.length*(1:Nat)<=(140737488355328:Nat)/\ao (decide ((ac c)=0)) (ay (a,b)/\ ∀(d:Int)(e:ad)(f:Int),0<=d/\(d<256∨d=0)/\ay (e,f)->((length [IntKind.wrap .u8 d]):Int)<=(ac c)+1/\bytes [IntKind.wrap .u8 d]/\ay (e,f)) (ay (a,b)/\ ∀(d:Int)(e:ad)(f:Int),0<=d/\(d<(ac c)∨d=0)/\ay (e,f)->ay (e,f)/\ ∀(g:Int)(h:ad)(i:Int),0<=g/\(g<4∨g=0)/\ay (h,i)->ao (decide (g=0)) (0<=d/\d<=(ac c)/\0<=ai (d+1)/\ai (d+1)<=(ac c)/\(ac c)<=(ac c)/\(length (take d.toNat c)+length (cA c (toNat (ai (d+1))) (toNat (ac c))))*(1:Nat)<=(140737488355328:Nat)/\((length (take d.toNat c++cA c (toNat (ai (d+1))) (toNat (ac c)))):Int)<=(ac c)+1/\bytes (take
 d.toNat c++cA c (toNat (ai (d+1))) (toNat (ac c)))/\ay (h,i)) (ao (decide (g=1)) (ay (h,i)/\ ∀(j:Int)(k:ad)(l:Int),0<=j/\(j<256∨j=0)/\ay (k,l)->(c.length+length [IntKind.wrap .u8 j])*(1:Nat)<=(140737488355328:Nat)/\((length (c++[IntKind.wrap .u8 j])):Int)<=(ac c)+1/\bytes (c++[IntKind.wrap .u8 j])/\ay (k,l)) (0<=d/\d<(ac c)/\ay (h,i)/\ ∀(j:Int)(k:ad)(l:Int),0<=j/\(j<255∨j=0)/\ay (k,l)->0<=d/\d<(ac c)/\((length (set c d.toNat (bits BinOp.xor IntKind.u8 (ah c d) (IntKind.wrap .u8 (ai ((1:Int)+j)))))):Int)<=(ac c)+1/\bytes (set c d.toNat (bits BinOp.xor IntKind.u8 (ah c d) (IntKind.wrap .u8 (ai ((1:Int)+j)))))/\ay (k,l)))):=by
  delta ai ah ac;rintro l p b ⟨-,⟨-,hb⟩,-⟩⟨hc,hl⟩;have hb:bytes b:=hb;have u8:∀ x:Int,bytes [IntKind.wrap .u8 x]:=λx y hy=>by rw[jR.1 hy];exact MA x
  have app:∀{x y:ad},bytes x->bytes y->bytes (x++y):=λhx hy z hz=>by rcases dH.1 hz with q|q;exact hx z q;exact hy z q
  refine⟨ab,av (λh=>⟨hc,?_⟩) (λh=>⟨hc,?_⟩)⟩
  .rintro x l2 p2 ⟨-,-,h3⟩;exact⟨by simp only[eU];omega,u8 x,h3⟩
  have h:=aO h;rintro k l2 p2 ⟨k0,k1,hc⟩;have hk:k<b.length:=ab;refine⟨hc,?_⟩;rintro w l3 p3 ⟨w0,w1,hc⟩;refine av (λ_=>?_) (λ_=>av (λ_=>⟨hc,?_⟩) (λ_=>⟨k0,hk,hc,?_⟩))
  .rw[aQ (n:=k+1) ab ab];refine⟨k0,ab,ab,ab,ab,?_,?_,?_,hc⟩
   .rw[qA,cW,dR];omega
   .rw[cD,qA,cW,dR];omega
   .rw[qA];exact app (zZ hb) (ua hb)
  .rintro x l4 p4 ⟨-,-,h4⟩;exact⟨by simp only[eU];omega,by simp only[cD,eU];omega,app hb (u8 x),h4⟩
  .rintro x l4 p4 ⟨-,-,h4⟩;refine⟨k0,hk,by rw[fV];omega,λz hz=>?_,h4⟩;rcases wz hz with q|q
   .exact hb z q
   .rw[q];exact MA _
theorem W0:aD 65 ae8.spec:=nC Tryz.func65 (Cp (au aE ra) (d:=26)) aR YE
def Wk:Cn:=⟨[.box 105 iA,.agg gS],[.val (.sl bz)],λd=>[ay d.1],λd y=>ay y.2.1/\bytes y.1.1/\(y.1.1.length:Int)<=1600,λd h=>⟨(([],()),(d.1,())),h.1,λx hx=>(by cases hx),by simp⟩⟩
theorem X9 :
 ∀(a:ad)(b:Int)(c:List ar)(d:List aN)(e:List aT),((a.length<=maxLen/\ ∀(f:Int),f∈a->0<=f/\f<=255)/\aj b)/\((c.length<=maxLen/\ ∀(f:ar),f∈c->CT.wf bN f)/\(d.length<=maxLen/\ ∀(f:aN),f∈d->CT.wf gh f)/\e.length<=maxLen/\ ∀(f:aT),f∈e->CT.wf ft f)/\True->0<=b/\b<=(ac a)->ay (a,b)/\ ∀(f g h i j k:Int)(l:ad)(m:Int),ay (l,m)/\u32 f/\u32 g/\f5 (f,g,h,i,j,k)=0-> ∀(n o:Int),u32 n/\u32 o->ay (l,m)/\ ∀(p:Int)(q:ad)(r:Int),ay (q,r)/\0<=p/\p<=4294967295-> ∀(s:ad)(t:Int),s=build (n,p,h,i,j,k)/\t=f5 (n,p,h,i,j,k)->ay (q,r)/\ ∀(u:Int)(v:ad)(w:Int),0<=u/\(u<12∨u=0)/\ay (v,w)->ao (decide (u=11)) (ay (v,w)/\(ac s)<=1000000/\ ∀(x y:ad)(z:Int),(ac x)<=(ac s)+1/\bytes x/\ay (y,z)->ay (y,z)/\bytes x/\(ac x)<=1600) (ay (v,w)/\bytes s/\(ac s)<=1600):=by
  delta ac;rintro l p ns ls hs-hc;refine⟨hc,?_⟩;rintro a b c e f g l2 p2 ⟨hc2,-,-,-⟩;rintro a1 a2 -;refine⟨hc2,?_⟩;rintro d l3 p3 ⟨hc3,-,-⟩;rintro bb q ⟨rfl,-⟩;have hbl:=Gf (a1,d,c,e,f,g);refine⟨hc3,?_⟩;rintro x l4 p4 ⟨-,-,hc4⟩;refine av (λ_=>⟨hc4,ab,?_⟩) (λ_=>⟨hc4,GF _,ab⟩);rintro y l5 p5 ⟨k1,k2,k3⟩;exact⟨k3,k2,ab⟩
theorem Zz:aD 20 Wk.spec:=nC Tryz.func20 (au (au (au (au (au (au aE XD) Va) aD8) (Ct.named NK)) ra) W0) aR X9
def an1:Ct:=⟨[.agg fX,.val cI,.agg fX,.val cI],[.val .bool],λ_=>[],λd=>((decide (d.2.1=d.2.2.2.1)&&gB d.1 d.2.2.1,()),())⟩
theorem ar0 :
 ∀(a:(List ar×List aN×List aT)×Int×Int×Int×List (List aG×Int×ad×(Int×Int)×Int)×ad×List (Int×Int×Int×Int×Int×ad)×List (Int×Int×ad)×List (Int×Int×Int×Int×Int))(b:Int)(c:(List ar×List aN×List aT)×Int×Int×Int×List (List aG×Int×ad×(Int×Int)×Int)×ad×List (Int×Int×Int×Int×Int×ad)×List (Int×Int×ad)×List (Int×Int×Int×Int×Int))(d:Int),CT.wf fX a/\aj b/\CT.wf fX c/\aj d/\True->True-> ∀(e:Bool),e=decide (b=d)->(e->(aq e)/\(aq e)/\True)/\(aq e)/\(bif e then gB a c else false)=(decide (b=d)&&gB a c):=by
  delta aq;rintro d x e y - -
  (repeat (refine bO ?_;repeat refine bP ?_));by_cases h:x=y <;> simp[h]
theorem aY3:aD 12 an1.spec:=aH Tryz.func12 (au aE Ry) aR ar0
def W8:Ct:=⟨[],[.val .bool],λ_=>[],λ_=>((true,()),())⟩
def DV :=
 ([([((167772161:Int),(0:Int))],(0:Int),(0:Int),true,[(((0:Int),(0:Int)),[(0:Int)],(1:Int))],(1:Int),(0:Int),(0:Int),(0:Int),(0:Int),((0:Int),(0:Int)),false,false,(64:Int),(0:Int)),([((167772162:Int),(0:Int))],(0:Int),(0:Int),false,[(((0:Int),(0:Int)),[(0:Int)],(1:Int))],(1:Int),(0:Int),(0:Int),(0:Int),(0:Int),((0:Int),(0:Int)),false,false,(64:Int),(0:Int))],[((0:Int),(1:Int),(10:Int),(0:Int),(0:Int),(0:Int))],([]:List aT))
def JB :=
 ((167772161:Int),(167772169:Int),(17:Int),(0:Int),(0:Int),(1:Int))
theorem WK :
 True->True->lT (DV)/\ ∀(a:(List ar×List aN×List aT)×Int×Int×Int×List (List aG×Int×ad×(Int×Int)×Int)×ad×List (Int×Int×Int×Int×Int×ad)×List (Int×Int×ad)×List (Int×Int×Int×Int×Int))(b:Int),a=oR (DV)/\b=dA (DV)-> ∀(c:ad)(d:Int),c=build (JB)/\d=f5 (JB)->gb a/\(ac c)<=1000000/\ ∀(e:(List ar×List aN×List aT)×Int×Int×Int×List (List aG×Int×ad×(Int×Int)×Int)×ad×List (Int×Int×Int×Int×Int×ad)×List (Int×Int×ad)×List (Int×Int×Int×Int×Int))(f g:Int),e=gI a (0:Int) (0:Int) c/\f=jj a (0:Int) (0:Int)/\g=fO a (0:Int) (0:Int)->gb e/\ ∀(h:(List ar×List aN×List aT)×Int×Int×Int×List (List aG×Int×ad×(Int×Int)×Int)×ad×List (Int×Int×Int×Int×Int×ad)×List (Int×Int×ad)×List (Int×Int×Int×Int×Int))(i:Int),h=jx e (100:Int)/\i=iY e (100:Int)-> ∀(j:Bool),j=decide
 (b=0)->(ae j)/\(aq j)/\ ∀(k:Bool),(k=bif j then decide (g=0) else false)->(ae k)/\(aq k)/\ ∀(l:Bool),(l=bif k then decide (i=0) else false)->(ae l)/\(ae l)/\(ae l)/\(aq l)/\ ∀(m:Bool),(m=bif l then decide ((ac h.2.2.2.2.2.2.2.1)=1) else false)->(ae m)/\(m->(aq m)/\(0:Int)<=0/\0<(ac h.2.2.2.2.2.2.2.1)/\True)/\(ae m)/\(ae m)/\(ae m)/\(aq m)/\ ∀(n:Bool),(n=bif m then decide ((getD h.2.2.2.2.2.2.2.1 (toNat 0) default).1=20) else false)->(ae n)/\(ae n)/\(aq n)/\(bif n then decide (h.2.1=100) else false)=true:=by
  delta DV JB ae aq ac;rintro - -;refine⟨MO,?_⟩;rintro d x ⟨hd,hx⟩;rintro b e ⟨rfl,-⟩;have hd:d=kq qL:=by rw[hd];exact am G9
  have hx:x=0:=by rw[hx];exact G9
  subst hd hx;refine⟨.inl Kd.sim,by have:=Gf (167772161,167772169,17,0,0,1);omega,?_⟩;rintro d2 o e2 ⟨hd2,-,he2⟩;have he2:e2=0:=he2.trans I3;have hd2:d2=lY (kq qL) 0 0 vE:=by rw[hd2];unfold gI;rw[am I3];rfl
  subst he2;have hbl:((vE).length:Int)<=2000:=by have:=Gf (167772161,167772169,17,0,0,1);unfold vE;omega
  have ok2:=(Kd.send bi I3 (b:=vE) (GF _) hbl).1;rw[← hd2] at ok2;refine⟨.inl ok2.sim,?_⟩;rintro d3 e3 ⟨hd3,he3⟩;have hn:bg d2=0:=by rw[hd2];rfl
  have hr:iY d2 100=0:=by unfold iY;rw[hn];decide
  have he3:e3=0:=he3.trans hr;subst he3;have hd3:d3=xG (lY (kq qL) 0 0 vE) 100:=by rw[hd3,← hd2];unfold jx;rw[am hr]
  obtain⟨r1,r2,r3⟩:=Zx;rw[← hd3] at r1 r2 r3;have r1:d3.2.2.2.2.2.2.2.1.length=1:=r1;have r2:(d3.2.2.2.2.2.2.2.1.getD (toNat 0) default).1=20:=r2;have r3:d3.2.1=100:=r3;have rl:(d3.2.2.2.2.2.2.2.1.length:Int)=1:=ab;intro b1 hb1;have hb1:b1=true:=by rw[hb1];decide
  subst hb1
  (repeat refine⟨aC,?_⟩);intro b2 hb2;have hb2:b2=true:=by rw[hb2];decide
  subst hb2
  (repeat refine⟨aC,?_⟩);intro b3 hb3;have hb3:b3=true:=by rw[hb3];decide
  subst hb3
  (repeat refine⟨aC,?_⟩);intro b4 hb4;have hb4:b4=true:=by rw[hb4,rl];decide
  subst hb4
  (repeat refine⟨(by first|(simp;done)|(simp;omega)),?_⟩);intro b5 hb5;have hb5:b5=true:=by rw[hb5,r2];decide
  subst hb5
  (repeat refine⟨aC,?_⟩);rw[r3];decide
theorem aa7:aD 5 W8.spec:=aH Tryz.func5 (au (au (au (au aE (Ct.named Qs)) (Ct.named NK)) (Ct.named R8)) (Ct.named N3)) aR WK
end Go.RS
