/- Plt2: the probes that are to be sent, up to a cut and behind it; a run in two parts. -/
import Derived.Test.YtoipogagjfkjlaaGreatDoorPlt1
import Derived.Test.YtoipogagjfkjlaaGreatDoorSx25
import Derived.Shelf.SlSortCmp.NoneTotal
import Derived.Test.YtoipogagjfkjlaaGreatDoorNodek
import Derived.Test.YtoipogagjfkjlaaGreatDoorNetg
set_option maxRecDepth 100000
set_option linter.unusedVariables false
open Int (toNat)
open List (length take getD set replicate range drop)
namespace Go.RS
open Go.SX Go.Proofs
theorem Rv{p:Nat->Bool}:∀{n:Nat},(∀ i j,i<=j->j<n->p j=true->p i=true)->((range n).filter p).length<=n∧∀ j,j<n->(p j=true↔j<((range n).filter p).length)
 | 0,_=>⟨aw,λj h=>ab⟩
 | n+1,h=>by
  obtain⟨h1,h2⟩:=Rv (n:=n) λi j a hj hp=>h i j a ab hp;rw[lP,u5,cL];cases e:p n with
  | true =>
   grind
  | false =>
   rw[List.filter_cons_of_neg (by rw[e];decide)];refine⟨by simp;omega,λj hj=>?_⟩;by_cases hjn:j=n
   .simp_all
   .have:=h2 j ab;simpa using this
def cq(ss:List ck)(i:Nat):ck:=ss.getD i default
def iD(ss:List ck)(n:Nat):List Du:=(range n).flatMap λ(i:Nat)=>(range (fY (cq ss i)).length).map λ(j:Nat)=>((i:Int),(j:Int),(fY (cq ss i)).getD j default)
def tQ(ss:List ck)(t:Int)(d:Du):Bool:=decide (iZ (cq ss d.1.toNat)<=d.2.1)&&decide (eI d<=t)
theorem yH(ss:List ck)(t:Int)(n:Nat):oF ss t n=(iD ss n).filter (tQ ss t):=by
 unfold oF iD uM
 rw[List.filter_flatMap]
 congr 1
 funext i
 rw[List.filter_map]
 rfl
theorem Gy{ss:List ck}{n:Nat}{d:Du}(h:d∈iD ss n):∃ i j:Nat,i<n/\j<(fY (cq ss i)).length/\d=((i:Int),(j:Int),(fY (cq ss i)).getD j default):=by
 obtain⟨i,hi,h⟩:=List.mem_flatMap.1 h
 obtain⟨j,hj,rfl⟩:=List.mem_map.1 h
 grind
theorem US{ss:List ck}{n:Nat}{x y:Du}(hx:x∈iD ss n)(hy:y∈iD ss n)(h1:x.1=y.1)(h2:x.2.1=y.2.1):x=y:=by
 obtain⟨i,j,-,-,rfl⟩:=Gy hx
 obtain⟨k,l,-,-,rfl⟩:=Gy hy
 grind
def HE(x y:Du):Bool := !decide (n9 y x<0)
theorem Fo(x y:Du):HE x y=true↔¬ (eI y<eI x∨(eI y=eI x/\(y.1<x.1∨(y.1=x.1/\y.2.1<x.2.1)))):=by
 unfold HE
 rw[pF,sF,zU]
theorem P0(ss:List ck)(t:Int):(cW ss t).Pairwise λx y=>HE x y=true :=
 List.pairwise_mergeSort (λa b c h1 h2=>by rw[Fo] at *;omega) (λa b=>by rw[sD,Fo,Fo];omega) _
theorem FR{ss:List ck}{t:Int}{d:Du}:d∈cW ss t↔d∈iD ss ss.length/\tQ ss t d=true:=by
 unfold cW
 rw[(yS n9 _).mem_iff,yH,List.mem_filter]
theorem B1{ss:List ck}{t:Int}(hp:∀ s∈ss,i9 (ni s)){d:Du}(h:d∈cW ss t) :
  (0<=d.1/\d.1<ss.length)/\eI d<=t/\FO (ni (cq ss d.1.toNat)) d.2.2:=by
 obtain⟨h1,a⟩:=FR.1 h
 obtain⟨i,j,b,hj,rfl⟩:=Gy h1
 have a:=aX (Bool.and_eq_true_iff.1 a).2
 refine⟨⟨Int.natCast_nonneg _,Int.ofNat_lt.2 b⟩,a,?_⟩
 have hs:cq ss i∈ss:=by unfold cq;rw[ct,cM b];exact List.getElem_mem _
 exact (G4 (hp _ hs)).d _ (qj hj)
theorem MO{ss:List ck}(a:∀ s∈ss,i9 (ni s)):∀ n:Nat,n<=ss.length->(iD ss n).length<=81*n
 | 0,_=>by simp[iD]
 | n+1,hn=>by
  have e:iD ss (n+1)=iD ss n++(range (fY (cq ss n)).length).map λ(j:Nat)=>((n:Int),(j:Int),(fY (cq ss n)).getD j default):=by
   unfold iD;rw[lP,List.flatMap_append];simp
  have:=MO a n ab;have hs:cq ss n∈ss:=by unfold cq;rw[ct,cM ab];exact List.getElem_mem _
  have:(fY (cq ss n)).length<=81:=(G4 (a _ hs)).n;grind
theorem Ik{ss:List ck}{t:Int}(hp:∀ s∈ss,i9 (ni s))(h2:ss.length<=2):(cW ss t).length<=162:=by
 have:=MO hp ss.length (eT _)
 have:=(yS n9 (oF ss t ss.length)).length_eq
 have:=List.length_filter_le (tQ ss t) (iD ss ss.length)
 rw[← yH] at this
 unfold cW
 omega
def qg(i:Nat)(l:List Du):Nat:=l.countP λd=>decide (d.1=(i:Int))
theorem T9{ss:List ck}{i:Nat}(q:Du->Bool):∀ n:Nat,qg i ((iD ss n).filter q)=if i<n then ((range (fY (cq ss i)).length).filter λ(j:Nat)=>q ((i:Int),(j:Int),(fY (cq ss i)).getD j default)).length else 0
 | 0=>by simp[iD,qg]
 | n+1=>by
  have e:iD ss (n+1)=iD ss n++(range (fY (cq ss n)).length).map λ(j:Nat)=>((n:Int),(j:Int),(fY (cq ss n)).getD j default):=by
   unfold iD;rw[lP,List.flatMap_append];simp
  have a:=T9 (ss:=ss) (i:=i) q n;unfold qg at a ⊢;rw[e,u5,List.countP_append,a,List.filter_map,List.countP_map];by_cases h:i=n
  .subst h;rw[ah ab,aj ab,gI,List.countP_eq_length.2]
   .rfl
   .simp_all
  .have z:List.countP ((λd:Du=>decide (d.1=(i:Int))) ∘ λj:Nat=>((n:Int),(j:Int),(fY (cq ss n)).getD j default)) ((range (fY (cq ss n)).length).filter (q ∘ λj:Nat=>((n:Int),(j:Int),(fY (cq ss n)).getD j default)))=0 :=
    List.countP_eq_zero.2 λj _=>by
     grind
   grind
theorem Lv(l:List Del){ss:List ck}{i:Nat}(hi:i<ss.length):(cq (ss.map (j5 l)) i).1=(cq ss i).1/\iZ (cq (ss.map (j5 l)) i)=iZ (cq ss i):=by
 have f:∀(l:List Del)(s:ck),(j5 l s).1=s.1/\(j5 l s).2.2=s.2.2:=by
  intro l
  induction l with
  | nil=>exact λs=>⟨rfl,rfl⟩
  | cons d l ih =>
   intro s;obtain⟨a,b⟩:=ih (lO s d);obtain⟨c,e⟩:=aZ0 s d;exact⟨a.trans c,b.trans e⟩
 have e:cq (ss.map (j5 l)) i=j5 l (cq ss i):=by
  unfold cq;rw[ct,ct,List.getElem?_map,cM hi];rfl
 rw[e]
 obtain⟨a,b⟩:=f l (cq ss i)
 exact⟨a,fj (λz:Int×CI.D×Int×sj.D=>z.1) b⟩
theorem af5(p:dY){d:Du}(hd:0<=d.1/\d.1<p.2.2.1.length){i:Nat}(hi:i<p.2.2.1.length) :
  (cq (fa p d).2.2.1 i).1=(cq p.2.2.1 i).1/\iZ (cq (fa p d).2.2.1 i)=iZ (cq p.2.2.1 i)+qg i [d]:=by
 obtain⟨b,c⟩:=Lv ((bh (iy p.1 (eI d))).drop p.2.1.toNat) hi
 have ul:=wP p (eI d)
 have eu:(d9 p (eI d)).2.2.1=p.2.2.1.map (j5 ((bh (iy p.1 (eI d))).drop p.2.1.toNat)):=rfl
 rw[← eu] at b c
 rw[show fa p d=mi (d9 p (eI d)) d from rfl]
 generalize d9 p (eI d)=u at *
 have a:∀ x:ck,x.1=(ic u d).1->iZ x=iZ (ic u d)+1->(cq (u.2.2.1.set d.1.toNat x) i).1=(cq p.2.2.1 i).1/\iZ (cq (u.2.2.1.set d.1.toNat x) i)=iZ (cq p.2.2.1 i)+qg i [d]:=by
  intro x x1 x2;unfold qg;rw[List.countP_singleton];by_cases e:d.1=(i:Int)
  .have f:d.1.toNat=i:=ab;rw[aj (fm e),f];have:cq (u.2.2.1.set i x) i=x:=lD ab;rw[this,x1,x2];unfold ic;rw[f];exact⟨b,by rw[show iZ (u.2.2.1.getD i default)=iZ (cq u.2.2.1 i) from rfl,c];rfl⟩
  .rw[ah (by rw[pD];exact e)];have:cq (u.2.2.1.set d.1.toNat x) i=cq u.2.2.1 i:=o5 ab;simp_all
 unfold mi
 split
 .exact a _ rfl rfl
 .exact a _ rfl rfl
theorem K3{i:Nat}:∀{l:List Du}{p:dY},i<p.2.2.1.length->(∀ d∈l,0<=d.1/\d.1<p.2.2.1.length) →
  (cq (l.foldl fa p).2.2.1 i).1=(cq p.2.2.1 i).1/\iZ (cq (l.foldl fa p).2.2.1 i)=iZ (cq p.2.2.1 i)+qg i l
 | [],p,hi,_=>⟨rfl,by simp[qg]⟩
 | d::l,p,hi,hd=>by
  obtain⟨a,b⟩:=af5 p (hd d fp) hi;have hl:=GB p d;obtain⟨c,e⟩:=K3 (l:=l) (p:=fa p d) (by rw[hl];exact hi) λx hx=>by rw[hl];exact hd x (fu _ hx)
  refine⟨c.trans a,?_⟩;rw[List.foldl_cons,e,b];have:qg i (d::l)=qg i [d]+qg i l:=by unfold qg;rw[List.countP_cons,List.countP_singleton,wF]
  omega
theorem as1{ss s1:List ck}{c t:Int}(hct:c<=t)(hl:s1.length=ss.length)(hp:∀ s∈ss,i9 (ni s))(h0:∀ i,i<ss.length->iZ (cq ss i)=0)
  (e1:∀ i,i<ss.length->ni (cq s1 i)=ni (cq ss i)) (es:∀ i,i<ss.length->iZ (cq s1 i)=qg i (cW ss c)) :
  cW ss t=cW ss c++cW s1 t∧∀ d∈cW s1 t,c<eI d:=by
 have eo:∀ i,i<ss.length->fY (cq s1 i)=fY (cq ss i):=λi hi=>by unfold fY;rw[e1 i hi]
 have ea:iD s1 s1.length=iD ss ss.length:=by
  rw[hl];unfold iD;rw[List.flatMap_def,List.flatMap_def];congr 1;refine List.map_congr_left λi hi=>?_;rw[eo i (List.mem_range.1 hi)]
 have may0:∀(u:Int){d:Du},d∈iD ss ss.length->tQ ss u d=decide (eI d<=u):=λu d hd=>by
  obtain⟨i,j,hi,hj,rfl⟩:=Gy hd;unfold tQ;show (decide (iZ (cq ss ((i:Int)).toNat)<=(j:Int))&&_)=_;rw[Int.toNat_natCast,h0 i hi,fm (Int.natCast_nonneg _),Bool.true_and]
 have may1:∀{d:Du},d∈iD ss ss.length->tQ s1 t d=(decide (eI d<=t) && !decide (eI d<=c)):=λ{d} hd=>by
  obtain⟨i,j,hi,hj,rfl⟩:=Gy hd;have hs:cq ss i∈ss:=by unfold cq;rw[ct,cM hi];exact List.getElem_mem _
  have so:=G4 (hp _ hs);have cnt:qg i (cW ss c)=((range (fY (cq ss i)).length).filter λj=>decide (((fY (cq ss i)).getD j default).2.2<=c)).length:=by
   have p1:=(yS n9 (oF ss c ss.length)).countP_eq λd=>decide (d.1=(i:Int));show List.countP _ (xP n9 (oF ss c ss.length))=_;rw[p1,yH];have:=T9 (ss:=ss) (i:=i) (tQ ss c) ss.length;rw[aj hi] at this;refine this.trans (fj length (List.filter_congr λk hk=>?_));exact may0 c (by
    unfold iD;exact List.mem_flatMap.2 ⟨i,List.mem_range.2 hi,List.mem_map.2 ⟨k,hk,rfl⟩⟩)
  have mono:=Rv (p:=λj=>decide (((fY (cq ss i)).getD j default).2.2<=c)) (n:=(fY (cq ss i)).length) λa b hab hb hq=>by
   have hq:=aX hq;refine fm ?_;by_cases e:a=b
   .rw[e];exact hq
   .have:=List.pairwise_iff_getElem.1 so.s a b (show a<(lV _).length by show a<(fY (cq ss i)).length;omega) hb ab;rw[ct,cM hb] at hq;rw[ct,cM (show a<(fY (cq ss i)).length by omega)];exact Int.le_trans this hq
  rw[← cnt] at mono;have m:=mono.2 j hj;unfold tQ;show (decide (iZ (cq s1 ((i:Int)).toNat)<=(j:Int))&&_)=_;rw[Int.toNat_natCast,es i hi,Bool.and_comm];congr 1;show decide _ = !decide (((fY (cq ss i)).getD j default).2.2<=c);rw[rI] at m;by_cases q:((fY (cq ss i)).getD j default).2.2<=c
  .rw[fm q,fh];· rfl
   have:=m.1 q;omega
  .rw[fh q,fm];· rfl
   have:¬ j<qg i (cW ss c):=λk=>q (m.2 k);omega
 have late:∀ d∈cW s1 t,c<eI d:=λd hd=>by
  obtain⟨h1,h2⟩:=FR.1 hd;rw[ea] at h1;rw[may1 h1,Bool.and_eq_true_iff,pF,sF] at h2;omega
 have early:∀ d∈cW ss c,eI d<=c:=λd hd=>by
  obtain⟨h1,h2⟩:=FR.1 hd;rw[may0 c h1] at h2;exact aX h2
 refine⟨?_,late⟩
 have perm:(cW ss t).Perm (cW ss c++cW s1 t):=by
  refine (yS n9 _).trans (List.Perm.trans ?_ (List.Perm.append (yS n9 _).symm (yS n9 _).symm));rw[yH,yH,yH,ea];have f1:(iD ss ss.length).filter (tQ ss c)=((iD ss ss.length).filter (tQ ss t)).filter λd=>decide (eI d<=c):=by
   rw[List.filter_filter];refine List.filter_congr λd hd=>?_;rw[may0 c hd,may0 t hd];by_cases q:eI d<=c
   .rw[fm q,fm (show eI d<=t by omega)];rfl
   .rw[fh q];rfl
  have f2:(iD ss ss.length).filter (tQ s1 t)=((iD ss ss.length).filter (tQ ss t)).filter λd => !decide (eI d<=c):=by
   rw[List.filter_filter];refine List.filter_congr λd hd=>?_;rw[may1 hd,may0 t hd,Bool.and_comm]
  rw[f1,f2];exact (List.filter_append_perm _ _).symm
 refine List.Perm.eq_of_pairwise (le:=λx y=>HE x y=true) (λx y hx hy q1 q2=>?_) (P0 ss t) ?_ perm
 .have hx:=(FR.1 hx).1;have hy:=(FR.1 (perm.mem_iff.2 hy)).1;rw[Fo] at q1 q2;exact US hx hy ab ab
 .refine List.pairwise_append.2 ⟨P0 ss c,P0 s1 t,λx hx y hy=>?_⟩;have:=early x hx;have:=late y hy;rw[Fo];omega
theorem PO.until_le{q c t:Int}{p:dY}(h:PO q p)(hc:bf p.1<=c)(ht:t<=c)(hc2:c<=1000):bf (d9 p t).1<=c:=by
 by_cases k:bf p.1<=t
 .show bf (iy p.1 t)<=c;rw[ER k ab,Ab];exact ht
 .show bf (iy p.1 t)<=c;rw[Fx ab];exact hc
theorem aI0(p:dY)(d:Du):bf (mi p d).1=bf p.1:=by unfold mi;split <;> rfl
theorem PO.steps_le{c:Int}{n:Nat}(hc:c<=1000):∀{l:List Du}{q:Int}{p:dY},PO q p->p.2.2.1.length=n->q+l.length<=1000000->bf p.1<=c->(∀ d∈l,(0<=d.1/\d.1<n)/\eI d<=c)->bf (l.foldl fa p).1<=c
 | [],q,p,h,hn,_,k,_=>k
 | d::l,q,p,h,hn,hq,k,hd=>by
  rw[dP] at hq;have b:=hd d fp;obtain⟨h1,-⟩:=h.step (d:=d) ab (by rw[hn];exact b.1) ab;exact PO.steps_le hc (l:=l) h1 ((GB p d).trans hn) ab (by show bf (mi _ d).1<=c;rw[aI0];exact h.until_le k b.2 hc) λx hx=>hd x (fu _ hx)
theorem PO.plans{q:Int}{p:dY}(h:PO q p):∀ s∈p.2.2.1,i9 (ni s):=λs hs=>(h.st s hs).pl
theorem PO.run{q t:Int}{p:dY}(h:PO q p)(hq:q<=1000)(h0:bf p.1<=t)(ht:t<=1000):PO (q+162) (o8 p t)/\bf (o8 p t).1=t:=by
 have hl:=Ik (t:=t) h.plans h.n2
 have hd:∀ d∈cW p.2.2.1 t,(0<=d.1/\d.1<p.2.2.1.length)/\eI d<=t:=λd hd=>⟨(B1 h.plans hd).1,(B1 h.plans hd).2.1⟩
 obtain⟨s1,s2⟩:=h.steps rfl (l:=cW p.2.2.1 t) ab λd k=>⟨(hd d k).1,by have:=(hd d k).2;omega⟩
 have s3:=h.steps_le ht rfl (l:=cW p.2.2.1 t) ab h0 hd
 have u:=(s1.until (t:=t) ht).1
 have un:bf (d9 ((cW p.2.2.1 t).foldl fa p) t).1=t:=by
  obtain⟨_,_,_,eu⟩:=s1.until_in s3 ht;rw[eu];exact Ab _ _
 have x:=u.exp
 rw[un] at x
 refine⟨⟨x.w.more ab (by have:=h.q0;omega),by have:=h.q0;omega,x.nw,x.rd,x.vs,x.n2,λs hs=>(x.st s hs).more ab⟩,un⟩
theorem ax0{q c t:Int}{p:dY}(h:PO q p)(hq:q<=1000)(hs:∀ s∈p.2.2.1,iZ s=0)(h0:bf p.1<=c)(hct:c<=t)(ht:t<=1000):o8 (o8 p c) t=o8 p t:=by
 have hl:=Ik (t:=c) h.plans h.n2
 have hd:∀ d∈cW p.2.2.1 c,(0<=d.1/\d.1<p.2.2.1.length)/\eI d<=c:=λd hd=>⟨(B1 h.plans hd).1,(B1 h.plans hd).2.1⟩
 have hq0:=h.q0
 obtain⟨s1,s2⟩:=h.steps rfl (l:=cW p.2.2.1 c) ab λd k=>⟨(hd d k).1,by have:=(hd d k).2;omega⟩
 have s3:=h.steps_le ab rfl (l:=cW p.2.2.1 c) ab h0 hd
 have st:∀ i,i<p.2.2.1.length->_:=λi hi=>K3 (i:=i) (l:=cW p.2.2.1 c) (p:=p) hi λd k=>(hd d k).1
 have r:=(h.run (t:=c) hq h0 ab).1
 have e2:∀ i,i<p.2.2.1.length->(cq (o8 p c).2.2.1 i).1=(cq p.2.2.1 i).1/\iZ (cq (o8 p c).2.2.1 i)=qg i (cW p.2.2.1 c):=λi hi=>by
  obtain⟨a,b⟩:=st i hi;have hi2:i<((cW p.2.2.1 c).foldl fa p).2.2.1.length:=by rw[s2];exact hi
  obtain⟨u1,u2⟩:=Lv ((bh (iy ((cW p.2.2.1 c).foldl fa p).1 c)).drop ((cW p.2.2.1 c).foldl fa p).2.1.toNat) hi2;have ex:∀{l:List ck},i<l.length->cq (l.map (gz c)) i=gz c (cq l i):=λ{l} k=>by
   unfold cq;rw[ct,ct,List.getElem?_map,cM k];rfl
  have e:cq (o8 p c).2.2.1 i=gz c (cq (d9 ((cW p.2.2.1 c).foldl fa p) c).2.2.1 i):=ex (by rw[wP,s2];exact hi);have hm:cq p.2.2.1 i∈p.2.2.1:=by unfold cq;rw[ct,cM hi];exact List.getElem_mem _
  rw[e];exact⟨u1.trans a,by
   show iZ (cq (d9 ((cW p.2.2.1 c).foldl fa p) c).2.2.1 i)=_;rw[show (d9 ((cW p.2.2.1 c).foldl fa p) c).2.2.1=((cW p.2.2.1 c).foldl fa p).2.2.1.map (j5 ((bh (iy ((cW p.2.2.1 c).foldl fa p).1 c)).drop ((cW p.2.2.1 c).foldl fa p).2.1.toNat)) from rfl,u2,b,hs _ hm];omega⟩
 have rl:(o8 p c).2.2.1.length=p.2.2.1.length:=(mg _).trans ((wP _ _).trans s2)
 obtain⟨k1,k2⟩:=as1 (t:=t) hct rl h.plans (λi hi=>by
  have hm:cq p.2.2.1 i∈p.2.2.1:=by unfold cq;rw[ct,cM hi];exact List.getElem_mem _
  exact hs _ hm) (λi hi=>fj (λx:nJ.D=>x.2.2.1) (e2 i hi).1) (λi hi=>(e2 i hi).2)
 have rp:=Ik (t:=t) r.plans r.n2
 have rd:∀ d∈cW (o8 p c).2.2.1 t,(0<=d.1/\d.1<p.2.2.1.length)/\eI d<=1000:=λd hd=>by
  obtain⟨a,b,-⟩:=B1 r.plans hd;rw[rl] at a;exact⟨a,ab⟩
 show gU t (d9 ((cW (o8 p c).2.2.1 t).foldl fa (gU c (d9 ((cW p.2.2.1 c).foldl fa p) c))) t)=gU t (d9 ((cW p.2.2.1 t).foldl fa p) t)
 rw[k1,ld]
 exact ae2 s1 s2 s3 hct ht ab rd λd hd=>by have:=k2 d hd;omega
def yI(r:Rt):Prop:=(r.2.1.length:Int)<=1099511627776
def EY(x:ar):Prop:=((aM x).length:Int)<=1000000/\okL (bL x)
def EE(s:NState):Prop:=((mE s).length:Int)<=1000000/\okL (cR s)
def Ef(c:bV):Prop:=yI (gE c)
def GN(c:sj.D):Prop:=c=oE c.2.2.1 c.2.2.2.1/\c.2.2.2.1.length<=1000∧∀ x∈c.2.2.2.1,x.length<=1000
def zn(s:ck):Prop:=(s.1.2.2.1.1.length<=1000/\s.1.2.2.2.1.length<=1000)/\jb s.2.1/\s.2.2.2.1.2.2.2.length<=1000/\GN s.2.2.2.2.2
def LH(p:dY):Prop:=vS p.1/\p.2.2.2=[]/\p.2.2.1.length<=1000∧∀ s∈p.2.2.1,zn s
abbrev LS:OT := .pair jY (.pair cI (.pair (.row 69 nI) (.dat (.sl xp))))
def bQ1:Ct:=⟨[.val (.sl z9)],[.own 78 z9],λd=>[(d.1.length:Int)<=1000],λd=>((d.1,()),())⟩
theorem aM2:
 ∀(a:List jh),ai (pg a)->ae a<=1000->jj (a.length=0) ([]=a) (bv ((0+a.length)*56)/\a=a):= by
  delta ae aq aI aQ bG pg bv ai jj aD fB
  rintro x ⟨⟨hl,-⟩,-⟩ h b hb
  refine ay (λh1=>?_) (λh1=>⟨by simp;omega,by simp⟩)
  have:=hb h1
  exact (BC this).symm
theorem a39:aB 166 bQ1.spec:=aF Tryz.func166 aC aS aM2
def am5:Ct:=⟨[.agg d8],[.agg d8],λd=>[yI d.1],λd=>((d.1,()),())⟩
theorem bL8:
 Jk:= by
 delta ae aq aI aQ cS cB aG cH ai aD Jk
 rintro a b l c-h
 exact⟨h,rfl⟩
theorem Vz:aB 169 am5.spec:=aF Tryz.func169 (am aC yi) aS bL8
def Qc:Ct:=⟨[.val (.sl d8),.fn 169 0],[.own 176 d8],λd=>[(d.1.length:Int)<=134217728,∀ x∈d.1,yI x],λd=>((d.1,()),())⟩
def aE1:bp Qc.ps->bI:=(λd=>{loops:=(bt 3 (λS=>{ι:=Int×(List Rt),qn:=eO,μ:=λi=>(d.1.length-i.1).toNat,inv:=λi=>0<=i.1/\i.1<=d.1.length/\i.2=d.1.take i.1.toNat,keep:=[1,8,9],slots:=λi=>[(5,.own 524288 4),(10,.int .i64 i.1)],names:=λi=>[(524288,.live (.row 176 d8 i.2))]}) bZ)})
theorem am0:
 ∀(a:List ci),cO a/\ai True->(mX a/\ ∀(b:ci),b∈a->yI b)->(∃(b:Int) (c:List Rt),ao b (b<=ae a) (c=take b.toNat a)/\a=a/\aA (ae a) (0=b) (ai (c=[])))/\ ∀(b:Int)(c:List Rt),ao b (b<=ae a) (c=take b.toNat a)->au (av b (ae a)) (bu b (ae a) (yI (af a b)) (yc c (af a b)/\ ∃(d:Int) (e:List Rt),ao d (d<=ae a) (e=take d.toNat a)/\aZ (ae a) d b/\a=a/\aA (ae a) (aY b d) (ai (c++[af a b]=e)))) (c=a):= by
  delta af ae ap aq aI aQ cO cS cB aA aZ cu ao bv aY ai aD bu av yc mX
  rintro l ⟨⟨hl,-⟩,-⟩⟨h1,h2⟩
  simp only[maxLen] at hl
  have h1:(l.length:Int)<=1000000000000:=ab
  refine⟨⟨0,[],⟨ab,ab,rfl⟩,aK⟩,?_⟩
  rintro j m ⟨j0,j1,rfl⟩
  refine bP (λhj=>?_) (λhj=>?_)
  .refine⟨j0,hj,(by first|exact h2 _ (cA j0 hj)|(have:=h2 _ (cA j0 hj);omega)),by simp only[dG,dP,List.length_nil];omega,j+1,_,⟨ab,ab,rfl⟩,ab,?_⟩
   (repeat refine fR ?_)
   exact⟨(oG j0 hj).symm,aN⟩
  .rw[fH ab]
theorem Up:aB 168 Qc.spec:=aF Tryz.func168 (am aC Vz) aE1 am0
def aI3:Ct:=⟨[.agg dK],[.agg dK],λd=>[EY d.1],λd=>((d.1,()),())⟩
theorem bj0:
 ∀(a:ar),ai (CT.wf dK a)->ae (aM a)<=1000000/\okL (bL a)->mR (ae a.1) (mX a.2.2.2.2.1) ((∀(b:ci),b∈a.2.2.2.2.1->yI b)/\a=a):= by
  delta ae ai mR mX
  rintro d-⟨h1,h2,h3⟩
  exact⟨h1,h2,h3,rfl⟩
theorem aB9:aB 94 aI3.spec:=aF Tryz.func94 (am (am aC S5) Up) aS bj0
def QI:Ct:=⟨[.val (.sl dK),.fn 94 0],[.own 117 dK],λd=>[(d.1.length:Int)<=1000000,∀ x∈d.1,EY x],λd=>((d.1,()),())⟩
def aH8:bp QI.ps->bI:=(λd=>{loops:=(bt 3 (λS=>{ι:=Int×(List ar),qn:=eO,μ:=λi=>(d.1.length-i.1).toNat,inv:=λi=>0<=i.1/\i.1<=d.1.length/\i.2=d.1.take i.1.toNat,keep:=[1,8,9],slots:=λi=>[(5,.own 524288 16),(10,.int .i64 i.1)],names:=λi=>[(524288,.live (.row 117 dK i.2))]}) bZ)})
theorem as8:
 ∀(a:List ar),kF a/\ai True->(ae a<=1000000/\ ∀(b:ar),b∈a->EY b)->(∃(b:Int) (c:List ar),ao b (b<=ae a) (c=take b.toNat a)/\a=a/\aA (ae a) (0=b) (ai (c=[])))/\ ∀(b:Int)(c:List ar),ao b (b<=ae a) (c=take b.toNat a)->au (av b (ae a)) (bu b (ae a) (EY (af a b)) (bv ((c.length+length [af a b])*152)/\ ∃(d:Int) (e:List ar),ao d (d<=ae a) (e=take d.toNat a)/\aZ (ae a) d b/\a=a/\aA (ae a) (aY b d) (ai (c++[af a b]=e)))) (c=a):= by
  delta af ae ap aq aI aQ kF cO cS cB bG aA aZ jt cu ao bv aY ai aD bu av
  rintro l ⟨⟨hl,-⟩,-⟩⟨h1,h2⟩
  simp only[maxLen] at hl
  have h1:(l.length:Int)<=1000000000000:=ab
  refine⟨⟨0,[],⟨ab,ab,rfl⟩,aK⟩,?_⟩
  rintro j m ⟨j0,j1,rfl⟩
  refine bP (λhj=>?_) (λhj=>?_)
  .refine⟨j0,hj,(by first|exact h2 _ (cA j0 hj)|(have:=h2 _ (cA j0 hj);omega)),by simp only[dG,dP,List.length_nil];omega,j+1,_,⟨ab,ab,rfl⟩,ab,?_⟩
   (repeat refine fR ?_)
   exact⟨(oG j0 hj).symm,aN⟩
  .rw[fH ab]
theorem ba1:aB 93 QI.spec:=aF Tryz.func93 (am aC aB9) aH8 as8
def aO5:Ct:=⟨[.agg kO],[.agg kO],λd=>[Ef d.1],λd=>((d.1,()),())⟩
theorem aw9:
 ∀(a:bV),ai (CT.wf kO a)->aG (gE a).2.1->yI a.2.2.2/\a=a:= by
  delta ae aG cH ai
  rintro d-h
  exact⟨h,rfl⟩
theorem bK0:aB 97 aO5.spec:=aF Tryz.func97 (am aC Vz) aS aw9
def TE:Ct:=⟨[.val (.sl kO),.fn 97 0],[.own 178 kO],λd=>[(d.1.length:Int)<=1000000,∀ x∈d.1,Ef x],λd=>((d.1,()),())⟩
def bI6:bp TE.ps->bI:=(λd=>{loops:=(bt 3 (λS=>{ι:=Int×(List bV),qn:=eO,μ:=λi=>(d.1.length-i.1).toNat,inv:=λi=>0<=i.1/\i.1<=d.1.length/\i.2=d.1.take i.1.toNat,keep:=[1,8,9],slots:=λi=>[(5,.own 524288 7),(10,.int .i64 i.1)],names:=λi=>[(524288,.live (.row 178 kO i.2))]}) bZ)})
theorem aC1:
 ∀(a:List bV),kC a/\ai True->(ae a<=1000000/\ ∀(b:bV),b∈a->Ef b)->(∃(b:Int) (c:List bV),ao b (b<=ae a) (c=take b.toNat a)/\a=a/\aA (ae a) (0=b) (ai (c=[])))/\ ∀(b:Int)(c:List bV),ao b (b<=ae a) (c=take b.toNat a)->au (av b (ae a)) (bu b (ae a) (Ef (af a b)) (bv ((c.length+length [af a b])*72)/\ ∃(d:Int) (e:List bV),ao d (d<=ae a) (e=take d.toNat a)/\aZ (ae a) d b/\a=a/\aA (ae a) (aY b d) (ai (c++[af a b]=e)))) (c=a):= by
  delta af ae ap aq aI aQ cS cB bG aA aZ cu ao bv aY ai kC aD bu av
  rintro l ⟨⟨hl,-⟩,-⟩⟨h1,h2⟩
  simp only[maxLen] at hl
  have h1:(l.length:Int)<=1000000000000:=ab
  refine⟨⟨0,[],⟨ab,ab,rfl⟩,aK⟩,?_⟩
  rintro j m ⟨j0,j1,rfl⟩
  refine bP (λhj=>?_) (λhj=>?_)
  .refine⟨j0,hj,(by first|exact h2 _ (cA j0 hj)|(have:=h2 _ (cA j0 hj);omega)),by simp only[dG,dP,List.length_nil];omega,j+1,_,⟨ab,ab,rfl⟩,ab,?_⟩
   (repeat refine fR ?_)
   exact⟨(oG j0 hj).symm,aN⟩
  .rw[fH ab]
theorem az6:aB 96 TE.spec:=aF Tryz.func96 (am aC bK0) bI6 aC1
def bR2:Ct:=⟨[.agg pi],[.agg pi],λd=>[EE d.1],λd=>((d.1,()),())⟩
theorem Zv:
 ∀(a:List ci)(b:Int)(c:ac)(d e f:Int),ai (gM a b c d e f)->bY (mE (a,b,c,(d,e),f))/\okL (cR (a,b,c,(d,e),f))->mX a/\(∀(g:ci),g∈a->yI g)/\aG c/\(a,b,c,(d,e),f)=(a,b,c,(d,e),f):= by
  delta ae aq aI aQ cO cS cB aG cH gM bY ai aD mX
  rintro x a b c e f-⟨h1,h2,h3⟩
  have h1:(b.length:Int)<=1000000:=h1
  exact⟨h2,h3,ab,rfl⟩
theorem bl0:aB 99 bR2.spec:=aF Tryz.func99 (am (am aC Up) yi) aS Zv
def Wx:Ct:=⟨[.val (.sl pi),.fn 99 0],[.own 184 pi],λd=>[(d.1.length:Int)<=1000000,∀ x∈d.1,EE x],λd=>((d.1,()),())⟩
def ap3:bp Wx.ps->bI:=(λd=>{loops:=(bt 3 (λS=>{ι:=Int×(List NState),qn:=eO,μ:=λi=>(d.1.length-i.1).toNat,inv:=λi=>0<=i.1/\i.1<=d.1.length/\i.2=d.1.take i.1.toNat,keep:=[1,8,9],slots:=λi=>[(5,.own 524288 6),(10,.int .i64 i.1)],names:=λi=>[(524288,.live (.row 184 pi i.2))]}) bZ)})
theorem av5:
 ∀(a:List NState),wM a/\ai True->(ae a<=1000000/\ ∀(b:NState),b∈a->EE b)->(∃(b:Int) (c:List NState),ao b (b<=ae a) (c=take b.toNat a)/\a=a/\aA (ae a) (0=b) (ai (c=[])))/\ ∀(b:Int)(c:List NState),ao b (b<=ae a) (c=take b.toNat a)->au (av b (ae a)) (bu b (ae a) (EE (af a b)) (bv ((c.length+length [af a b])*80)/\ ∃(d:Int) (e:List NState),ao d (d<=ae a) (e=take d.toNat a)/\aZ (ae a) d b/\a=a/\aA (ae a) (aY b d) (ai (c++[af a b]=e)))) (c=a):= by
  delta af ae ap aq aI aQ cO cS cB aA aZ cu ao wM bv gM aY ai aD bu av
  rintro l ⟨⟨hl,-⟩,-⟩⟨h1,h2⟩
  simp only[maxLen] at hl
  have h1:(l.length:Int)<=1000000000000:=ab
  refine⟨⟨0,[],⟨ab,ab,rfl⟩,aK⟩,?_⟩
  rintro j m ⟨j0,j1,rfl⟩
  refine bP (λhj=>?_) (λhj=>?_)
  .refine⟨j0,hj,(by first|exact h2 _ (cA j0 hj)|(have:=h2 _ (cA j0 hj);omega)),by simp only[dG,dP,List.length_nil];omega,j+1,_,⟨ab,ab,rfl⟩,ab,?_⟩
   (repeat refine fR ?_)
   exact⟨(oG j0 hj).symm,aN⟩
  .rw[fH ab]
theorem aR0:aB 98 Wx.spec:=aF Tryz.func98 (am aC bl0) ap3 av5
def ai2:Ct:=⟨[.agg mP],[.agg mP],λd=>[(d.1.2.2.2.2.2.length:Int)<=1000000],λd=>((d.1,()),())⟩
theorem aj6:
 ∀(a b c d e:Int)(f:ac),ai (oZ a b c d e f)->bY f->aG f/\(a,b,c,d,e,f)=(a,b,c,d,e,f):= by
  delta ae aq aI aV aG bG cH bY ai aD oZ
  rintro a b c e f l-h
  exact⟨ab,rfl⟩
theorem bk8:aB 102 ai2.spec:=aF Tryz.func102 (am aC na) aS aj6
def Xy:Ct:=⟨[.val (.sl mP),.fn 102 0],[.own 200 mP],λd=>[(d.1.length:Int)<=1000000,∀ x∈d.1,(x.2.2.2.2.2.length:Int)<=1000000],λd=>((d.1,()),())⟩
def bJ9:bp Xy.ps->bI:=(λd=>{loops:=(bt 3 (λS=>{ι:=Int×(List Flight),qn:=eO,μ:=λi=>(d.1.length-i.1).toNat,inv:=λi=>0<=i.1/\i.1<=d.1.length/\i.2=d.1.take i.1.toNat,keep:=[1,8,9],slots:=λi=>[(5,.own 524288 6),(10,.int .i64 i.1)],names:=λi=>[(524288,.live (.row 200 mP i.2))]}) bZ)})
theorem ag1:
 ∀(a:List Flight),tK a/\ai True->(ae a<=1000000/\ ∀(b:Flight),b∈a->bY b.2.2.2.2.2)->(∃(b:Int) (c:List Flight),ao b (b<=ae a) (c=take b.toNat a)/\a=a/\aA (ae a) (0=b) (ai (c=[])))/\ ∀(b:Int)(c:List Flight),ao b (b<=ae a) (c=take b.toNat a)->au (av b (ae a)) (bu b (ae a) (bY (af a b).2.2.2.2.2) (bv ((c.length+length [af a b])*64)/\ ∃(d:Int) (e:List Flight),ao d (d<=ae a) (e=take d.toNat a)/\aZ (ae a) d b/\a=a/\aA (ae a) (aY b d) (ai (c++[af a b]=e)))) (c=a):= by
  delta af ae ap aq aI aV bG aA aZ cu ao tK bv bY aY ai aD bu av oZ
  rintro l ⟨⟨hl,-⟩,-⟩⟨h1,h2⟩
  simp only[maxLen] at hl
  have h1:(l.length:Int)<=1000000000000:=ab
  refine⟨⟨0,[],⟨ab,ab,rfl⟩,aK⟩,?_⟩
  rintro j m ⟨j0,j1,rfl⟩
  refine bP (λhj=>?_) (λhj=>?_)
  .refine⟨j0,hj,(by first|exact h2 _ (cA j0 hj)|(have:=h2 _ (cA j0 hj);omega)),by simp only[dG,dP,List.length_nil];omega,j+1,_,⟨ab,ab,rfl⟩,ab,?_⟩
   (repeat refine fR ?_)
   exact⟨(oG j0 hj).symm,aN⟩
  .rw[fH ab]
theorem aA6:aB 101 Xy.spec:=aF Tryz.func101 (am aC bk8) bJ9 ag1
def bi4:Ct:=⟨[.agg tf],[.agg tf],λd=>[(d.1.2.2.length:Int)<=1000000],λd=>((d.1,()),())⟩
theorem an6:
 ∀(a b:Int)(c:ac),ai (aq a/\aq b/\aV c)->bY c->aG c/\(a,b,c)=(a,b,c):= by
  delta ae aq aI aV aG cH bY ai aD
  rintro a b l-h
  exact⟨ab,rfl⟩
theorem bD4:aB 104 bi4.spec:=aF Tryz.func104 (am aC na) aS an6
def TP:Ct:=⟨[.val (.sl tf),.fn 104 0],[.own 159 tf],λd=>[(d.1.length:Int)<=1000000000000,∀ x∈d.1,(x.2.2.length:Int)<=1000000],λd=>((d.1,()),())⟩
def ah6:bp TP.ps->bI:=(λd=>{loops:=(bt 3 (λS=>{ι:=Int×(List Del),qn:=eO,μ:=λi=>(d.1.length-i.1).toNat,inv:=λi=>0<=i.1/\i.1<=d.1.length/\i.2=d.1.take i.1.toNat,keep:=[1,8,9],slots:=λi=>[(5,.own 524288 3),(10,.int .i64 i.1)],names:=λi=>[(524288,.live (.row 159 tf i.2))]}) bZ)})
theorem aJ9:
 ∀(a:List gJ),qm a/\ai True->(j6 (ae a)/\ ∀(b:gJ),b∈a->bY b.2.2)->(∃(b:Int) (c:List Go.RS.Del),ao b (b<=ae a) (c=take b.toNat a)/\a=a/\aA (ae a) (0=b) (ai (c=[])))/\ ∀(b:Int)(c:List Go.RS.Del),ao b (b<=ae a) (c=take b.toNat a)->au (av b (ae a)) (bu b (ae a) (bY (af a b).2.2) (bv ((c.length+length [af a b])*40)/\ ∃(d:Int) (e:List Go.RS.Del),ao d (d<=ae a) (e=take d.toNat a)/\aZ (ae a) d b/\a=a/\aA (ae a) (aY b d) (ai (c++[af a b]=e)))) (c=a):= by
  delta af ae ap aq aI aV aA aZ cu ao bv qm bY aY ai aD bu j6 av
  rintro l ⟨⟨hl,-⟩,-⟩⟨h1,h2⟩
  simp only[maxLen] at hl
  have h1:(l.length:Int)<=1000000000000:=ab
  refine⟨⟨0,[],⟨ab,ab,rfl⟩,aK⟩,?_⟩
  rintro j m ⟨j0,j1,rfl⟩
  refine bP (λhj=>?_) (λhj=>?_)
  .refine⟨j0,hj,(by first|exact h2 _ (cA j0 hj)|(have:=h2 _ (cA j0 hj);omega)),by simp only[dG,dP,List.length_nil];omega,j+1,_,⟨ab,ab,rfl⟩,ab,?_⟩
   (repeat refine fR ?_)
   exact⟨(oG j0 hj).symm,aN⟩
  .rw[fH ab]
theorem a59:aB 103 TP.spec:=aF Tryz.func103 (am aC bD4) ah6 aJ9
def aj9:Ct:=⟨[.agg jY],[.agg jY],λd=>[vS d.1],λd=>((d.1,()),())⟩
theorem aP8:
 ∀(a:aU8),ai (CT.wf jY a)->Jt a->mR (ae a.1.1) (∀(b:ar),b∈a.1.1->EY b) (mR (ae a.1.2.1) (ae a.1.2.2<=1000000) ((∀(b:bV),b∈a.1.2.2->Ef b)/\mR (ae a.2.2.2.2.1) (∀(b:NState),b∈a.2.2.2.2.1->EE b) (aG a.2.2.2.2.2.1/\mR (ae a.2.2.2.2.2.2.1) (∀(b:Flight),b∈a.2.2.2.2.2.2.1->bY b.2.2.2.2.2) (j6 (ae a.2.2.2.2.2.2.2.1)/\(∀(b:gJ),b∈a.2.2.2.2.2.2.2.1->bY b.2.2)/\j6 (ae a.2.2.2.2.2.2.2.2)/\a=a)))):= by
  delta ae aG cH bY Jt ai j6 mR zl
  rintro d-⟨⟨n1,n2,n3,n4,n5⟩,h2,h3,h4,h5,h6,h7,h8,h9⟩
  have h3:(d.2.2.2.2.2.1.length:Int)<=1000000:=h3
  exact⟨n1,n4,n2,n3,n5,h2,h7,ab,h4,h8,h5,h9,h6,rfl⟩
theorem a68:aB 40 aj9.spec:=aF Tryz.func40 (am (am (am (am (am (am (am (am aC ba1) Q1) az6) aR0) yi) aA6) a59) QX) aS aP8
def Wb:Ct:=⟨[.val (.sl (.sl bq)),.fn 73 0],[.own 22 (.sl bq)],λd=>[d.1.length<=1000,∀ x∈d.1,x.length<=1000],λd=>((d.1,()),())⟩
def YE:bp Wb.ps->bI:=(λd=>{loops:=(bt 3 (λS=>{ι:=Int×bU8,qn:=eO,μ:=λi=>(d.1.length-i.1).toNat,inv:=λi=>0<=i.1/\i.1<=d.1.length/\i.2=d.1.take i.1.toNat,keep:=[1,8,9],slots:=λi=>[(5,.own 524288 1),(10,.int .i64 i.1)],names:=λi=>[(524288,.live (.row 22 (.sl bq) i.2))]}) bZ)})
def DD(a:bU8):=∀(b:ac),b∈a->b.length<=1000
theorem bL0:
 ∀(a:bU8),DW a/\ai True->a.length<=1000/\DD a->(∃(b:Int) (c:bU8),ao b (b<=ae a) (c=take b.toNat a)/\a=a/\aA (ae a) (0=b) (ai (c=[])))/\ ∀(b:Int)(c:bU8),ao b (b<=ae a) (c=take b.toNat a)->au (av b (ae a)) (bu b (ae a) (aG (af a b)) (bv ((c.length+length [af a b])*24)/\ ∃(d:Int) (e:bU8),ao d (d<=ae a) (e=take d.toNat a)/\aZ (ae a) d b/\a=a/\aA (ae a) (aY b d) (ai (c++[af a b]=e)))) (c=a):= by
  delta af ae ap aV aG cH aA aZ cu ao bv aY ai aD bu av DD DW
  rintro l ⟨⟨hl,-⟩,-⟩⟨h1,h2⟩
  simp only[maxLen] at hl
  have h1:(l.length:Int)<=1000000000000:=ab
  refine⟨⟨0,[],⟨ab,ab,rfl⟩,aK⟩,?_⟩
  rintro j m ⟨j0,j1,rfl⟩
  refine bP (λhj=>?_) (λhj=>?_)
  .refine⟨j0,hj,(by first|exact h2 _ (cA j0 hj)|(have:=h2 _ (cA j0 hj);omega)),by simp only[dG,dP,List.length_nil];omega,j+1,_,⟨ab,ab,rfl⟩,ab,?_⟩
   (repeat refine fR ?_)
   exact⟨(oG j0 hj).symm,aN⟩
  .rw[fH ab]
theorem as3:aB 170 Wb.spec:=aF Tryz.func170 (am aC na) YE bL0
def ab0:Go.SX.Spec:=dead
theorem a25:aB 172 ab0:=by
 exact Im
def S4:Ct:=⟨[.val (.sl Cm),.fn 172 0],[.own 299 Cm],λd=>[d.1=[]],λd=>(([],()),())⟩
def a03:bp S4.ps->bI:=(λd=>{loops:=(bt 3 (λS=>{ι:=Unit,inv:=λi=>True,keep:=[1,5,8,9,10],slots:=λi=>[]}) bZ)})
theorem a76:
 ∀(a:List bU0),(a.length<=maxLen/\ ∀(b:bU0),b∈a->aq b.1/\aV b.2)/\ai True->a=[]->t5 (a=a/\jC (ae a) 0) (au (av 0 (ae a)) (bu 0 (ae a) False False) (([]:List bU0)=([]:List bU0))):= by
  delta ae aq aI aV aA ao ai t5 aD bu av jC
  rintro x-rfl
  exact⟨⟨(),aN,aK⟩,λ_ _=>rfl⟩
theorem a81:aB 171 S4.spec:=aF Tryz.func171 (am aC a25) a03 a76
def aC8:Go.SX.Spec:=dead
theorem a24:aB 174 aC8:=by
 exact Im
def SH:Ct:=⟨[.val (.sl vY),.fn 174 0],[.own 303 vY],λd=>[d.1=[]],λd=>(([],()),())⟩
def bR8:bp SH.ps->bI:=(λd=>{loops:=(bt 3 (λS=>{ι:=Unit,inv:=λi=>True,keep:=[1,5,8,9,10],slots:=λi=>[]}) bZ)})
theorem aW3:
 ∀(a:List gJ),qm a/\ai True->a=[]->t5 (a=a/\jC (ae a) 0) (au (av 0 (ae a)) (bu 0 (ae a) False False) Bx):= by
  delta ae aq aI aV aA ao qm ai t5 aD bu av jC Bx
  rintro x-rfl
  exact⟨⟨(),aN,aK⟩,λ_ _=>rfl⟩
theorem bI3:aB 173 SH.spec:=aF Tryz.func173 (am aC a24) bR8 aW3
def Yo:Go.SX.Spec:=dead
theorem aN8:aB 44 Yo:=by
 exact Im
def QZ:Ct:=⟨[.val (.sl xp),.fn 44 0],[.own 153 xp],λd=>[d.1=[]],λd=>(([],()),())⟩
def ad9:bp QZ.ps->bI:=(λd=>{loops:=(bt 3 (λS=>{ι:=Unit,inv:=λi=>True,keep:=[1,5,8,9,10],slots:=λi=>[]}) bZ)})
def BM(a:List ry):=a.length<=maxLen/\ ∀(b:ry),b∈a->aq b.1/\Bl b.2.1/\b.2.2.length<=maxLen/\ ∀(c:Int×Int×Int×List kG),c∈b.2.2->bG c.1 c.2.1 (aq c.2.2.1) (Bl c.2.2.2)
theorem ag9:
 ∀(a:List ry),BM a/\ai True->a=[]->t5 (a=a/\jC (ae a) 0) (au (av 0 (ae a)) (bu 0 (ae a) False False) (([]:List ry)=([]:List ry))):= by
  delta ae aq aI aQ Bl bG aA ao BM ai t5 aD bu av jC
  rintro x-rfl
  exact⟨⟨(),aN,aK⟩,λ_ _=>rfl⟩
theorem al9:aB 43 QZ.spec:=aF Tryz.func43 (am aC aN8) ad9 ag9
def ae0:Ct:=⟨[.agg sj],[.agg sj],λd=>[GN d.1],λd=>((d.1,()),())⟩
theorem bO1:
 ∀(a:Xb),ai (CT.wf sj a)->a=oE a.2.2.1 a.2.2.2.1/\a.2.2.2.1.length<=1000/\DD a.2.2.2.1->a.2.2.2.1.length<=1000/\DD a.2.2.2.1/\a.2.2.2.2.2.1.length<=1000/\DD a.2.2.2.2.2.1/\a.2.2.2.2.2.2.1=[]/\a.2.2.2.2.2.2.2.1=[]/\a.2.2.2.2.2.2.2.2=[]/\(a.1,a.2.1,a.2.2.1,a.2.2.2.1,a.2.2.2.2.1,a.2.2.2.2.2.1,yz)=a:= by
  delta ai DD yz
  rintro⟨a,b,n,l,m,g,e,u,v⟩-⟨h1,h2,h3⟩
  simp only[oE,cC] at h1
  obtain⟨rfl,rfl,-,-,rfl,rfl,rfl,rfl,rfl⟩:=h1
  exact⟨h2,h3,Nat.zero_le _,λx hx=>(by cases hx),rfl,rfl,rfl,rfl⟩
theorem bq8:aB 106 ae0.spec:=aF Tryz.func106 (am (am (am aC as3) a81) bI3) aS bO1
def aE0:Ct:=⟨[.agg nJ],[.agg nJ],λd=>[d.1.2.2.1.1.length<=1000,d.1.2.2.2.1.length<=1000],λd=>((d.1,()),())⟩
theorem aG6:
 ∀(a:ie),ai (CT.wf nJ a)->a.2.2.1.1.length<=1000/\a.2.2.2.1.length<=1000->ae a.2.2.1.1<=1000/\aG a.2.2.2.1/\a=a:= by
  delta ae aG cH ai
  rintro d-⟨h1,h2⟩
  exact⟨ab,ab,rfl⟩
theorem WB:aB 90 aE0.spec:=aF Tryz.func90 (am (am aC a39) na) aS aG6
def YY:Ct:=⟨[.agg nI],[.agg nI],λd=>[zn d.1],λd=>((d.1,()),())⟩
theorem ar2:
 ∀(a:ck),ai (CT.wf nI a)->(a.1.2.2.1.1.length<=1000/\a.1.2.2.2.1.length<=1000)/\jb a.2.1/\a.2.2.2.1.2.2.2.length<=1000/\GN a.2.2.2.2.2->a.1.2.2.1.1.length<=1000/\a.1.2.2.2.1.length<=1000/\GN a.2.2.2.2.2/\ae a.2.1.2.2.2.2.2.1<=100000/\ae a.2.1.2.2.2.2.2.2<=100000/\aG a.2.2.2.1.2.2.2/\a=a:= by
  delta ae aG cH ai
  rintro d-⟨⟨h1,h2⟩,⟨h3,h4⟩,h5,h6⟩
  exact⟨h1,h2,h6,h3,h4,ab,rfl⟩
theorem bQ3:aB 42 YY.spec:=aF Tryz.func42 (am (am (am (am (am aC WB) bq8) Xr) Rp) na) aS ar2
def R0:Ct:=⟨[.val (.sl nI),.fn 42 0],[.own 69 nI],λd=>[d.1.length<=1000,∀ x∈d.1,zn x],λd=>((d.1,()),())⟩
def am1:bp R0.ps->bI:=(λd=>{loops:=(bt 3 (λS=>{ι:=Int×(List ck),qn:=eO,μ:=λi=>(d.1.length-i.1).toNat,inv:=λi=>0<=i.1/\i.1<=d.1.length/\i.2=d.1.take i.1.toNat,keep:=[1,8,9],slots:=λi=>[(5,.own 524288 30),(10,.int .i64 i.1)],names:=λi=>[(524288,.live (.row 69 nI i.2))]}) bZ)})
def DH(a:bU5):=a.length<=maxLen/\ ∀(b:ck),b∈a->CT.wf nI b
theorem aJ2:
 ∀(a:bU5),DH a/\ai True->(a.length<=1000/\ ∀(b:ck),b∈a->zn b)->(∃(b:Int) (c:List ck),ao b (b<=ae a) (c=take b.toNat a)/\a=a/\aA (ae a) (0=b) (ai (c=[])))/\ ∀(b:Int)(c:List ck),ao b (b<=ae a) (c=take b.toNat a)->au (av b (ae a)) (bu b (ae a) (zn (af a b)) (bv ((c.length+length [af a b])*400)/\ ∃(d:Int) (e:List ck),ao d (d<=ae a) (e=take d.toNat a)/\aZ (ae a) d b/\a=a/\aA (ae a) (aY b d) (ai (c++[af a b]=e)))) (c=a):= by
  delta af ae ap aA aZ cu ao bv aY ai bu av DH
  rintro l ⟨⟨hl,-⟩,-⟩⟨h1,h2⟩
  simp only[maxLen] at hl
  have h1:(l.length:Int)<=1000000000000:=ab
  refine⟨⟨0,[],⟨ab,ab,rfl⟩,aK⟩,?_⟩
  rintro j m ⟨j0,j1,rfl⟩
  refine bP (λhj=>?_) (λhj=>?_)
  .refine⟨j0,hj,(by first|exact h2 _ (cA j0 hj)|(have:=h2 _ (cA j0 hj);omega)),by simp only[dG,dP,List.length_nil];omega,j+1,_,⟨ab,ab,rfl⟩,ab,?_⟩
   (repeat refine fR ?_)
   exact⟨(oG j0 hj).symm,aN⟩
  .rw[fH ab]
theorem bd5:aB 41 R0.spec:=aF Tryz.func41 (am aC bQ3) am1 aJ2
def bE0:Ct:=⟨[.agg vq],[.agg LS],λd=>[LH d.1],λd=>((d.1,()),())⟩
theorem bk9:
 ∀(a:aU8×Int×List bJ4×List (Int×List bT0×List (Int×Int×Int×List
 bT0))),ai (CT.wf vq a)->(vS a.1/\a.2.2.2=[]/\a.2.2.1.length<=1000/\ ∀(b:ck),b∈a.2.2.1->zn b)->vS a.1/\a.2.2.1.length<=1000/\(∀(b:ck),b∈a.2.2.1->zn b)/\a.2.2.2=[]/\(a.1,a.2.1,a.2.2.1,[])=a:= by
  delta ai
  rintro d-⟨h1,h2,h3,h4⟩
  exact⟨h1,h3,h4,h2,by rw[← h2]⟩
theorem ZD:aB 15 bE0.spec:=aF Tryz.func15 (am (am (am aC a68) bd5) al9) aS bk9
end Go.RS
namespace Go.SX
open Go.Proofs Go.Shelf Go.RowKit Go.Lib Go.Sort
def CT.ints:CT->Bool
 | .int _=>true
 | .pair a b=>a.ints&&b.ints
 | _=>false
def qp:(u:CT)->u.D->List Value
 | .int k,n=>[.int k n]
 | .pair a b,d=>qp a d.1++qp b d.2
 | .bool,_=>[]
 | .str,_=>[]
 | .sl _,_=>[]
theorem JS:∀{u:CT}(d:u.D),u.ints=true->(qp u d).length=u.size
 | .int k,n,_=>rfl
 | .pair a b,d,h=>by
  have h:=Bool.and_eq_true_iff.1 h;show (qp a d.1++qp b d.2).length=a.size+b.size;rw[cL,JS d.1 h.1,JS d.2 h.2]
theorem Pc:∀{u:CT}(d:u.D),∀ v∈qp u d,v.oneCell'=true
 | .int k,n,v,h=>by rw[nz.1 h];rfl
 | .pair a b,d,v,h=>(fC.1 h).elim (Pc d.1 v) (Pc d.2 v)
theorem E4{A:Nat->Prop}{w:World}:∀{u:CT}{cv:Nat->Option Value}{o:Nat}{d:u.D},u.ints=true->(Rd A w u cv o d↔u.wf d∧∀ j,j<u.size->cv (o+j)=(qp u d)[j]?)
 | .int k,cv,o,n,_=>by
  show (cv o=some (.int k n)/\k.has n)↔(k.has n∧∀ j,j<1->cv (o+j)=[Value.int k n][j]?);grind
 | .pair a b,cv,o,d,h=>by
  have h:=Bool.and_eq_true_iff.1 h;have e1:=E4 (A:=A) (w:=w) (cv:=cv) (o:=o) (d:=d.1) h.1;have e2:=E4 (A:=A) (w:=w) (cv:=cv) (o:=o+a.size) (d:=d.2) h.2;have hl:=JS d.1 h.1;show (Rd A w a cv o d.1/\Rd A w b cv (o+a.size) d.2)↔((a.wf d.1/\b.wf d.2)∧∀ j,j<a.size+b.size->cv (o+j)=(qp a d.1++qp b d.2)[j]?);rw[e1,e2];constructor
  .grind
  .rintro⟨⟨h1,h3⟩,h4⟩;refine⟨⟨h1,λj hj=>?_⟩,h3,λj hj=>?_⟩
   .grind
   .rw[iz,h4 (a.size+j) ab,nD ab,hl];congr 1;omega
theorem Ji{A:Nat->Prop}{env:bj}{w:World}:∀{u:CT}{d:u.D},u.ints=true->u.wf d->aO A env w (cQ u d) (qp u d)
 | .int k,n,_,hw=>by simp only[cQ,qp,aO,az];exact⟨_,_,rfl,⟨rfl,hw⟩,rfl⟩
 | .pair a b,d,h,hw=>by
  have h:=Bool.and_eq_true_iff.1 h;exact su (Ji h.1 hw.1) (Ji h.2 hw.2)
 | .bool,_,h,_=>by cases h
 | .str,_,h,_=>by cases h
 | .sl _,_,h,_=>by cases h
abbrev If(u:CT):qY:=[(true,u),(true,u)]
def Ff(u:CT)(cf:u.D->u.D->Int):Ct:=⟨mV (If u),[.val (.int .i64)],λ_=>[],λd=>((cf d.1 d.2.1,()),())⟩
def JR(u:CT)(E:TypeId)(f:FuncId)(cf:u.D->u.D->Int)(srt:List u.D->List u.D):Spec:=λbase svs=>match svs with
 | [.own n sz,.fn g []]=>match Nat.beq g f with
  | true => .ask n fun
   | .live (.row E' u' xs)=>match Nat.beq E' E,Nat.beq sz u.size,iK u' u xs with
    | true,true,some ys => .ret (.det [(ys.length:Int)<=1000000,∀ x∈ys,∀ y∈ys,¬ cf x y<0→¬ cf y x<0->x=y] (.tup []) [(n,.live (.row E u (srt ys)))])
    | _,_,_ => .fail
   | _ => .fail
  | _ => .fail
 | _ => .fail
theorem bz4{W w':World}(h1:w'.os=W.os)(h2:w'.tape=W.tape)(h3:w'.output=W.output)(h4:W.drawn<=w'.drawn)(h5:W.heap.size<=w'.heap.size)(h6:∀ k,k<W.heap.size->w'.heap[k]? = W.heap[k]?):∃ q os',w'=grow (W.drewN q) os':=by
 refine⟨w'.drawn-W.drawn,w'.heap.extract W.heap.size w'.heap.size,?_⟩
 have eh:w'.heap=W.heap++w'.heap.extract W.heap.size w'.heap.size:=by
  apply Array.ext_getElem?;intro i;by_cases h:i<W.heap.size
  .rw[Array.getElem?_append_left h,h6 i h]
  .rw[Array.getElem?_append_right ab,Array.getElem?_extract];split
   .congr 1;omega
   .rw[Array.getElem?_eq_none ab]
 obtain⟨a,b,c,e,f⟩:=w'
 obtain⟨a0,b0,c0,e0,f0⟩:=W
 simp only at h1 h2 h3 h4 eh
 subst h1 h2 h3
 unfold grow World.drewN
 simp only[World.mk.injEq,iC,true_and]
 exact⟨eh,ab⟩
section
variable {P:Program} {G:sN} {f:FuncId} {u:CT} {cf:u.D->u.D->Int}
theorem aw3(hu:u.ints=true)(hc:m9 P G f (Ff u cf).spec){x y:u.D}(hx:u.wf x)(hy:u.wf y){A:Nat->Prop}{W:World}(hA:∀ b,A b->b<W.heap.size)(hg:∀ g z,G g=some z->A g/\Rd A W z.1 (λo=>W.cell? ⟨g,o,none⟩) 0 z.2) :
  Calls P f #[.agg (qp u x).toArray,.agg (qp u y).toArray] W λe w'=>e = .returned (.int .i64 (cf x y))∧∃ q os',w'=grow (W.drewN q) os':=by
 have m:Mod W ⟨λ_=>False,A,G⟩ A (λ_=>.un) (λ_=>.un) W :=
  ⟨rfl,rfl,rfl,eT _,eT _,λ_ _ _=>rfl,hA,λ_=>rfl,λ_ _ _ _ h=>(by cases h),λ_ _ _ _ _ _ _ h=>(by cases h),λb hb=>.inl hb,hg⟩
 have hrun:((Ff u cf).spec 0 (gV (mV (If u)) (x,y,()) 0 0)).run (λ_=>.un)=some (Dl.det [] (.int .i64 (cf x y)) [],[]):=by
  unfold Ct.spec;refine Q.bind_run0 _ _ _ _ (Hg (If u) (x,y,()) rfl) ?_;rfl
 have hd:aO A (λ_=>.un) W (gV (mV (If u)) (x,y,()) 0 0) [.agg (qp u x).toArray,.agg (qp u y).toArray]:=by
  simp only[mV,gV,aO,az];exact⟨_,_,rfl,⟨_,rfl,by simpa using Ji hu hx⟩,_,_,rfl,⟨_,rfl,by simpa using Ji hu hy⟩,rfl⟩
 refine (hc 0 _ (λ_=>.un) _ _ hrun trivial W _ A _ W _ rfl m hd).mono ?_
 rintro e w' ⟨v,rfl,z,A',env',_,hm,_,hden⟩
 simp only[Dl.val,az] at hden
 exact⟨by rw[hden.1],bz4 hm.os hm.tape hm.output hm.dr hm.size λk hk=>hm.fr k hk λh=>h⟩
theorem Uh{w:World}{b β q:Nat}{F cur:Array Value}{os:Array Obj}{E:TypeId}(hh:w.heap[b]? = some (.cells cur E (0,0))):(grow (putRow id (Go.Sort.ahead w q) b β F) os).heap[b]? = some (.cells (putCells id β F cur) E (0,0)):=by
 have hb:=(Array.getElem?_eq_some_iff.1 hh).1
 unfold grow putRow mapBlock Go.Sort.ahead
 simp only
 rw[Array.getElem?_append_left (by rw[Array.size_modify];exact hb),Array.getElem?_modify,aj rfl,hh]
 rfl
theorem Me{w:World}{b β q:Nat}{F cur:Array Value}{os:Array Obj}{E:TypeId}(hh:w.heap[b]? = some (.cells cur E (0,0))):da w (grow (putRow id (Go.Sort.ahead w q) b β F) os) λj=>j=b:=by
 have hb:=(Array.getElem?_eq_some_iff.1 hh).1
 have oth:∀ j,j<w.heap.size→¬ j=b->(grow (putRow id (Go.Sort.ahead w q) b β F) os).heap[j]? = w.heap[j]? := λj hj hn=>by
  unfold grow putRow mapBlock Go.Sort.ahead;simp only;rw[Array.getElem?_append_left (by rw[Array.size_modify];exact hj),Array.getElem?_modify,ah (Ne.symm hn)]
 refine⟨rfl,rfl,rfl,Nat.le_add_right _ _,by unfold grow putRow mapBlock Go.Sort.ahead;simp,oth,λj s hs=>?_⟩
 by_cases hjb:j=b
 .subst hjb;unfold World.shape? at hs ⊢;rw[Uh hh];rw[hh] at hs;simp only[cE] at hs ⊢;rw[← hs];simp[putCells]
 .have hj:j<w.heap.size:=by
   unfold World.shape? at hs;by_cases q:j<w.heap.size
   .exact q
   .rw[Array.getElem?_eq_none ab] at hs;cases hs
  unfold World.shape? at hs ⊢;rw[oth j hj hjb];exact hs
theorem VQ{α:Type} [Inhabited α] (enc:α->List Value) {k:Nat} (hk:∀ x,(enc x).length=k) (d:Array α) {i j:Nat} (hi:i<d.size) (hj:j<k):some ((flatK enc k d)[i*k+j]!)=(enc d[i]!)[j]? := by
 have h1:i*k+j<d.size*k:=by
  have:(i+1)*k<=d.size*k:=mQ _ hi;rw[gY,nA] at this;omega
 rw[get_flatK enc k d _ h1]
 have e1:(i*k+j)/k=i:=by rw[Nat.mul_comm,Nat.mul_add_div ab,Nat.div_eq_of_lt hj,kP]
 have e2:(i*k+j)%k=j:=by rw[Nat.mul_comm,Nat.mul_add_mod,Nat.mod_eq_of_lt hj]
 rw[e1,e2,cM (by rw[hk];exact hj),getElem!_pos _ j (by rw[hk];exact hj)]
theorem TC{F E:TypeId}{ρ:Ren}(hu:u.ints=true)(hO:SWO (ltOf cf))(hc:m9 P G f (Ff u cf).spec)(L:SlLaysF0.n6 P ρ)(hF:ρ.f 6=F)(aE:∀ w,(isAgg (ρ.t 24)).run P w = .ok true w)(zE:∀ w,(Go.sizeOf (ρ.t 24)).run P w = .ok u.size w)
  (eg:∀ args w,(callFunc f args).run P w = .ok (.enter f args) w) (nu:u ≠ .int .u8) {srt:List u.D->List u.D} (hs:∀ ys,srt ys=ys.mergeSort λx y => !decide (cf y x<0)):m9 P G F (JR u E f cf srt):=by
 intro base svs h d r e hp w0 N0 A env w vs hg m hd
 unfold JR at e
 split at e
 case h_2=>cases e
 rename_i n sz g
 split at e
 case h_2=>cases e
 rename_i hgf
 have hgf:=bK hgf
 subst hgf
 simp only[Q.run] at e
 split at e
 case h_2=>cases e
 rename_i p0 q0 hk
 simp only[cE,cC] at e
 obtain⟨rfl,rfl⟩:=e
 split at hk
 case h_2=>cases hk
 rename_i E' u' xs hl
 split at hk
 case h_2=>cases hk
 rename_i ys hE hsz hcast
 have hE:E'=E:=bK hE
 have hsz:=bK hsz
 obtain⟨et,ey⟩:=lq hcast
 have et2:=et.symm
 subst et2 hE hsz
 simp only at ey
 subst ey
 cases cz hk
 simp only[Dl.pre,bS,iC] at hp
 obtain⟨hp1,hp2⟩:=hp
 simp only[aO] at hd
 obtain⟨sv,r1,rfl,ds,fv,r2,rfl,df,rfl⟩:=hd
 simp only[az,aO] at df
 obtain⟨fvs,rfl,hfv⟩:=df
 have hfv:fvs = #[]:=by rw[← Array.toList_eq_nil_iff];exact hfv
 subst hfv
 have none:∀ p c,ys=[]->sv = .slice p 0 c->Calls P F #[sv,.func (.func g) #[] #[]] w λe w'=>∃ v,e = .returned v/\fb w0 N0 A env h w (.det [(ys.length:Int)<=1000000,∀ x∈ys,∀ y∈ys,¬ cf x y<0→¬ cf y x<0->x=y] (.tup []) [(n,.live (.row E' u (srt ys)))]) v w':=by
  rintro p c rfl rfl;have hn:=AnyF.slices_SortFunc_none L p c (.func (.func g) #[] #[]) w;rw[hF] at hn;refine hn.mono ?_;rintro e w' ⟨rfl,rfl⟩;refine⟨_,rfl,(),A,env,aN,?_,dH.refl,?_⟩
  .have e:bX.set h n (.live (.row E' u (srt [])))=h:=by
    funext k;unfold bX.set;split
    next q=>rw[q,hl,hs,List.mergeSort_nil]
    .rfl
   show Mod w0 N0 A env (bX.set h n (.live (.row E' u (srt [])))) _;rw[e];exact m
  .simp only[Dl.val,az,aO];exact⟨#[],rfl,rfl⟩
 have ds':=ds
 simp only[az] at ds'
 rcases ds' with⟨hnil,pa,rfl⟩|⟨b,⟨β,len⟩,E3,cc,hb,hsh,rfl⟩
 .have hx:ys=[]:=by
   have:=m.nm n;rw[hl] at this;rcases this with⟨k',l',he',_⟩|⟨_,E3,t3,hb⟩
   .rw[hnil] at he';cases he'
   .rcases hb with hb|hb <;> cases hb;rfl
  exact none pa 0 hx rfl
 .obtain⟨cur,cap,hh,hcs,hxl,hlc,hcm,hrdx⟩:=(m.live_blk hl hb).1;have hh:=hh.plain nu;have hnA:=(m.live_blk hl hb).2 rfl;simp only at hcs hxl hlc hrdx ⊢;by_cases hys:ys=[]
  .have hl0:len=0:=by rw[← hxl,hys];rfl
   exact none (some ⟨b,β,.none⟩) ((cc-β)/u.size) hys (by rw[hl0])
  obtain⟨y0,hy0⟩:=List.exists_mem_of_ne_nil _ hys;have wfy:∀ x∈ys,u.wf x:=λx hx=>by
   obtain⟨i,hi,rfl⟩:=List.mem_iff_getElem.1 hx;exact ((E4 hu).1 (hrdx i hi)).1
  letI:Inhabited {x:u.D // x∈ys}:=⟨⟨y0,hy0⟩⟩
  let enc:{x:u.D // x∈ys}->List Value:=λx=>qp u x.1;let cfa:{x:u.D // x∈ys}→{x:u.D // x∈ys}->Int:=λx y=>cf x.1 y.1;have hk:∀ x,(enc x).length=u.size:=λx=>JS x.1 hu;let d0:Array {x:u.D // x∈ys}:=ys.attach.toArray;have hd0:d0.size=ys.length:=by simp[d0]
  have hd0i:∀ i (hi:i<ys.length),d0[i]! = ⟨ys[i],List.getElem_mem hi⟩:=λi hi=>by
   rw[getElem!_pos d0 i (by rw[hd0];exact hi)];simp[d0]
  have hOa:SWO (ltOf cfa):=⟨λx=>hO.irrefl x.1,λx y z=>hO.trans x.1 y.1 z.1,λx y z=>hO.ntrans x.1 y.1 z.1⟩
  have hTa:∀ x y,(ltOf cfa) x y=false->(ltOf cfa) y x=false->x=y:=λx y h1 h2 =>
   Subtype.ext (hp2 x.1 x.2 y.1 y.2 (bi h1) (bi h2))
  have hH:HoldsK enc u.size w b β d0:=λj hj=>by
   rw[size_flatK,hd0] at hj;have hk0:=u.size_pos;have hq:j/u.size<ys.length:=Nat.div_lt_of_lt_mul (by rw[Nat.mul_comm];exact hj);have hr:j%u.size<u.size:=Nat.mod_lt _ hk0;have ej:j/u.size*u.size+j%u.size=j:=by rw[Nat.mul_comm];exact Nat.div_add_mod j u.size
   refine⟨?_,by simp[World.frozen?,hh]⟩;have e1:=((E4 hu).1 (hrdx _ hq)).2 _ hr;have e2:=VQ enc hk d0 (i:=j/u.size) (j:=j%u.size) (by rw[hd0];exact hq) hr;rw[ej] at e2;rw[iz,ej] at e1;rw[cell_of_row w b _ cur E' (0,0) hh,e1];show _=some ((flatK enc u.size d0)[j]!);rw[e2,hd0i _ hq]
  have hbw:b<w.heap.size:=(Array.getElem?_eq_some_iff.1 hh).1;have hcmp:CmpLays P g #[] enc u.size cfa b β d0.size w:=λq os dk hdk x y=>by
   have hh2:∀ j o,A j->(sortWorldK enc u.size w b β q dk os).cell? ⟨j,o,.none⟩=w.cell? ⟨j,o,.none⟩:=λj o hj=>by
    have hjw:=m.Alt j hj;have c:=Me (q:=q) (β:=β) (F:=flatK enc u.size dk) (os:=os) hh;exact World.cell?_of_block (a:=⟨j,o,.none⟩) (c.blk j hjw λe=>hnA (e▸hj))
   have hsz:w.heap.size<=(sortWorldK enc u.size w b β q dk os).heap.size:=(Me (q:=q) (β:=β) (F:=flatK enc u.size dk) (os:=os) hh).size;have k:=aw3 (A:=A) (W:=sortWorldK enc u.size w b β q dk os) hu hc (wfy x.1 x.2) (wfy y.1 y.2) (λj hj=>Nat.lt_of_lt_of_le (m.Alt j hj) hsz) (λgg z hz=>by
    have:=m.gl gg z (by rw[hg];exact hz);exact⟨this.1,iL (λ_ h=>h) hh2 _ _ _ _ _ (λj _=>hh2 gg _ this.1) this.2⟩)
   exact k
  have hcon:=AnyQ.slices_SortFunc_total L u.size aE zE enc hk (λx=>Pc x.1) cfa hOa g #[] b β ((cc-β)/u.size) d0 w eg hcmp hH hbw (by rw[hd0];omega) hTa;rw[hF,hd0,hxl] at hcon;refine hcon.mono ?_;rintro e w' ⟨rfl,q,os,rfl⟩;refine⟨_,rfl,?_⟩;generalize hz:(d0.toList.mergeSort λx y => !ltOf cfa y x).toArray=dk;have hzl:dk.toList.map (·.1)=srt ys:=by
   rw[← hz,hs];have e1:d0.toList=ys.attach:=rfl;rw[e1];show List.map _ (List.mergeSort _ _)=_;rw[List.map_mergeSort (r:=λx y => !ltOf cfa y x) (s:=λx y => !decide (cf y x<0)) (λa _ b _=>rfl)];congr 1;exact List.attach_map_subtype_val ys
  have hdl:dk.size=ys.length:=by
   rw[← hz];show (List.mergeSort _ _).length=_;rw[List.length_mergeSort];exact hd0
  have c:=Me (q:=q) (β:=β) (F:=flatK enc u.size dk) (os:=os) hh;have hF2:(flatK enc u.size dk).size=len*u.size:=by rw[size_flatK,hdl,hxl]
  have hlcz:len*u.size<=cap*u.size:=mQ _ hlc;have x:dH A env w A env (sortWorldK enc u.size w b β q dk os):=m.xt c (λk hk=>⟨n,_,_,hl,rfl,hk▸hb⟩) λ_ _=>rfl;have hsl:(srt ys).length=len:=by rw[← hzl,mg,fQ,hdl,hxl]
  have up:=lG.write (b' := .row E' u (srt ys)) m hl rfl hb c ⟨putCells id β (flatK enc u.size dk) cur,cap,.of (Uh hh),by simpa[putCells] using hcs,hsl,hlc,hcm,λi hi=>by
   have hi2:i<dk.size:=by rw[hsl] at hi;omega
   have ei:(srt ys)[i]=(dk[i]!).1:=by
    have:(srt ys)[i]? = (dk.toList.map (·.1))[i]? := by rw[hzl]
    rw[cM hi,List.getElem?_map,mr,Array.getElem?_eq_getElem hi2] at this;rw[getElem!_pos dk i hi2];exact Option.some.inj this
   rw[E4 hu];refine⟨by rw[ei];exact wfy _ (dk[i]!).2,λj hj=>?_⟩;have hlt:i*u.size+j<len*u.size:=by
    have:(i+1)*u.size<=len*u.size:=mQ _ ab;rw[gY,nA] at this;omega
   show (putCells id β (flatK enc u.size dk) cur)[β+i*u.size+j]? = _;unfold putCells;rw[Array.getElem?_mapIdx,Array.getElem?_eq_getElem ab,Option.map_some,aj ab,show β+i*u.size+j-β=i*u.size+j by omega];show some ((flatK enc u.size dk)[i*u.size+j]!)=_;rw[VQ enc hk dk hi2 hj,ei]⟩ rfl
  exact⟨(),A,env,aN,m.upd up,m.ext up,by simp only[Dl.val,az,aO];exact⟨#[],rfl,rfl⟩⟩
end
end Go.SX
namespace Go.RS
open Go.SX Go.Proofs
def bP8:Ct:=Ff tp ru
theorem a29:
 ∀(a b c d e f:Int),fB a b c/\ai (fB d e f)->True->py (fc c f::fc a d::bN (fc b e))=ru (a,b,c) (d,e,f):= by
  delta aq aI bN ai fB
  rintro a b c d e f - -
  rfl
theorem aZ6:aB 204 bP8.spec:=aF Tryz.func204 (am (am aC GM) IK) aS a29
def aH9:Ct:=Ff CS n9
theorem ay4:
 ∀(a b c d e f g h i j:Int),bG a b (aq c) (aq d/\aq e)/\ai (bG f g (aq h) (aq i/\aq j))->True->py (fc e j::fc a f::bN (fc b g))=n9 (a,b,c,d,e) (f,g,h,i,j):= by
  delta aq aI bG bN ai
  rintro a b c d e f g h i j - -
  rfl
theorem aU9:aB 46 aH9.spec:=aF Tryz.func46 (am (am aC GM) IK) aS ay4
theorem ac0:Go.Sort.SWO (Go.Proofs.ltOf ru):=⟨λx=>fh (by rw[z7];omega),λx y z h k=>by
 have h:=z7.1 (aX h)
 have k:=z7.1 (aX k)
 exact fm (z7.2 ab),λx y z h k=>by
 have h:=bi h
 have k:=bi k
 rw[z7] at h k
 exact fh (by rw[z7];omega)⟩
theorem a69:Go.Sort.SWO (Go.Proofs.ltOf n9):=⟨λx=>fh (by rw[zU];omega),λx y z h k=>by
 have h:=zU.1 (aX h)
 have k:=zU.1 (aX k)
 exact fm (zU.2 ab),λx y z h k=>by
 have h:=bi h
 have k:=bi k
 rw[zU] at h k
 exact fh (by rw[zU];omega)⟩
open Go.Shelf in
def a72:Ren:=⟨λx=>match x with|6=>203|15=>112|14=>255|28=>183|29=>184|20=>283|21=>284|22=>285|23=>286|24=>287|25=>288|26=>289|27=>290|46=>309|47=>235|48=>236|49=>310|50=>311|57=>326|n=>n,
 λx=>match x with|22=>125|24=>96|25=>337|39=>250|53=>48|55=>314|46=>307|45=>306|50=>193|66=>367|70=>371|76=>406|77=>407|n=>n,λx=>x⟩
open Go.Shelf in
def Yp:Ren:=⟨λx=>match x with|6=>45|15=>112|14=>111|28=>183|29=>184|20=>175|21=>176|22=>177|23=>178|24=>179|25=>180|26=>181|27=>182|46=>234|47=>235|48=>236|49=>237|50=>238|57=>277|n=>n,
 λx=>match x with|22=>93|24=>98|25=>157|39=>250|53=>48|55=>314|46=>307|45=>306|50=>193|66=>367|70=>371|76=>406|77=>407|n=>n,λx=>x⟩
def Qd (P : Go.Program) (f : Nat) : String := match P.funcs[f]? with | some F => F.name | none => ""
theorem WN {P : Go.Program} {f : Nat} {B : Go.Func} (h1 : (Qd P f == "runtime.NumGoroutine") = false) (h2 : P.funcs[f]? = some { B with name := Qd P f }) : Bears P f B := ⟨_, h1, h2⟩
theorem as6:SlLaysF0.n6 Tryz.prog a72:=by
 constructor <;> first|exact ij|exact WN (by kernel_rfl) (by kernel_rfl)|kernel_rfl|(intro w;kernel_rfl)
theorem bg8:SlLaysF0.n6 Tryz.prog Yp:=by
 constructor <;> first|exact ij|exact WN (by kernel_rfl) (by kernel_rfl)|kernel_rfl|(intro w;kernel_rfl)
def bP7:Go.SX.Spec:=JR tp 96 204 ru (xP ru)
theorem ak8:aB 203 bP7:=by
 exact TC rfl ac0 aZ6 as6 rfl (λw=>by kernel_rfl) (λw=>by kernel_rfl) (enters_of Tryz.func204 (by kernel_rfl) rfl) (λh=>CT.noConfusion h) (λ_=>rfl)
def as9:Go.SX.Spec:=JR CS 98 46 n9 (xP n9)
theorem br2:aB 45 as9:=by
 exact TC rfl a69 aU9 bg8 rfl (λw=>by kernel_rfl) (λw=>by kernel_rfl) (enters_of Tryz.func46 (by kernel_rfl) rfl) (λh=>CT.noConfusion h) (λ_=>rfl)
theorem aa9{ts:List jh}{i:Int}(h0:0<=i):mG ts (i+1).toNat=mG ts i.toNat++sw i (ts.getD i.toNat default) (ts.getD i.toNat default).2.2.2.2.2.2.toNat:=by
 rw[show (i+1).toNat=i.toNat+1 by omega]
 unfold mG
 rw[lP,List.flatMap_append,List.flatMap_singleton,Int.toNat_of_nonneg h0]
theorem YP{i r:Int}{t:jh}(h0:0<=r):sw i t (r+1).toNat=sw i t r.toNat++[(i,r,t.2.2.2.2.1+r*t.2.2.2.2.2.1)]:=by
 rw[show (r+1).toNat=r.toNat+1 by omega]
 unfold sw
 rw[lP,lx,List.map_singleton,Int.toNat_of_nonneg h0]
theorem bE2(x y:fS)(h:¬ ru x y<0)(k:¬ ru y x<0):x=y:=by
 rw[z7] at h k
 obtain⟨a,b,c⟩:=x
 obtain⟨a',b',c'⟩:=y
 simp only at h k
 simp only[cC]
 omega
theorem aj0{p:lm.D}(h:i9 p):(jc p).length<=81:=by
 have:=(yS ru (mG p.1 p.1.length)).length_eq
 have:=Jz h.2.1 p.1.length (eT _)
 have:=h.1
 unfold jc;omega
theorem aF5(p:lm.D)(l:List fS):(xS p l).2.length<=l.length:=by
 obtain⟨m,e,hm⟩:=K6 p.2 l (Am p.2 0,[])
 unfold xS
 rw[e]
 exact hm.length_le
def Wf:Ct:=⟨[.agg lm],[.own 96 tp],λd=>[i9 d.1],λd=>((jc d.1,()),())⟩
def ai4:bp Wf.ps->bI:=(λd=>{loops:=(bt 3 (λS=>{ι:=Int×bV2,qn:=eO,μ:=λi=>(d.1.1.length-i.1).toNat,inv:=λi=>0<=i.1/\i.1<=d.1.1.length/\i.2=mG d.1.1 i.1.toNat,keep:=[1,8,9],slots:=λi=>[(3,.own 524288 3),(10,.int .i64 i.1)],keepN:=[32],names:=λi=>[(524288,.live (.row 96 tp i.2))]}) (bt 6 (λS=>{ι:=Int×bV2,qn:=eO,μ:=λi=>(S.i 16-i.1).toNat,inv:=λi=>0<=i.1/\i.1<=S.i 16/\i.2=mG d.1.1 (S.i 10).toNat++sw (S.i 10) (d.1.1.getD (S.i 10).toNat default) i.1.toNat,keep:=[1,4,5,8,9,10,16],slots:=λi=>[(3,.own 524288 3),(17,.int .i64 i.1)],keepN:=[32,96],names:=λi=>[(524288,.live (.row 96 tp i.2))]}) bZ))})
def Pe(a:List jh)(b c d:Int)(e:jh)(f g:List fS):=a=a/\ce b c (af a d).1 (af a d).2.1 (af a d).2.2.1 ((af a d).2.2.2.1=(af a d).2.2.2.1) (aU (af a d).2.2.2.2.1 (af a d).2.2.2.2.2.1 (e.2.2.2.2.2.2=e.2.2.2.2.2.2) (ai (f=g)))
def Kp(a:Int)(b:List jh)(c:Int)(d:List fS):=ao a (a<=(af b c).2.2.2.2.2.2) (d=mG b c.toNat++sw c (af b c) a.toNat)
def MK(a b:Int)(c:List jh):=[(a,b,ap ((af c a).2.2.2.2.1+ap (b*(af c a).2.2.2.2.2.1)))]
theorem bE3:
 ∀(a:List jh)(b c:Int),ai (pg a/\aq b/\aq c)->tJ a b c->(∃(d:Int) (e:List fS),ao d (d<=ae a) (e=mG a d.toNat)/\a=a/\aA (ae a) (0=d) (a=a/\aU b c (e=[]) True))/\ ∀(d:Int)(e:List fS),ao d (d<=ae a) (e=mG a d.toNat)->fE d (ae a) (d<ae a) ((∃(f:Int) (g:List fS),Kp f a d g/\aA d (a=a) (d6 (ae a) d (af a d).2.2.2.2.2.2 (0=f) (Pe a b c d (af a d) e g)))/\ ∀(f:Int)(g:List fS),Kp f a d g->au (av f (af a d).2.2.2.2.2.2) (bv ((g.length+length (MK d f a))*24)/\ ∃(h:Int) (i:List fS),Kp h a d i/\aZ (af a d).2.2.2.2.2.2 h f/\aA d (a=a) (d6 (ae a) d (af a d).2.2.2.2.2.2 (aY f h) (Pe a b c d (af a d) (g++MK d f a) i))) (∃(h:Int) (i:List fS),ao h (h<=ae a) (i=mG a h.toNat)/\aZ (ae a) h d/\a=a/\aA (ae a) (aY d h) (a=a/\aU b c (g=i) True))) (ae e<=1000000) ((∀(f:fS),f∈e-> ∀(g:fS),g∈e-> ¬ru f g<0->
 ¬ru g f<0->f=g)/\xP ru e=jc (a,b,c)):= by
  delta af ae ap aq aI aQ aU bG aA aZ cu pg ao bv fE tJ aY ce ai td Pe aD Kp av d6 MK fB
  rintro x u v ⟨⟨⟨hl,-⟩,-⟩,-⟩ hp
  have hp:i9 (x,u,v):=hp
  have h9:x.length<=9:=hp.1
  refine⟨⟨0,[],⟨ab,ab,rfl⟩,aK⟩,?_⟩
  rintro i l ⟨i0,i1,rfl⟩
  have len:=Jz (ts:=x) hp.2.1 i.toNat ab
  refine bP (λhi=>?_) (λhi=>?_)
  .have tk:=MX (hp.2.1 _ (cA i0 hi))
   have nx:=aa9 (ts:=x) i0
   generalize getD (α:=jh) x i.toNat default=t at *
   obtain⟨⟨s0,s1⟩,⟨v0,v1⟩,c0,c1⟩:=tk
   refine⟨i0,hi,⟨0,mG x i.toNat,⟨ab,ab,by unfold sw;simp⟩,aK⟩,?_⟩
   rintro r l ⟨r0,r1,rfl⟩
   refine bP (λhr=>?_) (λhr=>?_)
   .have p1:=Int.mul_le_mul (show r<=8 by omega) v1 ab ab
    have p0:=Int.mul_nonneg r0 (show 0<=t.2.2.2.2.2.1 by omega)
    rw[aL (n:=r*t.2.2.2.2.2.1) ab ab,aL (n:=t.2.2.2.2.1+_) ab ab]
    have lt:(sw i t r.toNat).length=r.toNat:=by unfold sw;rw[mg,List.length_range]
    refine⟨by simp only[cL,lt,gC];omega,r+1,_,⟨ab,ab,rfl⟩,ab,?_⟩
    (repeat refine fR ?_)
    exact⟨by rw[YP r0,je],aN⟩
   .refine⟨i+1,_,⟨ab,ab,rfl⟩,ab,?_⟩
    (repeat refine fR ?_)
    exact⟨by rw[nx,show r=t.2.2.2.2.2.2 by omega],aN⟩
  .have e:i.toNat=x.length:=ab
   rw[e] at len ⊢
   exact⟨ab,λx _ y _ h k=>bE2 x y h k,rfl⟩
theorem aY4:aB 137 Wf.spec:=aF Tryz.func137 (am aC ak8) ai4 bE3
def bA0:Ct:=⟨[.agg lm],[.fn 136 1,.box 54 lm],λ_=>[],λd=>(((),d.1,()),())⟩
theorem aV2:
 ∀(a:List jh)(b c:Int),ft (pg a/\aq b/\aq c) (()=()/\(a,b,c)=(a,b,c)):= by
  delta aq aI aQ bG pg ai aD ft fB
  exact λ_ _ _ _ _=>⟨rfl,rfl⟩
theorem YB:aB 63 bA0.spec:=aF Tryz.func63 aC aS aV2
def IQ:Ct:=⟨[.agg tp,.box 125 (.row 96 tp)],[],λd=>[(d.2.1.length:Int)<=1000],λd=>((),(d.2.1++[d.1],()))⟩
def DX(r:Loop):Prop:=BI Tryz.prog GL r [2] (zK IQ.spec)
def HU(a:List fS):=a.length<=maxLen/\ ∀(b:fS),b∈a->fB b.1 b.2.1 b.2.2
theorem bR9:
 ∀(a b c:Int)(d:List fS),fB a b c/\ai (HU d)->ae d<=1000->bv ((d.length+length [(a,b,c)])*24)/\d++[(a,b,c)]=d++[(a,b,c)]:= by
  delta ae aq aI bv ai HU fB
  rintro a b c l-h
  exact⟨by simp only[gC];omega,rfl⟩
theorem ZL{r:Loop}(hr:uR (Func.ntmps Tryz.f135) (JC Tryz.f135) r):DX r:=Ct.okR IQ Af aC ij aS (C5 Af bR9) hr
def Vs:Ct:=⟨[.yld [2] 1,.box 125 (.row 96 tp),.box 54 lm],[],λd=>[DX d.1,d.2.1=[],i9 d.2.2.1],λd=>((),(lV d.2.2.1,d.2.2.1,()))⟩
def al5:bp Vs.ps->bI:=(λd=>{loops:=(bt 2 (λS=>{ι:=Int×bT2×bV2,qn:=pI,μ:=λi=>((jc d.2.2.1).length-i.1).toNat,inv:=λi=>0<=i.1/\i.1<=(jc d.2.2.1).length/\(i.2.1,i.2.2)=xS d.2.2.1 ((jc d.2.2.1).take i.1.toNat),keep:=[0,1,3,11,12],slots:=λi=>[(13,.int .i64 i.1)],keepN:=[1048577,192],names:=λi=>[(64,.live (.cells 182 (cQ xF i.2.1))),(1048576,.live (.cells 125 [.own 524288 3])),(524288,.live (.row 96 tp i.2.2))]}) bZ)})
def Gr(a:Int)(b:List jh)(c d:Int)(e:bT2)(f:List fS):=ao a (a<=ae (jc (b,c,d))) ((e,f)=xS (b,c,d) (take a.toNat (jc (b,c,d))))
def DP(a b:Int)(c:bT2)(d:List jh)(e:Int):=gw (a,b) c (af (jc (d,a,b)) e).2.2
theorem aV0:
 ∀(a:Go.Loop)(b:List fS)(c:List jh)(d e:Int),True/\HU b/\ai (pg c/\aq d/\aq e)->DX a/\b=[]/\tJ c d e->i9 (c,d,e)/\(∃(f:Int) (g:bT2) (h:List fS),Gr f c d e g h/\a=a/\aA (ae (jc (c,d,e))) (0=f) (c=c/\aU d e (jc (c,d,e)=jc (c,d,e)) (w (d*e)=g.1/\0=g.2/\ai (b=h))))/\ ∀(f:Int)(g:bT2)(h:List fS),Gr f c d e g h->fE f (ae (jc (c,d,e))) (f<ae (jc (c,d,e))) (∀(i:Bool),i=(DP d e g c f).2->pJ i i (i->i) (BI Tryz.prog GL a [2] (zK (Ct.spec IQ))/\ae h<=1000/\(i->i)/\au (bw i ( !true)) (h++[af (jc (c,d,e)) f]=lV (c,d,e)/\(c,d,e)=(c,d,e)) (∃(j:Int) (k:bT2) (l:List fS),Gr j c d e k l/\aZ (ae (jc (c,d,e))) j f/\a=a/\aA (ae (jc (c,d,e))) (aY f j) (c=c/\aU d e (jc (c,d,e)=jc (c,d,e)) ((DP d e g c f).1.1=k.1/\(DP d e g c f).1.2=k.2/\ai (h++[af (jc (c,d,e)) f]=l))))) (i->false) (au (bw i
 false) (h=lV (c,d,e)/\(c,d,e)=(c,d,e)) (∃(j:Int) (k:bT2) (l:List fS),Gr j c d e k l/\aZ (ae (jc (c,d,e))) j f/\a=a/\aA (ae (jc (c,d,e))) (aY f j) (c=c/\aU d e (jc (c,d,e)=jc (c,d,e)) ((DP d e g c f).1.1=k.1/\(DP d e g c f).1.2=k.2/\ai (h=l)))))) (h=lV (c,d,e)) ((c,d,e)=(c,d,e)):= by
  delta af ae ap aq aI aQ aU bG aA aZ bw cu pg ao fE tJ aY ai td Gr pJ aD av DP HU fB
  rintro r l0 x u v-⟨hr,rfl,hp⟩
  have hp:i9 (x,u,v):=hp
  have hn:=aj0 hp
  refine⟨hp,⟨0,_,_,⟨ab,ab,rfl⟩,aK⟩,?_⟩
  rintro i k l ⟨i0,i1,hk⟩
  refine bP (λhi=>?_) (λhi=>?_)
  .have nx:=bl7 (p:=(x,u,v)) i0 hi
   have ln:=aF5 (x,u,v) ((jc (x,u,v)).take i.toNat)
   rw[← hk] at nx ln
   have ln:l.length<=81:=by rw[dG] at ln;simp only at ln;omega
   refine⟨i0,hi,?_⟩
   generalize getD (α:=fS) (jc (x,u,v)) i.toNat default=d at *
   rintro b hb
   refine ay (λh=>?_) (λh=>?_)
   .subst h
    refine⟨λ_=>rfl,λ_=>rfl,hr,ab,λ_=>rfl,ml.2 ⟨i+1,_,_,⟨ab,ab,nx.symm⟩,ab,?_⟩⟩
    (repeat refine fR ?_)
    refine⟨?_,aN⟩
    rw[aj hb.symm]
   .subst h
    refine⟨rfl,λq=>(by cases q),ml.2 ⟨i+1,_,_,⟨ab,ab,nx.symm⟩,ab,?_⟩⟩
    (repeat refine fR ?_)
    refine⟨?_,aN⟩
    rw[ah (by show ¬ (gw (u,v) k d.2.2).2=true;rw[← hb];decide)]
  .rw[fH ab] at hk
   exact⟨fj Prod.snd hk,rfl⟩
theorem bS9:aB 136 Vs.spec:=aF Tryz.func136 (Tb (s:=zK IQ.spec) (am (am (am aC VO) aY4) K1)) al5 aV0
def Xq:Ct:=⟨[.nils,.fn 136 1,.box 54 lm],[.own 96 tp],λd=>[i9 d.2.2.1],λd=>((lV d.2.2.1,()),(d.2.2.1,()))⟩
noncomputable def af8:bp Xq.ps->bI:=(λd=>{ys:=[2],ln:=Func.ntmps Tryz.f135,lo:=DX})
theorem ap6:
 ∀(a:List jh)(b c:Int),True/\True/\ai (pg a/\aq b/\aq c)->tJ a b c-> ∀(d:Go.Loop),DX d->DX d/\([]:List fS)=([]:List fS)/\i9 (a,b,c)/\lV (a,b,c)=lV (a,b,c)/\(a,b,c)=(a,b,c):= by
  delta aq aI aQ bG pg tJ ai td aD fB
  rintro x u v-h r hr
  exact⟨hr,rfl,h,rfl,rfl⟩
theorem av9:aB 135 Xq.spec:=Ct.okY _ Tryz.func135 (x:=JC Tryz.f135) Af (am aC bS9) ij af8 (λ_ _ hr=>ZL hr) (C5 Af ap6)
def bF7:Ct:=⟨[.fn 136 1,.box 54 lm],[.own 96 tp],λd=>[i9 d.2.1],λd=>((lV d.2.1,()),(d.2.1,()))⟩
theorem br1:
 ∀(a:List jh)(b c:Int),True/\ai (pg a/\aq b/\aq c)->tJ a b c->i9 (a,b,c)/\lV (a,b,c)=lV (a,b,c)/\(a,b,c)=(a,b,c):= by
  delta aq aI aQ bG pg tJ ai td aD fB
  exact λ_ _ _ _ h=>⟨h,rfl,rfl⟩
theorem bl4:aB 62 bF7.spec:=aF Tryz.func62 (am aC av9) aS br1
def bu1:Ct:=⟨[.agg lm],[.own 96 tp],λd=>[i9 d.1],λd=>((lV d.1,()),())⟩
theorem bN8:
 ∀(a:List jh)(b c:Int),ai (pg a/\aq b/\aq c)->tJ a b c->i9 (a,b,c)/\lV (a,b,c)=lV (a,b,c):= by
  delta aq aI aQ bG pg tJ ai td aD fB
  exact λ_ _ _ _ h=>⟨h,rfl⟩
theorem T2:aB 29 bu1.spec:=aF Tryz.func29 (am (am aC YB) bl4) aS bN8
theorem bt6{i:Int}{s:ck}{t k:Int}(h0:0<=k):uM i s t (k+1).toNat=uM i s t k.toNat++(if (decide (iZ s<=k)&&decide (((fY s).getD k.toNat default).2.2<=t))=true then [(i,k,(fY s).getD k.toNat default)] else []):=by
 rw[show (k+1).toNat=k.toNat+1 by omega]
 unfold uM
 rw[lP,u5,lx]
 congr 1
 rw[List.filter_cons,List.filter_nil]
 simp only[Int.toNat_of_nonneg h0]
 split
 .rw[List.map_singleton,Int.toNat_of_nonneg h0]
 .rfl
theorem bO2{ss:List ck}{t i:Int}(h0:0<=i):oF ss t (i+1).toNat=oF ss t i.toNat++uM i (cq ss i.toNat) t (fY (cq ss i.toNat)).length:=by
 rw[show (i+1).toNat=i.toNat+1 by omega]
 unfold oF
 rw[lP,List.flatMap_append,List.flatMap_singleton,Int.toNat_of_nonneg h0]
 rfl
theorem aJ5(i:Int)(s:ck)(t:Int)(k:Nat):(uM i s t k).length<=k:=by
 unfold uM
 rw[mg]
 have:=List.length_filter_le (λ(j:Nat)=>decide (iZ s<=j)&&decide (((fY s).getD j default).2.2<=t)) (range k)
 rwa [List.length_range] at this
theorem az4{ss:List ck}(hp:∀ s∈ss,i9 (ni s))(t:Int){n:Nat}(hn:n<=ss.length):(oF ss t n).length<=81*n:=by
 rw[yH]
 exact pH (List.length_filter_le _ _) (MO hp n hn)
theorem a40{ss:List ck}{t:Int}{n:Nat}{x y:Du}(hx:x∈oF ss t n)(hy:y∈oF ss t n)(h:¬ n9 x y<0)(k:¬ n9 y x<0):x=y:=by
 rw[yH] at hx hy
 rw[zU] at h k
 exact US (List.mem_filter.1 hx).1 (List.mem_filter.1 hy).1 ab ab
def XW:Ct:=⟨[.agg vq,.val cI],[.own 98 CS],λd=>[d.1.2.2.1.length<=2,∀ s∈d.1.2.2.1,i9 (ni s)],λd=>((cW d.1.2.2.1 d.2.1,()),())⟩
def aH4:bp XW.ps->bI:=(λd=>{loops:=(bt 3 (λS=>{ι:=Int×(List Du),qn:=eO,μ:=λi=>(d.1.2.2.1.length-i.1).toNat,inv:=λi=>0<=i.1/\i.1<=d.1.2.2.1.length/\i.2=oF d.1.2.2.1 d.2.1 i.1.toNat,keep:=[1,2,11,12],slots:=λi=>[(5,.own 524288 5),(13,.int .i64 i.1)],keepN:=[48],names:=λi=>[(524288,.live (.row 98 CS i.2))]}) (bt 6 (λS=>{ι:=Int×(List Du),qn:=eO,μ:=λi=>((fY (cq d.1.2.2.1 (S.i 13).toNat)).length-i.1).toNat,inv:=λi=>0<=i.1/\i.1<=(fY (cq d.1.2.2.1 (S.i 13).toNat)).length/\i.2=oF d.1.2.2.1 d.2.1 (S.i 13).toNat++uM (S.i 13) (cq d.1.2.2.1 (S.i 13).toNat) d.2.1 i.1.toNat,keep:=[1,2,6,7,11,12,13,21,22],slots:=λi=>[(5,.own 524288 5),(23,.int .i64 i.1)],keepN:=[48,128,352],names:=λi=>[(524288,.live (.row 98 CS i.2))]}) bZ))})
def uX(a:bU5)(b:Int):=lV (af a b).1.2.2.1
def WZ(a:bU5)(b:Int)(c d:List Go.RS.Du):=aU (af a b).1.2.2.1.2.1 (af a b).1.2.2.1.2.2 ((af a b).1.2.2.2.1=(af a b).1.2.2.2.1) (ce (af a b).1.2.2.2.2.1 (af a b).1.2.2.2.2.2 (af a b).2.1.1 (af a b).2.1.2.1 (af a b).2.1.2.2.1 ((af a b).2.1.2.2.2.1=(af a b).2.1.2.2.2.1) (aA (af a b).2.1.2.2.2.2.1 ((af a b).2.1.2.2.2.2.2.1=(af a b).2.1.2.2.2.2.2.1) ((af a b).2.1.2.2.2.2.2.2=(af a b).2.1.2.2.2.2.2.2/\gQ (af a b).2.2.1 (af a b).2.2.2.1.1 (af a b).2.2.2.1.2.1 (af a b).2.2.2.1.2.2.1 ((af a b).2.2.2.1.2.2.2=(af a b).2.2.2.1.2.2.2) (gQ (af a b).2.2.2.2.1 (af a b).2.2.2.2.2.1 (af a b).2.2.2.2.2.2.1 (af a b).2.2.2.2.2.2.2.1 ((af a b).2.2.2.2.2.2.2.2.1=(af a b).2.2.2.2.2.2.2.2.1) (aA (af a b).2.2.2.2.2.2.2.2.2.1 ((af a b).2.2.2.2.2.2.2.2.2.2.1=(af a b).2.2.2.2.2.2.2.2.2.2.1) ((af a b).2.2.2.2.2.2.2.2.2.2.2.1=(af a b).2.2.2.2.2.2.2.2.2.2.2.1/\(af a b).2.2.2.2.2.2.2.2.2.2.2.2.1=(af a
 b).2.2.2.2.2.2.2.2.2.2.2.2.1/\(af a b).2.2.2.2.2.2.2.2.2.2.2.2.2=(af a b).2.2.2.2.2.2.2.2.2.2.2.2.2/\uX a b=uX a b/\ai (c=d)))))))
def Wa(a:bU5)(b:Int)(c d:List Go.RS.Du):=aU (af a b).1.1 (af a b).1.2.1 ((af a b).1.2.2.1.1=(af a b).1.2.2.1.1) (WZ a b c d)
def Ip(a:Int)(b:bU5)(c:List ry)(d:Int)(e f:List Go.RS.Du):=aA a (b=b) (c=c/\Wa b d e f)
def EM(a:Int)(b:bU5)(c:Int)(d:List Go.RS.Du)(e:Int):=ao a (a<=ae (fY (cq b c.toNat))) (d=oF b e c.toNat++uM c (cq b c.toNat) e a.toNat)
theorem Zr:
 ∀(a:aU8×Int×List bJ4×List (Int×List bT0×List (Int×Int×Int×List
 bT0)))(b:Int),CT.wf vq a/\ai (aq b)->(a.2.2.1.length<=2/\ ∀(c:ck),c∈a.2.2.1->i9 (ni c))->(∃(c:Int) (d:List Go.RS.Du),ao c (c<=ae a.2.2.1) (d=oF a.2.2.1 b c.toNat)/\aA b (a.2.2.1=a.2.2.1) (aA (ae a.2.2.1) (0=c) (cT a.1.1.1 a.1.1.2.1 (a.1.1.2.2=a.1.1.2.2) (d6 a.1.2.1 a.1.2.2.1 a.1.2.2.2.1 (a.1.2.2.2.2.1=a.1.2.2.2.2.1) (mq a.1.2.2.2.2.2.1 a.1.2.2.2.2.2.2.1 a.1.2.2.2.2.2.2.2.1 (a.1.2.2.2.2.2.2.2.2=a.1.2.2.2.2.2.2.2.2) (aA a.2.1 (a.2.2.1=a.2.2.1) (a.2.2.2=a.2.2.2/\ai (d=[]))))))))/\ ∀(c:Int)(d:List Go.RS.Du),ao c (c<=ae a.2.2.1) (d=oF a.2.2.1 b c.toNat)->fE c (ae a.2.2.1) (c<ae a.2.2.1) (i9 (af a.2.2.1 c).1.2.2.1/\(∃(e:Int) (f:List Go.RS.Du),EM e a.2.2.1 c f b/\aU b c (a.2.2.1=a.2.2.1) (d6 (ae a.2.2.1) c (ae (uX a.2.2.1 c)) (0=e) (cT a.1.1.1 a.1.1.2.1
 (a.1.1.2.2=a.1.1.2.2) (d6 a.1.2.1 a.1.2.2.1 a.1.2.2.2.1 (a.1.2.2.2.2.1=a.1.2.2.2.2.1) (mq a.1.2.2.2.2.2.1 a.1.2.2.2.2.2.2.1 a.1.2.2.2.2.2.2.2.1 (a.1.2.2.2.2.2.2.2.2=a.1.2.2.2.2.2.2.2.2) (Ip a.2.1 a.2.2.1 a.2.2.2 c d f))))))/\ ∀(e:Int)(f:List Go.RS.Du),EM e a.2.2.1 c f b->au (av e (ae (uX a.2.2.1 c))) (ao e (e<ae (uX a.2.2.1 c)) (∀(g:Bool),g=decide ((af a.2.2.1 c).2.2.1<=e)->cG g g (d7 g) (g->g) (au (bw g (decide ((af (uX a.2.2.1 c) e).2.2<=b))) (bv ((f.length+length [(c,e,af (uX a.2.2.1 c) e)])*40)/\ ∃(h:Int) (i:List Go.RS.Du),EM h a.2.2.1 c i b/\aZ (ae (fY (cq a.2.2.1 c.toNat))) h e/\aU b c (a.2.2.1=a.2.2.1) (d6 (ae a.2.2.1) c (ae (uX a.2.2.1 c)) (aY e h) (cT a.1.1.1 a.1.1.2.1 (a.1.1.2.2=a.1.1.2.2) (d6 a.1.2.1 a.1.2.2.1 a.1.2.2.2.1 (a.1.2.2.2.2.1=a.1.2.2.2.2.1) (mq a.1.2.2.2.2.2.1 a.1.2.2.2.2.2.2.1
 a.1.2.2.2.2.2.2.2.1 (a.1.2.2.2.2.2.2.2.2=a.1.2.2.2.2.2.2.2.2) (Ip a.2.1 a.2.2.1 a.2.2.2 c (f++[(c,e,af (uX a.2.2.1 c) e)]) i)))))) (∃(h:Int) (i:List Go.RS.Du),EM h a.2.2.1 c i b/\aZ (ae (fY (cq a.2.2.1 c.toNat))) h e/\aU b c (a.2.2.1=a.2.2.1) (d6 (ae a.2.2.1) c (ae (uX a.2.2.1 c)) (aY e h) (cT a.1.1.1 a.1.1.2.1 (a.1.1.2.2=a.1.1.2.2) (d6 a.1.2.1 a.1.2.2.1 a.1.2.2.2.1 (a.1.2.2.2.2.1=a.1.2.2.2.2.1) (mq a.1.2.2.2.2.2.1 a.1.2.2.2.2.2.2.1 a.1.2.2.2.2.2.2.2.1 (a.1.2.2.2.2.2.2.2.2=a.1.2.2.2.2.2.2.2.2) (Ip a.2.1 a.2.2.1 a.2.2.2 c f i))))))))) (∃(g:Int) (h:List Go.RS.Du),ao g (g<=ae a.2.2.1) (h=oF a.2.2.1 b g.toNat)/\aZ (ae a.2.2.1) g c/\aA b (a.2.2.1=a.2.2.1) (aA (ae a.2.2.1) (aY c g) (cT a.1.1.1 a.1.1.2.1 (a.1.1.2.2=a.1.1.2.2) (d6 a.1.2.1 a.1.2.2.1 a.1.2.2.2.1 (a.1.2.2.2.2.1=a.1.2.2.2.2.1) (mq a.1.2.2.2.2.2.1 a.1.2.2.2.2.2.2.1
 a.1.2.2.2.2.2.2.2.1 (a.1.2.2.2.2.2.2.2.2=a.1.2.2.2.2.2.2.2.2) (aA a.2.1 (a.2.2.1=a.2.2.1) (a.2.2.2=a.2.2.2/\ai (f=h))))))))) (ae d<=1000000) ((∀(e:kx),e∈d-> ∀(f:kx),f∈d-> ¬n9 e f<0-> ¬n9 f e<0->e=f)/\xP n9 d=cW a.2.2.1 b):= by
  delta af ae ap aq aI aT aU aA cG aZ bw cu Ip Wa WZ ao bv fE cT EM aY ce ai gQ mq uX d7 av d6
  rintro d t-⟨h2,hp⟩
  refine⟨⟨0,[],⟨ab,ab,rfl⟩,aK⟩,?_⟩
  rintro i l ⟨i0,i1,rfl⟩
  have hL:=az4 hp t (n:=i.toNat) ab
  refine bP (λhi=>?_) (λhi=>?_)
  .have hs:cq d.2.2.1 i.toNat∈d.2.2.1:=cA i0 hi
   have so:=(G4 (hp _ hs)).n
   refine⟨i0,hi,hp _ hs,⟨0,oF d.2.2.1 t i.toNat,⟨ab,ab,by unfold uM;simp⟩,aK⟩,?_⟩
   rintro k l ⟨k0,k1,rfl⟩
   have hS:=aJ5 i (cq d.2.2.1 i.toNat) t k.toNat
   have so:(fY (cq d.2.2.1 i.toNat)).length<=81:=so
   refine bP (λhk=>?_) (λhk=>?_)
   .have hk:k<(fY (cq d.2.2.1 i.toNat)).length:=hk
    have nx:=bt6 (i:=i) (s:=cq d.2.2.1 i.toNat) (t:=t) k0
    refine⟨k0,hk,?_⟩
    rintro b hb
    (repeat refine⟨λh_=>(by first|exact⟨λ_=>h_,λ_=>h_,aN⟩|exact⟨λ_=>h_,k0,hk,aN⟩|(simp;done)|(simp[h_];done)|(simp_all;done)),?_⟩)
    have hb:b=decide (iZ (cq d.2.2.1 i.toNat)<=k):=hb
    rw[← hb] at nx
    refine ay (λq=>?_) (λq=>?_)
    .have q:(b&&decide (((fY (cq d.2.2.1 i.toNat)).getD k.toNat default).2.2<=t))=true:=by cases b;cases q;exact q
     rw[aj q] at nx
     refine⟨by simp only[cL,gC];omega,k+1,_,⟨ab,ab,rfl⟩,ab,?_⟩
     (repeat refine fR ?_)
     exact⟨by rw[nx,je];rfl,aN⟩
    .have q:¬ (b&&decide (((fY (cq d.2.2.1 i.toNat)).getD k.toNat default).2.2<=t))=true:=λe=>(by cases b;cases e;have e:decide (((fY (cq d.2.2.1 i.toNat)).getD k.toNat default).2.2<=t)=true:=e;have q:decide (((fY (cq d.2.2.1 i.toNat)).getD k.toNat default).2.2<=t)=false:=q;rw[q] at e;cases e)
     rw[ah q,kY] at nx
     refine⟨k+1,_,⟨ab,ab,rfl⟩,ab,?_⟩
     (repeat refine fR ?_)
     exact⟨by rw[nx],aN⟩
   .have hk:¬ k<(fY (cq d.2.2.1 i.toNat)).length:=hk
    refine⟨i+1,_,⟨ab,ab,rfl⟩,ab,?_⟩
    (repeat refine fR ?_)
    exact⟨by rw[bO2 i0,show k.toNat=(fY (cq d.2.2.1 i.toNat)).length by omega],aN⟩
  .have e:i.toNat=d.2.2.1.length:=ab
   rw[e] at hL ⊢
   exact⟨ab,λx hx y hy h k=>a40 hx hy h k,rfl⟩
theorem aN5:aB 16 XW.spec:=aF Tryz.func16 (am (am aC T2) br2) aH4 Zr
theorem PO.wE{q:Int}{p:dY}(h:PO q p):oQ p.1 := .inl h.w.sim
theorem aM8{α:Type}(l:List α)(n:Nat):fA l n (toNat (l.length:Int))=l.drop n:=by
 unfold fA
 rw[Int.toNat_natCast,fH (eT _)]
theorem PO.hand{q t:Int}{p:dY}(h:PO q p)(ht:t<=1000){j:Int}(j0:0<=j)(j1:j<((bh (iy p.1 t)).drop p.2.1.toNat).length) :
  (((((bh (iy p.1 t)).drop p.2.1.toNat).getD j.toNat default).2.2.length:Int)<=1000000)∧∀ s∈p.2.2.1,jb (mY (j5 (((bh (iy p.1 t)).drop p.2.1.toNat).take j.toNat) s)):=by
 by_cases hn:bf p.1<=t
 .obtain⟨l,e,hl⟩:=h.w.runs_dl (to:=t);have ed:(bh (iy p.1 t)).drop p.2.1.toNat=l:=by
   rw[ER hn ht,h.rd,show ((bh p.1).length:Int).toNat=(bh p.1).length from rfl,e,List.drop_left]
  rw[ed] at j1 ⊢;refine⟨by have:=(hl.t _ (cA j0 j1)).2;omega,λs hs=>?_⟩;have ho:yL (bf p.1) t (l.take j.toNat):=⟨hl.p.sublist (List.take_sublist _ _),λx hx=>hl.t x (qr hx)⟩
  exact ((h.st s hs).recv ht hn ho).small.1
 .rw[Fx ab,h.rd,show ((bh p.1).length:Int).toNat=(bh p.1).length from rfl,List.drop_length] at j1;simp at j1;omega
theorem PO.rdle{q t:Int}{p:dY}(h:PO q p)(ht:t<=1000):0<=p.2.1/\p.2.1<=((bh (iy p.1 t)).length:Int):=by
 rw[h.rd]
 refine⟨Int.natCast_nonneg _,?_⟩
 by_cases hn:bf p.1<=t
 .obtain⟨l,e,hl⟩:=h.w.runs_dl (to:=t);rw[ER hn ht,e,cL];show ((bh p.1).length:Int)<=_;omega
 .rw[Fx ab];exact gH _
theorem PO.dlen{q t:Int}{p:dY}(h:PO q p)(ht:t<=1000):((bh (iy p.1 t)).length:Int)<=1000000000000:=by
 have k:=(h.until (t:=t) ht).1
 have:=k.w.d
 have:=k.q0
 show ((bh (d9 p t).1).length:Int)<=_
 omega
theorem RE{α β:Type} [Inhabited α] (f:α->α) {l:List α} {i:Int} (h0:0<=i) (h1:i<l.length) :
  ((l.take i.toNat).map f++l.drop i.toNat).getD i.toNat default=l.getD i.toNat default/\((l.take i.toNat).map f++l.drop i.toNat).set i.toNat (f (l.getD i.toNat default))=(l.take (i+1).toNat).map f++l.drop (i+1).toNat:=by
 have hi:i.toNat<l.length:=ab
 have e1:((l.take i.toNat).map f).length=i.toNat:=by rw[mg,dG];omega
 have e2:l.drop i.toNat=l.getD i.toNat default::l.drop (i+1).toNat:=by
  rw[show (i+1).toNat=i.toNat+1 by omega,ct,cM hi];exact vj hi
 constructor
 .rw[ct,nD ab,e1,Nat.sub_self,e2];rfl
 .rw[List.set_append_right _ _ ab,e1,Nat.sub_self,e2,oG h0 h1,lx,List.map_singleton,je];rfl
def Wr:Ct:=⟨[.box 41 LS,.val cI],[],λd=>[∃ q,PO q d.1,d.2.1<=1000],λd=>((),(d9 d.1 d.2.1,()))⟩
def aG7:bp Wr.ps->bI:=(λd=>{loops:=(bt 4 (λS=>{ι:=Int×(List ck)×aJ,qn:=pI,μ:=λi=>(((bh i.2.2).drop d.1.2.1.toNat).length-i.1).toNat,inv:=λi=>i.2.2=iy d.1.1 d.2.1/\0<=i.1/\i.1<=((bh i.2.2).drop d.1.2.1.toNat).length/\i.2.1=d.1.2.2.1.map (j5 (((bh i.2.2).drop d.1.2.1.toNat).take i.1.toNat)),keep:=[0,34,35],slots:=λi=>[(36,.int .i64 i.1)],names:=λi=>[(1048576,.live (.cells 41 (cQ jY i.2.2++[.int .i64 d.1.2.1,.own 524288 30,.dsl xp d.1.2.2.2]))),(524288,.live (.row 69 nI i.2.1))]}) (bt 7 (λS=>{ι:=Int×(List ck)×aJ,qn:=pI,μ:=λi=>((S.o nI 43).length-i.1).toNat,inv:=λi=>i.2.2=iy d.1.1 d.2.1/\0<=i.1/\i.1<=(S.o nI 43).length/\i.2.1=((S.o nI 43).take i.1.toNat).map (λs=>lO s (S.c tf 128))++(S.o nI 43).drop i.1.toNat,keep:=[0,7,34,35,36,44],slots:=λi=>[(45,.int .i64 i.1)],keepN:=[128],names:=λi=>[(1048576,.live (.cells 41 (cQ jY i.2.2++[.int .i64 d.1.2.1,.own 524288 30,.dsl xp d.1.2.2.2]))),(524288,.live (.row 69 nI i.2.1))]}) bZ)),cuts:=(bt 3 (λS=>{ι:=aJ,inv:=λi=>i=iy d.1.1 d.2.1,keep:=[0,1],slots:=λi=>[],names:=λi=>[(1048576,.live (.cells 41 (cQ jY i++[.int .i64 d.1.2.1,.own 524288 30,.dsl xp d.1.2.2.2]))),(524288,.live (.row 69 nI d.1.2.2.1))]}) bZ)})
def jq(a:List Go.RS.Del)(b:Int):=fA a b.toNat (toNat (ae a))
def F8(a:Int)(b c:List ck)(d:List Go.RS.Del)(e f:Int):=ao a (a<=ae b) (c=List.map (λ(g:ck)=>lO g (af (jq d e) f)) (take a.toNat b)++drop a.toNat b)
def JT(a:aJ)(b:aU8)(c d e:Int)(f:List ck)(g:bU5):=a=iy b c/\ao d (d<=ae (drop e.toNat (bh a))) (f=List.map (j5 (take d.toNat (drop e.toNat (bh a)))) g)
def Kk(a:List Go.RS.Del)(b c:Int):=(af (jq a b) c).2.2=(af (jq a b) c).2.2
theorem a12:
 ∀(a:aU8)(b:Int)(c:bU5)(d:List ry)(e:Int),(CT.wf jY a/\aq b/\DH c/\BM d)/\ai (aq e)->(∃(f:Int),PO f (a,b,c,d))/\e<=1000->(oQ
 a/\au (eG (oe a e)) (∃(f:aJ),f=iy a e/\aA e ((mK a e).1.1=f.1.1) ((mK a e).1.2.1=f.1.2.1/\(mK a e).1.2.2=f.1.2.2/\(mK a e).2.1=f.2.1/\(mK a e).2.2.1=f.2.2.1/\(mK a e).2.2.2.1=f.2.2.2.1/\(mK a e).2.2.2.2.1=f.2.2.2.2.1/\(mK a e).2.2.2.2.2.1=f.2.2.2.2.2.1/\(mK a e).2.2.2.2.2.2.1=f.2.2.2.2.2.2.1/\(mK a e).2.2.2.2.2.2.2.1=f.2.2.2.2.2.2.2.1/\(mK a e).2.2.2.2.2.2.2.2=f.2.2.2.2.2.2.2.2/\aA b (d=d) (ai (c=c)))) (∃(f:aJ),f=iy a e/\aA e (a.1.1=f.1.1) (a.1.2.1=f.1.2.1/\a.1.2.2=f.1.2.2/\a.2.1=f.2.1/\a.2.2.1=f.2.2.1/\a.2.2.2.1=f.2.2.2.1/\a.2.2.2.2.1=f.2.2.2.2.1/\a.2.2.2.2.2.1=f.2.2.2.2.2.1/\a.2.2.2.2.2.2.1=f.2.2.2.2.2.2.1/\a.2.2.2.2.2.2.2.1=f.2.2.2.2.2.2.2.1/\a.2.2.2.2.2.2.2.2=f.2.2.2.2.2.2.2.2/\aA b (d=d) (ai (c=c)))))/\ ∀(f:aJ),f=iy a e->bM b (ae f.2.2.2.2.2.2.2.1) (ae f.2.2.2.2.2.2.2.1<=ae f.2.2.2.2.2.2.2.1) ((∃(g:Int) (h:List ck)
 (i:aJ),JT i a e g b h c/\jq f.2.2.2.2.2.2.2.1 b=jq f.2.2.2.2.2.2.2.1 b/\aA (ae (jq f.2.2.2.2.2.2.2.1 b)) (0=g) (f.1.1=i.1.1/\f.1.2.1=i.1.2.1/\f.1.2.2=i.1.2.2/\f.2.1=i.2.1/\f.2.2.1=i.2.2.1/\f.2.2.2.1=i.2.2.2.1/\f.2.2.2.2.1=i.2.2.2.2.1/\f.2.2.2.2.2.1=i.2.2.2.2.2.1/\f.2.2.2.2.2.2.1=i.2.2.2.2.2.2.1/\f.2.2.2.2.2.2.2.1=i.2.2.2.2.2.2.2.1/\f.2.2.2.2.2.2.2.2=i.2.2.2.2.2.2.2.2/\aA b (d=d) (ai (c=h))))/\ ∀(g:Int)(h:List ck)(i:aJ),JT i a e g b h c->au (av g (ae (jq f.2.2.2.2.2.2.2.1 b))) (bu g (ae (jq f.2.2.2.2.2.2.2.1 b)) (∃(j:Int) (k:List ck) (l:aJ),(l=iy a e/\F8 j h k f.2.2.2.2.2.2.2.1 b g)/\jq f.2.2.2.2.2.2.2.1 b=jq f.2.2.2.2.2.2.2.1 b/\d6 (ae (jq f.2.2.2.2.2.2.2.1 b)) g (ae h) (0=j) (aU (af (jq f.2.2.2.2.2.2.2.1 b) g).1 (af (jq f.2.2.2.2.2.2.2.1 b) g).2.1 (Kk f.2.2.2.2.2.2.2.1 b g)
 (i.1.1=l.1.1/\i.1.2.1=l.1.2.1/\i.1.2.2=l.1.2.2/\i.2.1=l.2.1/\i.2.2.1=l.2.2.1/\i.2.2.2.1=l.2.2.2.1/\i.2.2.2.2.1=l.2.2.2.2.1/\i.2.2.2.2.2.1=l.2.2.2.2.2.1/\i.2.2.2.2.2.2.1=l.2.2.2.2.2.2.1/\i.2.2.2.2.2.2.2.1=l.2.2.2.2.2.2.2.1/\i.2.2.2.2.2.2.2.2=l.2.2.2.2.2.2.2.2/\aA b (d=d) (ai (h=k))))) (∀(j:Int)(k:List ck)(l:aJ),l=iy a e/\F8 j h k f.2.2.2.2.2.2.2.1 b g->au (av j (ae h)) (fw j (ae k) (decide ((af k j).1.1=(af (jq f.2.2.2.2.2.2.2.1 b) g).2.1)) (jb (af k j).2.1/\bY (af (jq f.2.2.2.2.2.2.2.1 b) g).2.2/\ ∃(m:Int) (n:List ck) (o:aJ),(o=iy a e/\F8 m h n f.2.2.2.2.2.2.2.1 b g)/\aZ (ae h) m j/\jq f.2.2.2.2.2.2.2.1 b=jq f.2.2.2.2.2.2.2.1 b/\d6 (ae (jq f.2.2.2.2.2.2.2.1 b)) g (ae h) (aY j m) (aU (af (jq f.2.2.2.2.2.2.2.1 b) g).1 (af (jq f.2.2.2.2.2.2.2.1 b) g).2.1 (Kk f.2.2.2.2.2.2.2.1 b g)
 (l.1.1=o.1.1/\l.1.2.1=o.1.2.1/\l.1.2.2=o.1.2.2/\l.2.1=o.2.1/\l.2.2.1=o.2.2.1/\l.2.2.2.1=o.2.2.2.1/\l.2.2.2.2.1=o.2.2.2.2.1/\l.2.2.2.2.2.1=o.2.2.2.2.2.1/\l.2.2.2.2.2.2.1=o.2.2.2.2.2.2.1/\l.2.2.2.2.2.2.2.1=o.2.2.2.2.2.2.2.1/\l.2.2.2.2.2.2.2.2=o.2.2.2.2.2.2.2.2/\aA b (d=d) (ai (set k j.toNat ((af k j).1,kf (af k j).2.1 (af (jq f.2.2.2.2.2.2.2.1 b) g).1 (af (jq f.2.2.2.2.2.2.2.1 b) g).2.2,(af k j).2.2)=n))))) (∃(m:Int) (n:List ck) (o:aJ),(o=iy a e/\F8 m h n f.2.2.2.2.2.2.2.1 b g)/\aZ (ae h) m j/\jq f.2.2.2.2.2.2.2.1 b=jq f.2.2.2.2.2.2.2.1 b/\d6 (ae (jq f.2.2.2.2.2.2.2.1 b)) g (ae h) (aY j m) (aU (af (jq f.2.2.2.2.2.2.2.1 b) g).1 (af (jq f.2.2.2.2.2.2.2.1 b) g).2.1 (Kk f.2.2.2.2.2.2.2.1 b g)
 (l.1.1=o.1.1/\l.1.2.1=o.1.2.1/\l.1.2.2=o.1.2.2/\l.2.1=o.2.1/\l.2.2.1=o.2.2.1/\l.2.2.2.1=o.2.2.2.1/\l.2.2.2.2.1=o.2.2.2.2.1/\l.2.2.2.2.2.1=o.2.2.2.2.2.1/\l.2.2.2.2.2.2.1=o.2.2.2.2.2.2.1/\l.2.2.2.2.2.2.2.1=o.2.2.2.2.2.2.2.1/\l.2.2.2.2.2.2.2.2=o.2.2.2.2.2.2.2.2/\aA b (d=d) (ai (k=n)))))) (∃(m:Int) (n:List ck) (o:aJ),JT o a e m b n c/\cu (ae (drop b.toNat (bh o)) -m) (ae (drop b.toNat (bh i)) -g)/\jq f.2.2.2.2.2.2.2.1 b=jq f.2.2.2.2.2.2.2.1 b/\aA (ae (jq f.2.2.2.2.2.2.2.1 b)) (aY g m) (l.1.1=o.1.1/\l.1.2.1=o.1.2.1/\l.1.2.2=o.1.2.2/\l.2.1=o.2.1/\l.2.2.1=o.2.2.1/\l.2.2.2.1=o.2.2.2.1/\l.2.2.2.2.1=o.2.2.2.2.1/\l.2.2.2.2.2.1=o.2.2.2.2.2.1/\l.2.2.2.2.2.2.1=o.2.2.2.2.2.2.1/\l.2.2.2.2.2.2.2.1=o.2.2.2.2.2.2.2.1/\l.2.2.2.2.2.2.2.2=o.2.2.2.2.2.2.2.2/\aA b (d=d) (ai (k=n)))))) ((i,ae i.2.2.2.2.2.2.2.1,h,d)=d9 (a,b,c,d) e)):= by
  delta af ae ap aq aI aQ aU Bl bG aA aZ cu jq ao bY BM F8 aY ai aD bu bM JT av eG d6 DH fw Kk
  rintro w0 r0 ss0 vs t-⟨⟨q,hP⟩,ht⟩
  obtain⟨z0,z1⟩:=hP.rdle ht
  have z2:=hP.dlen ht
  have hn2:=hP.n2
  refine⟨⟨hP.wE,bP (λh=>?_) (λh=>?_)⟩,?_⟩
  .refine⟨mK w0 t,?_,aK⟩
   unfold mK iy
   rw[aj h,aj h]
  .refine⟨w0,?_,aK⟩
   unfold iy
   rw[ah h]
  rintro w hw
  have hh:∀{j:Int},0<=j->j<((bh w).drop r0.toNat).length->_:=λ{j} j0 j1=>hP.hand ht j0 (j:=j) (by rw[← hw];exact j1)
  have hh:∀{j:Int},0<=j->j<((bh w).drop r0.toNat).length->((((bh w).drop r0.toNat).getD j.toNat default).2.2.length:Int)<=1000000∧∀ s∈ss0,jb (mY (j5 (((bh w).drop r0.toNat).take j.toNat) s)):=λ{j} j0 j1=>by
   have:=hh j0 j1
   rw[← hw] at this
   exact this
  have z1:r0<=((bh w).length:Int):=by rw[hw];exact z1
  have es:fA w.2.2.2.2.2.2.2.1 r0.toNat (toNat (w.2.2.2.2.2.2.2.1.length:Int))=(bh w).drop r0.toNat:=aM8 _ _
  rw[es]
  have z2:((bh w).length:Int)<=1000000000000:=by rw[hw];exact z2
  have z3:(((bh w).drop r0.toNat).length:Int)<=1000000000000:=by rw[ib];omega
  refine⟨z0,z1,gH _,⟨0,ss0,w,⟨hw,ab,ab,(Wk ss0).symm⟩,aK⟩,?_⟩
  rintro j ss w1 ⟨hw1,j0,j1,hss⟩
  have e1:w1=w:=hw1.trans hw.symm
  subst e1
  clear hw1
  have hl2:ss.length<=2:=by rw[hss,mg];exact hn2
  refine bP (λhj=>?_) (λhj=>?_)
  .obtain⟨hd,hv⟩:=hh j0 hj
   have nx:((bh w1).drop r0.toNat).take (j+1).toNat=_:=oG j0 hj
   generalize ((bh w1).drop r0.toNat).getD j.toNat default=x at *
   refine⟨j0,hj,⟨0,ss,w1,⟨hw,ab,ab,rfl⟩,aK⟩,?_⟩
   rintro i s1 w2 ⟨hw2,i0,i1,hs1⟩
   have e2:w2=w1:=hw2.trans hw.symm
   subst e2
   clear hw2
   refine bP (λhi=>?_) (λhi=>?_)
   .obtain⟨m1,m2⟩:=RE (β:=ck) (λs=>lO s x) i0 hi
    rw[← hs1] at m1 m2
    have hlen:s1.length=ss.length:=by rw[hs1,cL,mg,dG,ib];omega
    have hmem:ss.getD i.toNat default∈ss:=cA i0 hi
    have hvs:jb (mY (ss.getD i.toNat default)):=by
     rw[hss] at hmem
     obtain⟨s0,hs0,e⟩:=List.mem_map.1 hmem
     rw[hss,← e]
     exact hv s0 hs0
    refine⟨i0,ab,?_⟩
    rw[m1]
    generalize ss.getD i.toNat default=s at *
    refine bP (λhn=>?_) (λhn=>?_)
    .have hn:wz s=x.2.1:=hn
     have er:lO s x=(s.1,kf s.2.1 x.1 x.2.2,s.2.2):=by unfold lO;rw[aj hn];rfl
     rw[er] at m2
     refine⟨hvs,hd,i+1,_,w2,⟨hw,ab,ab,m2⟩,ab,?_⟩
     (repeat refine fR ?_)
     exact trivial
    .have hn:¬ wz s=x.2.1:=hn
     have er:lO s x=s:=by unfold lO;rw[ah hn]
     rw[er,← m1,yw i0 ab] at m2
     refine⟨i+1,_,w2,⟨hw,ab,ab,m2⟩,ab,?_⟩
     (repeat refine fR ?_)
     exact trivial
   .have e:s1=ss.map λs=>lO s x:=by rw[hs1,fH ab,List.drop_eq_nil_of_le ab,kY]
    refine⟨j+1,_,w2,⟨hw,ab,ab,rfl⟩,ab,?_⟩
    (repeat refine fR ?_)
    refine⟨?_,aN⟩
    rw[e,hss,List.map_map,nx]
    exact List.map_congr_left λs _=>(Vf _ [x] s).symm
  .rw[fH ab] at hss
   rw[hss,hw]
   rfl
theorem ah4:aB 17 Wr.spec:=aF Tryz.func17 (am (am aC Tt) V8) aG7 a12
def TF:Ct:=⟨[.box 41 LS,.agg CS],[],λd=>[∃ q,PO q d.1,0<=d.2.1.1,d.2.1.1<d.1.2.2.1.length,0<=d.2.1.2.2.1,d.2.1.2.2.1<(ni (ic d.1 d.2.1)).1.length],λd=>((),(mi d.1 d.2.1,()))⟩
def bh1:bp TF.ps->bI:=(λd=>{cuts:=(bt 3 (λS=>{ι:=(List ck),inv:=λi=>i=d.1.2.2.1.set d.2.1.1.toNat (tZ (ic d.1 d.2.1)),keep:=[0,3,4],slots:=λi=>[],keepN:=[64],names:=λi=>[(1048576,.live (.cells 41 (cQ jY d.1.1++[.int .i64 d.1.2.1,.own 2097152 30,.dsl xp d.1.2.2.2]))),(2097152,.live (.row 69 nI i))]}) bZ)})
def sH(a:List ck)(b c:Int):=af (af a b).1.2.2.1.1 c
theorem av0:
 ∀(a:aU8)(b:Int)(c:bU5)(d:List ry)(e f g h i:Int),(CT.wf jY a/\aq b/\DH c/\BM d)/\ai (bG e f (aq g) (aq h/\aq i))->(∃(j:Int),PO
 j (a,b,c,d))/\bu e (ae c) (0<=g) (g+1<=ae (ni (ic (a,b,c,d) (e,f,g,h,i))).1)->bu e (ae c) (∃(j:List ck),j=set c e.toNat (tZ (ic (a,b,c,d) (e,f,g,h,i)))/\rq e/\ce e f g h i (a.1.1=a.1.1) (a.1.2.1=a.1.2.1/\a.1.2.2=a.1.2.2/\d6 a.2.1 a.2.2.1 a.2.2.2.1 (a.2.2.2.2.1=a.2.2.2.2.1) (mq a.2.2.2.2.2.1 a.2.2.2.2.2.2.1 a.2.2.2.2.2.2.2.1 (a.2.2.2.2.2.2.2.2=a.2.2.2.2.2.2.2.2) (aA b (d=d) (ai (set c e.toNat ((af c e).1,(af c e).2.1,ap ((af c e).2.2.1+1),(af c e).2.2.2)=j)))))) (∀(j:List ck),j=set c e.toNat (tZ (ic (a,b,c,d) (e,f,g,h,i)))->bu g (ae (af j e).1.2.2.1.1) (jb (af j e).2.1) (0<=(af j e).2.1.2.2.1/\ ∀(k:bT)(l:ac)(m:Int),k=oo (af j e).2.1 i (sH j e g).1 (sH j e g).2.1 (sH j e g).2.2.1 (sH j e g).2.2.2.1/\l=nU (af j e).2.1 i (sH j e g).1 (sH j e g).2.1 (sH j e g).2.2.1 (sH j e
 g).2.2.2.1/\m=kz (af j e).2.1 i (sH j e g).1 (sH j e g).2.1 (sH j e g).2.2.1 (sH j e g).2.2.2.1->au (bJ m) ((a,b,j,d)=mi (a,b,c,d) (e,f,g,h,i)) (oQ a/\bY l/\ ∀(n:aU8)(o p:Int),n=rL a i (af j e).1.1 l/\o=sR a i (af j e).1.1/\p=mj a i (af j e).1.1->au (eG p) ((n,b,set j e.toNat ((af j e).1,k,(af j e).2.2),d)=mi (a,b,c,d) (e,f,g,h,i)) ((a,b,j,d)=mi (a,b,c,d) (e,f,g,h,i))))):= by
  delta af ae ap aq aI aQ aU Bl bG aA ao bJ bY BM rq ce ai mq sH aD bW bu eG d6 DH
  rintro w0 r0 ss vs di ix tk rd t-⟨⟨q,hP⟩,i0,i1,t0,t1⟩
  have hs:ic (w0,r0,ss,vs) (di,ix,tk,rd,t)∈ss:=cA i0 i1
  have k:=hP.st _ hs
  have q0:=hP.q0
  have sn:=k.sn
  obtain⟨k1,k2⟩:=k.small
  refine⟨i0,i1,⟨_,rfl,?_⟩,?_⟩
  ·(repeat refine fR ?_)
   refine⟨?_,aN⟩
   have e:IntKind.i64.wrap (iZ (ic (w0,r0,ss,vs) (di,ix,tk,rd,t))+1)=iZ (ic (w0,r0,ss,vs) (di,ix,tk,rd,t))+1:=aL ab ab
   show ss.set di.toNat (_,_,IntKind.i64.wrap (iZ (ic (w0,r0,ss,vs) (di,ix,tk,rd,t))+1),_)=_
   rw[e];rfl
  rintro s1 hs1
  have e:s1.getD di.toNat default=tZ (ic (w0,r0,ss,vs) (di,ix,tk,rd,t)):=by rw[hs1];exact lD ab
  rw[e]
  refine⟨t0,t1,k1,k2,?_⟩
  rintro v b x ⟨hv,hb,hx⟩
  have hv:v=EL (w0,r0,ss,vs) (di,ix,tk,rd,t):=hv
  have hb:b=Er (w0,r0,ss,vs) (di,ix,tk,rd,t):=hb
  have hx:x=Co (w0,r0,ss,vs) (di,ix,tk,rd,t):=hx
  refine ay (λh=>?_) (λh=>?_)
  .have h:¬ x=0:=ke h
   unfold mi
   rw[ah (λz=>h (hx.trans z.1)),hs1]
  have h:x=0:=kS h
  refine⟨hP.wE,by have:=(IU (mY (ic (w0,r0,ss,vs) (di,ix,tk,rd,t))) t (kD (w0,r0,ss,vs) (di,ix,tk,rd,t)).1 (kD (w0,r0,ss,vs) (di,ix,tk,rd,t)).2.1 (kD (w0,r0,ss,vs) (di,ix,tk,rd,t)).2.2.1 (kD (w0,r0,ss,vs) (di,ix,tk,rd,t)).2.2.2.1).2;rw[hb];exact Int.le_trans this bo,?_⟩
  rintro w2 o y ⟨hw,-,hy⟩
  have hy:y=Ck (w0,r0,ss,vs) (di,ix,tk,rd,t):=hy
  refine bP (λg=>?_) (λg=>?_)
  .unfold mi
   rw[aj ⟨hx.symm.trans h,hy.symm.trans g⟩,hs1,List.set_set,hv,hw]
   unfold rL
   rw[aj (show mj w0 t (tZ (ic (w0,r0,ss,vs) (di,ix,tk,rd,t))).1.1=0 from hy.symm.trans g),hb]
   rfl
  .unfold mi
   rw[ah (λz=>g (hy.trans z.2)),hs1]
theorem bt7:aB 18 TF.spec:=aF Tryz.func18 (am (am aC (Ct.named VX)) (Ct.named QA)) bh1 av0
theorem qM.cpl{n t q:Int}{s:ck}(h:qM n t q s):zn s:=by
 obtain⟨c1,c2,k,l,e,c3,c4⟩:=h.cp
 refine⟨⟨pH h.pl.1 bo,c1⟩,h.small.1,c2,?_⟩
 rw[e]
 exact⟨rfl,c3,c4⟩
theorem PO.cpl{q:Int}{p:dY}(h:PO q p):LH p:=⟨h.wE.cp,h.vs,pH h.n2 (by decide),λs hs=>(h.st s hs).cpl⟩
def Um:Ct:=⟨[.agg vq,.val cI],[.agg vq,.val cI],λd=>[∃ q,q<=1000/\PO q d.1,bf d.1.1<=d.2.1,d.2.1<=1000],λd=>((o8 d.1 d.2.1,0,()),())⟩
def aA9:bp Um.ps->bI:=(λd=>{loops:=(bt 7 (λS=>{ι:=Int×dY,qn:=eO,μ:=λi=>((cW d.1.2.2.1 d.2.1).length-i.1).toNat,inv:=λi=>0<=i.1/\i.1<=(cW d.1.2.2.1 d.2.1).length/\i.2=((cW d.1.2.2.1 d.2.1).take i.1.toNat).foldl fa d.1,keep:=[1,4,6,26,27],slots:=λi=>[(28,.int .i64 i.1)],keepN:=[80,432],names:=λi=>[(112,.live (.cells 41 (cQ jY i.2.1++[.int .i64 i.2.2.1,.own 524288 30,.dsl xp i.2.2.2.2]))),(524288,.live (.row 69 nI i.2.2.2.1))]}) (bt 14 (λS=>{ι:=Int×(List ck)×dY,qn:=pI,μ:=λi=>(i.2.2.2.2.1.length-i.1).toNat,inv:=λi=>i.2.2=d9 ((cW d.1.2.2.1 d.2.1).foldl fa d.1) d.2.1/\0<=i.1/\i.1<=i.2.2.2.2.1.length/\i.2.1=(i.2.2.2.2.1.take i.1.toNat).map (gz d.2.1)++i.2.2.2.2.1.drop i.1.toNat,keep:=[1,4,6,43],slots:=λi=>[(44,.int .i64 i.1)],keepN:=[80],names:=λi=>[(112,.live (.cells 41 (cQ jY i.2.2.1++[.int .i64 i.2.2.2.1,.own 524288 30,.dsl xp i.2.2.2.2.2]))),(524288,.live (.row 69 nI i.2.1))]}) bZ))})
def Ja(a:dY)(b:aU8×Int×List bJ4×List bT6)(c:bU5)(d e:Int)(f g:List ck):=a=d9 (List.foldl fa b (cW c d)) d/\ao e (e<=ae f) (g=List.map (gz d) (take e.toNat f)++drop e.toNat f)
def HI(a:Int)(b:bU5)(c:Int)(d:dY)(e:aU8×Int×List bJ4×List bT6):=ao a (a<=ae (cW b c)) (d=List.foldl fa e (take a.toNat (cW b c)))
def B9:=((0:Int),([]:List bJ4),([]:List ry))
theorem bJ5:
 ∀(a:aU8×Int×List bJ4×List (Int×List bT0×List (Int×Int×Int×List
 bT0)))(b:Int),CT.wf vq a/\ai (aq b)->(∃(c:Int),c<=1000/\PO c a)/\bf a.1<=b/\b<=1000->au (tc b) ((qe,B9)=o8 a b/\(1:Int)=(0:Int)) (au (av b a.1.2.1) ((qe,B9)=o8 a b/\(6:Int)=(0:Int)) (LH a/\a.2.2.1.length<=2/\(∀(c:ck),c∈a.2.2.1->i9 (ni c))/\(∃(c:Int) (d:dY),HI c a.2.2.1 b d a/\aU b (ae (cW a.2.2.1 b)) (0=c) (gQ 0 0 0 0 (cW a.2.2.1 b=cW a.2.2.1 b) (a.1.1.1=d.1.1.1/\a.1.1.2.1=d.1.1.2.1/\a.1.1.2.2=d.1.1.2.2/\a.1.2.1=d.1.2.1/\a.1.2.2.1=d.1.2.2.1/\a.1.2.2.2.1=d.1.2.2.2.1/\a.1.2.2.2.2.1=d.1.2.2.2.2.1/\a.1.2.2.2.2.2.1=d.1.2.2.2.2.2.1/\a.1.2.2.2.2.2.2.1=d.1.2.2.2.2.2.2.1/\a.1.2.2.2.2.2.2.2.1=d.1.2.2.2.2.2.2.2.1/\a.1.2.2.2.2.2.2.2.2=d.1.2.2.2.2.2.2.2.2/\a.2.1=d.2.1/\a.2.2.2=d.2.2.2/\ai (a.2.2.1=d.2.2.1))))/\ ∀(c:Int)(d:dY),HI c a.2.2.1 b d a->fE c (ae (cW
 a.2.2.1 b)) (c<ae (cW a.2.2.1 b)) ((∃(e:Int),PO e d)/\(af (cW a.2.2.1 b) c).2.2.2.2<=1000/\ ∀(e:aU8)(f:Int)(g:bU5)(h:List
 ry),(e,f,g,h)=d9 d (af (cW a.2.2.1 b) c).2.2.2.2->(∃(i:Int),PO i (e,f,g,h))/\ao (af (cW a.2.2.1 b) c).1 ((af (cW a.2.2.1 b) c).1<ae g) (ao (af (cW a.2.2.1 b) c).2.2.1 ((af (cW a.2.2.1 b) c).2.2.1<ae (ni (ic (e,f,g,h) (af (cW a.2.2.1 b) c))).1) (∀(i:aU8)(j:Int)(k:List (bT5×(Int×Int×Int×Int×Int×List bT4×List
 bT0)×Int×bU7×Int×Int×Int×Int×List ac×Int×List ac×List bU0×List bT7×List bT7))(l:List ry),(i,j,k,l)=mi (e,f,g,h) (af (cW a.2.2.1 b) c)-> ∃(m:Int) (n:dY),HI m a.2.2.1 b n a/\aZ (ae (cW a.2.2.1 b)) m c/\aU b (ae (cW a.2.2.1 b)) (aY c m) (gQ 0 0 0 0 (cW a.2.2.1 b=cW a.2.2.1 b) (i.1.1=n.1.1.1/\i.1.2.1=n.1.1.2.1/\i.1.2.2=n.1.1.2.2/\i.2.1=n.1.2.1/\i.2.2.1=n.1.2.2.1/\i.2.2.2.1=n.1.2.2.2.1/\i.2.2.2.2.1=n.1.2.2.2.2.1/\i.2.2.2.2.2.1=n.1.2.2.2.2.2.1/\i.2.2.2.2.2.2.1=n.1.2.2.2.2.2.2.1/\i.2.2.2.2.2.2.2.1=n.1.2.2.2.2.2.2.2.1/\i.2.2.2.2.2.2.2.2=n.1.2.2.2.2.2.2.2.2/\j=n.2.1/\l=n.2.2.2/\ai (k=n.2.2.1)))))) (∃(e:Int),PO e d) (b<=1000/\ ∀(e:(List (List bT2×Int×Int×Bool×List (bT2×List
 Int×Int)×Int×Int×Int×Int×Int×bT2×Bool×Bool×Int×Int)×List bU3×List bU6)×Int×Int×Int×List bT9×ac×List bU4×List bT7×List bU2)(f:Int)(g:bU5)(h:List ry),(e,f,g,h)=d9 d b->(∃(i:Int) (j:List ck) (k:dY),Ja k a a.2.2.1 b i k.2.2.1 j/\aU b (ae g) (0=i) (gQ 0 0 0 0 (e.1.1=k.1.1.1)
 (e.1.2.1=k.1.1.2.1/\e.1.2.2=k.1.1.2.2/\e.2.1=k.1.2.1/\e.2.2.1=k.1.2.2.1/\e.2.2.2.1=k.1.2.2.2.1/\e.2.2.2.2.1=k.1.2.2.2.2.1/\e.2.2.2.2.2.1=k.1.2.2.2.2.2.1/\e.2.2.2.2.2.2.1=k.1.2.2.2.2.2.2.1/\e.2.2.2.2.2.2.2.1=k.1.2.2.2.2.2.2.2.1/\e.2.2.2.2.2.2.2.2=k.1.2.2.2.2.2.2.2.2/\f=k.2.1/\h=k.2.2.2/\ai (g=j))))/\ ∀(i:Int)(j:List ck)(k:dY),Ja k a a.2.2.1 b i k.2.2.1 j->fE i (ae g) (i<ae j) (jb (af j i).2.1/\ ∃(l:Int) (m:List ck) (n:dY),Ja n a a.2.2.1 b l n.2.2.1 m/\cu (ae n.2.2.1 -l) (ae k.2.2.1 -i)/\aU b (ae g) (aY i l) (gQ 0 0 0 0 (k.1.1.1=n.1.1.1)
 (k.1.1.2.1=n.1.1.2.1/\k.1.1.2.2=n.1.1.2.2/\k.1.2.1=n.1.2.1/\k.1.2.2.1=n.1.2.2.1/\k.1.2.2.2.1=n.1.2.2.2.1/\k.1.2.2.2.2.1=n.1.2.2.2.2.1/\k.1.2.2.2.2.2.1=n.1.2.2.2.2.2.1/\k.1.2.2.2.2.2.2.1=n.1.2.2.2.2.2.2.1/\k.1.2.2.2.2.2.2.2.1=n.1.2.2.2.2.2.2.2.1/\k.1.2.2.2.2.2.2.2.2=n.1.2.2.2.2.2.2.2.2/\k.2.1=n.2.1/\k.2.2.2=n.2.2.2/\ai (set j i.toNat ((af j i).1,((af j i).2.1.1,(af j i).2.1.2.1,(af j i).2.1.2.2.1,(af j i).2.1.2.2.2.1,(af j i).2.1.2.2.2.2.1,List.filter (λ(o:dD)=> !iH (vT (af j i).2.1) b o) (vW (af j i).2.1),vR (af j i).2.1++List.map (nG (af j i).2.1) (List.filter (iH (vT (af j i).2.1) b) (vW (af j i).2.1))),(af j i).2.2)=m)))) ((k.1,k.2.1,j,k.2.2.2)=o8 a b) ((0:Int)=(0:Int))))):= by
  delta af ae ap aq aI aU aA aZ cu qe ao fE aY ai gQ Ja av tc HI B9
  rintro d t-⟨⟨q,hq,hP⟩,h0,h1⟩
  have hL:=Ik (t:=t) hP.plans hP.n2
  have q0:=hP.q0
  have n2:=hP.n2
  have ok:∀ x∈cW d.2.2.1 t,(0<=x.1/\x.1<d.2.2.1.length)/\eI x<=t/\FO (ni (cq d.2.2.1 x.1.toNat)) x.2.2:=λx hx=>B1 hP.plans hx
  have okt:∀ k:Nat,∀ x∈(cW d.2.2.1 t).take k,(0<=x.1/\x.1<d.2.2.1.length)/\eI x<=1000:=λk x hx=>by
   obtain⟨a,b,-⟩:=ok x (qr hx)
   exact⟨a,ab⟩
  have st:∀ k:Nat,PO (q+((cW d.2.2.1 t).take k).length) (((cW d.2.2.1 t).take k).foldl fa d)/\(((cW d.2.2.1 t).take k).foldl fa d).2.2.1.length=d.2.2.1.length:=λk =>
   hP.steps rfl (by rw[dG];omega) (okt k)
  refine ay (λk=>by have k:=aX k;omega) (λ_=>ay (λk=>by have k:t<bf d.1:=aX k;omega) (λ_=>?_))
  refine⟨hP.cpl,n2,hP.plans,⟨0,d,⟨ab,ab,rfl⟩,aK⟩,?_⟩
  rintro j p ⟨j0,j1,hp⟩
  obtain⟨s1,s2⟩:=st j.toNat
  have s3:=λ{i:Nat} (hi:i<d.2.2.1.length)=>K3 (i:=i) (p:=d) (l:=(cW d.2.2.1 t).take j.toNat) hi λx hx=>(okt _ x hx).1
  rw[← hp] at s1 s2 s3
  refine bP (λhj=>?_) (λhj=>?_)
  .obtain⟨o1,o2,o3⟩:=ok _ (cA j0 hj)
   have nx:=oG j0 hj
   generalize getD (α:=Du) (cW d.2.2.1 t) j.toNat default=x at *
   have hx:x.1.toNat<d.2.2.1.length:=ab
   have u1:=(s1.until (t:=eI x) ab).1
   have pl:ni (ic (d9 p (eI x)) x)=ni (cq d.2.2.1 x.1.toNat):=by
    have a:=(Lv ((bh (iy p.1 (eI x))).drop p.2.1.toNat) (ss:=p.2.2.1) (i:=x.1.toNat) ab).1
    exact fj (λz:nJ.D=>z.2.2.1) (a.trans (s3 hx).1)
   have ul:=wP p (eI x)
   refine⟨j0,hj,⟨_,s1⟩,by show eI x<=1000;omega,?_⟩
   rintro w1 r1 ss1 v1 hu
   have hu:(w1,r1,ss1,v1)=d9 p (eI x):=hu
   rw[← hu] at u1 pl ul
   have ul:ss1.length=p.2.2.1.length:=ul
   have o4:=o3.t
   rw[← pl] at o4
   refine⟨⟨_,u1⟩,o1.1,ab,o4.1,o4.2,?_⟩
   rintro w2 r2 ss2 v2 hs
   have hs:(w2,r2,ss2,v2)=fa p x:=by rw[hs,hu];rfl
   refine⟨j+1,(w2,r2,ss2,v2),⟨ab,ab,?_⟩,ab,?_⟩
   .rw[hs,nx,ld,← hp];rfl
   ·(repeat refine fR ?_)
    exact trivial
  .rw[fH ab] at hp
   have u1:=(s1.until (t:=t) h1).1
   have ul:=wP p t
   refine⟨⟨_,s1⟩,h1,?_⟩
   rintro w1 r1 ss1 v1 hu
   have hu:(w1,r1,ss1,v1)=d9 p t:=hu
   rw[← hu] at u1 ul
   have ul:ss1.length=p.2.2.1.length:=ul
   have hu2:(w1,r1,ss1,v1)=d9 ((cW d.2.2.1 t).foldl fa d) t:=by rw[hu,hp]
   refine⟨⟨0,ss1,(w1,r1,ss1,v1),⟨hu2,ab,ab,rfl⟩,aK⟩,?_⟩
   rintro i ss p2 ⟨hp2,i0,i1,hss⟩
   have e2:p2=(w1,r1,ss1,v1):=hp2.trans hu2.symm
   subst e2
   refine bP (λhi=>?_) (λhi=>?_)
   .have hi:i<ss1.length:=hi
    obtain⟨m1,m2⟩:=RE (β:=ck) (gz t) (l:=ss1) i0 hi
    have hss:ss=(ss1.take i.toNat).map (gz t)++ss1.drop i.toNat:=hss
    rw[← hss] at m1 m2
    have hlen:ss.length=ss1.length:=by rw[hss,cL,mg,dG,ib];omega
    have hv:=(u1.st _ (cA i0 hi)).small.1
    rw[m1]
    refine⟨i0,ab,hv,i+1,_,(w1,r1,ss1,v1),⟨hp2,ab,by show i+1<=(ss1.length:Int);omega,m2⟩,by show ((ss1.length:Int)-(i+1)).toNat<((ss1.length:Int)-i).toNat;omega,?_⟩
    (repeat refine fR ?_)
    exact⟨rfl,aN⟩
   .have hi:¬ i<ss1.length:=hi
    have i1:i<=(ss1.length:Int):=i1
    have hss:ss=(ss1.take i.toNat).map (gz t)++ss1.drop i.toNat:=hss
    rw[fH ab,List.drop_eq_nil_of_le ab,kY] at hss
    refine⟨?_,rfl⟩
    show _=gU t (d9 ((cW d.2.2.1 t).foldl fa d) t)
    rw[← hu2,hss]
    rfl
theorem at3:aB 7 Um.spec:=aF Tryz.func7 (am (am (am (am (am aC ZD) aN5) (Ct.named ah4)) (Ct.named bt7)) NL) aA9 bJ5
def DM(ns:List ar)(i:Int):Int:=((aM (ns.getD i.toNat default)).getD 0 default).1
def qh(ns:List ar):Nat->Int
 | 0=>0
 | i+1=>if pv (ns.getD (i+1) default)=true/\0<(aM (ns.getD (i+1) default)).length then ((i+1:Nat):Int) else qh ns i
def gu(n:Net):Int×Int:=if n.1.length=0∨(aM (n.1.getD 0 default)).length=0 then (0,0) else (DM n.1 0,DM n.1 (qh n.1 (n.1.length-1)))
def Tp:Ct:=⟨[.agg kJ],[.val db,.val db],λ_=>[],λd=>(((gu d.1).1,(gu d.1).2,()),())⟩
def aS3:bp Tp.ps->bI:=(λd=>{loops:=(bt 4 (λS=>{ι:=Int,μ:=λi=>i.toNat,inv:=λi=>0<=i/\i+1<=d.1.1.length/\qh d.1.1 (d.1.1.length-1)=qh d.1.1 i.toNat,keep:=[1],slots:=λi=>[(4,.int .i64 i)],keepN:=[32]}) bZ)})
def Ir(a:Int)(b:List ar):=ao a (a+1<=ae b) (qh b (b.length -1)=qh b a.toNat)
theorem bm2:
 ∀(a:List ar)(b:List bc)(c:List bV),ft (f7 a b c) (∀(d:Bool),d=eG (ae a)->bO d/\( !d->vI ( !d) (ae a))/\cX d (bO d) (jW d (bn d (eG (ae (af a 0).1))) (0=(gu (a,b,c)).1/\0=(gu (a,b,c)).2) ((∃(e:Int),Ir e a/\ap (ae a -1)=e/\cT a b (c=c) True)/\ ∀(e:Int),Ir e a->au (av 0 e) (ao e (e<ae a) (∀(f:Bool),f=(af a e).2.2.2.1->cG f f (iM f f e (e<ae a)) (f->aT f) (ia f f (aT f) (f->f) (au (bw f (av 0 (ae (af a e).1))) (ao 0 (0<ae a) (ao 0 (0<ae (af a 0).1) (ao e (e<ae a) (bu 0 (ae (af a e).1) ((af (af a 0).1 0).1=(gu (a,b,c)).1) ((af (af a e).1 0).1=(gu (a,b,c)).2))))) (∃(g:Int),Ir g a/\cu g e/\ap (e -1)=g/\cT a b (c=c) True))))) (ao 0 (0<ae a) (ao 0 (0<ae (af a 0).1) (ao 0 (0<ae a) (bu 0 (ae (af a 0).1) ((af (af a 0).1 0).1=(gu (a,b,c)).1) ((af (af a 0).1
 0).1=(gu (a,b,c)).2)))))))):= by
  delta af ae ap aq aI bO aQ aT f7 kF cO cS cB ji bG bn cG bw jt cu cX ao br cT ia iM ai kC aD bu av Ir eG ft jW vI fB
  rintro ns ls hs ⟨⟨⟨hnl,-⟩,-⟩,-⟩ -
  simp only[maxLen] at hnl
  intro b hb
  (repeat refine⟨λh_=>(by first|exact⟨λ_=>h_,ab,by rw[hb] at h_;have:=ke h_;omega,aN⟩|(simp;done)|(simp[h_];done)|(simp_all;done)),?_⟩)
  rw[hb,LR,show toNat (0:Int)=0 from rfl]
  rw[show (ns.getD 0 default).1=aM (ns.getD 0 default) from rfl]
  refine ay (λh=>?_) (λh=>?_)
  .have h:=aX h
   unfold gu
   rw[aj (by dsimp only;omega)];exact⟨rfl,rfl⟩
  have h:=bi h
  have eH:gu (ns,ls,hs)=(DM ns 0,DM ns (qh ns (ns.length-1))):=by
   unfold gu;rw[ah (by dsimp only;omega)]
  rw[eH,aL (n:=(ns.length:Int)-1) ab ab]
  refine⟨⟨(ns.length:Int)-1,⟨ab,ab,by rw[show ((ns.length:Int)-1).toNat=ns.length-1 by omega]⟩,aK⟩,?_⟩
  rintro i ⟨i0,i1,hI⟩
  refine bP (λhi=>?_) (λhi=>?_)
  .have ei:i.toNat=(i.toNat-1)+1:=ab
   have e2:(((i.toNat-1+1:Nat)):Int)=i:=ab
   refine⟨i0,ab,?_⟩
   intro b2 hb2
   (repeat refine⟨λh_=>(by first|exact⟨λ_=>h_,λ_=>h_,i0,ab,aN⟩|(simp;done)|(simp[h_];done)|(simp_all;done)),?_⟩)
   have hI2:=hI
   rw[ei,qh,← ei] at hI2
   rw[show (ns.getD i.toNat default).1=aM (ns.getD i.toNat default) from rfl]
   refine z8 (λh1 h2=>?_) (λh1=>?_)
   .have h1:pv (ns.getD i.toNat default)=true:=hb2.symm.trans h1
    have h2:=aX h2
    rw[aj ⟨h1,ab⟩,show ((i.toNat:Nat):Int)=i by omega] at hI2
    rw[hI2]
    exact⟨ab,ab,ab,ab,i0,ab,ab,h2,rfl,rfl⟩
   .rw[ah] at hI2
    .exact⟨i-1,⟨ab,ab,by rw[hI2,show (i-1).toNat=i.toNat-1 by omega]⟩,ab,aK⟩
    .rintro⟨k1,k2⟩
     rcases h1 with h1|h1
     .rw[hb2,show (ns.getD i.toNat default).2.2.2.1=pv (ns.getD i.toNat default) from rfl,k1] at h1;cases h1
     .have:=bi h1;omega
  .rw[show i.toNat=0 by omega,qh] at hI
   rw[hI]
   exact⟨ab,ab,ab,ab,ab,ab,ab,ab,rfl,rfl⟩
theorem M7:aB 10 Tp.spec:=aF Tryz.func10 aC aS3 bm2
theorem a92{a b:Int}(a0:1<=a)(a1:a<=99)(b0:1<=b)(b1:b<=99):iX (a,b)=0:=by
 unfold iX;simp;omega
def Y7:Cn:=⟨[.box 88 j7,.val cI],[.val .bool],λd=>[bH d.1],λd y=>bH y.2.1,λd h=>⟨((true,()),(d.1,())),h.1⟩⟩
theorem bQ2:
 ∀(a:ac)(b c:Int),(aV a/\aq b)/\ai (aq c)->aD b (ae a)->bH (a,b)/\ ∀(d:Int)(e:ac)(f:Int),ao d (d<c∨d=0) (bH (e,f))->aD f (ae e):= by
  delta ae aq aI aV ao ai aD
  rintro l p n-h
  exact⟨h,λ_ _ _ h=>h.2.2⟩
theorem aP5:aB 91 Y7.spec:=nB Tryz.func91 (am aC Ka) aS bQ2
def bj1:Cn:=⟨[.box 88 j7,.val (.sl cI)],[.val cI],λd=>[bH d.1,1<=d.2.1.length,d.2.1.length<=100],λd y=>y.1.1∈d.2.1/\bH y.2.1,λd h=>⟨((d.2.1.getD (0:Int).toNat default,()),(d.1,())),cA (by omega) (by have:=h.2.1;omega),h.1⟩⟩
theorem bD6:
 ∀(a:ac)(b:Int)(c:ac),(aV a/\aq b)/\ai (cB c)->bH (a,b)/\1<=c.length/\c.length<=100->bH (a,b)/\ ∀(d:Int)(e:ac)(f:Int),ao d (d<ae c∨d=0) (bH (e,f))->bu d (ae c) (af c d∈c) (bH (e,f)):= by
  delta af ae aq aI aV cB ao ai aD bu
  rintro l p x-⟨h,h1,h2⟩
  refine⟨h,λy l p ⟨y0,y1,y2⟩=>?_⟩
  have k:y<(x.length:Int):=ab
  exact⟨y0,k,cA y0 k,y2⟩
theorem ao7:aB 167 bj1.spec:=nB Tryz.func167 (am aC Ka) aS bD6
def ag0:Cn:=⟨[.box 88 j7],[.val cI],λd=>[bH d.1],λd y=>(y.1.1=1∨y.1.1=6∨y.1.1=17)/\bH y.2.1,λd h=>⟨((1,()),(d.1,())),.inl rfl,h.1⟩⟩
theorem bC4:
 ∀(a:ac)(b:Int),ai (aV a/\aq b)->aD b (ae a)->bH (a,b)/\1<=length ((17:Int)::(1:Int)::bN 6)/\length ((17:Int)::(1:Int)::bN 6)<=100/\ ∀(c:Int)(d:ac)(e:Int),c∈17::1::bN 6/\bH (d,e)->(c=1∨c=6∨c=17)/\bH (d,e):= by
  delta ae aq aI aV bN ai aD
  rintro l p-h
  refine⟨h,bo,bo,λy l p ⟨y0,y1⟩=>⟨?_,y1⟩⟩
  simp only[eZ,List.not_mem_nil,or_false] at y0
  omega
theorem bj3:aB 92 ag0.spec:=nB Tryz.func92 (am aC ao7) aS bC4
def UQ:Cn:=⟨[.box 88 j7,.agg kJ],[.agg lm],λd=>[bH d.1,(gu d.2.1).2/16777216=10],λd y=>i9 y.1.1/\bH y.2.1,λd h=>⟨(((([],(0,0)):lm.D),()),(d.1,())),⟨Nat.zero_le _,λ_ h=>absurd h (List.not_mem_nil),rfl⟩,h.1⟩⟩
def aQ6:bp UQ.ps->bI:=(λd=>{loops:=(bt 6 (λS=>{ι:=Int×(List bV3)×(ac×Int)×bT2,qn:=HJ,μ:=λi=>i.1.toNat,inv:=λi=>i.1+i.2.1.length<=5/\0<=i.1/\bH i.2.2.1/\iX i.2.2.2=0∧∀ t∈i.2.1,uk t,keep:=[0,1,2,3,4,5,7],slots:=λi=>[(8,.int .i64 i.1)],keepN:=[64,80],names:=λi=>[(1048576,.live (.cells 88 (cQ j7 i.2.2.1))),(96,.live (.cells 54 ([.own 524288 7]++cQ xU i.2.2.2))),(524288,.live (.row 78 z9 i.2.1))]}) bZ),cuts:=(bt 4 (λS=>{ι:=(ac×Int)×bT2,qn:=eO,inv:=λi=>bH i.1/\iX i.2=0,keep:=[0,1,2,3,4,5],slots:=λi=>[],keepN:=[64,80],names:=λi=>[(1048576,.live (.cells 88 (cQ j7 i.1))),(96,.live (.cells 54 ([.nilsl]++cQ xU i.2)))]}) bZ)})
def xd(a:Int)(b c:Prop):=∀(d:ac)(e:Int),ao a b (bH (d,e))->bH (d,e)/\c
def D3(a:Int)(b:List jh)(c:bm)(d:bT2):=a+ae b<=5/\ao a (bH c) (iX d=0/\td b)
theorem bs2:
 ∀(a:ac)(b:Int)(c:List ar)(d:List bc)(e:List bV),(aV a/\aq b)/\ai (f7 c d e)->bH (a,b)/\(gu (c,d,e)).2/16777216=10->(bH (a,b)/\ ∀(f:Bool)(g:ac)(h:Int),bH (g,h)->au f (bH (g,h)/\ ∀(i:Int),xd i (i<3∨i=0) (∀(j:Int)(k:ac)(l:Int),ao j (j<20∨j=0) (bH (k,l))-> ∃(m:bm) (n:bT2),(bH m/\iX n=0)/\cT c d (e=e) (cT c d (e=e) (aU 0 0 (k=m.1) (l=m.2/\ap (1+i)=n.1/\ai (ap (1+j)=n.2)))))) (∃(i:bm) (j:bT2),(bH i/\iX j=0)/\cT c d (e=e) (cT c d (e=e) (aU 0 0 (g=i.1) (h=i.2/\0=j.1/\ai (0=j.2))))))/\ ∀(f:bm)(g:bT2),bH f/\iX g=0->bH f/\ ∀(h:Int)(i:ac)(j:Int),ao h (h<5∨h=0) (bH (i,j))->(∃(k:Int) (l:List jh) (m:bm) (n:bT2),D3 k l m n/\cT c d (e=e) (aA (gu (c,d,e)).2 (ap (1+h)=k) (cT c d (e=e) (aU 0 0 (i=m.1) (j=m.2/\g.1=n.1/\g.2=n.2/\ai (l=[]))))))/\ ∀(k:Int)(l:List
 jh)(m:bm)(n:bT2),D3 k l m n->au (av 0 k) (bH m/\ ∀(o:Int),xd o (o<2∨o=0) (∀(p:Int),xd p (p<5∨p=0) (∀(q:Int),xd q (q<60∨q=0) (∀(r:Int),xd r (r<60∨r=0) (∀(s:Int),xd s (s<4∨s=0) (∀(t:Bool)(u:ac)(v:Int),bH (u,v)->au t (bH (u,v)/\ ∀(w:Int)(x:ac)(y:Int),(w=1∨w=6∨w=17)/\bH (x,y)->bv ((l.length+length [((gu (c,d,e)).2,w,o,ap (1+p),q,ap (1+r),ap (1+s))])*56)/\ ∃(z:Int) (A:List jh) (B:bm) (C:bT2),D3 z A B C/\cu z k/\cT c d (e=e) (aA (gu (c,d,e)).2 (ap (k -1)=z) (cT c d (e=e) (aU 0 0 (x=B.1) (y=B.2/\n.1=C.1/\n.2=C.2/\ai (l++[((gu (c,d,e)).2,w,o,ap (1+p),q,ap (1+r),ap (1+s))]=A)))))) (bv ((l.length+length [((gu (c,d,e)).2,(17:Int),o,ap (1+p),q,ap (1+r),ap (1+s))])*56)/\ ∃(w:Int) (x:List jh) (y:bm) (z:bT2),D3 w x y z/\cu w k/\cT c d (e=e) (aA (gu (c,d,e)).2
 (ap (k -1)=w) (cT c d (e=e) (aU 0 0 (u=y.1) (v=y.2/\n.1=z.1/\n.2=z.2/\ai (l++[((gu (c,d,e)).2,17,o,ap (1+p),q,ap (1+r),ap (1+s))]=x)))))))))))) (i9 (l,n)/\bH m):= by
  delta ae ap aq aI aV aQ f7 kF cO cS cB aU ji bG aA jt cu ao bv cT xd ai kC td aD av D3 fB
  rintro l p n1 n2 n3-⟨h,hh⟩
  refine⟨⟨h,λq l p h=>ay (λ_=>⟨h,λx l p ⟨x0,x1,h⟩=>⟨h,λy l p ⟨y0,y1,h⟩=>⟨(l,p),(1+x,1+y),⟨h,a92 ab ab ab ab⟩,by (repeat refine fR ?_);trivial⟩⟩⟩) (λ_=>⟨(l,p),(0,0),⟨h,rfl⟩,aK⟩)⟩,?_⟩
  rintro c b ⟨h,hb⟩
  refine⟨h,λx l p ⟨x0,x1,h⟩=>⟨⟨1+x,[],(l,p),b,⟨by simp only[List.length_nil];omega,ab,h,hb,λ_ h=>absurd h (List.not_mem_nil)⟩,by (repeat refine fR ?_);trivial⟩,?_⟩⟩
  rintro k l c b ⟨h1,h2,h3,h4,h5⟩
  refine ay (λq=>?_) (λq=>⟨⟨by show l.length<=9;omega,h5,h4⟩,h3⟩)
  have q:=aX q
  refine⟨h3,λf u p ⟨f0,f1,h⟩=>⟨h,λt u p ⟨t0,t1,h⟩=>⟨h,λs u p ⟨s0,s1,h⟩=>⟨h,λe u p ⟨e0,e1,h⟩=>⟨h,λn u p ⟨m0,m1,h⟩=>⟨h,λg u p h=>?_⟩⟩⟩⟩⟩⟩
  have key:∀ pr:Int,(pr=1∨pr=6∨pr=17)->uk ((gu (n1,n2,n3)).2,pr,f,IntKind.i64.wrap (1+t),s,IntKind.i64.wrap (1+e),IntKind.i64.wrap (1+n)):=λpr hp=>by
   rw[aL (n:=1+t) ab ab,aL (n:=1+e) ab ab,aL (n:=1+n) ab ab]
   exact⟨hh,hp,⟨f0,(by omega:f<=9)⟩,⟨(by omega:(1:Int)<=1+t),(by omega:1+t<=9)⟩,⟨s0,(by omega:s<=99)⟩,⟨(by omega:(1:Int)<=1+e),(by omega:1+e<=99)⟩,(by omega:(1:Int)<=1+n),(by omega:1+n<=9)⟩
  have all:∀ pr:Int,(pr=1∨pr=6∨pr=17)→∀ x∈l++[((gu (n1,n2,n3)).2,pr,f,IntKind.i64.wrap (1+t),s,IntKind.i64.wrap (1+e),IntKind.i64.wrap (1+n))],uk x :=
   λpr hp x hx=>(fC.1 hx).elim (h5 x) λe=>by rw[nz.1 e];exact key pr hp
  refine ay (λ_=>⟨h,λpr u p ⟨hp,h⟩=>⟨by simp only[gC];omega,k-1,_,(u,p),b,⟨?_,ab,h,h4,all pr hp⟩,ab,by (repeat refine fR ?_);trivial⟩⟩) (λ_=>⟨by simp only[gC];omega,k-1,_,(u,p),b,⟨?_,ab,h,h4,all 17 (.inr (.inr rfl))⟩,ab,by (repeat refine fR ?_);trivial⟩)
  all_goals simp only[cL,gC];omega
theorem bf0:aB 39 UQ.spec:=nB Tryz.func39 (am (am (am (am aC aP5) bj3) Ka) M7) aQ6 bs2
structure po (n:Net):Prop where
 d:DN n
 p:∀ i:Nat,i<n.1.length->0<(aM (n.1.getD i default)).length
def Ni(n:Net)(i:Int):Int:=((aM (n.1.getD i.toNat default)).getD 0 default).1
structure vm (n:Net) (k:Int) (s:ie):Prop where
 nd:(0<=s.1/\s.1<n.1.length)/\(s.1=0↔k=0)
 ad:s.2.1=Ni n s.1
 pl:i9 s.2.2.1
 ky:s.2.2.2.1.length=2
 tm:200<=s.2.2.2.2.1/\s.2.2.2.2.1<=499
 wd:1<=s.2.2.2.2.2/\s.2.2.2.2.2<=4
def rf(n:Net)(l:List ie):Prop:=l.length<=2∧∀ k:Nat,k<l.length->vm n k (l.getD k default)
structure oW (l:List ie) (i:Int) (s:ck):Prop where
 st:s.1=l.getD i.toNat default
 va:mY s=nW i 0 s.1.2.1 s.1.2.2.2.2.1
 se:iZ s=0
 cp:OI s
def IR(l:List ie)(i:Int):ck:=(l.getD i.toNat default,nW i 0 (l.getD i.toNat default).2.1 (l.getD i.toNat default).2.2.2.2.1,0,(0,0,0,[]),0,oE 1 [])
theorem SL{n:Net}{k:Int}{s:ie}(h:vm n k s){v:bT}{u:Int}{c:CI.D}{w:Int}{m:Int}{l:bU8}(hc:c.2.2.2.length<=1000)(hl:l.length<=1000)(hx:∀ x∈l,x.length<=1000):OI (s,v,u,c,w,oE m l) :=
 ⟨by show s.2.2.2.1.length<=1000;rw[h.ky];decide,hc,m,l,rfl,hl,hx⟩
theorem LL{n:Net}{l:List ie}(h:rf n l){i:Int}(i0:0<=i)(i1:i<l.length):oW l i (IR l i) :=
 ⟨rfl,rfl,rfl,SL (h.2 i.toNat ab) (Nat.zero_le _) (Nat.zero_le _) λx hx=>(by cases hx)⟩
theorem HD{n:Net}(h:po n){i:Int}(i0:0<=i)(i1:i<n.1.length):Ni n i∈vd (n.1.getD i.toNat default) :=
 List.mem_map.2 ⟨_,qj (h.p i.toNat ab),rfl⟩
theorem vm.owns{n:Net}(h:po n){k:Int}{s:ie}(a:vm n k s):mD (n.1.getD s.1.toNat default) s.2.1=true:=by
 unfold mD
 rw[a.ad,fm (VR.2 (HD h a.nd.1.1 a.nd.1.2)),Bool.true_or]
theorem vm.apart{n:Net}(h:po n){j k:Int}{s r:ie}(c:vm n j s)(f:vm n k r)(hj:j=0)(hk:k≠0):s.2.1≠r.2.1:=by
 intro e
 have a:=c.nd
 have b:=f.nd
 have g:=HD h a.1.1 a.1.2
 have i:=HD h b.1.1 b.1.2
 rw[← c.ad,e] at g
 rw[← f.ad] at i
 have:=h.d.apart ab ab (MG.2 (.inl g)) (MG.2 (.inl i))
 omega
theorem vm.vn{n:Net}(h:po n){k i:Int}{s:ie}(b:vm n k s)(i0:0<=i)(i1:i<16):m8 i 0 s.2.1 s.2.2.2.2.1=0:=by
 have a:=b.nd
 have:=h.d.padr ab (HD h a.1.1 a.1.2)
 have t:=b.tm
 unfold m8
 rw[b.ad,ah (λk=>k ⟨⟨i0,i1⟩,bo,ab,ab⟩),ah (λk=>k (GO ab))]
def bn2:Ct:=⟨[.agg nJ,.box 56 nJ],[.val .bool],λd=>[],λd=>((decide (d.1.2.1=d.2.1.2.1),()),(d.2.1,()))⟩
theorem bI5:
 ∀(a b:ie),CT.wf nJ a/\ai (CT.wf nJ b)->True->decide (a.2.1=b.2.1)=decide (a.2.1=b.2.1)/\b=b:= by
  delta ai
  exact λ_ _ _ _=>⟨rfl,rfl⟩
theorem bf9:aB 86 bn2.spec:=aF Tryz.func86 aC aS bI5
def Te:Ct:=⟨[.val (.sl nJ),.fn 86 1,.box 56 nJ],[.val cI],λd=>[∀ x∈d.1,x.2.1≠d.2.2.1.2.1],λd=>((-1,()),(d.2.2.1,()))⟩
def bc3:bp Te.ps->bI:=(λd=>{loops:=(bt 2 (λS=>{ι:=Int,μ:=λi=>(d.1.length-i).toNat,inv:=λi=>0<=i/\i<=d.1.length,keep:=[0,1,6,7],slots:=λi=>[(8,.int .i64 i)],keepN:=[1048576]}) bZ)})
def Ai(a:List ie):=a.length<=maxLen/\ ∀(b:ie),b∈a->CT.wf nJ b
def Bu(a:List ie)(b:Int):=∀(c:ie),c∈a->c.2.1≠b
theorem a45:
 ∀(a:List ie)(b:ie),Ai a/\True/\ai (CT.wf nJ b)->Bu a b.2.1->(∃(c:Int),aD c (ae a)/\a=a/\a=a/\aA (ae a) (0=c) (aU b.1 b.2.1 (b.2.2.1.1=b.2.2.1.1) (aU b.2.2.1.2.1 b.2.2.1.2.2 (b.2.2.2.1=b.2.2.2.1) (jC b.2.2.2.2.1 b.2.2.2.2.2))))/\ ∀(c:Int),aD c (ae a)->fE c (ae a) (c<ae a) (au (decide ((af a c).2.1=b.2.1)) (c=(-1)/\b=b) (∃(d:Int),aD d (ae a)/\aZ (ae a) d c/\a=a/\a=a/\aA (ae a) (aY c d) (aU b.1 b.2.1 (b.2.2.1.1=b.2.2.1.1) (aU b.2.2.1.2.1 b.2.2.1.2.2 (b.2.2.2.1=b.2.2.2.1) (jC b.2.2.2.2.1 b.2.2.2.2.2))))) ((-1:Int)=(-1:Int)) (b=b):= by
  delta af ae ap aU aA aZ cu ao fE aY ai aD Ai av jC Bu
  rintro l s ⟨⟨hl,-⟩,-⟩ h
  simp only[maxLen] at hl
  refine⟨⟨0,⟨ab,ab⟩,aK⟩,?_⟩
  rintro j ⟨j0,j1⟩
  refine ay (λhj=>?_) (λhj=>⟨rfl,rfl⟩)
  have hj:=aX hj
  exact⟨j0,hj,ay (λq=>absurd (aX q) (h _ (cA j0 hj))) λ_=>⟨j+1,⟨ab,ab⟩,ab,aK⟩⟩
theorem bj5:aB 161 Te.spec:=aF Tryz.func161 (am aC bf9) bc3 a45
def bN3:Ct:=⟨[.val (.sl nJ),.fn 86 1,.box 56 nJ],[.val .bool],λd=>[∀ x∈d.1,x.2.1≠d.2.2.1.2.1],λd=>((false,()),(d.2.2.1,()))⟩
theorem ad3:
 ∀(a:List ie)(b:ie),Ai a/\True/\ai (CT.wf nJ b)->Bu a b.2.1->Bu a b.2.1/\decide ((0:Int)<=(-1:Int))=false/\b=b:= by
  delta ai Ai Bu
  exact λ_ _ _ h=>⟨h,rfl,rfl⟩
theorem bl3:aB 85 bN3.spec:=aF Tryz.func85 (am aC bj5) aS ad3
def RU:Cn:=⟨[.agg kJ,.val (.sl nJ),.val cI],[.agg nI,.val cI],λd=>[po d.1,rf d.1 d.2.1,0<=d.2.2.1,d.2.2.1<d.2.1.length],λd y=>y.1.2.1=0/\oW d.2.1 d.2.2.1 y.1.1,λd h=>⟨((IR d.2.1 d.2.2.1,0,()),()),rfl,LL h.2.1 h.2.2.1 h.2.2.2.1⟩⟩
def bH2:bp RU.ps->bI:=(λd=>{cuts:=(bt 5 (λS=>{ι:=Unit,inv:=λi=>True,keep:=[1,2,3,6,7,8],slots:=λi=>[(32,.bool false)],keepN:=[64,112,144]}) bZ)})
def K7(a:List ie)(b:Int)(c:Bool)(d:List ar)(e:List bc)(f:List bV):=∃(g:Unit),True/\a=a/\aU b 0 (bn c false=false) (cT d e (f=f) (pt ((0:Int)=(0:Int)) (pt ((0:Int)=(0:Int)) (pt ((0:Int)=(0:Int)) (gQ 0 0 (af a b).1 (af a b).2.1 ((af a b).2.2.1.1=(af a b).2.2.1.1) (aU (af a b).2.2.1.2.1 (af a b).2.2.1.2.2 ((af a b).2.2.2.1=(af a b).2.2.2.1) (jC (af a b).2.2.2.2.1 (af a b).2.2.2.2.2)))))))
def H4:=(((0:Int),(0:Int),(([]:List jh),(0:Int),(0:Int)),([]:ac),(0:Int),(0:Int)),((0:Int),(0:Int),(0:Int),(0:Int),(0:Int),([]:List dD),([]:List kG)),(0:Int),((0:Int),(0:Int),gA),(0:Int),(0:Int),(0:Int),(0:Int),xy)
theorem bh8:
 ∀(a:List ar)(b:List bc)(c:List bV)(d:List ie)(e:Int),f7 a b c/\Ai d/\ai (aq e)->po (a,b,c)/\rf (a,b,c) d/\0<=e/\e+1<=ae d->ao e (e<ae d) (∀(f:Bool),f=dw (af d e).1->lR f (fZ f) (br f/\au (bn f (decide (ae a<=(af d e).1))) ((13:Int)=(0:Int)/\oW d e H4) (ao (af d e).1 ((af d e).1<ae a) (∀(g:Bool),g=( !mD (af a (af d e).1) (af d e).2.1)->( !g->( !g-> !g)/\( !g-> !g)/\ao 0 (0<=e) (ai (e<=ae d)))/\au ( !g) (( !g-> !g)/\( !g-> !g)/\Bu (fA d (toNat 0) e.toNat) (af d e).2.1/\K7 d e g a b c) ((g=false->false)/\K7 d e g a b c))/\ ∀(g:Unit),True->oa (av (ae (af d e).2.2.2.1) 1) (av 64 (ae (af d e).2.2.2.1)) ((1:Int)=(0:Int)/\oW d e H4) (length (af d e).2.2.1.1<=9/\td (af d e).2.2.1.1/\iX (af d e).2.2.1.2=0/\ ∀(h:bT)(i:Int),h=nW e 0 (af d e).2.1 (af d e).2.2.2.2.1/\i=m8 e 0
 (af d e).2.1 (af d e).2.2.2.2.1->au (bJ i) (i=0/\oW d e H4) (1<=(af d e).2.2.2.2.2/\(af d e).2.2.2.2.2<=4/\ao e (e<=15) (aA 0 (length (af d e).2.2.2.1<=64) (∀(j k l:Int)(m n:ac)(o:Int),n.length<=73/\o=0/\m.length<=32->au (eG o) ((0,0,(af d e).2.2.2.2.2,xy)=oE (af d e).2.2.2.2.2 []/\n.length<=73/\length (af d e).2.2.1.1<=1000/\length (af d e).2.2.2.1<=1000/\(0:Int)=(0:Int)/\oW d e (af d e,h,0,(j,k,l,m),0,0,0,(af d e).2.2.2.2.2,[n],0,[],yz)) (length (af d e).2.2.1.1<=1000/\length (af d e).2.2.2.1<=1000/\o=0/\oW d e (af d e,h,0,(j,k,l,m),0,0,0,(af d e).2.2.2.2.2,xy))))))))):= by
  delta af ae aq aI bO aQ aT f7 kF cO cS cB aU ji bG aA bn jt cX ao br fZ bJ K7 oa pt cT xy gA ce ai kC gQ td H4 aD bW dw d7 Ai av eG yz jC fB lR Bu
  rintro ns ls hs l i-⟨hN,hS,i0,i1⟩
  have hk:vm (ns,ls,hs) i (l.getD i.toNat default):=by
   have:=hS.2 i.toNat ab
   rwa [Int.toNat_of_nonneg i0] at this
  have n2:=hS.1
  have own:=hk.owns hN
  have vn:=hk.vn hN i0 ab
  have cp:=λ(v:bT) (c:CI.D) (m:bU8)=>SL hk (v:=v) (u:=0) (c:=c) (w:=0) (m:=(l.getD i.toNat default).2.2.2.2.2) (l:=m)
  have far:∀ x∈l.take i.toNat,x.2.1≠(l.getD i.toNat default).2.1:=λx hx=>by
   obtain⟨j,hj,rfl⟩:=List.mem_iff_getElem.1 hx
   rw[dG] at hj
   have kj:=hS.2 j ab
   rw[List.getElem_take]
   rw[ct,cM ab] at kj
   exact kj.apart hN hk ab ab
  have nd:=hk.nd
  have ky:=hk.ky
  have pl:=hk.pl
  have wd:=hk.wd
  have hst:oW l i _:=LL hS i0 i1
  refine⟨i0,i1,?_⟩
  generalize hs0:getD (α:=ie) l i.toNat default=s at *
  have n1:s.1<(ns.length:Int):=nd.1.2
  rintro b hb
  have hb:b=false:=by rw[hb];exact fh ab
  subst hb
  (repeat refine⟨λh_=>(by first|(simp;done)|(simp[h_];done)|(simp_all;done)),?_⟩)
  rw[show (bif false then true else decide ((ns.length:Int)<=s.1))=false from fh ab]
  refine ml.2 ⟨⟨nd.1.1,n1,?_⟩,λ_ _=>?_⟩
  .rintro b hb
   have hb:b=false:=by rw[hb];show (!mD (ns.getD s.1.toNat default) s.2.1)=false;rw[show mD (ns.getD s.1.toNat default) s.2.1=true from own];rfl
   subst hb
   (repeat refine⟨λh_=>(by first|exact⟨λ_=>rfl,λ_=>rfl,ab,i0,ab,aN⟩|(simp;done)|(simp[h_];done)|(simp_all;done)),?_⟩)
   exact⟨λx hx=>far x (by simpa[fA] using hx),(),aN,aK⟩
  .rintro b hb
   have hb:b=false:=by rw[hb];exact fh ab
   subst hb
   (repeat refine⟨λh_=>(by first|(simp;done)|(simp[h_];done)|(simp_all;done)),?_⟩)
   rw[show (bif false then true else decide (64<(s.2.2.2.1.length:Int)))=false from fh ab]
   refine ml.2 ⟨pl.1,pl.2.1,pl.2.2,?_⟩
   rintro v e ⟨hv,he⟩
   have he:e=0:=he.trans vn
   subst he
   refine ml.2 ⟨wd.1,wd.2,i0,ab,rfl,ab,?_⟩
   rintro a b c g m x ⟨hm,rfl,hg⟩
   have p9:=pl.1
   exact Eh.2 ⟨rfl,hm,pH p9 bo,ab,rfl,⟨hs0.symm,hv,rfl,cp v _ [m] (pH hg bo) (by show 1<=1000;decide) λy hy=>by rw[nz.1 hy];omega⟩⟩
theorem aY2:aB 38 RU.spec:=nB Tryz.func38 (am (am (am (am (am (am (am (am aC Wl) bl3) Ue) (Ct.named Xz)) aK2) aK3) aZ8) WB) bH2 bh8
def CP(l:List ie):List ck:=(range l.length).map λ(k:Nat)=>IR l k
theorem bc8(l:List ie):(CP l).length=l.length:=by unfold CP;rw[mg,List.length_range]
theorem YV{n:Net}{l:List ie}(h:rf n l){k:Nat}(hk:k<l.length):oW l k ((CP l).getD k default):=by
 have e:(CP l).getD k default=IR l k:=by
  unfold CP;rw[ct,List.getElem?_map,List.getElem?_range hk];rfl
 rw[e]
 exact LL h ab ab
def U2:Cn:=⟨[.agg kJ,.val (.sl nJ)],[.agg vq,.val cI],λd=>[po d.1,rf d.1 d.2.1],λd y=>y.1.2.1=0/\y.1.1=(mM d.1,0,y.1.1.2.2.1,[])/\y.1.1.2.2.1.length=d.2.1.length∧∀ k:Nat,k<d.2.1.length->oW d.2.1 k (y.1.1.2.2.1.getD k default),λd h=>⟨(((mM d.1,0,CP d.2.1,[]),0,()),()),rfl,rfl,bc8 _,λk hk=>YV h.2.1 hk⟩⟩
def ao4:bp U2.ps->bI:=(λd=>{loops:=(bt 8 (λS=>{ι:=Int×(List ck),qn:=eO,μ:=λi=>(d.2.1.length-i.1).toNat,inv:=λi=>0<=i.1/\i.1<=d.2.1.length/\i.2.length=i.1.toNat∧∀ k:Nat,k<i.2.length->oW d.2.1 k (i.2.getD k default),keep:=[1,2,4,8,28],slots:=λi=>[(29,.int .i64 i.1)],keepN:=[48,80],names:=λi=>[(144,.live (.cells 41 (cQ jY (mM d.1)++[.int .i64 0,.own 524288 30,.nilsl]))),(524288,.live (.row 69 nI i.2))]}) bZ)})
def Jo(a:List ar)(b:List bc)(c:List bV)(d:List ie):=(qe,B9)=(mM (a,b,c),B9)/\0=d.length/\ ∀(e:Nat),e<d.length->oW d (e:Int) (yp ([]:List bJ4) e)
def Jf(a:Int)(b:List ie)(c:List ck):=bM a (ae b) (c.length=a.toNat) (∀(d:Nat),d<c.length->oW b (d:Int) (yp c d))
theorem aE9:
 ∀(a:List ar)(b:List bc)(c:List bV)(d:List ie),f7 a b c/\ai (Ai d)->(po (a,b,c)/\d.length<=2/\ ∀(e:Nat),e<d.length->vm (a,b,c) (e:Int) (yp d e))->um (a,b,c)/\ ∀(e:aU8)(f:Int),e=Bc (a,b,c)/\f=iB (a,b,c)->au (bJ f) (f=0/\Jo a b c d) (au (av 16 (ae d)) ((5:Int)=(0:Int)/\Jo a b c d) ((∃(g:Int) (h:List ck),Jf g d h/\d=d/\aA (ae d) (0=g) (cT a b (c=c) (gQ 0 0 0 0 (e.1.1=a) (e.1.2.1=b/\e.1.2.2=c/\e.2.1=0/\e.2.2.1=0/\e.2.2.2.1=0/\e.2.2.2.2.1=List.map pX
 a/\e.2.2.2.2.2.1=replicate b.length 0/\e.2.2.2.2.2.2.1=[]/\e.2.2.2.2.2.2.2.1=[]/\e.2.2.2.2.2.2.2.2=[]/\aA 0 (h=[]) True))))/\ ∀(g:Int)(h:List ck),Jf g d h->au (av g (ae d)) (po (a,b,c)/\rf (a,b,c) d/\ao g (g<ae d) (∀(i:ck)(j:Int),j=0/\oW d g i->au (bJ j) (j=0/\Jo a b c d) (bv ((h.length+length [i])*400)/\ ∃(k:Int) (l:List ck),Jf k d l/\aZ (ae d) k g/\d=d/\aA (ae d) (aY g k) (cT a b (c=c) (gQ 0 0 0 0 (a=a) (b=b/\c=c/\pS (List.map pX a=List.map pX a) (replicate b.length (0:Int)=replicate b.length (0:Int)/\([]:List Flight)=([]:List Flight)/\([]:List Go.RS.Del)=([]:List Go.RS.Del)/\([]:List EndR)=([]:List EndR)/\aA 0 (h++[i]=l) True))))))) (aA 0 ((((a,b,c),(0:Int),(0:Int),(0:Int),List.map pX a,replicate b.length (0:Int),([]:List Flight),([]:List Go.RS.Del),([]:List EndR)),(0:Int),h,([]:List
 ry))=(mM (a,b,c),(0:Int),h,([]:List ry))) (h.length=d.length/\ ∀(i:Nat),i<d.length->oW d (i:Int) (yp h i))))):= by
  delta yp ae ap aq aI aQ f7 kF cO cS cB aU ji bG aA aZ jt cu qe ao bv bJ cT aY ai kC gQ Jo Jf aD bW bM Ai av pS d6 fB B9
  rintro ns ls hs l-⟨hN,hS⟩
  have hS:rf (ns,ls,hs) l:=hS
  have n2:=hS.1
  have hc:=hN.d.right hN.p
  refine⟨Lp hN.d.nb bo,?_⟩
  rintro w e ⟨hw,he⟩
  have he:e=0:=he.trans hc
  have hw:w=mM (ns,ls,hs):=hw.trans (aj hc)
  subst he hw
  refine ml.2 (ay (λq=>by have q:=aX q;omega) λ_=>⟨⟨0,[],⟨ab,ab,rfl,λk hk=>absurd hk (Nat.not_lt_zero k)⟩,aK⟩,?_⟩)
  rintro i ss ⟨i0,i1,hl,hss⟩
  refine bP (λhi=>?_) (λhi=>?_)
  .refine⟨hN,hS,i0,hi,?_⟩
   rintro s e ⟨rfl,hs1⟩
   refine ml.2 ⟨by show (ss.length+1)*400<=140737488355328;omega,i+1,ss++[s],⟨ab,ab,by rw[cL,gC];show ss.length+1=_;omega,λk hk=>?_⟩,ab,?_⟩
   .rw[cL,gC] at hk
    have hk:k<ss.length+1:=hk
    by_cases e:k<ss.length
    .rw[ct,nV e,← ct]
     exact hss k e
    .have e:k=ss.length:=ab
     rw[ct,nD ab,e,Nat.sub_self]
     rw[hl,Int.toNat_of_nonneg i0]
     exact hs1
   ·(repeat refine fR ?_)
    exact trivial
  .exact⟨rfl,rfl,ab,λk hk=>hss k ab⟩
theorem ac9:aB 13 U2.spec:=nB Tryz.func13 (am (am aC (Ct.named Q6)) aY2) ao4 aE9
theorem Ta{n:Net}(h:po n):(gu n).2/16777216=10:=by
 have n3:=h.d.n3
 have hp:=h.p 0 ab
 unfold gu
 rw[ah ab]
 show DM n.1 (qh n.1 (n.1.length-1))/16777216=10
 have key:∀ k:Nat,k<n.1.length->(0<=qh n.1 k/\qh n.1 k<n.1.length)/\0<(aM (n.1.getD (qh n.1 k).toNat default)).length:=by
  intro k
  induction k with
  | zero=>intro _;exact⟨⟨gH _,by show (0:Int)<_;omega⟩,hp⟩
  | succ k ih =>
   intro hk;unfold qh;split
   next q=>exact⟨⟨Int.natCast_nonneg _,ab⟩,q.2⟩
   .exact ih ab
 obtain⟨⟨k0,k1⟩,kp⟩:=key (n.1.length-1) ab
 have:=h.d.padr (i:=(qh n.1 (n.1.length-1)).toNat) ab (a:=DM n.1 (qh n.1 (n.1.length-1))) (List.mem_map.2 ⟨_,qj kp,rfl⟩)
 omega
def Vx(n:Net):ie:=(0,Ni n 0,([],0,0),[1,0],200,1)
theorem a01{n:Net}(h:po n):rf n [Vx n]:=by
 have:=h.d.n3
 refine⟨aw,λk hk=>?_⟩
 have hk:k=0:=by simp at hk;exact hk
 subst hk
 exact⟨⟨⟨gH _,by show (0:Int)<n.1.length;omega⟩,⟨λ_=>rfl,λ_=>rfl⟩⟩,rfl,⟨Nat.zero_le _,λ_ h=>absurd h (List.not_mem_nil),rfl⟩,rfl,(show (200:Int)<=200/\(200:Int)<=499 by decide),(show (1:Int)<=1/\(1:Int)<=4 by decide)⟩
def S9:Cn:=⟨[.box 88 j7,.agg kJ],[.own 56 nJ],λd=>[bH d.1,po d.2.1],λd y=>bH y.2.1/\rf d.2.1 y.1.1/\0<y.1.1.length,λd h=>⟨(([Vx d.2.1],()),(d.1,())),h.1,a01 h.2.1,Nat.zero_lt_one⟩⟩
def aa0:bp S9.ps->bI:=(λd=>{loops:=(bt 3 (λS=>{ι:=Int×(ac×Int)×(List ie),qn:=pI,μ:=λi=>(2-i.1).toNat,inv:=λi=>0<=i.1/\i.1<=2/\bH i.2.1/\i.2.2.length=i.1.toNat/\rf d.2.1 i.2.2,keep:=[0,3],slots:=λi=>[(5,.own 524288 8),(6,.int .i64 i.1)],keepN:=[64],names:=λi=>[(1048576,.live (.cells 88 (cQ j7 i.2.1))),(524288,.live (.row 56 nJ i.2.2))]}) bZ),cuts:=(bt 8 (λS=>{ι:=Int×(ac×Int),qn:=eO,inv:=λi=>bH i.2/\(0<=i.1/\i.1<d.2.1.1.length)/\(i.1=0↔S.i 6=0),keep:=[0,3,5,6],slots:=λi=>[(7,.int .i64 i.1)],keepN:=[64,524288],names:=λi=>[(1048576,.live (.cells 88 (cQ j7 i.2)))]}) bZ)})
def D5(a b c d:Int):=(IntKind.wrap IntKind.u8 (ap (1+a))::bN (IntKind.wrap IntKind.u8 b),ap (200+c),ap (1+d))
def FA(a:Int)(b:bm)(c:List ie)(d:List ar)(e:List cj×List bV):=bM a 2 (bH b) (c.length=a.toNat/\rf (d,e) c)
theorem bF4:
 ∀(a:ac)(b:Int)(c:List ar)(d:List bc)(e:List bV),(aV a/\aq b)/\ai (f7 c d e)->bH (a,b)/\po (c,d,e)->(∃(f:Int) (g:bm) (h:List ie),FA f g h c (d,e)/\0=f/\cT c d (e=e) (a=g.1/\b=g.2/\ai (h=[])))/\ ∀(f:Int)(g:bm)(h:List ie),FA f g h c (d,e)->bH g/\ ∀(i:Int)(j:ac)(k:Int),ao i (i<2∨i=0) (bH (j,k))->au (av f (ap (1+i))) ((∀(l:Bool),l=av 0 f->ia l l (aT l) (l->l) (au (bw l (av 1 (ae c))) (bH (j,k)/\ ∀(m:Int)(n:ac)(o:Int),ao m (m<ap (ae c -1)∨m=0) (bH (n,o))-> ∃(p:Int) (q:bm),(bH q/\(0<=p/\p<ae c)/\(p=0↔f=0))/\aA f (ap (1+m)=p) (cT c d (e=e) (h=h/\n=q.1/\ai (o=q.2)))) (∃(m:Int) (n:bm),(bH n/\(0<=m/\m<ae c)/\(m=0↔f=0))/\aA f (0=m) (cT c d (e=e) (h=h/\j=n.1/\ai (k=n.2))))))/\ ∀(l:Int)(m:bm),bH m/\(0<=l/\l<ae c)/\(l=0↔f=0)->bH m/\ ∀(n:Int),xd n (n<9∨n=0)
 (∀(o:Int),xd o (o<300∨o=0) (∀(p:Int)(q:ac)(r:Int),ao p (p<4∨p=0) (bH (q,r))-> ∀(s:Bool),s=av l (ae c)->cG s s (iM s s l (l<ae c)) (s->aT s) (ia s s (aT s) (s->s) (au (bw s (av 0 (ae (af c l).1))) (ao l (l<ae c) (bu 0 (ae (af c l).1) (bH (q,r)) ((gu (c,d,e)).2/16777216=10/\ ∀(t:List jh)(u v:Int)(w:ac)(x:Int),i9 (t,u,v)/\bH (w,x)->bv ((h.length+length [(l,(af (af c l).1 0).1,(t,u,v),D5 n f o p)])*96)/\ ∃(y:Int) (z:bm) (A:List ie),FA y z A c (d,e)/\aZ 2 y f/\aY f y/\cT c d (e=e) (w=z.1/\x=z.2/\ai (h++[(l,(af (af c l).1 0).1,(t,u,v),D5 n f o p)]=A))))) (bH (q,r)/\(gu (c,d,e)).2/16777216=10/\ ∀(t:List jh)(u v:Int)(w:ac)(x:Int),i9 (t,u,v)/\bH (w,x)->bv ((h.length+length [(l,(0:Int),(t,u,v),D5 n f o p)])*96)/\ ∃(y:Int) (z:bm) (A:List ie),FA y z A c (d,e)/\aZ 2 y
 f/\aY f y/\cT c d (e=e) (w=z.1/\x=z.2/\ai (h++[(l,0,(t,u,v),D5 n f o p)]=A)))))))) (bH (j,k)/\rf (c,d,e) h/\0<h.length):= by
  delta af ae ap aq aI aV aQ aT f7 kF cO cS cB ji bG aA cG aZ bw jt cu ao bv bN cT xd ia iM aY ai kC aD bu bM D5 av FA fB
  rintro l0 p0 ns ls hs-⟨hc,hN⟩
  have n3:3<=ns.length:=hN.d.n3
  have n7:ns.length<=7:=hN.d.n7
  refine⟨⟨0,(l0,p0),[],⟨ab,ab,hc,rfl,⟨Nat.zero_le _,λk hk=>absurd hk (Nat.not_lt_zero k)⟩⟩,aK⟩,?_⟩
  rintro k c l ⟨k0,k1,hc,hl,hS⟩
  refine⟨hc,?_⟩
  rintro x l1 p1 ⟨x0,x1,hc1⟩
  rw[aL (n:=1+x) ab ab]
  refine bP (λhk=>?_) (λhk=>?_)
  .refine⟨?_,?_⟩
   .rintro b hb
    (repeat refine⟨λh_=>(by first|exact⟨λ_=>h_,aN⟩|(simp;done)|(simp[h_];done)|(simp_all;done)),?_⟩)
    by_cases q:0<k
    .rw[hb,fm q,show (bif true then decide (1<(ns.length:Int)) else false)=true from fm ab]
     refine Eh.2 ⟨hc1,?_⟩
     rintro y l2 p2 ⟨y0,y1,hc2⟩
     rw[aL (n:=(ns.length:Int)-1) ab ab] at y1
     rw[aL (n:=1+y) ab ab]
     exact⟨1+y,(l2,p2),⟨hc2,⟨ab,by show 1+y<(ns.length:Int);omega⟩,ab⟩,aK⟩
    .rw[hb,fh q]
     exact ml.2 ⟨0,(l1,p1),⟨hc1,⟨ab,by show (0:Int)<(ns.length:Int);omega⟩,ab⟩,aK⟩
   rintro i c ⟨hc2,⟨i0,i1⟩,ik⟩
   have i1:i<(ns.length:Int):=i1
   refine⟨hc2,?_⟩
   rintro a l3 p3 ⟨a0,a1,hc3⟩
   refine⟨hc3,?_⟩
   rintro t l4 p4 ⟨t0,t1,hc4⟩
   refine⟨hc4,?_⟩
   rintro v l5 p5 ⟨v0,v1,hc5⟩
   have hp:0<(aM (ns.getD i.toNat default)).length:=hN.p i.toNat (by show i.toNat<ns.length;omega)
   rintro b hb
   have hb:b=true:=by rw[hb];exact fm i1
   subst hb
   (repeat refine⟨λ_=>(by first|exact⟨λ_=>rfl,λ_=>rfl,i0,i1,aN⟩|exact⟨λ_=>rfl,aN⟩|exact⟨i0,i1,aN⟩|exact⟨λ_=>rfl,λ_=>rfl,aN⟩|rfl),?_⟩)
   rw[show (bif true then decide (0<((ns.getD i.toNat default).1.length:Int)) else false)=true from fm (by show (0:Int)<((aM (ns.getD i.toNat default)).length:Int);omega)]
   rw[aL (n:=200+t) ab ab,aL (n:=1+v) ab ab]
   refine Eh.2 ⟨i0,i1,gH _,by show (0:Int)<((aM (ns.getD i.toNat default)).length:Int);omega,hc5,Ta hN,?_⟩
   rintro ts b1 b2 l6 p6 ⟨hpl,hc6⟩
   refine⟨by show (l.length+1)*96<=140737488355328;omega,k+1,(l6,p6),l++[(i,((aM (ns.getD i.toNat default)).getD 0 default).1,(ts,b1,b2),[IntKind.wrap IntKind.u8 (IntKind.wrap IntKind.i64 (1+a)),IntKind.wrap IntKind.u8 k],200+t,1+v)],⟨ab,ab,hc6,by rw[cL,gC];omega,⟨by rw[cL,gC];omega,λj hj=>?_⟩⟩,ab,?_⟩
   .rw[cL,gC] at hj
    by_cases e:j<l.length
    .rw[ct,nV e,← ct]
     exact hS.2 j e
    .have e:j=l.length:=ab
     rw[ct,nD ab,e,Nat.sub_self]
     exact⟨⟨⟨i0,i1⟩,by rw[hl,Int.toNat_of_nonneg k0];exact ik⟩,rfl,hpl,rfl,(show 200<=200+t/\200+t<=499 by omega),(show 1<=1+v/\1+v<=4 by omega)⟩
   ·(repeat refine fR ?_)
    exact⟨rfl,aN⟩
  .exact⟨hc1,hS,ab⟩
theorem aR3:aB 14 S9.spec:=nB Tryz.func14 (am (am aC Ka) bf0) aa0 bF4
end Go.RS
