/- Sim1: a network in operation, in plain terms. -/
import Derived.Test.YtehpghlieehlbaaGreatDoorSim0
import Derived.Test.YtehpghlieehlbaaGreatDoorTopod
import Derived.Laws.CopyRow
import Derived.Test.YtehpghlieehlbaaGreatDoorIdent
import Derived.LaidMore
import Derived.Stop.Joined
import Derived.FnData
import Derived.MakeChecks
set_option maxRecDepth 100000
set_option linter.unusedVariables false
open List (replicate)
namespace Go.RS
open Go.SX Go.Proofs
abbrev jM:CT := .pair cI (.pair cI (.pair cI (.pair cI (.pair cI (.sl bz)))))
abbrev aW:Type:=Int×Int×Int×Int×Int×ad
abbrev sG:CT := .pair cI (.pair cI (.sl bz))
abbrev pB:Type:=Int×Int×ad
abbrev qE:CT := .pair cI (.pair cI (.pair cI (.pair cI cI)))
abbrev lO:Type:=Int×Int×Int×Int×Int
abbrev fX:CT := .pair gS (.pair cI (.pair cI (.pair cI (.pair (.sl i7) (.pair (.sl cI) (.pair (.sl jM) (.pair (.sl sG) (.sl qE))))))))
abbrev aJ:Type:=cC×Int×Int×Int×List bY×ad×List aW×List pB×List lO
def aI(f:aW):Int:=f.1
def jT(f:aW):Int:=f.2.1
def bh(f:aW):Int:=f.2.2.1
def f8(f:aW):Int:=f.2.2.2.1
def fG(f:aW):Int:=f.2.2.2.2.1
def eI(f:aW):ad:=f.2.2.2.2.2
def az(w:aJ):cC:=w.1
def bg(w:aJ):Int:=w.2.1
def bj(w:aJ):Int:=w.2.2.1
def bX(w:aJ):Int:=w.2.2.2.1
def aU(w:aJ):List bY:=w.2.2.2.2.1
def bH(w:aJ):ad:=w.2.2.2.2.2.1
def ax(w:aJ):List aW:=w.2.2.2.2.2.2.1
def aY(w:aJ):List pB:=w.2.2.2.2.2.2.2.1
def aV(w:aJ):List lO:=w.2.2.2.2.2.2.2.2
def cB(w:aJ)(t:Int):aJ:=(w.1,t,w.2.2)
def fL(w:aJ)(l:List bY):aJ:=(w.1,w.2.1,w.2.2.1,w.2.2.2.1,l,w.2.2.2.2.2)
def kf(w:aJ)(k:Int):aJ:=(w.1,w.2.1,w.2.2.1,k,w.2.2.2.2)
def oE(w:aJ)(l:ad):aJ:=(w.1,w.2.1,w.2.2.1,w.2.2.2.1,w.2.2.2.2.1,l,w.2.2.2.2.2.2)
def fU(w:aJ)(l:List aW):aJ:=(w.1,w.2.1,w.2.2.1,w.2.2.2.1,w.2.2.2.2.1,w.2.2.2.2.2.1,l,w.2.2.2.2.2.2.2)
def uC(w:aJ)(l:List pB):aJ:=(w.1,w.2.1,w.2.2.1,w.2.2.2.1,w.2.2.2.2.1,w.2.2.2.2.2.1,w.2.2.2.2.2.2.1,l,w.2.2.2.2.2.2.2.2)
def EZ(w:aJ)(l:List lO):aJ:=(w.1,w.2.1,w.2.2.1,w.2.2.2.1,w.2.2.2.2.1,w.2.2.2.2.2.1,w.2.2.2.2.2.2.1,w.2.2.2.2.2.2.2.1,l)
def TA(w:aJ)(k:Int):aJ:=(w.1,w.2.1,k,w.2.2.2)
def EP(s:bY)(l:List Rt):bY:=(l,s.2)
def da(l:List aW)(f:aW):List aW:=(l.takeWhile λx=>decide (aI x<=aI f))++f::l.dropWhile λx=>decide (aI x<=aI f)
def vH(w:aJ)(f:aW):aJ:=fU (TA w (IntKind.i64.wrap (bj w+1))) (da (ax w) (aI f,bj w,f.2.2))
def jL(w:aJ):aT:=(az w).2.2.getD (bX w).toNat default
def mY(w:aJ):Bool:=decide (bX w<(az w).2.2.length)&&decide (iu (jL w)<=bg w)
def mg(w:aJ):aJ :=
 kf (fL w ((aU w).set (bI (jL w)).toNat (EP ((aU w).getD (bI (jL w)).toNat default) (fT (bn ((aU w).getD (bI (jL w)).toNat default)) (jL w))))) (IntKind.i64.wrap (bX w+1))
def jm:Nat->aJ->aJ
 | 0,w=>w
 | n+1,w=>if mY w=true then jm n (mg w) else w
def cq(w:aJ):aJ:=jm ((az w).2.2.length-(bX w).toNat) w
def lP(w:aJ)(f:aW)(link why:Int):aJ:=EZ w (aV w++[(fG f,aI f,bh f,link,why)])
def mN(l:aN)(c:Int):Int:=ir (bits .xor .u64 (ir (IntKind.wrap .u64 (uH l))) (IntKind.wrap .u64 c))
def cP(w:aJ)(k:Int):aN:=(az w).2.1.getD k.toNat default
def i5(w:aJ)(k:Int):Int:=(bH w).getD k.toNat default
def Aq(w:aJ)(k:Int):Int:=IntKind.i64.wrap (Int.tmod (Int.tdiv (mN (cP w k) (i5 w k)) 65536) (IntKind.wrap .u64 (IntKind.i64.wrap (iH (cP w k)+1))))
def jv(w:aJ)(k:Int):Int:=IntKind.i64.wrap (IntKind.i64.wrap (bg w+mL (cP w k))+Aq w k)
def eJ(w:aJ)(f:aW)(out:Int×ad):aJ :=
 let v:=oE w ((bH w).set out.1.toNat (IntKind.i64.wrap (i5 w out.1+1)))
 if Int.tmod (mN (cP w out.1) (i5 w out.1)) 65536<IntKind.wrap .u64 (mP (cP w out.1)) then lP v f out.1 3
 else if 1125899906842624<jv w out.1∨(4096:Int)<=(ax w).length then lP v f out.1 7
 else vH v (jv w out.1,0,f7 (az w).2.1 out.1 (bh f),out.1,fG f,out.2)
def bd(w:aJ)(f:aW):nE:=fC ((az w).1.getD (bh f).toNat default) ((aU w).getD (bh f).toNat default) (f8 f) (aI f) (eI f)
def ip(w:aJ)(f:aW):aJ :=
 let r:=bd w f
 let a:=fL w ((aU w).set (bh f).toNat r.1)
 let b:=if r.2.2=1 then uC a (aY a++[(aI f,bh f,eI f)]) else a
 let c:=if r.2.2≠0 then lP b f (f8 f) r.2.2 else b
 if 0<r.2.1.2.length then eJ c f r.2.1 else c
def dI(w:aJ):aJ:=ip (cq (cB (fU w (ax w).tail) (aI ((ax w).headD default)))) ((ax w).headD default)
def jQ(w:aJ)(to:Int):Bool:=match ax w with
 | []=>false
 | f::_=>decide (aI f<=to)
def lw:Nat->aJ->Int->aJ
 | 0,w,_=>w
 | n+1,w,to=>if jQ w to=true then lw n (dI w) to else w
def kI(to:Int)(l:List aW):Nat:=(l.map λf=>(to+1-aI f).toNat).sum
def xG(w:aJ)(to:Int):aJ:=cq (cB (lw (kI to (ax w)) w to) to)
theorem xX{l:List aW}{f x:aW}:x∈da l f↔x=f∨x∈l:=by
 unfold da
 rw[dH,dj]
 have e:=rC (p:=λx=>decide (aI x<=aI f)) (l:=l)
 constructor
 .rintro (h|h|h)
  .right;rw[← e];exact g7 _ h
  .exact .inl h
  .right;rw[← e];exact jd _ h
 .rintro (h|h)
  .exact .inr (.inl h)
  .rw[← e] at h;rcases dH.1 h with h|h
   .exact .inl h
   .exact .inr (.inr h)
theorem Bo(l:List aW)(f:aW):(da l f).length=l.length+1:=by
 have e:=iB List.length (rC (p:=λx=>decide (aI x<=aI f)) (l:=l))
 rw[cD] at e
 unfold da
 rw[cD,cQ];omega
theorem Qb(to:Int)(l:List aW)(f:aW):kI to (da l f)=kI to l+(to+1-aI f).toNat:=by
 have e:kI to l=kI to ((l.takeWhile λx=>decide (aI x<=aI f))++(l.dropWhile λx=>decide (aI x<=aI f))):=by rw[rC]
 rw[e]
 unfold kI da
 simp only[lr,fK,List.sum_append,List.sum_cons]
 omega
def gQ(a b:aW):Prop:=aI a<aI b∨aI a=aI b/\jT a<jT b
theorem LJ{l:List aW}{f:aW}(h:l.Pairwise gQ)(hn:∀ x∈l,jT x<jT f):(da l f).Pairwise gQ:=by
 have e:=rC (p:=λx=>decide (aI x<=aI f)) (l:=l)
 have h2:=h
 rw[← e] at h2
 obtain⟨a,b,c⟩:=List.pairwise_append.1 h2
 have hd:∀ x∈l.dropWhile (λx=>decide (aI x<=aI f)),aI f<aI x:=by
  intro x hx;cases hh:l.dropWhile (λx=>decide (aI x<=aI f)) with
  | nil=>rw[hh] at hx;cases hx
  | cons y r =>
   have hy:¬ aI y<=aI f:=by
    have:=List.head_dropWhile_not (p:=λx=>decide (aI x<=aI f)) (l:=l) (by rw[hh];simp);simp only[hh,List.head_cons] at this;simpa using this
   rw[hh] at hx b;rcases dj.1 hx with rfl|hx
   .omega
   .rcases (List.pairwise_cons.1 b).1 x hx with k|k <;> omega
 unfold da
 refine List.pairwise_append.2 ⟨a,List.pairwise_cons.2 ⟨λx hx=>.inl (hd x hx),b⟩,λx hx y hy=>?_⟩
 have hxl:x∈l:=by rw[← e];exact g7 _ hx
 have hxf:aI x<=aI f:=by
  have:=List.all_eq_true.1 (List.all_takeWhile (p:=λx=>decide (aI x<=aI f)) (l:=l)) x hx;simpa using this
 rcases dj.1 hy with rfl|hy
 .have:=hn x hxl;unfold gQ;omega
 .exact .inl (by have:=hd y hy;omega)
theorem BS{n:cC}(h:dA n=0):nG n=0/\lG n=0/\ku n=0/\mU n=0/\ld n=0:=by
 unfold dA at h
 obtain⟨h1,h⟩:=qK h
 obtain⟨h2,h⟩:=qK h
 obtain⟨h3,h⟩:=qK h
 obtain⟨h4,h⟩:=qK h
 obtain⟨h5,h⟩:=qK h
 obtain⟨h6,h⟩:=qK h
 exact⟨h1,h2,h3,h4,h⟩
theorem tA{n:cC}(h:dA n=0){i:Nat}(hi:i<n.1.length):pJ (n.1.getD i default):=by
 have hb:=um (BS h).2.2.1 i hi
 unfold jY at hb
 split at hb
 next k=>exact absurd hb k
 next k=>exact B3 (pi.1 k)
theorem yz{n:cC}(h:dA n=0):1<=n.1.length/\n.1.length<=64/\n.2.1.length<=128/\n.2.2.length<=64:=by
 have:=(BS h).1
 unfold nG at this
 split at this
 .cases this
 .omega
theorem Bb{n:cC}(h:dA n=0){k:Nat}(hk:k<n.2.2.length):(0<=iu (n.2.2.getD k default)/\iu (n.2.2.getD k default)<=1125899906842624)/\(0<=bI (n.2.2.getD k default)/\bI (n.2.2.getD k default)<n.1.length) ∧
  dJ (fT ((dD n k).getD (bI (n.2.2.getD k default)).toNat default) (n.2.2.getD k default)) (bq (n.1.getD (bI (n.2.2.getD k default)).toNat default))=0:=by
 have hs:=um (BS h).2.2.2.2 k hk
 unfold ie mC at hs
 split at hs
 .cases hs
 rename_i a1
 split at hs
 .cases hs
 split at hs
 .cases hs
 rename_i a3
 split at hs
 .cases hs
 exact⟨ab,ab,hs⟩
theorem MB{n:cC}(h:dA n=0):∀ k:Nat,k<=n.2.2.length→∀ i:Nat,i<n.1.length->dJ ((dD n k).getD i default) (bq (n.1.getD i default))=0
 | 0,_,i,hi=>by rw[dD,A0 hi];exact (tA h hi).rt
 | k+1,hk,i,hi=>by
  obtain⟨-,h2,h3⟩:=Bb h (k:=k) ab;rw[dD];by_cases e:(bI (n.2.2.getD k default)).toNat=i
  .rw[← e,jN (by rw[qo];omega)];exact h3
  .rw[m7 e];exact MB h k ab i hi
structure ug (n:cC) (now ord:Int) (f:aW):Prop where
 t:now<=aI f/\aI f<=1125899906842624
 o:0<=jT f/\jT f<ord
 nd:0<=bh f/\bh f<n.1.length
 l:f8 f = -1∨f8 f∈bq (n.1.getD (bh f).toNat default)
 g:0<=fG f/\fG f<ord
 b:bytes (eI f)
 d:((eI f).length:Int)<=2000
structure dF (w:aJ) (K:Int):Prop where
 net:dA (az w)=0
 now:0<=bg w/\bg w<=1125899906842624
 ord:0<=bj w/\bj w<=K
 done:0<=bX w/\bX w<=(az w).2.2.length
 len:(aU w).length=(az w).1.length
 st:∀ i:Nat,i<(az w).1.length->iG ((az w).1.getD i default) ((aU w).getD i default) K/\bn ((aU w).getD i default)=(dD (az w) (bX w).toNat).getD i default
 cl:(bH w).length=(az w).2.1.length
 cr:∀ c∈bH w,0<=c/\c<=K
 fl:(ax w).Pairwise gQ
 fo:∀ f∈ax w,ug (az w) (bg w) (bj w) f
 fn:(ax w).length<=4096
theorem dF.more{w:aJ}{K K':Int}(h:dF w K)(hk:K<=K'):dF w K' :=
 ⟨h.net,h.now,by have:=h.ord;omega,h.done,h.len,λi hi=>⟨(h.st i hi).1.more hk,(h.st i hi).2⟩,h.cl,λc hc=>by have:=h.cr c hc;omega,h.fl,h.fo,h.fn⟩
theorem iG.rts{x:ar}{s:bY}{K:Int}(h:iG x s K){l:List Rt}(hc:dJ l (bq x)=0):iG x (EP s l) K:=by
 obtain⟨h1,h2⟩:=uU hc
 obtain⟨-,-,h3⟩:=yN hc
 exact⟨h1,h2,λr hr=>(h3 r hr).2,h.ps,h.tk,h.cn,h.cp⟩
theorem dF.chg{w:aJ}{K:Int}(h:dF w K)(hd:mY w=true):dF (mg w) K/\bX (mg w)=bX w+1:=by
 unfold mY at hd
 rw[dr,ng,ng] at hd
 have hk:(bX w).toNat<(az w).2.2.length:=by have:=h.done;omega
 obtain⟨-,⟨w0,w1⟩,hc⟩:=Bb h.net hk
 have sz:=yz h.net
 have e1:IntKind.i64.wrap (bX w+1)=bX w+1:=aQ (by have:=h.done;omega) (by have:=h.done;omega)
 have eD:bX (mg w)=bX w+1:=e1
 have eN:az (mg w)=az w:=rfl
 have hwho:bI (jL w)=bI ((az w).2.2.getD (bX w).toNat default):=rfl
 have hlt:(bI (jL w)).toNat<(az w).1.length:=ab
 have hst:=(h.st _ hlt)
 have hc:dJ (fT ((dD (az w) (bX w).toNat).getD (bI (jL w)).toNat default) (jL w)) (bq ((az w).1.getD (bI (jL w)).toNat default))=0:=hc
 rw[← hst.2] at hc
 refine⟨⟨h.net,h.now,h.ord,by have:=h.done;rw[eD,eN];omega,?_,λi hi=>?_,h.cl,h.cr,h.fl,h.fo,h.fn⟩,eD⟩
 .show ((aU w).set _ _).length=_;rw[fV];exact h.len
 .have hi:i<(az w).1.length:=hi;rw[eD,eN,show (bX w+1).toNat=(bX w).toNat+1 by have:=h.done;omega,dD];show iG _ (((aU w).set (bI (jL w)).toNat _).getD i default) K/\bn (((aU w).set (bI (jL w)).toNat _).getD i default)=_;by_cases e:(bI (jL w)).toNat=i
  .subst e;rw[jN (by rw[h.len];exact hlt),show ((az w).2.2.getD (bX w).toNat default)=jL w from rfl,jN (by rw[qo];exact hlt),← hst.2];exact⟨hst.1.rts hc,rfl⟩
  .rw[m7 e,show ((az w).2.2.getD (bX w).toNat default)=jL w from rfl,m7 e];exact h.st i hi
theorem Ig{K:Int}:∀(n:Nat){w:aJ},dF w K->dF (jm n w) K/\(jm n w).1=w.1/\(jm n w).2.1=w.2.1/\(jm n w).2.2.1=w.2.2.1/\(jm n w).2.2.2.2.2=w.2.2.2.2.2
 | 0,w,h=>⟨h,rfl,rfl,rfl,rfl⟩
 | n+1,w,h=>by
  rw[jm];split
  next hd=>have k:=Ig n (h.chg hd).1;exact⟨k.1,k.2.1.trans rfl,k.2.2.1.trans rfl,k.2.2.2.1.trans rfl,k.2.2.2.2.trans rfl⟩
  .exact⟨h,rfl,rfl,rfl,rfl⟩
theorem dF.change{w:aJ}{K:Int}(h:dF w K):dF (cq w) K:=(Ig _ h).1
theorem wZ{n:cC}(h:dA n=0){i:Nat}(hi:i<n.1.length){k:Int}(hk:k∈bq (n.1.getD i default)) :
  (0<=k/\k<n.2.1.length)/\ia n.1.length (n.2.1.getD k.toNat default)/\(0<=f7 n.2.1 k i/\f7 n.2.1 k i<n.1.length)/\k∈bq (n.1.getD (f7 n.2.1 k i).toNat default):=by
 obtain⟨-,hc,hb,hp,-⟩:=BS h
 have b:=um hb i hi
 unfold jY at b
 split at b
 next q=>exact absurd b q
 rename_i hv
 have N:pJ (n.1.getD i default):=B3 (pi.1 hv)
 split at b
 .cases b
 rename_i hs
 have hst:mh n i k=false:=by
  cases q:mh n i k with
  | false=>rfl
  | true=>exact absurd (List.any_eq_true.2 ⟨k,hk,q⟩) hs
 unfold mh at hst
 simp only[Bool.or_eq_false_iff,sC,rT,oo,jz] at hst
 obtain⟨h1,h2⟩:=hst
 obtain⟨q,hq,rfl⟩:=List.mem_map.1 hk
 obtain⟨j,hj,rfl⟩:=List.mem_iff_getElem.1 hq
 have k0:0<=((aA (n.1.getD i default))[j]).2:=by
  have:=(Nu (N.ports j hj)).2;rw[ce (l:=aA _),cF hj,fu] at this;omega
 generalize ((aA (n.1.getD i default))[j]).2=k at hk h1 h2 k0
 have hkl:k.toNat<n.2.1.length:=ab
 have snd:ia n.1.length (n.2.1.getD k.toNat default):=by
  unfold lG at hc;split at hc
  next z=>exact aL (List.all_eq_true.1 z _ (pf hkl))
  .cases hc
 have lo:my n k.toNat=false:=by
  unfold mU at hp;split at hp
  .cases hp
  .rename_i z;cases q:my n k.toNat with
   | false=>rfl
   | true=>exact absurd (List.any_eq_true.2 ⟨k.toNat,List.mem_range.2 hkl,q⟩) z
 unfold my at lo
 simp only[Bool.or_eq_false_iff,sC] at lo
 obtain⟨l1,l2⟩:=lo
 rw[show ((k.toNat:Nat):Int)=k by omega] at l1 l2
 have mem:∀ x:ar,¬ cG x k<0->k∈bq x:=λx hx=>by
  obtain⟨a,b⟩:=tx (q:=iq k) (l:=aA x) (by unfold cG at hx;omega);have hm:=pf (xs:=aA x) (i:=(iy (iq k) (aA x)).toNat) (by unfold cG at hx;omega);exact List.mem_map.2 ⟨_,hm,aL b⟩
 refine⟨⟨k0,ab⟩,snd,?_⟩
 obtain⟨s1,s2,s3,s4,s5,-⟩:=snd
 unfold f7
 rw[af ab]
 by_cases e:(i:Int)=lA (n.2.1.getD k.toNat default)
 .rw[am e];exact⟨⟨s3,s4⟩,mem _ l2⟩
 .have e2:lB (n.2.1.getD k.toNat default)=i:=by
   rcases h2 with z|z
   .exact absurd z.symm e
   .exact z
  rw[af e,am e2.symm];exact⟨⟨s1,s2⟩,mem _ l1⟩
theorem yp{n:Int}(h0:0<=n)(h1:n<=9223372036854775807):IntKind.u64.wrap n=n:=by
 obtain⟨m,rfl⟩:∃ m:Nat,n=m:=⟨n.toNat,ab⟩
 rw[Co];omega
theorem WQ(x:Int):0<=ir x:=Int.natCast_nonneg _
theorem Bl{w:aJ}{k:Int}(hs:ia (az w).1.length (cP w k))(hn:0<=bg w/\bg w<=1125899906842624):bg w+1<=jv w k/\jv w k<=bg w+mL (cP w k)+iH (cP w k):=by
 obtain⟨-,-,-,-,-,d1,d2,j1,j2,-⟩:=hs
 have hh:0<=mN (cP w k) (i5 w k):=WQ _
 have e1:IntKind.i64.wrap (iH (cP w k)+1)=iH (cP w k)+1:=aQ ab ab
 have e2:IntKind.u64.wrap (iH (cP w k)+1)=iH (cP w k)+1:=yp ab ab
 have hd:0<=Int.tdiv (mN (cP w k) (i5 w k)) 65536:=Int.tdiv_nonneg hh ab
 have t0:=Int.tmod_nonneg (iH (cP w k)+1) hd
 have t1:=Int.tmod_lt_of_pos (Int.tdiv (mN (cP w k) (i5 w k)) 65536) (show 0<iH (cP w k)+1 by omega)
 have el:Aq w k=Int.tmod (Int.tdiv (mN (cP w k) (i5 w k)) 65536) (iH (cP w k)+1):=by
  unfold Aq;rw[e1,e2,aQ ab ab]
 have e3:IntKind.i64.wrap (bg w+mL (cP w k))=bg w+mL (cP w k):=aQ ab ab
 have e4:jv w k=bg w+mL (cP w k)+Aq w k:=by
  unfold jv;rw[e3,aQ ab ab]
 omega
theorem dF.ends{w:aJ}{K:Int}(h:dF w K)(f:aW)(link why:Int):dF (lP w f link why) K:=⟨h.net,h.now,h.ord,h.done,h.len,h.st,h.cl,h.cr,h.fl,h.fo,h.fn⟩
theorem dF.dels{w:aJ}{K:Int}(h:dF w K)(l:List pB):dF (uC w l) K:=⟨h.net,h.now,h.ord,h.done,h.len,h.st,h.cl,h.cr,h.fl,h.fo,h.fn⟩
theorem dF.crosses{w:aJ}{K:Int}(h:dF w K)(hK:K<=2199023255552){f:aW}{out:Int×ad}(hf:0<=bh f/\bh f<(az w).1.length)(hg:0<=fG f/\fG f<bj w)
  (hk:out.1∈bq ((az w).1.getD (bh f).toNat default)) (hb:bytes out.2) (hl:(out.2.length:Int)<=2000):dF (eJ w f out) (K+1):=by
 have hi:(bh f).toNat<(az w).1.length:=ab
 obtain⟨⟨k0,k1⟩,snd,o1,o2⟩:=wZ h.net hi hk
 rw[show (((bh f).toNat:Nat):Int)=bh f by omega] at o1 o2
 have ov:=Bl (w:=w) (k:=out.1) snd h.now
 have hcl:out.1.toNat<(bH w).length:=by rw[h.cl];omega
 have hc0:i5 w out.1∈bH w:=pf hcl
 have hc1:=h.cr _ hc0
 have hord:=h.ord
 have base:dF (oE w ((bH w).set out.1.toNat (IntKind.i64.wrap (i5 w out.1+1)))) (K+1):=by
  have h':=h.more (K':=K+1) ab;refine⟨h'.net,h'.now,h'.ord,h'.done,h'.len,h'.st,?_,λc hc=>?_,h'.fl,h'.fo,h'.fn⟩
  .show ((bH w).set _ _).length=_;rw[fV];exact h.cl
  .have hc:c∈(bH w).set out.1.toNat (IntKind.i64.wrap (i5 w out.1+1)):=hc;rcases wz hc with hc|rfl
   .have:=h.cr c hc;omega
   .rw[aQ ab ab];omega
 unfold eJ
 dsimp only
 split
 .exact base.ends _ _ _
 split
 .exact base.ends _ _ _
 rename_i q
 have ew:IntKind.i64.wrap (bj w+1)=bj w+1:=aQ ab ab
 refine⟨base.net,base.now,?_,base.done,base.len,base.st,base.cl,base.cr,?_,?_,?_⟩
 .show 0<=IntKind.i64.wrap (bj w+1)/\IntKind.i64.wrap (bj w+1)<=K+1;rw[ew];omega
 .exact LJ h.fl λx hx=>(h.fo x hx).o.2
 .intro x hx;have hx:x∈da (ax w) (jv w out.1,bj w,f7 (az w).2.1 out.1 (bh f),out.1,fG f,out.2):=hx;show ug (az w) (bg w) (IntKind.i64.wrap (bj w+1)) x;rw[ew];rcases xX.1 hx with rfl|hx
  .exact⟨⟨by show bg w<=jv w out.1;omega,by show jv w out.1<=_;omega⟩,⟨by show 0<=bj w;omega,by show bj w<bj w+1;omega⟩,o1,.inr o2,⟨hg.1,by show fG f<bj w+1;omega⟩,hb,hl⟩
  .have k:=h.fo x hx;exact⟨k.t,⟨k.o.1,by have:=k.o.2;omega⟩,k.nd,k.l,⟨k.g.1,by have:=k.g.2;omega⟩,k.b,k.d⟩
 .show (da (ax w) _).length<=4096;rw[Bo];omega
theorem dF.land{w:aJ}{K:Int}(h:dF w K)(hK:K<=1099511627776){f:aW}(hf:ug (az w) (bg w) (bj w) f)(ht:aI f=bg w):dF (ip w f) (K+2):=by
 have hi:(bh f).toNat<(az w).1.length:=by have:=hf.nd;omega
 obtain⟨st,rt⟩:=h.st _ hi
 have N:=tA h.net hi
 have O:=J6 (lk:=f8 f) (t:=aI f) N st.rt hf.b
 have S:=Wu (link:=f8 f) (b:=eI f) (at':=aI f) N st ⟨by have:=h.ord;omega,ab⟩ ⟨by have:=h.now;omega,by have:=h.now;omega⟩
 have eH:bd w f=fC ((az w).1.getD (bh f).toNat default) ((aU w).getD (bh f).toNat default) (f8 f) (aI f) (eI f):=rfl
 rw[← eH] at O S
 have ha:dF (fL w ((aU w).set (bh f).toNat (bd w f).1)) (K+1):=by
  have h':=h.more (K':=K+1) ab;refine⟨h'.net,h'.now,h'.ord,h'.done,?_,λi hl=>?_,h'.cl,h'.cr,h'.fl,h'.fo,h'.fn⟩
  .show ((aU w).set _ _).length=_;rw[fV];exact h.len
  .have hl:i<(az w).1.length:=hl;show iG _ (((aU w).set (bh f).toNat (bd w f).1).getD i default) _/\bn (((aU w).set (bh f).toNat (bd w f).1).getD i default)=_;by_cases e:(bh f).toNat=i
   .subst e;rw[jN (by rw[h.len];exact hi)];exact⟨S,O.rt.trans rt⟩
   .rw[m7 e];exact h'.st i hl
 have hb:dF (if (bd w f).2.2=1 then uC (fL w ((aU w).set (bh f).toNat (bd w f).1)) (aY (fL w ((aU w).set (bh f).toNat (bd w f).1))++[(aI f,bh f,eI f)]) else fL w ((aU w).set (bh f).toNat (bd w f).1)) (K+1):=by
  split
  .exact ha.dels _
  .exact ha
 unfold ip
 dsimp only
 generalize hB:(if (bd w f).2.2=1 then uC (fL w ((aU w).set (bh f).toNat (bd w f).1)) (aY (fL w ((aU w).set (bh f).toNat (bd w f).1))++[(aI f,bh f,eI f)]) else fL w ((aU w).set (bh f).toNat (bd w f).1))=B at hb
 have eB:az B=az w/\bj B=bj w:=by rw[← hB];split <;> exact⟨rfl,rfl⟩
 have hc:dF (if (bd w f).2.2≠0 then lP B f (f8 f) (bd w f).2.2 else B) (K+1):=by
  split
  .exact hb.ends _ _ _
  .exact hb
 have eC:az (if (bd w f).2.2≠0 then lP B f (f8 f) (bd w f).2.2 else B)=az w/\bj (if (bd w f).2.2≠0 then lP B f (f8 f) (bd w f).2.2 else B)=bj w:=by
  split
  .exact eB
  .exact eB
 generalize (if (bd w f).2.2≠0 then lP B f (f8 f) (bd w f).2.2 else B)=C at hc eC
 split
 next hp=>
  have hr:(bd w f).2.2=0∨(bd w f).2.2=2:=by
   by_cases z0:(bd w f).2.2=0
   .exact .inl z0
   by_cases z2:(bd w f).2.2=2
   .exact .inr z2
   .have:=O.none z0 z2;rw[this] at hp;exact absurd hp (by simp[iw])
  obtain⟨p1,p2,p3⟩:=O.some hr;have hm:(bd w f).2.1.1∈bq ((az w).1.getD (bh f).toNat default):=by
   obtain⟨a,b⟩:=tx (q:=iq (bd w f).2.1.1) (l:=aA ((az w).1.getD (bh f).toNat default)) p3;have hm:=pf (xs:=aA ((az w).1.getD (bh f).toNat default)) (i:=(iy (iq (bd w f).2.1.1) (aA ((az w).1.getD (bh f).toNat default))).toNat) (by unfold cG at p3;omega);exact List.mem_map.2 ⟨_,hm,aL b⟩
  have z:=dF.crosses hc ab (by rw[eC.1];exact hf.nd) (by rw[eC.2];exact hf.g) (by rw[eC.1];exact hm) O.byt ab
  rwa [show K+1+1=K+2 by omega] at z
 .exact hc.more ab
theorem Lp(w:aJ)(f:aW)(out:Int×ad):az (eJ w f out)=az w/\bg (eJ w f out)=bg w ∧
  (ax (eJ w f out)=ax w∨∃ g,aI g=jv w out.1/\ax (eJ w f out)=da (ax w) g):=by
 unfold eJ
 dsimp only
 split
 .exact⟨rfl,rfl,.inl rfl⟩
 split
 .exact⟨rfl,rfl,.inl rfl⟩
 .exact⟨rfl,rfl,.inr ⟨_,rfl,rfl⟩⟩
theorem zE{n:cC}(h:dA n=0){i:Nat}(hi:i<n.1.length){k:Int}(hp:0<=cG (n.1.getD i default) k):k∈bq (n.1.getD i default):=by
 obtain⟨a,b⟩:=tx (q:=iq k) (l:=aA (n.1.getD i default)) hp
 have hm:=pf (xs:=aA (n.1.getD i default)) (i:=(iy (iq k) (aA (n.1.getD i default))).toNat) (by unfold cG at hp;omega)
 exact List.mem_map.2 ⟨_,hm,aL b⟩
theorem U4{w:aJ}{K:Int}(h:dF w K){f:aW}(hf:ug (az w) (bg w) (bj w) f):az (ip w f)=az w/\bg (ip w f)=bg w ∧
  (ax (ip w f)=ax w∨∃ g,bg w+1<=aI g/\ax (ip w f)=da (ax w) g):=by
 have hi:(bh f).toNat<(az w).1.length:=by have:=hf.nd;omega
 obtain⟨st,rt⟩:=h.st _ hi
 have N:=tA h.net hi
 have O:=J6 (lk:=f8 f) (t:=aI f) N st.rt hf.b
 have eH:bd w f=fC ((az w).1.getD (bh f).toNat default) ((aU w).getD (bh f).toNat default) (f8 f) (aI f) (eI f):=rfl
 rw[← eH] at O
 unfold ip
 dsimp only
 have key:∀ B:aJ,az B=az w->bg B=bg w->ax B=ax w->bH B=bH w →
   (az (if 0<(bd w f).2.1.2.length then eJ B f (bd w f).2.1 else B)=az w/\bg (if 0<(bd w f).2.1.2.length then eJ B f (bd w f).2.1 else B)=bg w ∧
    (ax (if 0<(bd w f).2.1.2.length then eJ B f (bd w f).2.1 else B)=ax w∨∃ g,bg w+1<=aI g/\ax (if 0<(bd w f).2.1.2.length then eJ B f (bd w f).2.1 else B)=da (ax w) g)):=by
  intro B b1 b2 b3 b4;split
  .rename_i hp;obtain⟨c1,c2,c3⟩:=Lp B f (bd w f).2.1;refine⟨c1.trans b1,c2.trans b2,?_⟩;rcases c3 with c3|⟨g,g1,g2⟩
   .exact .inl (c3.trans b3)
   .have hr:(bd w f).2.2=0∨(bd w f).2.2=2:=by
     by_cases z0:(bd w f).2.2=0
     .exact .inl z0
     by_cases z2:(bd w f).2.2=2
     .exact .inr z2
     .have:=O.none z0 z2;rw[this] at hp;exact absurd hp (by simp[iw])
    have hl:=zE h.net hi (O.some hr).2.2;obtain⟨-,snd,-⟩:=wZ h.net hi hl;have ov:=Bl (w:=B) (k:=(bd w f).2.1.1) (by unfold cP;rw[b1];exact snd) (by rw[b2];exact h.now);refine .inr ⟨g,by rw[g1,← b2];exact ov.1,by rw[g2,b3]⟩
  .exact⟨b1,b2,.inl b3⟩
 apply key
 all_goals (split <;> (split <;> rfl))
theorem zL(to:Int)(f:aW)(r:List aW):kI to (f::r)=(to+1-aI f).toNat+kI to r:=by
 unfold kI;rw[fK,List.sum_cons]
theorem dF.step{w:aJ}{K:Int}(h:dF w K)(hK:K<=1099511627776){f:aW}{r:List aW}(e:ax w=f::r) :
  dF (dI w) (K+2)/\az (dI w)=az w/\bg (dI w)=aI f∧∀ to,aI f<=to->kI to (ax (dI w))+1<=kI to (ax w):=by
 have hp:=h.fl
 rw[e] at hp
 obtain⟨p1,p2⟩:=List.pairwise_cons.1 hp
 have hf:=h.fo f (by rw[e];exact fF)
 have hle:∀ x∈r,aI f<=aI x:=λx hx=>by rcases p1 x hx with k|k <;> omega
 have ed:(ax w).headD default=f:=by rw[e];rfl
 have et:(ax w).tail=r:=by rw[e];rfl
 have hb:dF (cB (fU w r) (aI f)) K:=by
  refine⟨h.net,⟨by show 0<=aI f;have:=h.now;have:=hf.t;omega,hf.t.2⟩,h.ord,h.done,h.len,h.st,h.cl,h.cr,p2,λx hx=>?_,?_⟩
  .have hx:x∈r:=hx;have k:=h.fo x (by rw[e];exact fw _ hx);exact⟨⟨hle x hx,k.t.2⟩,k.o,k.nd,k.l,k.g,k.b,k.d⟩
  .show r.length<=4096;have:=h.fn;rw[e,cQ] at this;omega
 have hc:=Ig ((az w).2.2.length-(bX w).toNat) hb
 have es:dI w=ip (cq (cB (fU w r) (aI f))) f:=by unfold dI;rw[ed,et]
 have ec:cq (cB (fU w r) (aI f))=jm ((az w).2.2.length-(bX w).toNat) (cB (fU w r) (aI f)):=rfl
 rw[← ec] at hc
 obtain⟨c1,c2,c3,c4,c5⟩:=hc
 generalize cq (cB (fU w r) (aI f))=v at c1 c2 c3 c4 c5 es
 have n1:az v=az w:=c2
 have n2:bg v=aI f:=c3
 have n3:bj v=bj w:=c4
 have n4:ax v=r:=iB (λx:ad×List aW×List pB×List lO=>x.2.1) c5
 have hfv:ug (az v) (bg v) (bj v) f:=by
  rw[n1,n2,n3];exact⟨⟨iE _,hf.t.2⟩,hf.o,hf.nd,hf.l,hf.g,hf.b,hf.d⟩
 have L:=U4 c1 hfv
 rw[es]
 refine⟨c1.land hK hfv n2.symm,L.1.trans n1,L.2.1.trans n2,λto hto=>?_⟩
 rw[e,zL]
 rcases L.2.2 with q|⟨g,g1,g2⟩
 .rw[q,n4];omega
 .rw[g2,n4,Qb];rw[n2] at g1;omega
theorem dF.run{to:Int}:∀(n:Nat){w:aJ}{K:Int},dF w K->kI to (ax w)<=n->K+2*n<=1099511627776->dF (lw n w to) (K+2*n)/\jQ (lw n w to) to=false/\az (lw n w to)=az w
 | 0,w,K,h,hw,hK=>by
  refine⟨by simpa[lw] using h,?_,rfl⟩;show jQ w to=false;unfold jQ;cases e:ax w with
  | nil=>rfl
  | cons f r =>
   rw[e,zL] at hw;exact dw ab
 | n+1,w,K,h,hw,hK=>by
  rw[lw];split
  .rename_i hb;unfold jQ at hb;cases e:ax w with
   | nil=>rw[e] at hb;cases hb
   | cons f r =>
    rw[e] at hb;have hb:=aL hb;obtain⟨s1,s2,-,s4⟩:=h.step ab e;have:=s4 to hb;obtain⟨t1,t2,t3⟩:=dF.run (to:=to) n s1 ab ab;rw[show K+2+2*(n:Int)=K+2*((n+1:Nat):Int) by omega] at t1;exact⟨t1,t2,t3.trans s2⟩
  next hb=>exact⟨h.more ab,by simpa using hb,rfl⟩
def okDn(w:aJ):Prop:=0<=bX w/\((az w).2.2.length:Int)<=1099511627776
def t9(w:aJ):Nat:=(az w).2.2.length-(bX w).toNat
theorem LO{w:aJ}(h:okDn w)(hd:mY w=true):bX (mg w)=bX w+1/\okDn (mg w)/\t9 (mg w)+1=t9 w:=by
 unfold mY at hd
 rw[dr,ng,ng] at hd
 obtain⟨h0,h1⟩:=h
 have e:bX (mg w)=bX w+1:=aQ (n:=bX w+1) ab ab
 refine⟨e,⟨by rw[e];omega,h1⟩,?_⟩
 unfold t9
 rw[e]
 show (az w).2.2.length-_+1=_
 omega
theorem M6{w:aJ}(h:okDn w)(hd:mY w=true):0<t9 w:=by
 unfold mY at hd
 rw[dr,ng,ng] at hd
 have:=h.1
 unfold t9;omega
theorem K0:∀(n m:Nat){w:aJ},okDn w->t9 w<=n->t9 w<=m->jm n w=jm m w
 | 0,0,_,_,_,_=>rfl
 | 0,m+1,w,h,hn,_=>by
  rw[jm,jm,af];intro hd;have:=M6 h hd;omega
 | n+1,0,w,h,_,hm=>by
  rw[jm,jm,af];intro hd;have:=M6 h hd;omega
 | n+1,m+1,w,h,hn,hm=>by
  rw[jm,jm];split
  next hd=>obtain⟨-,o,r⟩:=LO h hd;exact K0 n m o ab ab
  .rfl
theorem ax2{w:aJ}(h:okDn w){n:Nat}(hn:t9 w<=n):cq w=jm n w:=K0 _ _ h (eZ _) hn
theorem wx:∀(n:Nat)(w:aJ),(jm n w).1=w.1/\(jm n w).2.1=w.2.1/\(jm n w).2.2.1=w.2.2.1/\(jm n w).2.2.2.2.2=w.2.2.2.2.2
 | 0,w=>⟨rfl,rfl,rfl,rfl⟩
 | n+1,w=>by
  rw[jm];split
  .have k:=wx n (mg w);exact⟨k.1.trans rfl,k.2.1.trans rfl,k.2.2.1.trans rfl,k.2.2.2.trans rfl⟩
  .exact⟨rfl,rfl,rfl,rfl⟩
theorem Oo(w:aJ):ax (cq w)=ax w/\bg (cq w)=bg w:=⟨iB (λx:ad×List aW×List pB×List lO=>x.2.1) (wx _ w).2.2.2,(wx _ w).2.1⟩
def iW(w:aJ)(to:Int):aJ:=lw (kI to (ax w)) w to
theorem aK3{w:aJ}{to:Int}(hb:jQ w to=false):∀ n:Nat,lw n w to=w
 | 0=>rfl
 | n+1=>by rw[lw,af (by rw[hb];simp)]
theorem dF.okDn{w:aJ}{K:Int}(h:dF w K):okDn w:=⟨h.done.1,by have:=yz h.net;omega⟩
theorem dF.wait{w:aJ}{K a:Int}(h:dF w K)(hb:jQ w a=false)(ha:0<=a/\a<=1125899906842624):dF (cB w a) K:=by
 refine⟨h.net,ha,h.ord,h.done,h.len,h.st,h.cl,h.cr,h.fl,λx hx=>?_,h.fn⟩
 have hx:x∈ax w:=hx
 have k:=h.fo x hx
 refine⟨⟨?_,k.t.2⟩,k.o,k.nd,k.l,k.g,k.b,k.d⟩
 show a<=aI x
 have hp:=h.fl
 unfold jQ at hb
 cases e:ax w with
 | nil=>rw[e] at hx;cases hx
 | cons f r =>
  rw[e] at hb hx hp;have hb:=aO hb;rcases dj.1 hx with rfl|hx
  .omega
  .rcases (List.pairwise_cons.1 hp).1 x hx with q|q <;> omega
def Oh(f:aW):Int×Int×Int×Int×ad:=(f.1,f.2.2)
def Lr(c:Int)(l l':List aW):Prop:=∃ (g:aW) (pre post:List aW),l'=pre++g::post/\(pre++post).map Oh=l.map Oh/\c<aI g/\(∀ y∈pre,aI y<=aI g)∧∀ y∈post,aI g<=aI y
theorem Yz{pre post:List aW}{f:aW}(h:∀ y∈pre,aI y<=aI f):da (pre++post) f=pre++da post f:=by
 induction pre with
 | nil=>rfl
 | cons x l ih =>
  have ih:=ih λy hy=>h y (fw _ hy);have c:=h x fF;unfold da at ih ⊢;rw[jS,List.takeWhile_cons_of_pos (by simpa using c),List.dropWhile_cons_of_pos (by simpa using c),jS,ih];rfl
theorem Lr.len{c:Int}{l l':List aW}(h:Lr c l l'):l'.length=l.length+1:=by
 obtain⟨g,pre,post,rfl,h1,-⟩:=h
 have:=iB List.length h1
 rw[qm,qm,cD] at this
 rw[cD,cQ];omega
structure sA (n:cC) (now:Int) (f:aW):Prop where
 t:now<=aI f/\aI f<=1125899906842624
 nd:0<=bh f/\bh f<n.1.length
 l:f8 f = -1∨f8 f∈bq (n.1.getD (bh f).toNat default)
 b:bytes (eI f)
 d:((eI f).length:Int)<=2000
structure fv (w:aJ):Prop where
 net:dA (az w)=0
 now:0<=bg w/\bg w<=1125899906842624
 done:0<=bX w/\bX w<=(az w).2.2.length
 len:(aU w).length=(az w).1.length
 st:∀ i:Nat,i<(az w).1.length->bn ((aU w).getD i default)=(dD (az w) (bX w).toNat).getD i default/\(fD ((aU w).getD i default)).length=(aA ((az w).1.getD i default)).length
 cl:(bH w).length=(az w).2.1.length
 fl:(ax w).Pairwise λa b=>aI a<=aI b
 fo:∀ f∈ax w,sA (az w) (bg w) f
 fn:(ax w).length<=4096
theorem dF.weak{w:aJ}{K:Int}(h:dF w K):fv w :=
 ⟨h.net,h.now,h.done,h.len,λi hi=>⟨(h.st i hi).2,(h.st i hi).1.ps⟩,h.cl,h.fl.imp λq=>by rcases q with q|q <;> omega,
  λf hf=>by have k:=h.fo f hf;exact⟨k.t,k.nd,k.l,k.b,k.d⟩,h.fn⟩
theorem fv.chk{w:aJ}(h:fv w){i:Nat}(hi:i<(az w).1.length):dJ (bn ((aU w).getD i default)) (bq ((az w).1.getD i default))=0:=by
 rw[(h.st i hi).1]
 exact MB h.net _ (by have:=h.done;omega) i hi
theorem fv.chg{w:aJ}(h:fv w)(hd:mY w=true):fv (mg w):=by
 have hd0:=hd
 unfold mY at hd
 rw[dr,ng,ng] at hd
 have hk:(bX w).toNat<(az w).2.2.length:=by have:=h.done;omega
 obtain⟨-,⟨w0,w1⟩,-⟩:=Bb h.net hk
 have sz:=yz h.net
 have eD:bX (mg w)=bX w+1:=aQ (n:=bX w+1) (by have:=h.done;omega) (by have:=h.done;omega)
 have eN:az (mg w)=az w:=rfl
 have hwho:bI (jL w)=bI ((az w).2.2.getD (bX w).toNat default):=rfl
 have hlt:(bI (jL w)).toNat<(az w).1.length:=ab
 have hst:=h.st _ hlt
 refine⟨h.net,h.now,by have:=h.done;rw[eD,eN];omega,?_,λi hi=>?_,h.cl,h.fl,h.fo,h.fn⟩
 .show ((aU w).set _ _).length=_;rw[fV];exact h.len
 .have hi:i<(az w).1.length:=hi;rw[eD,eN,show (bX w+1).toNat=(bX w).toNat+1 by have:=h.done;omega,dD];show bn (((aU w).set (bI (jL w)).toNat _).getD i default)=_/\(fD (((aU w).set (bI (jL w)).toNat _).getD i default)).length=_;by_cases e:(bI (jL w)).toNat=i
  .subst e;rw[jN (by rw[h.len];exact hlt),show ((az w).2.2.getD (bX w).toNat default)=jL w from rfl,jN (by rw[qo];exact hlt),← hst.1];exact⟨rfl,hst.2⟩
  .rw[m7 e,show ((az w).2.2.getD (bX w).toNat default)=jL w from rfl,m7 e];exact h.st i hi
theorem D5:∀(n:Nat){w:aJ},fv w->fv (jm n w)
 | 0,w,h=>h
 | n+1,w,h=>by
  rw[jm];split
  next hd=>exact D5 n (h.chg hd)
  .exact h
theorem aa1{l:List aW}{f:aW}(h:l.Pairwise λa b=>aI a<=aI b):(da l f).Pairwise λa b=>aI a<=aI b:=by
 induction l with
 | nil=>simp[da]
 | cons x l ih =>
  obtain⟨a,b⟩:=List.pairwise_cons.1 h;have ih:=ih b;by_cases c:aI x<=aI f
  .have e:da (x::l) f=x::da l f:=by
    unfold da;rw[List.takeWhile_cons_of_pos (by simpa using c),List.dropWhile_cons_of_pos (by simpa using c)];rfl
   rw[e];refine List.pairwise_cons.2 ⟨λy hy=>?_,ih⟩;rcases xX.1 hy with rfl|hy
   .exact c
   .exact a y hy
  .have e:da (x::l) f=f::x::l:=by
    unfold da;rw[List.takeWhile_cons_of_neg (by simpa using c),List.dropWhile_cons_of_neg (by simpa using c)];rfl
   rw[e];refine List.pairwise_cons.2 ⟨λy hy=>?_,h⟩;rcases dj.1 hy with rfl|hy
   .omega
   .have:=a y hy;omega
theorem fv.crosses{w:aJ}(h:fv w){f:aW}{out:Int×ad}(hf:0<=bh f/\bh f<(az w).1.length)
  (hk:out.1∈bq ((az w).1.getD (bh f).toNat default)) (hb:bytes out.2) (hl:(out.2.length:Int)<=2000):fv (eJ w f out):=by
 have hi:(bh f).toNat<(az w).1.length:=ab
 obtain⟨⟨k0,k1⟩,snd,o1,o2⟩:=wZ h.net hi hk
 rw[show (((bh f).toNat:Nat):Int)=bh f by omega] at o1 o2
 have ov:=Bl (w:=w) (k:=out.1) snd h.now
 have base:fv (oE w ((bH w).set out.1.toNat (IntKind.i64.wrap (i5 w out.1+1)))):=by
  refine⟨h.net,h.now,h.done,h.len,h.st,?_,h.fl,h.fo,h.fn⟩;show ((bH w).set _ _).length=_;rw[fV];exact h.cl
 unfold eJ
 dsimp only
 split
 .exact⟨base.net,base.now,base.done,base.len,base.st,base.cl,base.fl,base.fo,base.fn⟩
 split
 .exact⟨base.net,base.now,base.done,base.len,base.st,base.cl,base.fl,base.fo,base.fn⟩
 rename_i q
 refine⟨base.net,base.now,base.done,base.len,base.st,base.cl,aa1 h.fl,?_,?_⟩
 .intro x hx;have hx:x∈da (ax w) (jv w out.1,bj w,f7 (az w).2.1 out.1 (bh f),out.1,fG f,out.2):=hx;rcases xX.1 hx with rfl|hx
  .exact⟨⟨by show bg w<=jv w out.1;omega,by show jv w out.1<=_;omega⟩,o1,.inr o2,hb,hl⟩
  .exact h.fo x hx
 .show (da (ax w) _).length<=4096;rw[Bo];omega
theorem fv.out{w:aJ}(h:fv w){f:aW}(hf:sA (az w) (bg w) f) :
  Px ((az w).1.getD (bh f).toNat default) ((aU w).getD (bh f).toNat default) (bd w f):=by
 have hi:(bh f).toNat<(az w).1.length:=by have:=hf.nd;omega
 obtain⟨-,-,h3⟩:=yN (h.chk hi)
 exact J6 (lk:=f8 f) (t:=aI f) (tA h.net hi) (λr hr=>(h3 r hr).2) hf.b
theorem fv.land{w:aJ}(h:fv w){f:aW}(hf:sA (az w) (bg w) f):fv (ip w f):=by
 have hi:(bh f).toNat<(az w).1.length:=by have:=hf.nd;omega
 have O:=h.out hf
 have T:=(QG ((az w).1.getD (bh f).toNat default) ((aU w).getD (bh f).toNat default) (f8 f) (aI f) (eI f)).2.1
 have eH:bd w f=fC ((az w).1.getD (bh f).toNat default) ((aU w).getD (bh f).toNat default) (f8 f) (aI f) (eI f):=rfl
 rw[← eH] at T
 have ha:fv (fL w ((aU w).set (bh f).toNat (bd w f).1)):=by
  refine⟨h.net,h.now,h.done,?_,λi hl=>?_,h.cl,h.fl,h.fo,h.fn⟩
  .show ((aU w).set _ _).length=_;rw[fV];exact h.len
  .have hl:i<(az w).1.length:=hl;show bn (((aU w).set (bh f).toNat (bd w f).1).getD i default)=_/\(fD (((aU w).set (bh f).toNat (bd w f).1).getD i default)).length=_;by_cases e:(bh f).toNat=i
   .subst e;rw[jN (by rw[h.len];exact hi)];exact⟨O.rt.trans (h.st _ hi).1,T.trans (h.st _ hi).2⟩
   .rw[m7 e];exact h.st i hl
 unfold ip
 dsimp only
 have key:∀ B:aJ,fv B->az B=az w->fv (if 0<(bd w f).2.1.2.length then eJ B f (bd w f).2.1 else B):=by
  intro B hB b1;split
  .rename_i hp;have hr:(bd w f).2.2=0∨(bd w f).2.2=2:=by
    by_cases z0:(bd w f).2.2=0
    .exact .inl z0
    by_cases z2:(bd w f).2.2=2
    .exact .inr z2
    .have:=O.none z0 z2;rw[this] at hp;exact absurd hp (by simp[iw])
   obtain⟨p1,p2,p3⟩:=O.some hr;exact hB.crosses (by rw[b1];exact hf.nd) (by rw[b1];exact zE h.net hi p3) O.byt ab
  .exact hB
 apply key
 .split <;> (split <;> exact⟨ha.net,ha.now,ha.done,ha.len,ha.st,ha.cl,ha.fl,ha.fo,ha.fn⟩)
 .split <;> (split <;> rfl)
theorem ae4{w:aJ}(h:fv w){f:aW}(hf:sA (az w) (bg w) f):az (ip w f)=az w/\bg (ip w f)=bg w ∧
  (ax (ip w f)=ax w∨∃ g,bg w+1<=aI g/\ax (ip w f)=da (ax w) g):=by
 have hi:(bh f).toNat<(az w).1.length:=by have:=hf.nd;omega
 have O:=h.out hf
 unfold ip
 dsimp only
 have key:∀ B:aJ,az B=az w->bg B=bg w->ax B=ax w →
   (az (if 0<(bd w f).2.1.2.length then eJ B f (bd w f).2.1 else B)=az w/\bg (if 0<(bd w f).2.1.2.length then eJ B f (bd w f).2.1 else B)=bg w ∧
    (ax (if 0<(bd w f).2.1.2.length then eJ B f (bd w f).2.1 else B)=ax w∨∃ g,bg w+1<=aI g/\ax (if 0<(bd w f).2.1.2.length then eJ B f (bd w f).2.1 else B)=da (ax w) g)):=by
  intro B b1 b2 b3;split
  .rename_i hp;obtain⟨c1,c2,c3⟩:=Lp B f (bd w f).2.1;refine⟨c1.trans b1,c2.trans b2,?_⟩;rcases c3 with c3|⟨g,g1,g2⟩
   .exact .inl (c3.trans b3)
   .have hr:(bd w f).2.2=0∨(bd w f).2.2=2:=by
     by_cases z0:(bd w f).2.2=0
     .exact .inl z0
     by_cases z2:(bd w f).2.2=2
     .exact .inr z2
     .have:=O.none z0 z2;rw[this] at hp;exact absurd hp (by simp[iw])
    obtain⟨-,snd,-⟩:=wZ h.net hi (zE h.net hi (O.some hr).2.2);have ov:=Bl (w:=B) (k:=(bd w f).2.1.1) (by unfold cP;rw[b1];exact snd) (by rw[b2];exact h.now);exact .inr ⟨g,by rw[g1,← b2];exact ov.1,by rw[g2,b3]⟩
  .exact⟨b1,b2,.inl b3⟩
 apply key
 all_goals (split <;> (split <;> rfl))
theorem fv.step{w:aJ}(h:fv w){f:aW}{r:List aW}(e:ax w=f::r) :
  fv (dI w)/\az (dI w)=az w/\bg (dI w)=aI f∧∀ to,aI f<=to->kI to (ax (dI w))+1<=kI to (ax w):=by
 have hp:=h.fl
 rw[e] at hp
 obtain⟨p1,p2⟩:=List.pairwise_cons.1 hp
 have hf:=h.fo f (by rw[e];exact fF)
 have hb:fv (cB (fU w r) (aI f)):=by
  refine⟨h.net,⟨by show 0<=aI f;have:=h.now;have:=hf.t;omega,hf.t.2⟩,h.done,h.len,h.st,h.cl,p2,λx hx=>?_,?_⟩
  .have hx:x∈r:=hx;have k:=h.fo x (by rw[e];exact fw _ hx);exact⟨⟨p1 x hx,k.t.2⟩,k.nd,k.l,k.b,k.d⟩
  .show r.length<=4096;have:=h.fn;rw[e,cQ] at this;omega
 have es:dI w=ip (cq (cB (fU w r) (aI f))) f:=by unfold dI;rw[e];rfl
 have c1:fv (cq (cB (fU w r) (aI f))):=D5 _ hb
 have c2:=wx ((az w).2.2.length-(bX w).toNat) (cB (fU w r) (aI f))
 have n1:az (cq (cB (fU w r) (aI f)))=az w:=c2.1
 have n2:bg (cq (cB (fU w r) (aI f)))=aI f:=c2.2.1
 have n4:ax (cq (cB (fU w r) (aI f)))=r:=(Oo _).1
 generalize cq (cB (fU w r) (aI f))=v at c1 n1 n2 n4 es
 have hfv:sA (az v) (bg v) f:=by
  rw[n1,n2];exact⟨⟨iE _,hf.t.2⟩,hf.nd,hf.l,hf.b,hf.d⟩
 have L:=ae4 c1 hfv
 rw[es]
 refine⟨c1.land hfv,L.1.trans n1,L.2.1.trans n2,λto hto=>?_⟩
 rw[e,zL]
 rcases L.2.2 with q|⟨g,g1,g2⟩
 .rw[q,n4];omega
 .rw[g2,n4,Qb];rw[n2] at g1;omega
theorem Ki{b:ad}(hb:bytes b)(h:gp b=0):cf (gU b)=zT (cf b)/\bT (gU b)=0/\(gU b).drop 20=b.drop 20:=by
 have hd:bT b=0:=gC λk=>by rw[gp,am k] at h;exact k h
 have ht:¬ (cf b).2.2.1<2:=λk=>by rw[gp,af (λq=>q hd),am k] at h;cases h
 obtain⟨⟨h1,⟨h2,h2'⟩,h3,h4,h5⟩,l1,l2⟩:=zN hb hd
 have hk:kD (zT (cf b)):=⟨h1,⟨by show 0<=(cf b).2.2.1-1;omega,by show (cf b).2.2.1-1<=255;omega⟩,h3,h4,h5⟩
 have hl:((b.drop 20).length:Int)<=1480:=by rw[dR];omega
 have e:fg (zT (cf b),b.drop 20)=0:=by
  rw[fg,af (by rw[pi];exact hk),af (by simp only;omega)]
 rw[gU,am h,dE,am e]
 exact Iy hk (sD hb 12) (sD hb 16) hl (ua hb)
theorem ZD{b:ad}(hb:bytes b)(hn:¬ cH b):¬ cH (if gp b=0 then gU b else b):=by
 split
 next h=>
  obtain⟨e1,e2,e3⟩:=Ki hb h;have hd:bT b=0:=gC λk=>by rw[gp,am k] at h;exact k h
  rintro⟨-,k⟩;apply hn;refine⟨hd,?_⟩;rw[aP,am e2,e1,e3] at k;rw[aP,am hd];exact k
 .exact hn
theorem Ka{b:ad}{f kind code id ttl:Int}(hb:bytes b)(hf:u32 f)(h:dS b kind code id ttl=0):¬ cH (eT b f kind code id ttl):=by
 have hg:qh kind code id ttl:=gC λk=>by rw[dS,am k] at h;cases h
 have ha:cH b:=gC λk=>by rw[dS,af (λq=>q hg),af k] at h;cases h
 obtain⟨-,e,en,ei⟩:=A6 (src:=f) hg ha
 have hk:=hg.1
 rw[e]
 obtain⟨s1,s2,s3,s4⟩:=yr (src:=f) (dst:=cL b) (proto:=1) (data:=gN (kind,code,b.take 28)) hg.2.2 ab hf (sD hb 12) (EI _) (JN en (zZ hb))
 intro k
 have hp1:d9 (dE (ib f (cL b) 1 id ttl (gN (kind,code,b.take 28))))=1:=by rw[d9,s2]
 have:=(oM k).2.2.1 hp1
 rw[s3,(Sm en).1] at this
 simp only at this
 omega
theorem ak1{b:ad}{f id ttl:Int}(hb:bytes b)(hf:u32 f)(h:eh b id ttl=0):¬ cH (fZ b f id ttl):=by
 have hn:iV id ttl:=gC λk=>by rw[eh,am k] at h;cases h
 have hg:s9 b:=gC λk=>by rw[eh,af (λq=>q hn),af k] at h;cases h
 obtain⟨-,l1,l2⟩:=zN hb hg.1.1
 have hd:=ua (n:=20) hb
 rcases hg with⟨ha,⟨g1,g2⟩|⟨g1,g2⟩|⟨g1,g2,g3,g4⟩⟩
 .rw[(AY (src:=f) hn ha g1 g2).1];have hE:((fh (true,(dW (b.drop 20)).2)).length:Int)<=1480/\bytes (fh (true,(dW (b.drop 20)).2)):=by
   have e:(dW (b.drop 20)).2.2.2=(b.drop 20).drop 8:=by unfold dW;rw[am g2]
   refine MI ?_ ?_
   .show bytes (dW (b.drop 20)).2.2.2;rw[e];exact ua hd
   .show ((dW (b.drop 20)).2.2.2.length:Int)<=1472;rw[e];simp only[dR];omega
  obtain⟨s1,s2,s3,s4⟩:=yr (src:=f) (dst:=cL b) (proto:=1) hn ab hf (sD hb 12) hE.1 hE.2;intro k;have h8:=(oM k).2.2.1 (by rw[d9,s2]);have h28:=(oM k).2.1;rw[s3] at h8;rw[s4] at h28;unfold fh at h8 h28;split at h8
  .have:(cj (cN (true,(dW (b.drop 20)).2)) 2 (cX (cN (true,(dW (b.drop 20)).2)))).getD 0 default=0:=rfl;rw[this] at h8;cases h8
  next z=>rw[af z] at h28;simp at h28
 .rw[(BP (src:=f) hn ha g1 g2).1];exact Ka hb hf (DM hn ha)
 .rw[(Ah (src:=f) hn ha g1 g2 g3 g4).1];have hE:((eV f (cL b) (jX (d7 (cL b) (gc b) (b.drop 20)))).length:Int)<=1480/\bytes (eV f (cL b) (jX (d7 (cL b) (gc b) (b.drop 20)))):=Pl rfl;obtain⟨s1,s2,s3,s4⟩:=yr (src:=f) (dst:=cL b) (proto:=6) hn ab hf (sD hb 12) hE.1 hE.2;intro k;have h28:=(oM k).2.1;rw[s4] at h28;unfold eV at h28;split at h28
  next z=>have hfl:=(oM k).2.2.2.1 (by rw[d9,s2]);rw[s3] at hfl;unfold eV at hfl;rw[am z] at hfl;have h13:(cj (jD (jX (d7 (cL b) (gc b) (b.drop 20)))) 16 (fB f (cL b) 6 (jD (jX (d7 (cL b) (gc b) (b.drop 20)))))).getD 13 default=20:=rfl;rw[h13,mI,we] at hfl;have:=hfl (by show 14<=20+_;omega);exact absurd this bi
  .simp at h28
theorem TI{x:ar}{lk L:Int}(N:pJ x)(A:qZ x)(hL:0<=cG x L):u32 (kx x (bM x lk) L):=by
 have l1:cG x L<(aA x).length:=(tx hL).1
 unfold kx
 split
 .exact (DI A hL l1).1
 split
 .exact A.2.1
 split
 .exact A.2.2
 .exact (DI A (AP x lk) (NN N lk)).1
theorem Z1{ki:Int}{w:dL}{f id:Int}(hb:bytes w.2.2.2.2.1)(hf:u32 f)(hn:iV id (jt w.1))(h:kE ki w 0=0):¬ cH (kB ki w f id):=by
 have ha:=HM h
 unfold kB
 split
 .exact Ka hb hf (by rw[dS,af (λk=>k ⟨.inl rfl,ab,hn⟩),am ha])
 split
 .exact Ka hb hf (by rw[dS,af (λk=>k ⟨.inr rfl,ab,hn⟩),am ha])
 next k2 k3=>
  have h:eh w.2.2.2.2.1 0 (jt w.1)=0:=by
   unfold kE at h;rw[af k2,af k3] at h;exact h
  have hg:s9 w.2.2.2.2.1:=gC λq=>by
   rw[eh] at h;split at h
   .cases h
   .cases h
  exact ak1 hb hf (BL hn hg)
theorem Pb{x:ar}{s:bY}{lk t:Int}{b:ad}(N:pJ x)(A:qZ x)(hrt:∀ r∈bn s,lI r (bq x))(hb:bytes b) :
  ((fC x s lk t b).2.2=2->cH b∧¬ cH (fC x s lk t b).2.1.2)/\((fC x s lk t b).2.2=0→¬ cH b→¬ cH (fC x s lk t b).2.1.2):=by
 constructor
 .intro h2;have hbo:cH b:=gC λk=>aZ3 k h2;refine⟨hbo,?_⟩;obtain⟨ki,e,hk⟩:=Fw h2;rw[e] at h2 ⊢;obtain⟨w,hw⟩:∃ w,w=cE x s lk t b:=⟨_,rfl⟩
  rw[← hw] at h2 ⊢;obtain⟨a1,a2,a3⟩:=In h2;have w1:w.1=x:=by rw[hw];rfl
  have w2:w.2.1=s:=by rw[hw];rfl
  have w3:w.2.2.1=lk:=by rw[hw];rfl
  have w5:w.2.2.2.2.1=b:=by rw[hw];rfl
  have w6:w.2.2.2.2.2=cf b:=by
   have:w.2.2.2.2.2=(aP b).1:=by rw[hw];rfl
   rw[this,aP,am hbo.1]
  have hn:=RF (w:=w) (by rw[w1];exact N.id) (by rw[w1];exact N.form) (by rw[w6];exact rk hb 4);have hL:0<=cG x (gP (kB ki w) w):=by
   have:=Hx hrt (a:=lS w.2.2.2.2.2) (by rw[← w2];exact a2) (jc w) (dV (kB ki w (adr w.1 (bM w.1 w.2.2.1)) 0));unfold gP fJ;rw[w1,w2];rw[w1] at this;exact this
  have hf:u32 (je (kB ki w) w (kv ki w)):=by
   unfold je;split
   .rw[w1,w3];exact TI N A hL
   .rename_i k;unfold kv at k ⊢;split
    .rw[w6];exact sD hb 16
    next z=>rw[af z] at k;exact absurd rfl k
  have ho:(fi w ki).2.1.2=kB ki w (je (kB ki w) w (kv ki w)) (ig w):=iB (λr:nE=>r.2.1.2) a3;rw[ho];exact Z1 (by rw[w5];exact hb) hf hn a1
 .intro h0 hno;have F:=GR h0;rw[Ft (t:=t) F];show ¬ cH (if lk ≠ -1/\dY x=false then gU b else b);split
  .rename_i k;have ht:=F.ttl;have e1:(aP b).1=cf b:=by rw[aP,am F.dec]
   rw[e1] at ht;have hl:gp b=0:=by
    rw[gp,af (λq=>q F.dec)];exact af (λq=>ht ⟨k.1,k.2,q⟩)
   have:=ZD hb hno
   rwa [am hl] at this
  .exact hno
def wB(e:lO):Int:=e.1
def AZ(e:lO):Int:=e.2.1
def u6(e:lO):Int:=e.2.2.2.2
def xA(fl:List aW)(en:List lO):Prop :=
 (∃ f,fl=[f]/\en=[])∨(∃ f e,fl=[f]/\en=[e]/\u6 e=2/\AZ e<=aI f∧¬ cH (eI f)) ∨
  (fl=[]∧∃ e,en=[e]/\u6 e≠2)∨(fl=[]∧∃ a e,en=[a,e]/\u6 a=2/\u6 e≠2/\AZ a<=AZ e)
def lq(o:Int)(l:List aW):List aW:=l.filter λf=>decide (fG f=o)
def nz(o:Int)(l:List lO):List lO:=l.filter λe=>decide (wB e=o)
theorem Q7{o:Int}{l:List aW}{g:aW}(h:fG g≠o):lq o (da l g)=lq o l:=by
 unfold lq da
 rw[qG,List.filter_cons_of_neg (by simpa using h),← qG,rC]
theorem B0{o:Int}{l:List aW}{g:aW}(h:fG g=o)(hl:lq o l=[]):lq o (da l g)=[g]:=by
 unfold lq at hl ⊢
 rw[← rC (p:=λx=>decide (aI x<=aI g)) (l:=l),qG] at hl
 obtain⟨h1,h2⟩:=List.append_eq_nil_iff.1 hl
 unfold da
 rw[qG,List.filter_cons_of_pos (by simpa using h),h1,h2];rfl
theorem K1(w:aJ)(f:aW)(out:Int×ad) :
  (∃ why,(why=3∨why=7)/\aV (eJ w f out)=aV w++[(fG f,aI f,bh f,out.1,why)]/\ax (eJ w f out)=ax w) ∨
   (∃ g,fG g=fG f/\eI g=out.2/\aI g=jv w out.1/\aV (eJ w f out)=aV w/\ax (eJ w f out)=da (ax w) g):=by
 unfold eJ
 dsimp only
 split
 .exact .inl ⟨3,.inl rfl,rfl,rfl⟩
 split
 .exact .inl ⟨7,.inr rfl,rfl,rfl⟩
 .exact .inr ⟨(jv w out.1,bj w,f7 (az w).2.1 out.1 (bh f),out.1,fG f,out.2),rfl,rfl,rfl,rfl,rfl⟩
structure I0 (v:aJ) (f:aW) (w:aJ):Prop where
 a:∃ es:List lO,(∀ e∈es,wB e=fG f/\AZ e=aI f)/\aV w=aV v++es ∧
  ((ax w=ax v/\((∃ e,es=[e]/\u6 e≠2)∨(cH (eI f)∧∃ a e,es=[a,e]/\u6 a=2/\u6 e≠2))) ∨
    ∃ g,fG g=fG f/\aI f<=aI g/\ax w=da (ax v) g/\((es=[]/\(¬ cH (eI f)→¬ cH (eI g)))∨(cH (eI f)∧∃ a,es=[a]/\u6 a=2∧¬ cH (eI g))))
theorem lands{v:aJ}(h:fv v){f:aW}(hf:sA (az v) (bg v) f)(ht:aI f=bg v)(A:∀ i:Nat,i<(az v).1.length->qZ ((az v).1.getD i default)):I0 v f (ip v f):=by
 have hi:(bh f).toNat<(az v).1.length:=by have:=hf.nd;omega
 have N:=tA h.net hi
 have O:=h.out hf
 obtain⟨-,-,h3⟩:=yN (h.chk hi)
 have Z:=Pb (lk:=f8 f) (t:=aI f) N (A _ hi) (λr hr=>(h3 r hr).2) hf.b
 have eH:bd v f=fC ((az v).1.getD (bh f).toNat default) ((aU v).getD (bh f).toNat default) (f8 f) (aI f) (eI f):=rfl
 rw[← eH] at Z
 have ov:0<(bd v f).2.1.2.length→∀ B:aJ,az B=az v->bg B=bg v->aI f<=jv B (bd v f).2.1.1:=by
  intro hp B b1 b2;have hr:(bd v f).2.2=0∨(bd v f).2.2=2:=by
   by_cases z0:(bd v f).2.2=0
   .exact .inl z0
   by_cases z2:(bd v f).2.2=2
   .exact .inr z2
   .have:=O.none z0 z2;rw[this] at hp;exact absurd hp (by simp[iw])
  obtain⟨-,snd,-⟩:=wZ h.net hi (zE h.net hi (O.some hr).2.2);have:=Bl (w:=B) (k:=(bd v f).2.1.1) (by unfold cP;rw[b1];exact snd) (by rw[b2];exact h.now);omega
 unfold ip
 dsimp only
 generalize hb:(if (bd v f).2.2=1 then uC (fL v ((aU v).set (bh f).toNat (bd v f).1)) (aY (fL v ((aU v).set (bh f).toNat (bd v f).1))++[(aI f,bh f,eI f)]) else fL v ((aU v).set (bh f).toNat (bd v f).1))=B
 have eB:az B=az v/\bg B=bg v/\ax B=ax v/\aV B=aV v:=by rw[← hb];split <;> exact⟨rfl,rfl,rfl,rfl⟩
 clear hb
 obtain⟨b1,b2,b3,b4⟩:=eB
 by_cases z0:(bd v f).2.2=0
 .have hp:=(O.some (.inl z0)).1;rw[am hp,af (show ¬ (bd v f).2.2≠0 from λk=>k z0)];rcases K1 B f (bd v f).2.1 with⟨why,hw,e1,e2⟩|⟨g,g1,g2,g3,g4,g5⟩
  .refine⟨⟨_,?_,by rw[e1,b4],.inl ⟨by rw[e2,b3],.inl ⟨_,rfl,?_⟩⟩⟩⟩
   .intro e he;rw[jR.1 he];exact⟨rfl,rfl⟩
   .show why≠2;omega
  .exact⟨⟨[],λe he=>(by cases he),by rw[g4,b4];simp,.inr ⟨g,g1,by rw[g3];exact ov hp B b1 b2,by rw[g5,b3],.inl ⟨rfl,λk=>by rw[g2];exact Z.2 z0 k⟩⟩⟩⟩
 rw[am z0]
 by_cases z2:(bd v f).2.2=2
 .have hp:=(O.some (.inr z2)).1;rw[am hp];have zz:=Z.1 z2;rcases K1 (lP B f (f8 f) (bd v f).2.2) f (bd v f).2.1 with⟨why,hw,e1,e2⟩|⟨g,g1,g2,g3,g4,g5⟩
  .refine⟨⟨[(fG f,aI f,bh f,f8 f,(bd v f).2.2),(fG f,aI f,bh f,(bd v f).2.1.1,why)],?_,?_,.inl ⟨?_,.inr ⟨zz.1,_,_,rfl,z2,?_⟩⟩⟩⟩
   .intro e he;rcases dj.1 he with rfl|he
    .exact⟨rfl,rfl⟩
    .rw[jR.1 he];exact⟨rfl,rfl⟩
   .rw[e1];show (aV B++[_])++[_]=_;rw[b4,iN];rfl
   .rw[e2];exact b3
   .show why≠2;omega
  .refine⟨⟨[(fG f,aI f,bh f,f8 f,(bd v f).2.2)],?_,?_,.inr ⟨g,g1,?_,?_,.inr ⟨zz.1,_,rfl,z2,by rw[g2];exact zz.2⟩⟩⟩⟩
   .intro e he;rw[jR.1 he];exact⟨rfl,rfl⟩
   .rw[g4];show aV B++[_]=_;rw[b4]
   .rw[g3];exact ov hp _ b1 b2
   .rw[g5];show da (ax B) g=_;rw[b3]
 .have hn:=O.none z0 z2;have hp:¬ 0<(bd v f).2.1.2.length:=by rw[hn];simp[iw]
  rw[af hp];refine⟨⟨[(fG f,aI f,bh f,f8 f,(bd v f).2.2)],?_,?_,.inl ⟨b3,.inl ⟨_,rfl,z2⟩⟩⟩⟩
  .intro e he;rw[jR.1 he];exact⟨rfl,rfl⟩
  .show aV B++[_]=_;rw[b4]
theorem O3(o:Int)(l m:List lO):nz o (l++m)=nz o l++nz o m:=qG ..
theorem Yl{o:Int}{es:List lO}(h:∀ e∈es,wB e=o):nz o es=es:=List.filter_eq_self.2 λe he=>dM (h e he)
theorem Sa{o:Int}{es:List lO}(h:∀ e∈es,wB e≠o):nz o es=[]:=List.filter_eq_nil_iff.2 λe he=>by simpa using h e he
theorem aS2{v w:aJ}{f:aW}{o:Int}(L:I0 v f w)(h:xA (lq o (f::ax v)) (nz o (aV v))):xA (lq o (ax w)) (nz o (aV w)):=by
 obtain⟨es,h1,h2,h3⟩:=L.a
 by_cases ho:fG f=o
 .have ef:lq o (f::ax v)=f::lq o (ax v):=List.filter_cons_of_pos (by simpa using ho);rw[ef] at h;have ees:nz o es=es:=Yl λe he=>(h1 e he).1.trans ho;rw[h2,O3,ees];rcases h with⟨f',q1,q2⟩|⟨f',e0,q1,q2,q3,q4,q5⟩|⟨q1,-⟩|⟨q1,-⟩
  .rw[List.cons.injEq] at q1;obtain⟨rfl,q1⟩:=q1;rw[q2,pH];rcases h3 with⟨k1,⟨e,rfl,k2⟩|⟨-,a,e,rfl,k2,k3⟩⟩|⟨g,g1,g2,g3,⟨rfl,-⟩|⟨-,a,rfl,k2,k3⟩⟩
   .exact .inr (.inr (.inl ⟨by rw[k1];exact q1,e,rfl,k2⟩))
   .refine .inr (.inr (.inr ⟨by rw[k1];exact q1,a,e,rfl,k2,k3,?_⟩));rw[(h1 a aC).2,(h1 e aC).2];exact iE _
   .exact .inl ⟨g,by rw[g3];exact B0 (g1.trans ho) q1,rfl⟩
   .refine .inr (.inl ⟨g,a,by rw[g3];exact B0 (g1.trans ho) q1,rfl,k2,?_,k3⟩);rw[(h1 a aC).2];exact g2
  .rw[List.cons.injEq] at q1;obtain⟨rfl,q1⟩:=q1;rw[q2];rcases h3 with⟨k1,⟨e,rfl,k2⟩|⟨k0,-⟩⟩|⟨g,g1,g2,g3,⟨rfl,k2⟩|⟨k0,-⟩⟩
   .refine .inr (.inr (.inr ⟨by rw[k1];exact q1,e0,e,rfl,q3,k2,?_⟩));rw[(h1 e aC).2];exact q4
   .exact absurd k0 q5
   .exact .inr (.inl ⟨g,e0,by rw[g3];exact B0 (g1.trans ho) q1,aC,q3,ab,k2 q5⟩)
   .exact absurd k0 q5
  .cases q1
  .cases q1
 .have ef:lq o (f::ax v)=lq o (ax v):=List.filter_cons_of_neg (by simpa using ho);rw[ef] at h;have ees:nz o es=[]:=Sa λe he=>by rw[(h1 e he).1];exact ho
  have efl:lq o (ax w)=lq o (ax v):=by
   rcases h3 with⟨k1,-⟩|⟨g,g1,-,g3,-⟩
   .rw[k1]
   .rw[g3];exact Q7 (by rw[g1];exact ho)
  rw[h2,O3,ees,ke,efl];exact h
theorem am8(w:aJ):aV (cq w)=aV w:=by
 have k:=(wx ((az w).2.2.length-(bX w).toNat) w).2.2.2
 exact iB (λx:ad×List aW×List pB×List lO=>x.2.2.2) k
theorem Td{w:aJ}(h:fv w)(A:∀ i:Nat,i<(az w).1.length->qZ ((az w).1.getD i default)){f:aW}{r:List aW}(e:ax w=f::r){o:Int}(ho:xA (lq o (ax w)) (nz o (aV w))) :
  xA (lq o (ax (dI w))) (nz o (aV (dI w))):=by
 have hp:=h.fl
 rw[e] at hp ho
 obtain⟨p1,p2⟩:=List.pairwise_cons.1 hp
 have hf:=h.fo f (by rw[e];exact fF)
 have hb:fv (cB (fU w r) (aI f)):=by
  refine⟨h.net,⟨by show 0<=aI f;have:=h.now;have:=hf.t;omega,hf.t.2⟩,h.done,h.len,h.st,h.cl,p2,λx hx=>?_,?_⟩
  .have hx:x∈r:=hx;have k:=h.fo x (by rw[e];exact fw _ hx);exact⟨⟨p1 x hx,k.t.2⟩,k.nd,k.l,k.b,k.d⟩
  .show r.length<=4096;have:=h.fn;rw[e,cQ] at this;omega
 have es:dI w=ip (cq (cB (fU w r) (aI f))) f:=by unfold dI;rw[e];rfl
 have c1:fv (cq (cB (fU w r) (aI f))):=D5 _ hb
 have c2:=wx ((az w).2.2.length-(bX w).toNat) (cB (fU w r) (aI f))
 have n1:az (cq (cB (fU w r) (aI f)))=az w:=c2.1
 have n2:bg (cq (cB (fU w r) (aI f)))=aI f:=c2.2.1
 have n4:ax (cq (cB (fU w r) (aI f)))=r:=(Oo _).1
 have n5:aV (cq (cB (fU w r) (aI f)))=aV w:=am8 _
 generalize cq (cB (fU w r) (aI f))=v at c1 n1 n2 n4 n5 es
 have hfv:sA (az v) (bg v) f:=by
  rw[n1,n2];exact⟨⟨iE _,hf.t.2⟩,hf.nd,hf.l,hf.b,hf.d⟩
 rw[es]
 refine aS2 (lands c1 hfv n2.symm (λi hi=>?_)) (by rw[n4,n5];exact ho)
 rw[n1] at hi ⊢
 exact A i hi
def lY(w:aJ)(at' who:Int)(b:ad):aJ:=vH w (at',0,who,-1,bj w,b)
theorem dF.send{w:aJ}{K:Int}(h:dF w K)(hK:K<=2199023255552){at' who:Int}{b:ad}(ha:bg w<=at'∧at'<=1125899906842624)(hw:0<=who/\who<(az w).1.length)(hb:bytes b)(hl:(b.length:Int)<=2000)
  (hf:(ax w).length<4096):dF (lY w at' who b) (K+1)/\bj (lY w at' who b)=bj w+1:=by
 have hord:=h.ord
 have ew:IntKind.i64.wrap (bj w+1)=bj w+1:=aQ ab ab
 have eo:bj (lY w at' who b)=bj w+1:=ew
 have h':=h.more (K':=K+1) ab
 refine⟨⟨h'.net,h'.now,by rw[eo];omega,h'.done,h'.len,h'.st,h'.cl,h'.cr,?_,?_,?_⟩,eo⟩
 .exact LJ h.fl λx hx=>(h.fo x hx).o.2
 .intro x hx;have hx:x∈da (ax w) (at',bj w,who,-1,bj w,b):=hx;show ug (az w) (bg w) (bj (lY w at' who b)) x;rw[eo];rcases xX.1 hx with rfl|hx
  .exact⟨ha,⟨by show 0<=bj w;omega,by show bj w<bj w+1;omega⟩,hw,.inl rfl,⟨by show 0<=bj w;omega,by show bj w<bj w+1;omega⟩,hb,hl⟩
  .have k:=h.fo x hx;exact⟨k.t,⟨k.o.1,by have:=k.o.2;omega⟩,k.nd,k.l,⟨k.g.1,by have:=k.g.2;omega⟩,k.b,k.d⟩
 .show (da (ax w) _).length<=4096;rw[Bo];omega
def kq(n:cC):aJ:=(n,0,0,0,n.1.map lJ,replicate n.2.1.length 0,[],[],[])
theorem dF.new{n:cC}(h:dA n=0):dF (kq n) 0:=by
 refine⟨h,⟨by show (0:Int)<=0;omega,by show (0:Int)<=_;omega⟩,⟨by show (0:Int)<=0;omega,by show (0:Int)<=0;omega⟩,⟨by show (0:Int)<=0;omega,by show (0:Int)<=_;omega⟩,?_,λi hi=>?_,?_,λc hc=>?_,List.Pairwise.nil,λf hf=>(by cases hf),by show (0:Nat)<=4096;omega⟩
 .show (n.1.map lJ).length=_;rw[qm];rfl
 .have hi:i<n.1.length:=hi;show iG (n.1.getD i default) ((n.1.map lJ).getD i default) 0/\bn ((n.1.map lJ).getD i default)=(dD n (0:Int).toNat).getD i default;rw[A0 hi];refine⟨NF (tA h hi),?_⟩;show bf (n.1.getD i default)=(n.1.map bf).getD i default;rw[A0 hi]
 .show (replicate n.2.1.length (0:Int)).length=_;rw[qT];rfl
 .have hc:c∈replicate n.2.1.length (0:Int):=hc;rw[List.eq_of_mem_replicate hc];omega
theorem UY{w:aJ}{at' who:Int}{b:ad}(hf:∀ f∈ax w,fG f<bj w)(he:∀ e∈aV w,wB e<bj w) :
  xA (lq (bj w) (ax (lY w at' who b))) (nz (bj w) (aV (lY w at' who b))) ∧
   ∀ o,o≠bj w->lq o (ax (lY w at' who b))=lq o (ax w)/\nz o (aV (lY w at' who b))=nz o (aV w):=by
 refine⟨.inl ⟨(at',bj w,who,-1,bj w,b),B0 rfl ?_,Sa λe h=>?_⟩,λo ho=>⟨Q7 (λk=>ho k.symm),rfl⟩⟩
 .exact List.filter_eq_nil_iff.2 λf h=>by have:=hf f h;simp;omega
 .have:=he e h;omega
theorem Lr.one{c:Int}{l:List aW}{g:aW}(h:l.Pairwise λa b=>aI a<=aI b)(hg:c<aI g):Lr c l (da l g):=by
 refine⟨g,l.takeWhile λx=>decide (aI x<=aI g),l.dropWhile λx=>decide (aI x<=aI g),rfl,by rw[rC],hg,λy hy=>?_,?_⟩
 .simpa using List.all_eq_true.1 (List.all_takeWhile (p:=λx=>decide (aI x<=aI g)) (l:=l)) y hy
 .intro x hx;have h2:=h;rw[← rC (p:=λx=>decide (aI x<=aI g)) (l:=l)] at h2;obtain⟨-,b,-⟩:=List.pairwise_append.1 h2;cases hh:l.dropWhile (λx=>decide (aI x<=aI g)) with
  | nil=>rw[hh] at hx;cases hx
  | cons y r =>
   have hy:¬ aI y<=aI g:=by
    have:=List.head_dropWhile_not (p:=λx=>decide (aI x<=aI g)) (l:=l) (by rw[hh];simp);simp only[hh,List.head_cons] at this;simpa using this
   rw[hh] at hx b;rcases dj.1 hx with rfl|hx
   .omega
   .have:=(List.pairwise_cons.1 b).1 x hx;omega
def wV(b:ad):Nat:=if bT b=0 then (cf b).2.2.1.toNat else 0
def pn(n:cC)(f:aW):Nat:=1+2*wV (eI f)+(if dY (n.1.getD (bh f).toNat default)=true then 1 else 0)+(if f8 f = -1 then 2 else 0)+(if cH (eI f) then 600 else 0)
def pO(n:cC)(l:List aW):Nat:=(l.map (pn n)).sum
def jf(w:aJ):Nat:=pO (az w) (ax w)
def wC(n:cC):Prop:=∀ i:Nat,i<n.1.length->qZ (n.1.getD i default)
theorem OF{b:ad}(hb:bytes b):wV b<=255:=by
 unfold wV
 split
 next h=>obtain⟨⟨-,⟨h1,h2⟩,-⟩,-⟩:=zN hb h;omega
 .omega
theorem XI{n:cC}(h:dA n=0):∀ l∈n.2.1,ja n.1 l=false:=by
 unfold dA at h
 obtain⟨-,h⟩:=qK h
 obtain⟨-,h⟩:=qK h
 obtain⟨-,h⟩:=qK h
 obtain⟨-,h⟩:=qK h
 obtain⟨-,h⟩:=qK h
 obtain⟨h,-⟩:=qK h
 unfold nq at h
 intro l hl
 split at h
 .cases h
 next k=>
  cases e:ja n.1 l with
  | false=>rfl
  | true=>exact absurd (List.any_eq_true.2 ⟨l,hl,e⟩) k
theorem ak2{n:cC}(h:dA n=0){k x:Int}(hk:0<=k/\k<n.2.1.length)(hx:dY (n.1.getD x.toNat default)=true)(ho:0<=f7 n.2.1 k x):dY (n.1.getD (f7 n.2.1 k x).toNat default)=false:=by
 have hd:=XI h (n.2.1.getD k.toNat default) (bW hk.1 hk.2)
 unfold ja at hd
 unfold f7 at ho ⊢
 rw[af ab] at ho ⊢
 split at ho
 next e=>rw[am e];rw[← e,hx,Bool.true_and] at hd;exact hd
 .split at ho
  next e0 e=>rw[af e0,am e];rw[← e,hx,Bool.and_true] at hd;exact hd
  .omega
theorem T8{b:ad}(hb:bytes b)(h:gp b=0):wV (gU b)+1=wV b:=by
 obtain⟨e1,e2,-⟩:=Ki hb h
 have hd:bT b=0:=gC λk=>by rw[gp,am k] at h;exact k h
 have ht:¬ (cf b).2.2.1<2:=λk=>by rw[gp,af (λq=>q hd),am k] at h;cases h
 unfold wV
 rw[am e2,am hd,e1]
 show ((cf b).2.2.1-1).toNat+1=_
 omega
theorem Tf{v:aJ}(h:fv v){f:aW}(hf:sA (az v) (bg v) f)(A:wC (az v))(hp:0<(bd v f).2.1.2.length)(t o og:Int) :
  pn (az v) (t,o,f7 (az v).2.1 (bd v f).2.1.1 (bh f),(bd v f).2.1.1,og,(bd v f).2.1.2)+1<=pn (az v) f:=by
 have hi:(bh f).toNat<(az v).1.length:=by have:=hf.nd;omega
 have N:=tA h.net hi
 have O:=h.out hf
 obtain⟨-,-,h3⟩:=yN (h.chk hi)
 have Z:=Pb (lk:=f8 f) (t:=aI f) N (A _ hi) (λr hr=>(h3 r hr).2) hf.b
 have eH:bd v f=fC ((az v).1.getD (bh f).toNat default) ((aU v).getD (bh f).toNat default) (f8 f) (aI f) (eI f):=rfl
 have hr:(bd v f).2.2=0∨(bd v f).2.2=2:=by
  by_cases z0:(bd v f).2.2=0
  .exact .inl z0
  by_cases z2:(bd v f).2.2=2
  .exact .inr z2
  .have:=O.none z0 z2;rw[this] at hp;exact absurd hp (by simp[iw])
 obtain⟨⟨k0,k1⟩,-,⟨o1,-⟩,-⟩:=wZ h.net hi (zE h.net hi (O.some hr).2.2)
 rw[show (((bh f).toNat:Nat):Int)=bh f by have:=hf.nd;omega] at o1
 have hk:¬ (bd v f).2.1.1 = -1:=ab
 show 1+2*wV (bd v f).2.1.2+(if dY ((az v).1.getD (f7 (az v).2.1 (bd v f).2.1.1 (bh f)).toNat default)=true then 1 else 0)+(if (bd v f).2.1.1 = -1 then 2 else 0)+(if cH (bd v f).2.1.2 then 600 else 0)+1<=_
 rw[af hk]
 have hD:=ak2 (x:=bh f) h.net ⟨k0,k1⟩
 rw[← eH] at Z
 have hob:=O.byt
 have t1:=OF hob
 unfold pn
 generalize dY ((az v).1.getD (f7 (az v).2.1 (bd v f).2.1.1 (bh f)).toNat default)=oy at *
 rcases hr with hr|hr
 .have F:=GR (by rw[← eH];exact hr);have e:=Ft (t:=aI f) F;rw[← eH] at e;have e2:(bd v f).2.1.2=if f8 f ≠ -1/\dY ((az v).1.getD (bh f).toNat default)=false then gU (eI f) else eI f:=by rw[e]
  have ha:(if cH (bd v f).2.1.2 then 600 else 0)<=(if cH (eI f) then 600 else 0):=by
   split
   next q=>rw[am (gC λk=>Z.2 hr k q)];omega
   .omega
  generalize (if cH (bd v f).2.1.2 then 600 else 0)=a1 at *;generalize (if cH (eI f) then 600 else 0)=a2 at *;cases ox:dY ((az v).1.getD (bh f).toNat default) with
  | true =>
   have:=hD ox o1;rw[this] at *;rw[e2,af (by rw[ox];simp)];simp;omega
  | false =>
   by_cases hl:f8 f = -1
   .rw[e2,af (λq=>q.1 hl),am hl];cases oy <;> simp <;> omega
   .have hlow:gp (eI f)=0:=by
     have ht:=F.ttl;rw[aP,am F.dec] at ht;unfold gp;rw[af (λk=>k F.dec),af];intro q;exact ht ⟨hl,ox,q⟩
    have:=T8 hf.b hlow;rw[e2,am ⟨hl,ox⟩,af hl];cases oy <;> simp <;> omega
 .obtain⟨z1,z2⟩:=Z.1 hr;rw[af z2,am z1];cases oy <;> simp <;> omega
theorem LM(n:cC)(l:List aW)(f:aW):pO n (da l f)=pO n l+pn n f:=by
 have e:pO n l=pO n ((l.takeWhile λx=>decide (aI x<=aI f))++(l.dropWhile λx=>decide (aI x<=aI f))):=by rw[rC]
 rw[e]
 unfold pO da
 simp only[lr,fK,List.sum_append,List.sum_cons]
 omega
theorem Mg(w:aJ)(f:aW)(out:Int×ad):(aV (eJ w f out)).length<=(aV w).length+1/\aY (eJ w f out)=aY w ∧
  (ax (eJ w f out)=ax w∨∃ t o,ax (eJ w f out)=da (ax w) (t,o,f7 (az w).2.1 out.1 (bh f),out.1,fG f,out.2)):=by
 unfold eJ
 dsimp only
 split
 .exact⟨by show ((aV w)++[_]).length<=_;simp,rfl,.inl rfl⟩
 .split
  .exact⟨by show ((aV w)++[_]).length<=_;simp,rfl,.inl rfl⟩
  .exact⟨by show (aV w).length<=_;omega,rfl,.inr ⟨_,_,rfl⟩⟩
theorem aw8{v:aJ}(h:fv v){f:aW}(hf:sA (az v) (bg v) f)(A:wC (az v)) :
  (aV (ip v f)).length<=(aV v).length+2/\(aY (ip v f)).length<=(aY v).length+1/\pO (az v) (ax (ip v f))+1<=pO (az v) (ax v)+pn (az v) f:=by
 have h1:1<=pn (az v) f:=by unfold pn;omega
 unfold ip
 dsimp only
 generalize hb:(if (bd v f).2.2=1 then uC (fL v ((aU v).set (bh f).toNat (bd v f).1)) (aY (fL v ((aU v).set (bh f).toNat (bd v f).1))++[(aI f,bh f,eI f)]) else fL v ((aU v).set (bh f).toNat (bd v f).1))=B
 have eB:az B=az v/\ax B=ax v/\aV B=aV v/\(aY B).length<=(aY v).length+1:=by
  rw[← hb];split
  .exact⟨rfl,rfl,rfl,by show ((aY v)++[_]).length<=_;simp⟩
  .exact⟨rfl,rfl,rfl,by show (aY v).length<=_;omega⟩
 clear hb
 obtain⟨b1,b2,b3,b4⟩:=eB
 generalize hc:(if (bd v f).2.2≠0 then lP B f (f8 f) (bd v f).2.2 else B)=C
 have eC:az C=az v/\ax C=ax v/\(aV C).length<=(aV v).length+1/\aY C=aY B:=by
  rw[← hc];split
  .exact⟨b1,b2,by show ((aV B)++[_]).length<=_;rw[b3];simp,rfl⟩
  .exact⟨b1,b2,by rw[b3];omega,rfl⟩
 clear hc
 obtain⟨c1,c2,c3,c4⟩:=eC
 split
 next hp=>
  obtain⟨d1,d2,d3⟩:=Mg C f (bd v f).2.1;refine⟨ab,by rw[d2,c4];exact b4,?_⟩;rcases d3 with d3|⟨t,o,d3⟩
  .rw[d3,c2];omega
  .rw[d3,c2,LM,c1];have:=Tf h hf A hp t o (fG f);omega
 .exact⟨ab,by rw[c4];exact b4,by rw[c2];omega⟩
theorem fv.okDn{w:aJ}(h:fv w):okDn w:=⟨h.done.1,by have:=yz h.net;omega⟩
theorem NY{w:aJ}(h:fv w)(hd:mY w=true):cq w=cq (mg w):=by
 obtain⟨h1,h2,h3⟩:=LO h.okDn hd
 have e:=ax2 h.okDn (n:=t9 (mg w)+1) ab
 rw[e,jm,am hd]
 rfl
theorem Nv{w:aJ}(hd:¬ mY w=true):cq w=w:=by
 unfold cq
 cases (az w).2.2.length-(bX w).toNat with
 | zero=>rfl
 | succ n=>rw[jm,af hd]
theorem Cg(w:aJ):(cq w).1=w.1/\ax (cq w)=ax w/\aV (cq w)=aV w/\aY (cq w)=aY w/\bj (cq w)=bj w/\bg (cq w)=bg w:=by
 have k:=wx ((az w).2.2.length-(bX w).toNat) w
 have e:=k.2.2.2
 exact⟨k.1,iB (λx:ad×List aW×List pB×List lO=>x.2.1) e,iB (λx:ad×List aW×List pB×List lO=>x.2.2.2) e,iB (λx:ad×List aW×List pB×List lO=>x.2.2.1) e,k.2.2.1,k.2.1⟩
theorem at9(n:cC)(f:aW)(l:List aW):pO n (f::l)=pn n f+pO n l:=by unfold pO;rw[fK,List.sum_cons]
theorem ug.wk{n:cC}{t o:Int}{f:aW}(h:ug n t o f):sA n t f:=⟨h.t,h.nd,h.l,h.b,h.d⟩
def lT(n:cC):Prop:=(n.1.length:Int)<=1000000/\(n.2.1.length:Int)<=1000000/\(n.2.2.length:Int)<=1000000/\(∀ x∈n.1,((aA x).length:Int)<=1000000/\okL (bf x))∧∀ c∈n.2.2,((dB c).2.1.length:Int)<=1099511627776
def qO(w:aJ):Prop:=lT (az w)/\((aU w).length:Int)<=1000000/\((bH w).length:Int)<=1000000/\((ax w).length:Int)<=1000000/\((aY w).length:Int)<=1000000000000/\((aV w).length:Int)<=1000000000000 ∧
 (∀ s∈aU w,((fD s).length:Int)<=1000000/\okL (bn s))/\(∀ f∈ax w,((eI f).length:Int)<=1000000)∧∀ e∈aY w,(e.2.2.length:Int)<=1000000
theorem ak5(v:aJ)(f:aW):aY (ip v f)=aY v∨aY (ip v f)=aY v++[(aI f,bh f,eI f)]:=by
 unfold ip
 dsimp only
 generalize hb:(if (bd v f).2.2=1 then uC (fL v ((aU v).set (bh f).toNat (bd v f).1)) (aY (fL v ((aU v).set (bh f).toNat (bd v f).1))++[(aI f,bh f,eI f)]) else fL v ((aU v).set (bh f).toNat (bd v f).1))=B
 have eB:aY B=aY v∨aY B=aY v++[(aI f,bh f,eI f)]:=by
  rw[← hb];split
  .exact .inr rfl
  .exact .inl rfl
 clear hb
 generalize hc:(if (bd v f).2.2≠0 then lP B f (f8 f) (bd v f).2.2 else B)=C
 have eC:aY C=aY B:=by rw[← hc];split <;> rfl
 split
 .rw[(Mg C f _).2.1,eC];exact eB
 .rw[eC];exact eB
structure dG (B:Int) (w:aJ):Prop where
 b:B<=549755813888
 sB:dF w (B-2*jf w)
 a:wC (az w)
 c:lT (az w)
 dd:∀ x∈aY w,(x.2.2.length:Int)<=2000
 e:((aV w).length:Int)+2*jf w<=B
 d:((aY w).length:Int)+jf w<=B
abbrev mq(w:aJ):Prop:=dG 549755813888 w
theorem dG.s{B:Int}{w:aJ}(h:dG B w):dF w (549755813888-2*jf w):=h.sB.more (by have:=h.b;omega)
theorem dG.more{B B':Int}{w:aJ}(h:dG B w)(h1:B<=B')(h2:B'<=549755813888):dG B' w:=⟨h2,h.sB.more ab,h.a,h.c,h.dd,by have:=h.e;omega,by have:=h.d;omega⟩
theorem dG.sim{B:Int}{w:aJ}(h:dG B w):mq w:=h.more h.b (iE _)
theorem dG.change{B:Int}{w:aJ}(h:dG B w):dG B (cq w):=by
 obtain⟨k1,k2,k3,k4,-⟩:=Cg w
 have ep:jf (cq w)=jf w:=by unfold jf;rw[k2];show pO (cq w).1 _=_;rw[k1];rfl
 exact⟨h.b,by rw[ep];exact h.sB.change,by show wC (cq w).1;rw[k1];exact h.a,by show lT (cq w).1;rw[k1];exact h.c,by rw[k4];exact h.dd,by rw[ep,k3];exact h.e,by rw[ep,k4];exact h.d⟩
theorem dG.cp{B:Int}{w:aJ}(h:dG B w):qO w:=by
 have h1:=h.s.len
 have h2:=yz h.s.net
 have h3:=h.s.cl
 have h4:=h.s.fn
 have h5:=h.e
 have h6:=h.d
 have h7:=h.b
 refine⟨h.c,ab,ab,ab,ab,ab,λs hs=>?_,λf hf=>by have:=(h.s.fo f hf).d;omega,λx hx=>by have:=h.dd x hx;omega⟩
 obtain⟨i,hi,rfl⟩:=List.mem_iff_getElem.1 hs
 have hi2:i<(az w).1.length:=ab
 obtain⟨st,-⟩:=h.s.st i hi2
 have e:(aU w).getD i default=(aU w)[i]:=by rw[ce,cF hi];rfl
 rw[e] at st
 have:=st.ps
 have:=(tA h.s.net hi2).n32
 exact⟨ab,st.okl⟩
theorem ZQ{w:aJ}(h:fv w)(A:wC (az w)){f:aW}{r:List aW}(e:ax w=f::r) :
  jf (dI w)+1<=jf w/\(aV (dI w)).length<=(aV w).length+2/\(aY (dI w)).length<=(aY w).length+1:=by
 obtain⟨-,s2,-⟩:=h.step e
 have es:dI w=ip (cq (cB (fU w r) (aI f))) f:=by unfold dI;rw[e];rfl
 obtain⟨k1,k2,k3,k4,-,k6⟩:=Cg (cB (fU w r) (aI f))
 have k2:ax (cq (cB (fU w r) (aI f)))=r:=k2
 have k6:bg (cq (cB (fU w r) (aI f)))=aI f:=k6
 have k1:az (cq (cB (fU w r) (aI f)))=az w:=k1
 have hf:=h.fo f (by rw[e];exact fF ..)
 have hp:=h.fl
 rw[e] at hp
 have h0:fv (cB (fU w r) (aI f)):=by
  refine⟨h.net,⟨by have:=hf.t;have:=h.now;show 0<=aI f;omega,hf.t.2⟩,h.done,h.len,h.st,h.cl,(List.pairwise_cons.1 hp).2,λx hx=>?_,?_⟩
  .have k:=h.fo x (by rw[e];exact fw _ hx);exact⟨⟨(List.pairwise_cons.1 hp).1 x hx,k.t.2⟩,k.nd,k.l,k.b,k.d⟩
  .have:=h.fn;rw[e] at this;simp at this;show r.length<=4096;omega
 have h1:fv (cq (cB (fU w r) (aI f))):=D5 _ h0
 obtain⟨l1,l2,l3⟩:=aw8 h1 (f:=f) (by rw[k1,k6];exact⟨⟨iE _,hf.t.2⟩,hf.nd,hf.l,hf.b,hf.d⟩) (by rw[k1];exact A)
 rw[← es] at l1 l2 l3
 rw[k3] at l1
 rw[k4] at l2
 rw[k1,k2] at l3
 refine⟨?_,l1,l2⟩
 unfold jf
 rw[s2,e,at9]
 omega
theorem dG.step{B:Int}{w:aJ}(h:dG B w){f:aW}{r:List aW}(e:ax w=f::r):dG B (dI w)/\jf (dI w)+1<=jf w:=by
 obtain⟨p1,p2,p3⟩:=ZQ h.s.weak h.a e
 obtain⟨s1,s2,-⟩:=h.sB.step (by have:=h.b;omega) e
 have h1:=h.e
 have h2:=h.d
 refine⟨⟨h.b,s1.more ab,by rw[s2];exact h.a,by rw[s2];exact h.c,?_,ab,ab⟩,p1⟩
 have es:dI w=ip (cq (cB (fU w r) (aI f))) f:=by unfold dI;rw[e];rfl
 have k4:aY (cq (cB (fU w r) (aI f)))=aY w:=(Cg _).2.2.2.1
 have hf:=h.s.fo f (by rw[e];exact fF ..)
 rw[es]
 rcases ak5 (cq (cB (fU w r) (aI f))) f with q|q
 .rw[q,k4];exact h.dd
 .rw[q,k4];intro x hx;rcases dH.1 hx with hx|hx
  .exact h.dd x hx
  .rw[jR.1 hx];exact hf.d
theorem aG5{to:Int}:∀(n m:Nat){w:aJ},fv w->kI to (ax w)<=n->kI to (ax w)<=m->lw n w to=lw m w to:=by
 have stop:∀{w:aJ},kI to (ax w)=0->jQ w to=false:=by
  intro w hw;unfold jQ;cases e:ax w with
  | nil=>rfl
  | cons f r =>
   rw[e,zL] at hw;exact dw ab
 intro n
 induction n with
 | zero =>
  intro m w h hn hm;have hb:=stop (w:=w) ab;cases m with
  | zero=>rfl
  | succ m=>rw[lw,lw,af (by rw[hb];simp)]
 | succ n ih =>
  intro m w h hn hm;cases m with
  | zero =>
   have hb:=stop (w:=w) ab;rw[lw,lw,af (by rw[hb];simp)]
  | succ m =>
   rw[lw,lw];split
   .rename_i hb;unfold jQ at hb;cases e:ax w with
    | nil=>rw[e] at hb;cases hb
    | cons f r =>
     rw[e] at hb;have hb:=aL hb;have hpos:1<=kI to (ax w):=by rw[e,zL];omega
     obtain⟨s1,-,-,s4⟩:=h.step e;have:=s4 to hb;exact ih m s1 ab ab
   .rfl
theorem JL{w:aJ}{to:Int}(h:fv w)(hb:jQ w to=true):iW w to=iW (dI w) to:=by
 have hb0:=hb
 unfold jQ at hb
 cases e:ax w with
 | nil=>rw[e] at hb;cases hb
 | cons f r =>
  rw[e] at hb;have hb:=aL hb;have hpos:1<=kI to (ax w):=by rw[e,zL];omega
  obtain⟨s1,-,-,s4⟩:=h.step e;have:=s4 to hb;obtain⟨k,hk⟩:∃ k,kI to (ax w)=k+1:=⟨kI to (ax w)-1,ab⟩
  have e1:iW w to=lw k (dI w) to:=by unfold iW;rw[hk,lw,am hb0]
  rw[e1];exact aG5 _ _ s1 ab (eZ _)
theorem FY{w:aJ}{to:Int}(hb:jQ w to=false):iW w to=w:=aK3 hb _
theorem dG.run{B to:Int}:∀(n:Nat){w:aJ},dG B w->jf w<=n->dG B (iW w to)/\jQ (iW w to) to=false/\az (iW w to)=az w/\jf (iW w to)<=jf w
 | n,w,h,hn=>by
  cases hb:jQ w to with
  | false=>rw[FY hb];exact⟨h,hb,rfl,eZ _⟩
  | true =>
   rw[JL h.s.weak hb];cases e:ax w with
   | nil=>unfold jQ at hb;rw[e] at hb;cases hb
   | cons f r =>
    obtain⟨k1,k2⟩:=h.step e;obtain⟨-,s2,-⟩:=h.s.weak.step e;cases n with
    | zero=>omega
    | succ n =>
     obtain⟨a,b,c,d⟩:=dG.run n k1 ab;exact⟨a,b,c.trans s2,ab⟩
def wL:aJ:=(([],[],[]),0,0,0,[],[],[],[],[])
def nA(w:aJ):Prop:=w=cB wL (bg w)/\0<=bg w/\bg w<=1125899906842624
def gb(w:aJ):Prop:=mq w∨nA w
theorem nA.fl{w:aJ}(h:nA w):ax w=[]:=by rw[h.1];rfl
theorem nA.cp{w:aJ}(h:nA w):qO w:=by
 rw[h.1]
 have Z:∀{b:Int},0<=b->((0:Nat):Int)<=b:=λh=>h
 exact⟨⟨Z bi,Z bi,Z bi,λx hx=>(by cases hx),λx hx=>(by cases hx)⟩,Z bi,Z bi,Z bi,Z bi,Z bi,λx hx=>(by cases hx),λx hx=>(by cases hx),λx hx=>(by cases hx)⟩
theorem gb.cp{w:aJ}(h:gb w):qO w:=h.elim dG.cp nA.cp
theorem gb.fl{w:aJ}(h:gb w)(hf:ax w≠[]):mq w:=h.resolve_right λq=>hf q.fl
def m6(w:aJ):Prop:=fv w∨((az w).2.2=[]/\bX w=0)
theorem nA.ch{w:aJ}(h:nA w)(t:Int):m6 (cB w t) := .inr (by rw[h.1];exact⟨rfl,rfl⟩)
theorem nA.chg{w:aJ}(h:nA w)(t:Int):cq (cB w t)=cB w t:=by rw[h.1];rfl
def gY(w:aJ):aW:=(ax w).headD default
def dQ(w:aJ):aJ:=cq (cB (fU w (ax w).tail) (aI (gY w)))
def gG(w:aJ):nE:=bd (dQ w) (gY w)
def rP(w:aJ):aJ:=fL (dQ w) ((aU (dQ w)).set (bh (gY w)).toNat (gG w).1)
def jk(w:aJ):aJ:=if (gG w).2.2=1 then uC (rP w) (aY (rP w)++[(aI (gY w),bh (gY w),eI (gY w))]) else rP w
def cu(w:aJ):aJ:=if (gG w).2.2≠0 then lP (jk w) (gY w) (f8 (gY w)) (gG w).2.2 else jk w
theorem EX(w:aJ):dI w=if 0<(gG w).2.1.2.length then eJ (cu w) (gY w) (gG w).2.1 else cu w:=by
 have e:dI w=ip (dQ w) (gY w):=by unfold dI dQ gY;rfl
 rw[e]
 unfold ip cu jk rP gG
 rfl
theorem o5(w:aJ):jk w=uC (rP w) (if (gG w).2.2=1 then aY (dQ w)++[(aI (gY w),bh (gY w),eI (gY w))] else aY (dQ w)):=by unfold jk;split <;> rfl
theorem rF(w:aJ):cu w=EZ (jk w) (if (gG w).2.2≠0 then aV (dQ w)++[(fG (gY w),aI (gY w),bh (gY w),f8 (gY w),(gG w).2.2)] else aV (dQ w)):=by
 unfold cu
 rw[o5]
 split <;> rfl
structure At (w:aJ) (f:aW) (r:List aW):Prop where
 s:dF (dQ w) (549755813888-2*jf w)
 fk:ug (az (dQ w)) (bg (dQ w)) (bj (dQ w)) f
 eF:gY w=f
 net:az (dQ w)=az w
 now:bg (dQ w)=aI f
 fl:ax (dQ w)=r
 en:aV (dQ w)=aV w
 dl:aY (dQ w)=aY w
 h0:dF (cB (fU w (ax w).tail) (aI (gY w))) (549755813888-2*jf w)
theorem dG.at{B:Int}{w:aJ}(h:dG B w){f:aW}{r:List aW}(e:ax w=f::r):At w f r:=by
 have hs:=h.s
 have hp:=hs.fl
 rw[e] at hp
 obtain⟨p1,p2⟩:=List.pairwise_cons.1 hp
 have hf:=hs.fo f (by rw[e];exact fF)
 have hle:∀ x∈r,aI f<=aI x:=λx hx=>by rcases p1 x hx with k|k <;> omega
 have ed:gY w=f:=by unfold gY;rw[e];rfl
 have et:(ax w).tail=r:=by rw[e];rfl
 have hb:dF (cB (fU w r) (aI f)) (549755813888-2*jf w):=by
  refine⟨hs.net,⟨by show 0<=aI f;have:=hs.now;have:=hf.t;omega,hf.t.2⟩,hs.ord,hs.done,hs.len,hs.st,hs.cl,hs.cr,p2,λx hx=>?_,?_⟩
  .have hx:x∈r:=hx;have k:=hs.fo x (by rw[e];exact fw _ hx);exact⟨⟨hle x hx,k.t.2⟩,k.o,k.nd,k.l,k.g,k.b,k.d⟩
  .show r.length<=4096;have:=hs.fn;rw[e,cQ] at this;omega
 obtain⟨k1,k2,k3,k4,k5,k6⟩:=Cg (cB (fU w r) (aI f))
 have es:dQ w=cq (cB (fU w r) (aI f)):=by unfold dQ;rw[ed,et]
 have n1:az (dQ w)=az w:=by rw[es];exact k1
 have n2:bg (dQ w)=aI f:=by rw[es];exact k6
 have n3:bj (dQ w)=bj w:=by rw[es];exact k5
 refine⟨by rw[es];exact hb.change,?_,ed,n1,n2,by rw[es];exact k2,by rw[es];exact k3,by rw[es];exact k4,by rw[ed,et];exact hb⟩
 rw[n1,n2,n3]
 exact⟨⟨iE _,hf.t.2⟩,hf.o,hf.nd,hf.l,hf.g,hf.b,hf.d⟩
theorem At.out{w:aJ}{f:aW}{r:List aW}(h:At w f r)(hp:0<(gG w).2.1.2.length) :
  0<=(gG w).2.1.1/\(gG w).2.1.1<(az w).2.1.length/\ia (az w).1.length ((az w).2.1.getD (gG w).2.1.1.toNat default):=by
 have hi:(bh f).toNat<(az (dQ w)).1.length:=by have:=h.fk.nd;omega
 have O:=h.s.weak.out h.fk.wk
 have eH:gG w=bd (dQ w) f:=by unfold gG;rw[h.eF]
 rw[eH] at hp ⊢
 have hr:(bd (dQ w) f).2.2=0∨(bd (dQ w) f).2.2=2:=by
  by_cases z0:(bd (dQ w) f).2.2=0
  .exact .inl z0
  by_cases z2:(bd (dQ w) f).2.2=2
  .exact .inr z2
  .have:=O.none z0 z2;rw[this] at hp;exact absurd hp (by simp[iw])
 obtain⟨⟨k0,k1⟩,k2,-⟩:=wZ h.s.net hi (zE h.s.net hi (O.some hr).2.2)
 rw[h.net] at k1 k2
 exact⟨k0,k1,k2⟩
end Go.RS
namespace Go.SX
open Go
variable {P:Program}
theorem Dv(w:World)(dT sT ty kg:TypeId)(z g o dLen dCap:Nat)(a:Addr)(nS ut:Nat)(cur:Array Value)(t:TypeId)(cs:List Value)
  (hu:P.underlying dT=some (.slice kg)) (hs:(P.info? kg).map (·.size)=some z)
  (hg:w.heap[g]? = some (.cells cur t (0,0))) (hn:cs.length=Nat.min nS dLen*z)
  (hsrc:∀ j v,cs[j]? = some v->w.cell? (a.add j)=some v) (hfit:o+cs.length<=cur.size) (h1:∀ v∈cs,v.oneCell'=true) :
  (Builtin.copy_ #[dT,sT] ty #[.slice (some ⟨g,o,none⟩) dLen dCap,.slice (some a) nS ut]).run P w =
   .ok (goInt (Nat.min nS dLen)) (w.setRow g (cur.toList.take o++cs++cur.toList.drop (o+cs.length)).toArray):=by
 have hl:=run_loadCells_list (P:=P) w a cs hsrc
 have hst:=run_storeCells_at P g o t cs 0 cur w hg (by simpa using hfit) h1
 cases hq:P.info? kg with
 | none=>simp[hq] at hs
 | some i =>
  have hi:i.size=z:=by simpa[hq] using hs
  simp[Builtin.copy_,run_underlying hu,Builtin.lenOf,Builtin.firstCells,sizeOf,typeInfo,hq,hi,← hn,hl,hst]
end Go.SX
namespace Go.SX
open Go.ChangeShapes Go.WideShapes Go.ChangeAt Go.RowKit
def xN{H:Type}(f:(t:CT)->TypeId->t.D->DataW H):List Field->(t:CT)->t.D->List (DataW H)
 | [],_,_=>[]
 | [fd],t,d=>[f t fd.type d]
 | fd::g::r,.pair a b,(x,y)=>f a fd.type x::xN f (g::r) b y
 | _::_::_,_,_=>[]
def yO{H:Type}(f:(t:CT)->TypeId->t.D->DataW H)(e:TypeId):Nat->(t:CT)->t.D->List (DataW H)
 | 0,_,_=>[]
 | 1,t,d=>[f t e d]
 | n+2,.pair a b,(x,y)=>f a e x::yO f e (n+1) b y
 | _+2,_,_=>[]
def oQ{H:Type}(P:Program):Nat->(t:CT)->TypeId->t.D->DataW H
 | 0,_,_,_ => .agg []
 | n+1,t,τ,d=>match P.underlying τ,t,d with
  | some (.int k),.int _,d => .lit (.int k d)
  | some .bool,.bool,d => .lit (.bool d)
  | some (.struct fs),t,d => .agg (xN (oQ P n) fs.toList t d)
  | some (.array k e),t,d => .agg (yO (oQ P n) e k t d)
  | _,_,_ => .agg []
def sR:CT->Bool
 | .int _=>true
 | .bool=>true
 | .pair a b=>sR a&&sR b
 | _=>false
section
variable {H:Type} {enc:TypeId×Value->H} {P:Program} {w:World} {base:Nat} {held:Bool}
theorem NT{A:Nat->Prop}{f:CT->TypeId->Bool}{F:(t:CT)->TypeId->t.D->DataW H}{cs:List Value}{n:Nat}
  (hf:∀ t τ cs d p,f t τ=true->sR t=true->DataW.trod enc P w base (λ_=>true) held n τ cs=some (F t τ d,p)->Rd A w t (λj=>cs[j]?) 0 d) :
  ∀(fs:List Field)(t:CT)(o:Nat)(d:t.D)(xs:List (DataW H×List MemPlace)),uI P f fs t o=true->sR t=true->xs.length=fs.length->xs.map (·.1)=xN F fs t d →
   (∀ i (h1:i<fs.length) (h2:i<xs.length),DataW.trod enc P w base (λ_=>true) held n fs[i].type ((cs.drop fs[i].offset).take (P.cellsOf fs[i].type))=some xs[i])->Rd A w t (λj=>cs[j]?) o d
 | [],t,o,d,xs,h,_,_,_,_=>by cases h
 | [fd],t,o,d,xs,h,ht,hl,he,hx=>by
  simp only[uI,dr] at h;obtain⟨⟨h1,h2⟩,h3⟩:=h;have h2:=bJ h2;have h3:=bJ h3
  match xs,hl with
  | [x],_ =>
   have:=hx 0 (by simp) (by simp);simp only[List.getElem_cons_zero] at this;simp only[fK,List.map_nil,xN,List.cons.injEq,iD] at he;have hd:=hf t fd.type _ d x.2 h1 ht (by rw[this,← he]);rw[h2] at hd;exact vl h3 hd
 | fd::g::r,.pair a b,o,(d1,d2),xs,h,ht,hl,he,hx=>by
  simp only[uI,dr] at h;obtain⟨⟨⟨h1,h2⟩,h3⟩,h4⟩:=h;simp only[sR,dr] at ht;have h2:=bJ h2;have h3:=bJ h3
  match xs,hl with
  | x::ys,hl =>
   simp only[fK,xN,List.cons.injEq] at he;have:=hx 0 (by simp) (by simp);simp only[List.getElem_cons_zero] at this;have hd:=hf a fd.type _ d1 x.2 h1 ht.1 (by rw[this,← he.1]);rw[h2] at hd;have hd':=NT hf (g::r) b (o+a.size) d2 ys h4 ht.2 (by simpa using hl) he.2 (λi k1 k2=>by
    have:=hx (i+1) (by simpa using k1) (by simpa using k2);simpa only[List.getElem_cons_succ] using this)
   exact⟨vl h3 hd,hd'⟩
 | _::_::_,.int _,_,_,_,h,_,_,_,_=>by cases h
 | _::_::_,.bool,_,_,_,h,_,_,_,_=>by cases h
 | _::_::_,.str,_,_,_,h,_,_,_,_=>by cases h
 | _::_::_,.sl _,_,_,_,h,_,_,_,_=>by cases h
theorem Kq{A:Nat->Prop}{f:CT->TypeId->Bool}{F:(t:CT)->TypeId->t.D->DataW H}{cs:List Value}{n:Nat}{e:TypeId}
  (hf:∀ t τ cs d p,f t τ=true->sR t=true->DataW.trod enc P w base (λ_=>true) held n τ cs=some (F t τ d,p)->Rd A w t (λj=>cs[j]?) 0 d) :
  ∀(k:Nat)(t:CT)(i:Nat)(d:t.D)(xs:List (DataW H×List MemPlace)),tY P f e k t=true->sR t=true->xs.length=k->xs.map (·.1)=yO F e k t d →
   (∀ j (h2:j<xs.length),DataW.trod enc P w base (λ_=>true) held n e ((cs.drop ((i+j)*P.cellsOf e)).take (P.cellsOf e))=some xs[j])->Rd A w t (λj=>cs[j]?) (i*P.cellsOf e) d
 | 0,t,i,d,xs,h,_,_,_,_=>by cases h
 | 1,t,i,d,xs,h,ht,hl,he,hx=>by
  simp only[tY,dr] at h;obtain⟨h1,h2⟩:=h;have h2:=bJ h2
  match xs,hl with
  | [x],_ =>
   have:=hx 0 (by simp);simp only[List.getElem_cons_zero] at this;simp only[fK,List.map_nil,yO,List.cons.injEq,iD] at he;have hd:=hf t e _ d x.2 h1 ht (by rw[this,← he]);exact vl h2 hd
 | k+2,.pair a b,i,(d1,d2),xs,h,ht,hl,he,hx=>by
  simp only[tY,dr] at h;obtain⟨⟨h1,h2⟩,h4⟩:=h;simp only[sR,dr] at ht;have h2:=bJ h2
  match xs,hl with
  | x::ys,hl =>
   simp only[fK,yO,List.cons.injEq] at he;have:=hx 0 (by simp);simp only[List.getElem_cons_zero] at this;have hd:=hf a e _ d1 x.2 h1 ht.1 (by rw[this,← he.1]);have hd':=Kq hf (k+1) b (i+1) d2 ys h4 ht.2 (by simpa using hl) he.2 (λj k2=>by
    have:=hx (j+1) (by simpa using k2);simp only[List.getElem_cons_succ] at this;rw[← this];congr 4;omega)
   refine⟨vl h2 hd,?_⟩;rw[fN,jH] at hd';rw[← h2];exact hd'
 | _+2,.int _,_,_,_,h,_,_,_,_=>by cases h
 | _+2,.bool,_,_,_,h,_,_,_,_=>by cases h
 | _+2,.str,_,_,_,h,_,_,_,_=>by cases h
 | _+2,.sl _,_,_,_,h,_,_,_,_=>by cases h
theorem Jh:∀(n:Nat)(t:CT)(τ:TypeId)(fuel:Nat)(cs:List Value)(d:t.D)(p:List MemPlace),mj P n t τ=true->sR t=true->DataW.trod enc P w base (λ_=>true) held fuel τ cs=some (oQ P n t τ d,p) →
  Rd (λb=>b<w.heap.size) w t (λj=>cs[j]?) 0 d
 | 0,t,τ,fuel,cs,d,p,h,_,_=>by cases h
 | n+1,t,τ,fuel,cs,d,p,h,ht,hx=>by
  cases hu:P.underlying τ with
  | none=>cases t <;> simp[mj,hu] at h
  | some ty =>
   cases ty with
   | int k =>
    cases t with
    | int k' =>
     simp only[mj,hu] at h;cases lM h;obtain⟨m,rfl,e,hw⟩:=DataW.trod_int hu hx;unfold oQ at e;rw[hu] at e;simp only[br,DataW.lit.injEq,Lit.int.injEq,true_and] at e;obtain⟨rfl,-⟩:=e;exact⟨by simp,Oi hw⟩
    | _=>simp[mj,hu] at h
   | bool =>
    cases t with
    | bool =>
     obtain⟨b,rfl,e⟩:=DataW.trod_bool hu hx;unfold oQ at e;rw[hu] at e;simp only[br,DataW.lit.injEq,Lit.bool.injEq] at e;obtain⟨rfl,-⟩:=e;simp[Rd]
    | _=>simp[mj,hu] at h
   | struct fs =>
    have h':uI P (mj P n) fs.toList t 0=true:=by cases t <;> simpa[mj,hu] using h
    have ed:oQ (H:=H) P (n+1) t τ d = .agg (xN (oQ P n) fs.toList t d):=by
     cases t <;> first|(cases ht;done)|(unfold oQ;rw[hu])
    obtain⟨xs,m,_,e,hl,hlen,hf⟩:=DataW.trod_struct hu hx;rw[ed] at e;simp only[br,DataW.agg.injEq] at e;refine NT (F:=oQ P n) (n:=m) (λt τ cs d p h1 h2 h3=>Jh n t τ m cs d p h1 h2 h3) fs.toList _ 0 d xs h' ht (by simpa using hlen) e.1.symm λi h1 h2=>?_;have:=hf i fs[i] (Array.getElem?_eq_getElem (by simpa using h1));rw[cF h2] at this;simpa using this
   | array k e' =>
    have h':tY P (mj P n) e' k t=true:=by cases t <;> simpa[mj,hu] using h
    have ed:oQ (H:=H) P (n+1) t τ d = .agg (yO (oQ P n) e' k t d):=by
     cases t <;> first|(cases ht;done)|(unfold oQ;rw[hu])
    obtain⟨xs,m,_,e,hl,hlen,hf⟩:=DataW.trod_array hu hx;rw[ed] at e;simp only[br,DataW.agg.injEq] at e;have:=Kq (F:=oQ P n) (n:=m) (cs:=cs) (e:=e') (λt τ cs d p h1 h2 h3=>Jh n t τ m cs d p h1 h2 h3) k _ 0 d xs h' ht hlen e.1.symm λj h2=>by
     have:=hf j (by omega);rw[cF h2] at this;simpa using this
    simpa using this
   | _=>cases t <;> first|(cases ht;done)|(simp[mj,hu] at h;done)
end
theorem globs_one{P:Program}{w:World}{name:String}{t:CT}{v:t.D}{g n:Nat}{τ:TypeId}{d:DataW Unit}(h:laidMetH P [(name,d)] w)(hh:([(name,d)].all λx=>x.2.handleName?.isNone)=true)
  (hg:P.globalNamed name=some g) (hτ:(P.globals[g]?).map (·.type)=some τ) (hf:mj P n t τ=true) (hs:sR t=true) (hd:d=oQ P n t τ v) :
  g<w.heap.size/\Rd (λb=>b<w.heap.size) w t (λo=>w.cell? ⟨g,o,none⟩) 0 v:=by
 rw[MakeChecks.laidMetH_plain _ _ _ hh] at h
 obtain⟨ps,⟨g0,t0,cs0,f0,p0,q0,hg0,ht0,hv0,hd0,_,_⟩,_,_⟩:=h
 obtain rfl:=Option.some.inj (hg.symm.trans hg0)
 obtain rfl:=Option.some.inj (hτ.symm.trans ht0)
 rw[hd] at hd0
 have hr:=Jh n t τ f0 cs0.toList v p0 hf hs hd0
 have hlt:g<w.heap.size:=by
  have hv:=hv0;simp only[World.var?,hg,Option.bind_some] at hv;split at hv
  next hb=>exact (Array.getElem?_eq_some_iff.1 hb).1
  .cases hv
 refine⟨hlt,?_⟩
 refine iC (λ_ h=>h) (λ_ _ _=>rfl) t _ _ _ _ (λj hj=>?_) hr
 have:=World.var?_cell hg hv0 j
 rw[gz,this];simp
end Go.SX
