/- Sim2: what holds of a network in operation. -/
import Derived.Test.YtgcnlmckfpcgpaaGreatDoorSim1
import Derived.Laws.CopyRow
import Derived.Test.YtgcnlmckfpcgpaaGreatDoorIdent
import Derived.LaidMore
import Derived.Stop.Joined
import Derived.FnData
import Derived.MakeChecks
import Derived.Lib.LaidU8
set_option maxRecDepth 100000
set_option linter.all false
open Bool renaming false->bZ6,or_eq_false_iff->ct9,true->bZ3
open Decidable renaming decide->bZ2
open Go renaming DataW->cn2,MemPlace->cp1,TypeId->bZ8
open Go.Builtin renaming copy_->ci9
open Go.DataW renaming agg->cD1,lit->cD0,trod->ch0
open Go.IntKind renaming i64->bZ4,u64->ca1
open Go.MakeChecks renaming laidMetH_plain->cE7
open Inhabited renaming default->Sk
open Int renaming tdiv->cd2,toNat->it
open List renaming all_eq_true->ci6,any_eq_true->cc5,cons->cj0,getD->Om,getElem_cons_succ->cr4,getElem_cons_zero->ch5,length->be,map_nil->cn8,mem_iff_getElem->cb5,mem_map->cc1,pairwise_cons->ca4,replicate->cq2,sum_cons->cq4
open List.Pairwise renaming nil->ce6
open Option renaming some->bZ1,some->cn7
namespace Go.RS
open Go.SX Go.Proofs
theorem IS{n:Net}(h:iR n=0):uv n=0/\rq n=0/\rA n=0/\t5 n=0/\tK n=0:=by
 unfold iR at h
 have ⟨h1,h⟩:=ut h
 have ⟨h2,h⟩:=ut h
 have ⟨h3,h⟩:=ut h
 have ⟨h4,h⟩:=ut h
 have ⟨h5,h⟩:=ut h
 have ⟨h6,h⟩:=ut h
 exact⟨h1,h2,h3,h4,h⟩
theorem zP{n:Net}(h:iR n=0){i:Nat}(hi:i<be n.1):ua (Om n.1 i Sk):=by
 have hb:=zi (IS h).2.2.1 i hi
 unfold sc at hb
 split at hb
 next k=>exact absurd hb k
 next k=>exact VF (uj.1 k)
theorem FF{n:Net}(h:iR n=0):1<=be n.1/\be n.1<=64/\be n.2.1<=128/\be n.2.2<=64:=by
 have:=(IS h).1
 unfold uv at this
 split at this
 .cases this
 .omega
theorem KU{n:Net}(h:iR n=0){k:Nat}(hk:k<be n.2.2):(0<=jU (Om n.2.2 k Sk)/\jU (Om n.2.2 k Sk)<=1125899906842624)/\(0<=c8 (Om n.2.2 k Sk)/\c8 (Om n.2.2 k Sk)<be n.1) ∧
  jq (jI (Om (gc n k) (it (c8 (Om n.2.2 k Sk))) Sk) (Om n.2.2 k Sk)) (de (Om n.1 (it (c8 (Om n.2.2 k Sk))) Sk))=0:=by
 have hs:=zi (IS h).2.2.2.2 k hk
 unfold nZ sX at hs
 split at hs
 .cases hs
 rename_i a1
 split at hs
 .cases hs
 split at hs
 .cases hs
 rename_i a3
 split at hs
 .cases hs
 exact⟨ab,ab,hs⟩
theorem WI{n:Net}(h:iR n=0):∀ k:Nat,k<=be n.2.2→∀ i:Nat,i<be n.1->jq (Om (gc n k) i Sk) (de (Om n.1 i Sk))=0
 | 0,_,i,hi=>by rw[gc,G8 hi];exact (zP h hi).rt
 | k+1,hk,i,hi=>by
  obtain⟨-,h2,h3⟩:=KU h (k:=k) ab;rw[gc];by_cases e:it (c8 (Om n.2.2 k Sk))=i
  .rw[← e,lH (by rw[vh];omega)];exact h3
  .rw[pZ e];exact WI h k ab i hi
structure yj (n:Net) (now ord:Int) (f:Flight):Prop where
 t:now<=aW f/\aW f<=1125899906842624
 o:0<=pO f/\pO f<ord
 nd:0<=bX f/\bX f<be n.1
 l:ju f = -1∨ju f∈de (Om n.1 (it (bX f)) Sk)
 g:0<=qB f/\qB f<ord
 b:bytes (gS f)
 d:(be (gS f):Int)<=2000
structure dR (w:aN) (K:Int):Prop where
 net:iR (aH w)=0
 now:0<=ce w/\ce w<=1125899906842624
 ord:0<=dc w/\dc w<=K
 done:0<=d8 w/\d8 w<=(aH w).2.2.length
 len:be (dD w)=(aH w).1.length
 st:∀ i:Nat,i<(aH w).1.length->jO ((aH w).1.getD i Sk) (Om (dD w) i Sk) K/\cW (Om (dD w) i Sk)=Om (gc (aH w) (it (d8 w))) i Sk
 cl:be (iD w)=(aH w).2.1.length
 cr:∀ c∈iD w,0<=c/\c<=K
 fl:(aL w).Pairwise iS
 fo:∀ f∈aL w,yj (aH w) (ce w) (dc w) f
 fn:be (aL w)<=4096
theorem dR.more{w:aN}{K K':Int}(h:dR w K)(hk:K<=K'):dR w K' :=
 ⟨h.net,h.now,by have:=h.ord;omega,h.done,h.len,λi hi=>⟨(h.st i hi).1.more hk,(h.st i hi).2⟩,h.cl,λc hc=>by have:=h.cr c hc;omega,h.fl,h.fo,h.fn⟩
theorem jO.rts{x:au}{s:NState}{K:Int}(h:jO x s K){l:List Rt}(hc:jq l (de x)=0):jO x (PC s l) K:=by
 have ⟨h1,h2⟩:=BE hc
 obtain⟨-,-,h3⟩:=GG hc
 exact⟨h1,h2,λr hr=>(h3 r hr).2,h.ps,h.tk,h.cn,h.cp⟩
theorem dR.chg{w:aN}{K:Int}(h:dR w K)(hd:nR w=bZ3):dR (jN w) K/\d8 (jN w)=d8 w+1:=by
 unfold nR at hd
 rw[fx,sC,sC] at hd
 have hk:it (d8 w)<(aH w).2.2.length:=by have:=h.done;omega
 obtain⟨-,⟨w0,w1⟩,hc⟩:=KU h.net hk
 have sz:=FF h.net
 have e1:bZ4.wrap (d8 w+1)=d8 w+1:=aG (by have:=h.done;omega) (by have:=h.done;omega)
 have eD:d8 (jN w)=d8 w+1:=e1
 have eN:aH (jN w)=aH w:=rfl
 have hwho:c8 (lZ w)=c8 ((aH w).2.2.getD (it (d8 w)) Sk):=rfl
 have hlt:it (c8 (lZ w))<(aH w).1.length:=ab
 have hst:=(h.st _ hlt)
 have hc:jq (jI (Om (gc (aH w) (it (d8 w))) (it (c8 (lZ w))) Sk) (lZ w)) (de ((aH w).1.getD (it (c8 (lZ w))) Sk))=0:=hc
 rw[← hst.2] at hc
 refine⟨⟨h.net,h.now,h.ord,by have:=h.done;rw[eD,eN];omega,?_,λi hi=>?_,h.cl,h.cr,h.fl,h.fo,h.fn⟩,eD⟩
 .show (be ((dD w).set _ _))=_;rw[gd];exact h.len
 .have hi:=hi;rw[eD,eN,show it (d8 w+1)=it (d8 w)+1 by have:=h.done;omega,gc];show jO _ (Om ((dD w).set (it (c8 (lZ w))) _) i Sk) K/\cW (Om ((dD w).set (it (c8 (lZ w))) _) i Sk)=_;by_cases e:it (c8 (lZ w))=i
  .subst e;rw[lH (by rw[h.len];exact hlt),show ((aH w).2.2.getD (it (d8 w)) Sk)=lZ w from rfl,lH (by rw[vh];exact hlt),← hst.2];exact⟨hst.1.rts hc,rfl⟩
  .rw[pZ e,show ((aH w).2.2.getD (it (d8 w)) Sk)=lZ w from rfl,pZ e];exact h.st i hi
theorem PY{K:Int}:∀(n:Nat){w:aN},dR w K->dR (fc n w) K/\(fc n w).1=w.1/\(fc n w).2.1=w.2.1/\(fc n w).2.2.1=w.2.2.1/\(fc n w).2.2.2.2.2=w.2.2.2.2.2
 | 0,w,h=>⟨h,rfl,rfl,rfl,rfl⟩
 | n+1,w,h=>by
  rw[fc];split
  next hd=>have k:=PY n (h.chg hd).1;exact⟨k.1,k.2.1.trans rfl,k.2.2.1.trans rfl,k.2.2.2.1.trans rfl,k.2.2.2.2.trans rfl⟩
  .exact⟨h,rfl,rfl,rfl,rfl⟩
theorem dR.change{w:aN}{K:Int}(h:dR w K):dR (dh w) K:=(PY _ h).1
theorem EF{n:Net}(h:iR n=0){i:Nat}(hi:i<be n.1){k:Int}(hk:k∈de (Om n.1 i Sk)) :
  (0<=k/\k<be n.2.1)/\oM (be n.1) (Om n.2.1 (it k) Sk)/\(0<=ku n.2.1 k i/\ku n.2.1 k i<be n.1)/\k∈de (Om n.1 (it (ku n.2.1 k i)) Sk):=by
 obtain⟨-,hc,hb,hp,-⟩:=IS h
 have b:=zi hb i hi
 unfold sc at b
 split at b
 next q=>exact absurd b q
 rename_i hv
 have N:=VF (uj.1 hv)
 split at b
 .cases b
 rename_i hs
 have hst:wT n i k=false:=by
  cases q:wT n i k with
  | false=>rfl
  | true=>exact absurd (cc5.2 ⟨k,hk,q⟩) hs
 unfold wT at hst
 simp only[ct9,sr,Ak,sS,rF] at hst
 have ⟨h1,h2⟩:=hst
 obtain⟨q,hq,rfl⟩:=cc1.1 hk
 obtain⟨j,hj,rfl⟩:=cb5.1 hq
 have k0:0<=((aS (Om n.1 i Sk))[j]).2:=by
  have:=(Yd (N.ports j hj)).2;rw[cq (l:=aS _),cG hj,iA] at this;omega
 generalize ((aS (Om n.1 i Sk))[j]).2=k at hk h1 h2 k0
 have hkl:it k<be n.2.1:=ab
 have snd:oM (be n.1) (Om n.2.1 (it k) Sk):=by
  unfold rq at hc;split at hc
  next z=>exact aX (ci6.1 z _ (rP hkl))
  .cases hc
 have lo:xg n (it k)=false:=by
  unfold t5 at hp;split at hp
  .cases hp
  .rename_i z;cases q:xg n (it k) with
   | false=>rfl
   | true=>exact absurd (cc5.2 ⟨it k,List.mem_range.2 hkl,q⟩) z
 unfold xg at lo
 simp only[ct9,sr] at lo
 have ⟨l1,l2⟩:=lo
 rw[show ((it k:Nat):Int)=k by omega] at l1 l2
 have mem:∀ x,¬ fS x k<0->k∈de x:=λx hx=>by
  have ⟨a,b⟩:=yr (q:=mM k) (l:=aS x) (by unfold fS at hx;omega);have hm:=rP (xs:=aS x) (i:=it (j4 (mM k) (aS x))) (by unfold fS at hx;omega);exact cc1.2 ⟨_,hm,aX b⟩
 refine⟨⟨k0,ab⟩,snd,?_⟩
 obtain⟨s1,s2,s3,s4,s5,-⟩:=snd
 unfold ku
 rw[ah ab]
 by_cases e:(i:Int)=lA (Om n.2.1 (it k) Sk)
 .rw[aj e];exact⟨⟨s3,s4⟩,mem _ l2⟩
 .have e2:lB (Om n.2.1 (it k) Sk)=i:=by
   obtain z|z:=h2
   .exact absurd z.symm e
   .exact z
  rw[ah e,aj e2.symm];exact⟨⟨s1,s2⟩,mem _ l1⟩
theorem Nn{n:Int}(h0:0<=n)(h1:n<=9223372036854775807):ca1.wrap n=n:=by
 obtain⟨m,rfl⟩:∃ m:Nat,n=m:=⟨it n,ab⟩
 rw[PB];omega
theorem bS6(x:Int):0<=oJ x:=Int.natCast_nonneg _
theorem Lh{w:aN}{k:Int}(hs:oM (aH w).1.length (fQ w k))(hn:0<=ce w/\ce w<=1125899906842624):ce w+1<=qu w k/\qu w k<=ce w+qI (fQ w k)+mI (fQ w k):=by
 obtain⟨-,-,-,-,-,d1,d2,j1,j2,-⟩:=hs
 have hh:0<=xl (fQ w k) (pW w k):=bS6 _
 have e1:bZ4.wrap (mI (fQ w k)+1)=mI (fQ w k)+1:=aG ab ab
 have e2:ca1.wrap (mI (fQ w k)+1)=mI (fQ w k)+1:=Nn ab ab
 have hd:0<=cd2 (xl (fQ w k) (pW w k)) 65536:=Int.tdiv_nonneg hh ab
 have t0:=Int.tmod_nonneg (mI (fQ w k)+1) hd
 have t1:=Int.tmod_lt_of_pos (cd2 (xl (fQ w k) (pW w k)) 65536) (show 0<mI (fQ w k)+1 by omega)
 have el:Fo w k=Int.tmod (cd2 (xl (fQ w k) (pW w k)) 65536) (mI (fQ w k)+1):=by
  unfold Fo;rw[e1,e2,aG ab ab]
 have e3:bZ4.wrap (ce w+qI (fQ w k))=ce w+qI (fQ w k):=aG ab ab
 have e4:qu w k=ce w+qI (fQ w k)+Fo w k:=by
  unfold qu;rw[e3,aG ab ab]
 omega
theorem dR.ends{w:aN}{K:Int}(h:dR w K)(f:Flight)(link why:Int):dR (qF w f link why) K:=⟨h.net,h.now,h.ord,h.done,h.len,h.st,h.cl,h.cr,h.fl,h.fo,h.fn⟩
theorem dR.dels{w:aN}{K:Int}(h:dR w K)(l:List Del):dR (zL w l) K:=⟨h.net,h.now,h.ord,h.done,h.len,h.st,h.cl,h.cr,h.fl,h.fo,h.fn⟩
theorem dR.crosses{w:aN}{K:Int}(h:dR w K)(hK:K<=2199023255552){f:Flight}{out:bY9}(hf:0<=bX f/\bX f<(aH w).1.length)(hg:0<=qB f/\qB f<dc w)
  (hk:out.1∈de ((aH w).1.getD (it (bX f)) Sk)) (hb:bytes out.2) (hl:(be out.2:Int)<=2000):dR (ig w f out) (K+1):=by
 have hi:it (bX f)<(aH w).1.length:=ab
 have ⟨⟨k0,k1⟩,snd,o1,o2⟩:=EF h.net hi hk
 rw[show ((it (bX f):Nat):Int)=bX f by omega] at o1 o2
 have ov:=Lh (w:=w) (k:=out.1) snd h.now
 have hcl:it out.1<be (iD w):=by rw[h.cl];omega
 have hc0:pW w out.1∈iD w:=rP hcl
 have hc1:=h.cr _ hc0
 have hord:=h.ord
 have base:dR (xW w ((iD w).set (it out.1) (bZ4.wrap (pW w out.1+1)))) (K+1):=by
  have h':=h.more (K':=K+1) ab;refine⟨h'.net,h'.now,h'.ord,h'.done,h'.len,h'.st,?_,λc hc=>?_,h'.fl,h'.fo,h'.fn⟩
  .show (be ((iD w).set _ _))=_;rw[gd];exact h.cl
  .have hc:=hc;obtain hc|rfl:=Ae hc
   .have:=h.cr c hc;omega
   .rw[aG ab ab];omega
 unfold ig
 dsimp only
 split
 .exact base.ends _ _ _
 split
 .exact base.ends _ _ _
 rename_i q
 have ew:bZ4.wrap (dc w+1)=dc w+1:=aG ab ab
 refine⟨base.net,base.now,?_,base.done,base.len,base.st,base.cl,base.cr,?_,?_,?_⟩
 .show 0<=bZ4.wrap (dc w+1)/\bZ4.wrap (dc w+1)<=K+1;rw[ew];omega
 .exact Rb h.fl λx hx=>(h.fo x hx).o.2
 .intro x hx;have hx:=hx;show yj (aH w) (ce w) (bZ4.wrap (dc w+1)) x;rw[ew];obtain rfl|hx:=JC.1 hx
  .exact⟨⟨by show ce w<=qu w out.1;omega,by show qu w out.1<=_;omega⟩,⟨by show 0<=dc w;omega,by show dc w<dc w+1;omega⟩,o1,.inr o2,⟨hg.1,by show qB f<dc w+1;omega⟩,hb,hl⟩
  .have k:=h.fo x hx;exact⟨k.t,⟨k.o.1,by have:=k.o.2;omega⟩,k.nd,k.l,⟨k.g.1,by have:=k.g.2;omega⟩,k.b,k.d⟩
 .show (be (iV (aL w) _))<=4096;rw[FE];omega
theorem dR.land{w:aN}{K:Int}(h:dR w K)(hK:K<=1099511627776){f:Flight}(hf:yj (aH w) (ce w) (dc w) f)(ht:aW f=ce w):dR (jS w f) (K+2):=by
 have hi:it (bX f)<(aH w).1.length:=by have:=hf.nd;omega
 have ⟨st,rt⟩:=h.st _ hi
 have N:=zP h.net hi
 have O:=Nl (lk:=ju f) (t:=aW f) N st.rt hf.b
 have S:=ar9 (link:=ju f) (b:=gS f) (at':=aW f) N st ⟨by have:=h.ord;omega,ab⟩ ⟨by have:=h.now;omega,by have:=h.now;omega⟩
 have eH:bT w f=gH ((aH w).1.getD (it (bX f)) Sk) (Om (dD w) (it (bX f)) Sk) (ju f) (aW f) (gS f):=rfl
 rw[← eH] at O S
 have ha:dR (jP w ((dD w).set (it (bX f)) (bT w f).1)) (K+1):=by
  have h':=h.more (K':=K+1) ab;refine⟨h'.net,h'.now,h'.ord,h'.done,?_,λi hl=>?_,h'.cl,h'.cr,h'.fl,h'.fo,h'.fn⟩
  .show (be ((dD w).set _ _))=_;rw[gd];exact h.len
  .have hl:=hl;show jO _ (Om ((dD w).set (it (bX f)) (bT w f).1) i Sk) _/\cW (Om ((dD w).set (it (bX f)) (bT w f).1) i Sk)=_;by_cases e:it (bX f)=i
   .subst e;rw[lH (by rw[h.len];exact hi)];exact⟨S,O.rt.trans rt⟩
   .rw[pZ e];exact h'.st i hl
 have hb:dR (if (bT w f).2.2=1 then zL (jP w ((dD w).set (it (bX f)) (bT w f).1)) (bO (jP w ((dD w).set (it (bX f)) (bT w f).1))++[(aW f,bX f,gS f)]) else jP w ((dD w).set (it (bX f)) (bT w f).1)) (K+1):=by
  split
  .exact ha.dels _
  .exact ha
 unfold jS
 dsimp only
 generalize hB:(if (bT w f).2.2=1 then zL (jP w ((dD w).set (it (bX f)) (bT w f).1)) (bO (jP w ((dD w).set (it (bX f)) (bT w f).1))++[(aW f,bX f,gS f)]) else jP w ((dD w).set (it (bX f)) (bT w f).1))=B at hb
 have eB:aH B=aH w/\dc B=dc w:=by rw[← hB];split <;> exact⟨rfl,rfl⟩
 have hc:dR (if (bT w f).2.2≠0 then qF B f (ju f) (bT w f).2.2 else B) (K+1):=by
  split
  .exact hb.ends _ _ _
  .exact hb
 have eC:aH (if (bT w f).2.2≠0 then qF B f (ju f) (bT w f).2.2 else B)=aH w/\dc (if (bT w f).2.2≠0 then qF B f (ju f) (bT w f).2.2 else B)=dc w:=by
  split
  .exact eB
  .exact eB
 generalize (if (bT w f).2.2≠0 then qF B f (ju f) (bT w f).2.2 else B)=C at hc eC
 split
 next hp=>
  have hr:(bT w f).2.2=0∨(bT w f).2.2=2:=by
   by_cases z0:(bT w f).2.2=0
   .exact .inl z0
   by_cases z2:(bT w f).2.2=2
   .exact .inr z2
   .have:=O.none z0 z2;rw[this] at hp;exact absurd hp (by simp[lJ])
  have ⟨p1,p2,p3⟩:=O.some hr;have hm:(bT w f).2.1.1∈de ((aH w).1.getD (it (bX f)) Sk):=by
   have ⟨a,b⟩:=yr (q:=mM (bT w f).2.1.1) (l:=aS ((aH w).1.getD (it (bX f)) Sk)) p3;have hm:=rP (xs:=aS ((aH w).1.getD (it (bX f)) Sk)) (i:=it (j4 (mM (bT w f).2.1.1) (aS ((aH w).1.getD (it (bX f)) Sk)))) (by unfold fS at p3;omega);exact cc1.2 ⟨_,hm,aX b⟩
  have z:=dR.crosses hc ab (by rw[eC.1];exact hf.nd) (by rw[eC.2];exact hf.g) (by rw[eC.1];exact hm) O.byt ab
  rwa [show K+1+1=K+2 by omega] at z
 .exact hc.more ab
theorem Rw(w:aN)(f:Flight)(out:bY9):aH (ig w f out)=aH w/\ce (ig w f out)=ce w ∧
  (aL (ig w f out)=aL w∨∃ g,aW g=qu w out.1/\aL (ig w f out)=iV (aL w) g):=by
 unfold ig
 dsimp only
 split
 .exact⟨rfl,rfl,.inl rfl⟩
 split
 .exact⟨rfl,rfl,.inl rfl⟩
 .exact⟨rfl,rfl,.inr ⟨_,rfl,rfl⟩⟩
theorem Gr{n:Net}(h:iR n=0){i:Nat}(hi:i<be n.1){k:Int}(hp:0<=fS (Om n.1 i Sk) k):k∈de (Om n.1 i Sk):=by
 have ⟨a,b⟩:=yr (q:=mM k) (l:=aS (Om n.1 i Sk)) hp
 have hm:=rP (xs:=aS (Om n.1 i Sk)) (i:=it (j4 (mM k) (aS (Om n.1 i Sk)))) (by unfold fS at hp;omega)
 exact cc1.2 ⟨_,hm,aX b⟩
theorem ax2{w:aN}{K:Int}(h:dR w K){f:Flight}(hf:yj (aH w) (ce w) (dc w) f):aH (jS w f)=aH w/\ce (jS w f)=ce w ∧
  (aL (jS w f)=aL w∨∃ g,ce w+1<=aW g/\aL (jS w f)=iV (aL w) g):=by
 have hi:it (bX f)<(aH w).1.length:=by have:=hf.nd;omega
 have ⟨st,rt⟩:=h.st _ hi
 have N:=zP h.net hi
 have O:=Nl (lk:=ju f) (t:=aW f) N st.rt hf.b
 have eH:bT w f=gH ((aH w).1.getD (it (bX f)) Sk) (Om (dD w) (it (bX f)) Sk) (ju f) (aW f) (gS f):=rfl
 rw[← eH] at O
 unfold jS
 dsimp only
 have key:∀ B,aH B=aH w->ce B=ce w->aL B=aL w->iD B=iD w →
   (aH (if 0<(bT w f).2.1.2.length then ig B f (bT w f).2.1 else B)=aH w/\ce (if 0<(bT w f).2.1.2.length then ig B f (bT w f).2.1 else B)=ce w ∧
    (aL (if 0<(bT w f).2.1.2.length then ig B f (bT w f).2.1 else B)=aL w∨∃ g,ce w+1<=aW g/\aL (if 0<(bT w f).2.1.2.length then ig B f (bT w f).2.1 else B)=iV (aL w) g)):=by
  intro B b1 b2 b3 b4;split
  .rename_i hp;have ⟨c1,c2,c3⟩:=Rw B f (bT w f).2.1;refine⟨c1.trans b1,c2.trans b2,?_⟩;obtain c3|⟨g,g1,g2⟩:=c3
   .exact .inl (c3.trans b3)
   .have hr:(bT w f).2.2=0∨(bT w f).2.2=2:=by
     by_cases z0:(bT w f).2.2=0
     .exact .inl z0
     by_cases z2:(bT w f).2.2=2
     .exact .inr z2
     .have:=O.none z0 z2;rw[this] at hp;exact absurd hp (by simp[lJ])
    have hl:=Gr h.net hi (O.some hr).2.2;obtain⟨-,snd,-⟩:=EF h.net hi hl;have ov:=Lh (w:=B) (k:=(bT w f).2.1.1) (by unfold fQ;rw[b1];exact snd) (by rw[b2];exact h.now);refine .inr ⟨g,by rw[g1,← b2];exact ov.1,by rw[g2,b3]⟩
  .exact⟨b1,b2,.inl b3⟩
 apply key
 all_goals (split <;> (split <;> rfl))
theorem sN(to:Int)(f:Flight)(r:List Flight):gm to (f::r)=it (to+1-aW f)+gm to r:=by
 unfold gm;rw[fF,cq4]
theorem dR.step{w:aN}{K:Int}(h:dR w K)(hK:K<=1099511627776){f:Flight}{r:List Flight}(e:aL w=f::r) :
  dR (eO w) (K+2)/\aH (eO w)=aH w/\ce (eO w)=aW f∧∀ to,aW f<=to->gm to (aL (eO w))+1<=gm to (aL w):=by
 have hp:=h.fl
 rw[e] at hp
 have ⟨p1,p2⟩:=ca4.1 hp
 have hf:=h.fo f (by rw[e];exact eV)
 have hle:∀ x∈r,aW f<=aW x:=λx hx=>by obtain k|k:=p1 x hx <;> omega
 have ed:(aL w).headD Sk=f:=by rw[e];rfl
 have et:(aL w).tail=r:=by rw[e];rfl
 have hb:dR (cQ (gu w r) (aW f)) K:=by
  refine⟨h.net,⟨by show 0<=aW f;have:=h.now;have:=hf.t;omega,hf.t.2⟩,h.ord,h.done,h.len,h.st,h.cl,h.cr,p2,λx hx=>?_,?_⟩
  .have hx:=hx;have k:=h.fo x (by rw[e];exact fu _ hx);exact⟨⟨hle x hx,k.t.2⟩,k.o,k.nd,k.l,k.g,k.b,k.d⟩
  .show (be r)<=4096;have:=h.fn;rw[e,cX] at this;omega
 have hc:=PY ((aH w).2.2.length-it (d8 w)) hb
 have es:eO w=jS (dh (cQ (gu w r) (aW f))) f:=by unfold eO;rw[ed,et]
 have ec:dh (cQ (gu w r) (aW f))=fc ((aH w).2.2.length-it (d8 w)) (cQ (gu w r) (aW f)):=rfl
 rw[← ec] at hc
 have ⟨c1,c2,c3,c4,c5⟩:=hc
 generalize dh (cQ (gu w r) (aW f))=v at c1 c2 c3 c4 c5 es
 have n1:aH v=aH w:=c2
 have n2:ce v=aW f:=c3
 have n3:dc v=dc w:=c4
 have n4:aL v=r:=dP (λx:ad×List Flight×List Del×List EndR=>x.2.1) c5
 have hfv:yj (aH v) (ce v) (dc v) f:=by
  rw[n1,n2,n3];exact⟨⟨io _,hf.t.2⟩,hf.o,hf.nd,hf.l,hf.g,hf.b,hf.d⟩
 have L:=ax2 c1 hfv
 rw[es]
 refine⟨c1.land hK hfv n2.symm,L.1.trans n1,L.2.1.trans n2,λto hto=>?_⟩
 rw[e,sN]
 obtain q|⟨g,g1,g2⟩:=L.2.2
 .rw[q,n4];omega
 .rw[g2,n4,Sm];rw[n2] at g1;omega
theorem dR.run{to:Int}:∀(n:Nat){w:aN}{K:Int},dR w K->gm to (aL w)<=n->K+2*n<=1099511627776->dR (jD n w to) (K+2*n)/\fE (jD n w to) to=bZ6/\aH (jD n w to)=aH w
 | 0,w,K,h,hw,hK=>by
  refine⟨by simpa[jD] using h,?_,rfl⟩;show fE w to=bZ6;unfold fE;cases e:aL w with
  | nil=>rfl
  | cons f r =>
   rw[e,sN] at hw;exact eT ab
 | n+1,w,K,h,hw,hK=>by
  rw[jD];split
  .rename_i hb;unfold fE at hb;cases e:aL w with
   | nil=>rw[e] at hb;cases hb
   | cons f r =>
    rw[e] at hb;have hb:=aX hb;obtain⟨s1,s2,-,s4⟩:=h.step ab e;have:=s4 to hb;have ⟨t1,t2,t3⟩:=dR.run (to:=to) n s1 ab ab;rw[show K+2+2*(n:Int)=K+2*((n+1:Nat):Int) by omega] at t1;exact⟨t1,t2,t3.trans s2⟩
  next hb=>exact⟨h.more ab,by simpa using hb,rfl⟩
def okDn(w:aN):Prop:=0<=d8 w/\((aH w).2.2.length:Int)<=1099511627776
def l8(w:aN):Nat:=(aH w).2.2.length-it (d8 w)
theorem Fq{w:aN}(h:okDn w)(hd:nR w=bZ3):d8 (jN w)=d8 w+1/\okDn (jN w)/\l8 (jN w)+1=l8 w:=by
 unfold nR at hd
 rw[fx,sC,sC] at hd
 have ⟨h0,h1⟩:=h
 have e:d8 (jN w)=d8 w+1:=aG (n:=d8 w+1) ab ab
 refine⟨e,⟨by rw[e];omega,h1⟩,?_⟩
 unfold l8
 rw[e]
 show (aH w).2.2.length-_+1=_
 omega
theorem T7{w:aN}(h:okDn w)(hd:nR w=bZ3):0<l8 w:=by
 unfold nR at hd
 rw[fx,sC,sC] at hd
 have:=h.1
 unfold l8;omega
theorem O3:∀(n m:Nat){w:aN},okDn w->l8 w<=n->l8 w<=m->fc n w=fc m w
 | 0,0,_,_,_,_=>rfl
 | 0,m+1,w,h,hn,_=>by
  rw[fc,fc,ah];intro hd;have:=T7 h hd;omega
 | n+1,0,w,h,_,hm=>by
  rw[fc,fc,ah];intro hd;have:=T7 h hd;omega
 | n+1,m+1,w,h,hn,hm=>by
  rw[fc,fc];split
  next hd=>obtain⟨-,o,r⟩:=Fq h hd;exact O3 n m o ab ab
  .rfl
theorem Jr{w:aN}(h:okDn w){n:Nat}(hn:l8 w<=n):dh w=fc n w:=O3 _ _ h (dq _) hn
theorem aE1{w:aN}{t:Int}:nR (cQ w t)=(bZ2 (d8 w<(aH w).2.2.length)&&bZ2 (jU (lZ w)<=t)):=rfl
theorem Yo{t t':Int}(ht:t<=t'):∀(n:Nat){w:aN},okDn w->l8 w<=n->fc n (cQ (fc n (cQ w t)) t')=fc n (cQ w t')
 | 0,w,h,hn=>rfl
 | n+1,w,h,hn=>by
  by_cases hd:nR (cQ w t)=bZ3
  .have hd':nR (cQ w t')=true:=by
    rw[aE1,fx,sC,sC] at hd ⊢;exact⟨hd.1,ab⟩
   have c:=Fq (w:=cQ w t) h hd;have e1:fc (n+1) (cQ w t)=fc n (cQ (jN w) t):=by rw[fc,aj hd];rfl
   have e2:fc (n+1) (cQ w t')=fc n (cQ (jN w) t'):=by rw[fc,aj hd'];rfl
   have o:okDn (jN w):=c.2.1;have r:l8 (jN w)+1=l8 w:=c.2.2;have ih:=Yo ht n o ab;rw[e1,e2,← ih];have of':okDn (cQ (fc n (cQ (jN w) t)) t')/\l8 (cQ (fc n (cQ (jN w) t)) t')<=n:=by
    have key:∀(k:Nat){v:aN},okDn v->okDn (fc k v)/\l8 (fc k v)<=l8 v:=by
     intro k
     induction k with
     | zero=>intro v hv;exact⟨hv,dq _⟩
     | succ k ihk =>
      intro v hv;rw[fc];split
      next hdv=>obtain⟨-,a,b⟩:=Fq hv hdv;have:=ihk a;exact⟨this.1,ab⟩
      .exact⟨hv,dq _⟩
    have k:=key n (v:=cQ (jN w) t) o;exact⟨k.1,by have:=k.2;show l8 (fc n (cQ (jN w) t))<=n;have e:l8 (cQ (jN w) t)=l8 (jN w):=rfl;omega⟩
   exact O3 _ _ of'.1 ab of'.2
  .have e1:fc (n+1) (cQ w t)=cQ w t:=by rw[fc,ah hd]
   rw[e1];rfl
theorem RN{w:aN}{t t':Int}(h:okDn w)(ht:t<=t'):dh (cQ (dh (cQ w t)) t')=dh (cQ w t'):=by
 have e1:=Jr (w:=cQ w t) h (dq _)
 have e2:dh (cQ w t')=fc (l8 w) (cQ w t'):=Jr (w:=cQ w t') h (dq _)
 rw[e1,e2,← Yo ht (l8 w) h (dq _)]
 have key:∀(k:Nat){v:aN},okDn v->okDn (fc k v)/\l8 (fc k v)<=l8 v:=by
  intro k
  induction k with
  | zero=>intro v hv;exact⟨hv,dq _⟩
  | succ k ihk =>
   intro v hv;rw[fc];split
   next hdv=>obtain⟨-,a,b⟩:=Fq hv hdv;have:=ihk a;exact⟨this.1,ab⟩
   .exact⟨hv,dq _⟩
 have k:=key (l8 w) (v:=cQ w t) h
 exact Jr (w:=cQ (fc (l8 w) (cQ w t)) t') k.1 k.2
theorem Gs:∀(n:Nat)(w:aN),(fc n w).1=w.1/\(fc n w).2.1=w.2.1/\(fc n w).2.2.1=w.2.2.1/\(fc n w).2.2.2.2.2=w.2.2.2.2.2
 | 0,w=>⟨rfl,rfl,rfl,rfl⟩
 | n+1,w=>by
  rw[fc];split
  .have k:=Gs n (jN w);exact⟨k.1.trans rfl,k.2.1.trans rfl,k.2.2.1.trans rfl,k.2.2.2.trans rfl⟩
  .exact⟨rfl,rfl,rfl,rfl⟩
theorem MV(w:aN):aL (dh w)=aL w/\ce (dh w)=ce w:=⟨dP (λx:ad×List Flight×List Del×List EndR=>x.2.1) (Gs _ w).2.2.2,(Gs _ w).2.1⟩
theorem ap7(w:aN)(l:List Flight):jN (gu w l)=gu (jN w) l:=rfl
theorem WZ(l:List Flight):∀(n:Nat)(w:aN),fc n (gu w l)=gu (fc n w) l
 | 0,w=>rfl
 | n+1,w=>by
  rw[fc,fc];by_cases hd:nR w=bZ3
  .rw[aj hd,aj (show nR (gu w l)=bZ3 from hd),ap7,WZ l n]
  .rw[ah hd,ah (show ¬ nR (gu w l)=bZ3 from hd)]
theorem a65{w:aN}{t:Int}(h:okDn w)(ht:t<=aW ((aL w).headD Sk)):eO (dh (cQ w t))=eO w:=by
 have e:=(MV (cQ w t)).1
 have e:aL (dh (cQ w t))=aL w:=e
 unfold eO
 rw[e]
 congr 1
 have e1:gu (dh (cQ w t)) (aL w).tail=dh (cQ (gu w (aL w).tail) t):=(WZ _ _ _).symm
 rw[e1]
 exact RN (w:=gu w (aL w).tail) h ht
def fW(w:aN)(to:Int):aN:=jD (gm to (aL w)) w to
theorem ZP{to:Int}:∀(n m:Nat){w:aN}{K:Int},dR w K->gm to (aL w)<=n->gm to (aL w)<=m->K+2*(gm to (aL w))<=1099511627776->jD n w to=jD m w to:=by
 have stop:∀{w:aN},gm to (aL w)=0->fE w to=false:=by
  intro w hw;unfold fE;cases e:aL w with
  | nil=>rfl
  | cons f r =>
   rw[e,sN] at hw;exact eT ab
 intro n
 induction n with
 | zero =>
  intro m w K h hn hm hK;have hb:=stop (w:=w) ab;cases m with
  | zero=>rfl
  | succ m=>rw[jD,jD,ah (by rw[hb];simp)]
 | succ n ih =>
  intro m w K h hn hm hK;cases m with
  | zero =>
   have hb:=stop (w:=w) ab;rw[jD,jD,ah (by rw[hb];simp)]
  | succ m =>
   rw[jD,jD];split
   .rename_i hb;unfold fE at hb;cases e:aL w with
    | nil=>rw[e] at hb;cases hb
    | cons f r =>
     rw[e] at hb;have hb:=aX hb;have hpos:1<=gm to (aL w):=by rw[e,sN];omega
     obtain⟨s1,-,-,s4⟩:=h.step ab e;have:=s4 to hb;exact ih m s1 ab ab ab
   .rfl
theorem Jp{w:aN}{to K:Int}(h:dR w K)(hK:K+2*(gm to (aL w))<=1099511627776)(hb:fE w to=bZ3) :
  fW w to=fW (eO w) to/\dR (eO w) (K+2)/\gm to (aL (eO w))+1<=gm to (aL w):=by
 have hb0:=hb
 unfold fE at hb
 cases e:aL w with
 | nil=>rw[e] at hb;cases hb
 | cons f r =>
  rw[e] at hb;have hb:=aX hb;have hpos:1<=gm to (aL w):=by rw[e,sN];omega
  obtain⟨s1,-,-,s4⟩:=h.step ab e;have:=s4 to hb;refine⟨?_,s1,by rw[← e];exact this⟩;obtain⟨k,hk⟩:∃ k,gm to (aL w)=k+1:=⟨gm to (aL w)-1,ab⟩
  have e1:fW w to=jD k (eO w) to:=by unfold fW;rw[hk,jD,aj hb0]
  rw[e1];exact ZP _ _ s1 ab (dq _) ab
theorem EP{w:aN}{to:Int}(hb:fE w to=bZ6):∀ n,jD n w to=w
 | 0=>rfl
 | n+1=>by rw[jD,ah (by rw[hb];simp)]
theorem bH7{w:aN}{a b:Int}(h:a<=b)(hb:fE w a=bZ3):fE w b=true:=by
 unfold fE at hb ⊢
 cases e:aL w with
 | nil=>rw[e] at hb;cases hb
 | cons f r =>
  rw[e] at hb;have hb:=aX hb;exact ft ab
theorem Tf{a b:Int}(h:a<=b):∀ l:List Flight,gm a l<=gm b l
 | []=>dq _
 | f::r=>by rw[sN,sN];have:=Tf h r;omega
theorem be9{a b:Int}(hab:a<=b):∀(n:Nat){w:aN}{K:Int},dR w K->gm a (aL w)<=n->K+2*(gm b (aL w))<=1099511627776 →
  fW (fW w a) b=fW w b/\(∃ K',dR (fW w a) K'∧K'+2*(gm b (aL (fW w a)))<=1099511627776)/\fE (fW w a) a=bZ6/\ce (fW w a)<=max (ce w) a:=by
 intro n
 induction n with
 | zero =>
  intro w K h hn hK;have hb:fE w a=false:=by
   unfold fE;cases e:aL w with
   | nil=>rfl
   | cons f r =>
    rw[e,sN] at hn;exact eT ab
  have e:fW w a=w:=EP hb _;rw[e];exact⟨rfl,⟨K,h,hK⟩,hb,ab⟩
 | succ n ih =>
  intro w K h hn hK;by_cases hb:fE w a=bZ3
  .have l:=Tf hab (aL w);have ⟨r1,r2,r3⟩:=Jp h ab hb;have ⟨q1,q2,q3⟩:=Jp h hK (bH7 hab hb);have now:ce (eO w)<=a:=by
    unfold fE at hb;cases e:aL w with
    | nil=>rw[e] at hb;cases hb
    | cons f r =>
     rw[e] at hb;have hb:=aX hb;have hpos:1<=gm a (aL w):=by rw[e,sN];omega
     obtain⟨-,-,s3,-⟩:=h.step ab e;omega
   rw[r1,q1];have ⟨i1,i2,i3,i4⟩:=ih r2 ab ab;exact⟨i1,i2,i3,ab⟩
  .have hb:fE w a=false:=by simpa using hb
   have e:fW w a=w:=EP hb _;rw[e];exact⟨rfl,⟨K,h,hK⟩,hb,ab⟩
theorem dR.okDn{w:aN}{K:Int}(h:dR w K):okDn w:=⟨h.done.1,by have:=FF h.net;omega⟩
theorem a07{w:aN}{a:Int}(hb:fE w a=bZ6){b:Int}(hb2:fE w b=bZ3):a<=aW ((aL w).headD Sk):=by
 unfold fE at hb hb2
 cases e:aL w with
 | nil=>rw[e] at hb2;cases hb2
 | cons f r =>
  rw[e] at hb;have hb:=bg hb;show a<=aW f;omega
theorem dR.wait{w:aN}{K a:Int}(h:dR w K)(hb:fE w a=bZ6)(ha:0<=a/\a<=1125899906842624):dR (cQ w a) K:=by
 refine⟨h.net,ha,h.ord,h.done,h.len,h.st,h.cl,h.cr,h.fl,λx hx=>?_,h.fn⟩
 have hx:x∈aL w:=hx
 have k:=h.fo x hx
 refine⟨⟨?_,k.t.2⟩,k.o,k.nd,k.l,k.g,k.b,k.d⟩
 show a<=aW x
 have hp:=h.fl
 unfold fE at hb
 cases e:aL w with
 | nil=>rw[e] at hx;cases hx
 | cons f r =>
  rw[e] at hb hx hp;have hb:=bg hb;obtain rfl|hx:=dO.1 hx
  .omega
  .obtain q|q:=(ca4.1 hp).1 x hx <;> omega
theorem a20{w:aN}{K a b:Int}(h:dR w K)(ha:0<=a)(hab:a<=b)(hb:b<=1125899906842624)(hK:K+2*(gm b (aL w))<=1099511627776):pB (pB w a) b=pB w b:=by
 obtain⟨t1,⟨K',t2,t3⟩,t4,-⟩:=be9 hab _ h (dq _) hK
 have ea:pB w a=dh (cQ (fW w a) a):=rfl
 have eb:pB w b=dh (cQ (fW w b) b):=rfl
 rw[ea,eb,← t1]
 generalize fW w a=u at t2 t3 t4
 have hv:=(t2.wait t4 ⟨ha,ab⟩).change
 have fl:aL (dh (cQ u a))=aL u:=(MV _).1
 have hbz:fE (dh (cQ u a)) b=fE u b:=by unfold fE;rw[fl]
 show dh (cQ (fW (dh (cQ u a)) b) b)=_
 by_cases hz:fE u b=bZ3
 .obtain⟨r1,-,-⟩:=Jp t2 t3 hz;obtain⟨q1,-,-⟩:=Jp hv (by rw[fl];exact t3) (hbz.trans hz);rw[q1,r1,a65 t2.okDn (a07 t4 hz)]
 .have hz:fE u b=false:=by simpa using hz
  rw[show fW (dh (cQ u a)) b=dh (cQ u a) from EP (hbz.trans hz) _,show fW u b=u from EP hz _];exact RN t2.okDn hab
def Is(f:Flight):Int×Int×Int×Int×ad:=(f.1,f.2.2)
def Lr(c:Int)(l l':List Flight):Prop:=∃ (g:Flight) (pre post:List Flight),l'=pre++g::post/\(pre++post).map Is=l.map Is/\c<aW g/\(∀ y∈pre,aW y<=aW g)∧∀ y∈post,aW g<=aW y
theorem Zn{x y:Flight}(h:Is x=Is y):aW x=aW y/\x.2.2=y.2.2:=⟨dP (·.1) h,dP (·.2) h⟩
theorem Lr.len{c:Int}{l l':List Flight}(h:Lr c l l'):be l'=be l+1:=by
 obtain⟨g,pre,post,rfl,h1,-⟩:=h
 have:=dP be h1
 rw[kW,kW,bM] at this
 rw[bM,cX];omega
theorem Lr.busy{c:Int}{l l':List Flight}(h:Lr c l l')(w:aN)(o':Int)(e:aL w=l):fE (gu (Um w o') l') c=fE w c:=by
 obtain⟨g,pre,post,rfl,h1,h2,h3,h4⟩:=h
 show (match pre++g::post with|[]=>bZ6|f::_=>bZ2 (aW f<=c))=(match aL w with|[]=>bZ6|f::_=>bZ2 (aW f<=c))
 rw[e]
 cases pre with
 | nil =>
  rw[yv];have hg:bZ2 (aW g<=c)=false:=eT ab;show bZ2 (aW g<=c)=_;rw[hg];cases post with
  | nil =>
   cases l with
   | nil=>rfl
   | cons f r=>cases h1
  | cons y p =>
   cases l with
   | nil=>rfl
   | cons f r =>
    rw[yv,fF,fF,cj0.injEq] at h1;have:=(Zn h1.1).1;have:=h4 y eV;exact (eT ab).symm
 | cons f' pre =>
  cases l with
  | nil=>cases h1
  | cons f r =>
   rw[kO,fF,fF,cj0.injEq] at h1;have:=(Zn h1.1).1;show bZ2 (aW f'<=c)=bZ2 (aW f<=c);rw[this]
structure zN (n:Net) (now:Int) (f:Flight):Prop where
 t:now<=aW f/\aW f<=1125899906842624
 nd:0<=bX f/\bX f<be n.1
 l:ju f = -1∨ju f∈de (Om n.1 (it (bX f)) Sk)
 b:bytes (gS f)
 d:(be (gS f):Int)<=2000
structure gU (w:aN):Prop where
 net:iR (aH w)=0
 now:0<=ce w/\ce w<=1125899906842624
 done:0<=d8 w/\d8 w<=(aH w).2.2.length
 len:be (dD w)=(aH w).1.length
 st:∀ i:Nat,i<(aH w).1.length->cW (Om (dD w) i Sk)=Om (gc (aH w) (it (d8 w))) i Sk/\be (nL (Om (dD w) i Sk))=be (aS ((aH w).1.getD i Sk))
 cl:be (iD w)=(aH w).2.1.length
 fl:(aL w).Pairwise λa b=>aW a<=aW b
 fo:∀ f∈aL w,zN (aH w) (ce w) f
 fn:be (aL w)<=4096
theorem dR.weak{w:aN}{K:Int}(h:dR w K):gU w :=
 ⟨h.net,h.now,h.done,h.len,λi hi=>⟨(h.st i hi).2,(h.st i hi).1.ps⟩,h.cl,h.fl.imp λq=>by obtain q|q:=q <;> omega,
  λf hf=>by have k:=h.fo f hf;exact⟨k.t,k.nd,k.l,k.b,k.d⟩,h.fn⟩
theorem gU.chk{w:aN}(h:gU w){i:Nat}(hi:i<(aH w).1.length):jq (cW (Om (dD w) i Sk)) (de ((aH w).1.getD i Sk))=0:=by
 rw[(h.st i hi).1]
 exact WI h.net _ (by have:=h.done;omega) i hi
theorem gU.chg{w:aN}(h:gU w)(hd:nR w=bZ3):gU (jN w):=by
 have hd0:=hd
 unfold nR at hd
 rw[fx,sC,sC] at hd
 have hk:it (d8 w)<(aH w).2.2.length:=by have:=h.done;omega
 obtain⟨-,⟨w0,w1⟩,-⟩:=KU h.net hk
 have sz:=FF h.net
 have eD:d8 (jN w)=d8 w+1:=aG (n:=d8 w+1) (by have:=h.done;omega) (by have:=h.done;omega)
 have eN:aH (jN w)=aH w:=rfl
 have hwho:c8 (lZ w)=c8 ((aH w).2.2.getD (it (d8 w)) Sk):=rfl
 have hlt:it (c8 (lZ w))<(aH w).1.length:=ab
 have hst:=h.st _ hlt
 refine⟨h.net,h.now,by have:=h.done;rw[eD,eN];omega,?_,λi hi=>?_,h.cl,h.fl,h.fo,h.fn⟩
 .show (be ((dD w).set _ _))=_;rw[gd];exact h.len
 .have hi:=hi;rw[eD,eN,show it (d8 w+1)=it (d8 w)+1 by have:=h.done;omega,gc];show cW (Om ((dD w).set (it (c8 (lZ w))) _) i Sk)=_/\be (nL (Om ((dD w).set (it (c8 (lZ w))) _) i Sk))=_;by_cases e:it (c8 (lZ w))=i
  .subst e;rw[lH (by rw[h.len];exact hlt),show ((aH w).2.2.getD (it (d8 w)) Sk)=lZ w from rfl,lH (by rw[vh];exact hlt),← hst.1];exact⟨rfl,hst.2⟩
  .rw[pZ e,show ((aH w).2.2.getD (it (d8 w)) Sk)=lZ w from rfl,pZ e];exact h.st i hi
theorem LJ:∀(n:Nat){w:aN},gU w->gU (fc n w)
 | 0,w,h=>h
 | n+1,w,h=>by
  rw[fc];split
  next hd=>exact LJ n (h.chg hd)
  .exact h
theorem bt2{l:List Flight}{f:Flight}(h:l.Pairwise λa b=>aW a<=aW b):(iV l f).Pairwise λa b=>aW a<=aW b:=by
 induction l with
 | nil=>simp[iV]
 | cons x l ih =>
  have ⟨a,b⟩:=ca4.1 h;have ih:=ih b;by_cases c:aW x<=aW f
  .have e:iV (x::l) f=x::iV l f:=by
    unfold iV;rw[List.takeWhile_cons_of_pos (by simpa using c),List.dropWhile_cons_of_pos (by simpa using c)];rfl
   rw[e];refine ca4.2 ⟨λy hy=>?_,ih⟩;obtain rfl|hy:=JC.1 hy
   .exact c
   .exact a y hy
  .have e:iV (x::l) f=f::x::l:=by
    unfold iV;rw[List.takeWhile_cons_of_neg (by simpa using c),List.dropWhile_cons_of_neg (by simpa using c)];rfl
   rw[e];refine ca4.2 ⟨λy hy=>?_,h⟩;obtain rfl|hy:=dO.1 hy
   .omega
   .have:=a y hy;omega
theorem gU.crosses{w:aN}(h:gU w){f:Flight}{out:bY9}(hf:0<=bX f/\bX f<(aH w).1.length)
  (hk:out.1∈de ((aH w).1.getD (it (bX f)) Sk)) (hb:bytes out.2) (hl:(be out.2:Int)<=2000):gU (ig w f out):=by
 have hi:it (bX f)<(aH w).1.length:=ab
 have ⟨⟨k0,k1⟩,snd,o1,o2⟩:=EF h.net hi hk
 rw[show ((it (bX f):Nat):Int)=bX f by omega] at o1 o2
 have ov:=Lh (w:=w) (k:=out.1) snd h.now
 have base:gU (xW w ((iD w).set (it out.1) (bZ4.wrap (pW w out.1+1)))):=by
  refine⟨h.net,h.now,h.done,h.len,h.st,?_,h.fl,h.fo,h.fn⟩;show be ((iD w).set _ _)=_;rw[gd];exact h.cl
 unfold ig
 dsimp only
 split
 .exact⟨base.net,base.now,base.done,base.len,base.st,base.cl,base.fl,base.fo,base.fn⟩
 split
 .exact⟨base.net,base.now,base.done,base.len,base.st,base.cl,base.fl,base.fo,base.fn⟩
 rename_i q
 refine⟨base.net,base.now,base.done,base.len,base.st,base.cl,bt2 h.fl,?_,?_⟩
 .intro x hx;have hx:=hx;obtain rfl|hx:=JC.1 hx
  .exact⟨⟨by show ce w<=qu w out.1;omega,by show qu w out.1<=_;omega⟩,o1,.inr o2,hb,hl⟩
  .exact h.fo x hx
 .show (be (iV (aL w) _))<=4096;rw[FE];omega
theorem gU.out{w:aN}(h:gU w){f:Flight}(hf:zN (aH w) (ce w) f) :
  TJ ((aH w).1.getD (it (bX f)) Sk) (Om (dD w) (it (bX f)) Sk) (bT w f):=by
 have hi:it (bX f)<(aH w).1.length:=by have:=hf.nd;omega
 obtain⟨-,-,h3⟩:=GG (h.chk hi)
 exact Nl (lk:=ju f) (t:=aW f) (zP h.net hi) (λr hr=>(h3 r hr).2) hf.b
theorem gU.land{w:aN}(h:gU w){f:Flight}(hf:zN (aH w) (ce w) f):gU (jS w f):=by
 have hi:it (bX f)<(aH w).1.length:=by have:=hf.nd;omega
 have O:=h.out hf
 have T:=(X0 ((aH w).1.getD (it (bX f)) Sk) (Om (dD w) (it (bX f)) Sk) (ju f) (aW f) (gS f)).2.1
 have eH:bT w f=gH ((aH w).1.getD (it (bX f)) Sk) (Om (dD w) (it (bX f)) Sk) (ju f) (aW f) (gS f):=rfl
 rw[← eH] at T
 have ha:gU (jP w ((dD w).set (it (bX f)) (bT w f).1)):=by
  refine⟨h.net,h.now,h.done,?_,λi hl=>?_,h.cl,h.fl,h.fo,h.fn⟩
  .show (be ((dD w).set _ _))=_;rw[gd];exact h.len
  .have hl:=hl;show cW (Om ((dD w).set (it (bX f)) (bT w f).1) i Sk)=_/\be (nL (Om ((dD w).set (it (bX f)) (bT w f).1) i Sk))=_;by_cases e:it (bX f)=i
   .subst e;rw[lH (by rw[h.len];exact hi)];exact⟨O.rt.trans (h.st _ hi).1,T.trans (h.st _ hi).2⟩
   .rw[pZ e];exact h.st i hl
 unfold jS
 dsimp only
 have key:∀ B,gU B->aH B=aH w->gU (if 0<(bT w f).2.1.2.length then ig B f (bT w f).2.1 else B):=by
  intro B hB b1;split
  .rename_i hp;have hr:(bT w f).2.2=0∨(bT w f).2.2=2:=by
    by_cases z0:(bT w f).2.2=0
    .exact .inl z0
    by_cases z2:(bT w f).2.2=2
    .exact .inr z2
    .have:=O.none z0 z2;rw[this] at hp;exact absurd hp (by simp[lJ])
   have ⟨p1,p2,p3⟩:=O.some hr;exact hB.crosses (by rw[b1];exact hf.nd) (by rw[b1];exact Gr h.net hi p3) O.byt ab
  .exact hB
 apply key
 .split <;> (split <;> exact⟨ha.net,ha.now,ha.done,ha.len,ha.st,ha.cl,ha.fl,ha.fo,ha.fn⟩)
 .split <;> (split <;> rfl)
theorem WC{w:aN}(h:gU w){f:Flight}(hf:zN (aH w) (ce w) f):aH (jS w f)=aH w/\ce (jS w f)=ce w ∧
  (aL (jS w f)=aL w∨∃ g,ce w+1<=aW g/\aL (jS w f)=iV (aL w) g):=by
 have hi:it (bX f)<(aH w).1.length:=by have:=hf.nd;omega
 have O:=h.out hf
 unfold jS
 dsimp only
 have key:∀ B,aH B=aH w->ce B=ce w->aL B=aL w →
   (aH (if 0<(bT w f).2.1.2.length then ig B f (bT w f).2.1 else B)=aH w/\ce (if 0<(bT w f).2.1.2.length then ig B f (bT w f).2.1 else B)=ce w ∧
    (aL (if 0<(bT w f).2.1.2.length then ig B f (bT w f).2.1 else B)=aL w∨∃ g,ce w+1<=aW g/\aL (if 0<(bT w f).2.1.2.length then ig B f (bT w f).2.1 else B)=iV (aL w) g)):=by
  intro B b1 b2 b3;split
  .rename_i hp;have ⟨c1,c2,c3⟩:=Rw B f (bT w f).2.1;refine⟨c1.trans b1,c2.trans b2,?_⟩;obtain c3|⟨g,g1,g2⟩:=c3
   .exact .inl (c3.trans b3)
   .have hr:(bT w f).2.2=0∨(bT w f).2.2=2:=by
     by_cases z0:(bT w f).2.2=0
     .exact .inl z0
     by_cases z2:(bT w f).2.2=2
     .exact .inr z2
     .have:=O.none z0 z2;rw[this] at hp;exact absurd hp (by simp[lJ])
    obtain⟨-,snd,-⟩:=EF h.net hi (Gr h.net hi (O.some hr).2.2);have ov:=Lh (w:=B) (k:=(bT w f).2.1.1) (by unfold fQ;rw[b1];exact snd) (by rw[b2];exact h.now);exact .inr ⟨g,by rw[g1,← b2];exact ov.1,by rw[g2,b3]⟩
  .exact⟨b1,b2,.inl b3⟩
 apply key
 all_goals (split <;> (split <;> rfl))
theorem gU.step{w:aN}(h:gU w){f:Flight}{r:List Flight}(e:aL w=f::r) :
  gU (eO w)/\aH (eO w)=aH w/\ce (eO w)=aW f∧∀ to,aW f<=to->gm to (aL (eO w))+1<=gm to (aL w):=by
 have hp:=h.fl
 rw[e] at hp
 have ⟨p1,p2⟩:=ca4.1 hp
 have hf:=h.fo f (by rw[e];exact eV)
 have hb:gU (cQ (gu w r) (aW f)):=by
  refine⟨h.net,⟨by show 0<=aW f;have:=h.now;have:=hf.t;omega,hf.t.2⟩,h.done,h.len,h.st,h.cl,p2,λx hx=>?_,?_⟩
  .have hx:=hx;have k:=h.fo x (by rw[e];exact fu _ hx);exact⟨⟨p1 x hx,k.t.2⟩,k.nd,k.l,k.b,k.d⟩
  .show (be r)<=4096;have:=h.fn;rw[e,cX] at this;omega
 have es:eO w=jS (dh (cQ (gu w r) (aW f))) f:=by unfold eO;rw[e];rfl
 have c1:gU (dh (cQ (gu w r) (aW f))):=LJ _ hb
 have c2:=Gs ((aH w).2.2.length-it (d8 w)) (cQ (gu w r) (aW f))
 have n1:aH (dh (cQ (gu w r) (aW f)))=aH w:=c2.1
 have n2:ce (dh (cQ (gu w r) (aW f)))=aW f:=c2.2.1
 have n4:aL (dh (cQ (gu w r) (aW f)))=r:=(MV _).1
 generalize dh (cQ (gu w r) (aW f))=v at c1 n1 n2 n4 es
 have hfv:zN (aH v) (ce v) f:=by
  rw[n1,n2];exact⟨⟨io _,hf.t.2⟩,hf.nd,hf.l,hf.b,hf.d⟩
 have L:=WC c1 hfv
 rw[es]
 refine⟨c1.land hfv,L.1.trans n1,L.2.1.trans n2,λto hto=>?_⟩
 rw[e,sN]
 obtain q|⟨g,g1,g2⟩:=L.2.2
 .rw[q,n4];omega
 .rw[g2,n4,Sm];rw[n2] at g1;omega
theorem WX{b:ad}(hb:bytes b)(h:j5 b=0):cB (lE b)=CF (cB b)/\dN (lE b)=0/\(lE b).drop 20=b.drop 20:=by
 have hd:=jn λk=>by rw[j5,aj k] at h;exact k h
 have ht:¬ (cB b).2.2.1<2:=λk=>by rw[j5,ah (λq=>q hd),aj k] at h;cases h
 have ⟨⟨h1,⟨h2,h2'⟩,h3,h4,h5⟩,l1,l2⟩:=CO hb hd
 have hk:nj (CF (cB b)):=⟨h1,⟨by show 0<=(cB b).2.2.1-1;omega,by show (cB b).2.2.1-1<=255;omega⟩,h3,h4,h5⟩
 have hl:(be (b.drop 20):Int)<=1480:=by rw[gw];omega
 have e:jh (CF (cB b),b.drop 20)=0:=by
  rw[jh,ah (by rw[uj];exact hk),ah (by simp only;omega)]
 rw[lE,aj h,gM,aj e]
 exact NG hk (y9 hb 12) (y9 hb 16) hl (yx hb)
theorem bE4{b:ad}(hb:bytes b)(hn:¬ fJ b):¬ fJ (if j5 b=0 then lE b else b):=by
 split
 next h=>
  have ⟨e1,e2,e3⟩:=WX hb h;have hd:=jn λk=>by rw[j5,aj k] at h;exact k h
  rintro⟨-,k⟩;apply hn;refine⟨hd,?_⟩;rw[cJ,aj e2,e1,e3] at k;rw[cJ,aj hd];exact k
 .exact hn
theorem MK{b:ad}{f kind code id ttl:Int}(hb:bytes b)(hf:u32 f)(h:iW b kind code id ttl=0):¬ fJ (kU b f kind code id ttl):=by
 have hg:=jn λk=>by rw[iW,aj k] at h;cases h
 have ha:=jn λk=>by rw[iW,ah (λq=>q hg),ah k] at h;cases h
 obtain⟨-,e,en,ei⟩:=Ij (src:=f) hg ha
 have hk:=hg.1
 rw[e]
 have ⟨s1,s2,s3,s4⟩:=Ep (src:=f) (dst:=dF b) (proto:=1) (data:=j9 (kind,code,b.take 28)) hg.2.2 ab hf (y9 hb 12) (MQ _) (MH en (QO hb))
 intro k
 have hp1:fi (gM (kR f (dF b) 1 id ttl (j9 (kind,code,b.take 28))))=1:=by rw[fi,s2]
 have:=(ur k).2.2.1 hp1
 rw[s3,(SZ en).1] at this
 simp only at this
 omega
theorem au2{b:ad}{f id ttl:Int}(hb:bytes b)(hf:u32 f)(h:jd b id ttl=0):¬ fJ (lS b f id ttl):=by
 have hn:=jn λk=>by rw[jd,aj k] at h;cases h
 have hg:=jn λk=>by rw[jd,ah (λq=>q hn),ah k] at h;cases h
 obtain⟨-,l1,l2⟩:=CO hb hg.1.1
 have hd:=yx (n:=20) hb
 obtain⟨ha,⟨g1,g2⟩|⟨g1,g2⟩|⟨g1,g2,g3,g4⟩⟩:=hg
 .rw[(J2 (src:=f) hn ha g1 g2).1];have hE:(be (gD (bZ3,(gT (b.drop 20)).2)):Int)<=1480/\bytes (gD (bZ3,(gT (b.drop 20)).2)):=by
   have e:(gT (b.drop 20)).2.2.2=(b.drop 20).drop 8:=by unfold gT;rw[aj g2]
   refine YI ?_ ?_
   .show bytes (gT (b.drop 20)).2.2.2;rw[e];exact yx hd
   .show ((gT (b.drop 20)).2.2.2.length:Int)<=1472;rw[e];simp only[gw];omega
  have ⟨s1,s2,s3,s4⟩:=Ep (src:=f) (dst:=dF b) (proto:=1) hn ab hf (y9 hb 12) hE.1 hE.2;intro k;have h8:=(ur k).2.2.1 (by rw[fi,s2]);have h28:=(ur k).2.1;rw[s3] at h8;rw[s4] at h28;unfold gD at h8 h28;split at h8
  .have:Om (dL (eJ (bZ3,(gT (b.drop 20)).2)) 2 (eG (eJ (bZ3,(gT (b.drop 20)).2)))) 0 Sk=0:=rfl;rw[this] at h8;cases h8
  next z=>rw[ah z] at h28;simp at h28
 .rw[(IH (src:=f) hn ha g1 g2).1];exact MK hb hf (NK hn ha)
 .rw[(Ki (src:=f) hn ha g1 g2 g3 g4).1];have hE:(be (gQ f (dF b) (ou (gn (dF b) (gV b) (b.drop 20)))):Int)<=1480/\bytes (gQ f (dF b) (ou (gn (dF b) (gV b) (b.drop 20)))):=Uy rfl;have ⟨s1,s2,s3,s4⟩:=Ep (src:=f) (dst:=dF b) (proto:=6) hn ab hf (y9 hb 12) hE.1 hE.2;intro k;have h28:=(ur k).2.1;rw[s4] at h28;unfold gQ at h28;split at h28
  next z=>have hfl:=(ur k).2.2.2.1 (by rw[fi,s2]);rw[s3] at hfl;unfold gQ at hfl;rw[aj z] at hfl;have h13:Om (dL (nS (ou (gn (dF b) (gV b) (b.drop 20)))) 16 (iC f (dF b) 6 (nS (ou (gn (dF b) (gV b) (b.drop 20)))))) 13 Sk=20:=rfl;rw[h13,oa,JH] at hfl;have:=hfl (by show 14<=20+_;omega);exact absurd this aB
  .simp at h28
theorem aZ9{x:au}{lk L:Int}(N:ua x)(A:B3 x)(hL:0<=fS x L):u32 (nU x (dS x lk) L):=by
 have l1:=(yr hL).1
 unfold nU
 split
 .exact (Ji A hL l1).1
 split
 .exact A.2.1
 split
 .exact A.2.2
 .exact (Ji A (J1 x lk) (bu2 N lk)).1
theorem ao7{ki:Int}{w:fK}{f id:Int}(hb:bytes w.2.2.2.2.1)(hf:u32 f)(hn:lv id (lK w.1))(h:kE ki w 0=0):¬ fJ (kB ki w f id):=by
 have ha:=NN h
 unfold kB
 split
 .exact MK hb hf (by rw[iW,ah (λk=>k ⟨.inl rfl,ab,hn⟩),aj ha])
 split
 .exact MK hb hf (by rw[iW,ah (λk=>k ⟨.inr rfl,ab,hn⟩),aj ha])
 next k2 k3=>
  have h:jd w.2.2.2.2.1 0 (lK w.1)=0:=by
   unfold kE at h;rw[ah k2,ah k3] at h;exact h
  have hg:Cx w.2.2.2.2.1:=jn λq=>by
   rw[jd] at h;split at h
   .cases h
   .cases h
  exact au2 hb hf (G2 hn hg)
theorem aM3{x:au}{s:NState}{lk t:Int}{b:ad}(N:ua x)(A:B3 x)(hrt:∀ r∈cW s,pm r (de x))(hb:bytes b) :
  ((gH x s lk t b).2.2=2->fJ b∧¬ fJ (gH x s lk t b).2.1.2)/\((gH x s lk t b).2.2=0→¬ fJ b→¬ fJ (gH x s lk t b).2.1.2):=by
 constructor
 .intro h2;have hbo:=jn λk=>aj5 k h2;refine⟨hbo,?_⟩;have ⟨ki,e,hk⟩:=OI h2;rw[e] at h2 ⊢;obtain⟨w,hw⟩:∃ w,w=KS x s lk t b:=⟨_,rfl⟩
  rw[← hw] at h2 ⊢;have ⟨a1,a2,a3⟩:=Md h2;have w1:w.1=x:=by rw[hw];rfl
  have w2:w.2.1=s:=by rw[hw];rfl
  have w3:w.2.2.1=lk:=by rw[hw];rfl
  have w5:w.2.2.2.2.1=b:=by rw[hw];rfl
  have w6:w.2.2.2.2.2=cB b:=by
   have:w.2.2.2.2.2=(cJ b).1:=by rw[hw];rfl
   rw[this,cJ,aj hbo.1]
  have hn:=W6 (w:=w) (by rw[w1];exact N.id) (by rw[w1];exact N.form) (by rw[w6];exact rI hb 4);have hL:0<=fS x (mh (kB ki w) w):=by
   have:=P0 hrt (a:=o3 w.2.2.2.2.2) (by rw[← w2];exact a2) (om w) (iF (kB ki w (adr w.1 (dS w.1 w.2.2.1)) 0));unfold mh po;rw[w1,w2];rw[w1] at this;exact this
  have hf:u32 (ly (kB ki w) w (sP ki w)):=by
   unfold ly;split
   .rw[w1,w3];exact aZ9 N A hL
   .rename_i k;unfold sP at k ⊢;split
    .rw[w6];exact y9 hb 16
    next z=>rw[ah z] at k;exact absurd rfl k
  have ho:(wJ w ki).2.1.2=kB ki w (ly (kB ki w) w (sP ki w)) (jf w):=dP (λr:rm=>r.2.1.2) a3;rw[ho];exact ao7 (by rw[w5];exact hb) hf hn a1
 .intro h0 hno;have F:=Og h0;rw[Ni (t:=t) F];show ¬ fJ (if lk ≠ -1/\gB x=bZ6 then lE b else b);split
  .rename_i k;have ht:=F.ttl;have e1:(cJ b).1=cB b:=by rw[cJ,aj F.dec]
   rw[e1] at ht;have hl:j5 b=0:=by
    rw[j5,ah (λq=>q F.dec)];exact ah (λq=>ht ⟨k.1,k.2,q⟩)
   have:=bE4 hb hno
   rwa [aj hl] at this
  .exact hno
def uh(w:aN)(at' who:Int)(b:ad):aN:=DY w (at',0,who,-1,dc w,b)
theorem dR.send{w:aN}{K:Int}(h:dR w K)(hK:K<=2199023255552){at' who:Int}{b:ad}(ha:ce w<=at'∧at'<=1125899906842624)(hw:0<=who/\who<(aH w).1.length)(hb:bytes b)(hl:(be b:Int)<=2000)
  (hf:be (aL w)<4096):dR (uh w at' who b) (K+1)/\dc (uh w at' who b)=dc w+1:=by
 have hord:=h.ord
 have ew:bZ4.wrap (dc w+1)=dc w+1:=aG ab ab
 have eo:dc (uh w at' who b)=dc w+1:=ew
 have h':=h.more (K':=K+1) ab
 refine⟨⟨h'.net,h'.now,by rw[eo];omega,h'.done,h'.len,h'.st,h'.cl,h'.cr,?_,?_,?_⟩,eo⟩
 .exact Rb h.fl λx hx=>(h.fo x hx).o.2
 .intro x hx;have hx:=hx;show yj (aH w) (ce w) (dc (uh w at' who b)) x;rw[eo];obtain rfl|hx:=JC.1 hx
  .exact⟨ha,⟨by show 0<=dc w;omega,by show dc w<dc w+1;omega⟩,hw,.inl rfl,⟨by show 0<=dc w;omega,by show dc w<dc w+1;omega⟩,hb,hl⟩
  .have k:=h.fo x hx;exact⟨k.t,⟨k.o.1,by have:=k.o.2;omega⟩,k.nd,k.l,⟨k.g.1,by have:=k.g.2;omega⟩,k.b,k.d⟩
 .show (be (iV (aL w) _))<=4096;rw[FE];omega
def Aq(n:Net):aN:=(n,0,0,0,n.1.map sZ,cq2 (be n.2.1) 0,[],[],[])
theorem dR.new{n:Net}(h:iR n=0):dR (Aq n) 0:=by
 refine⟨h,⟨by show (0:Int)<=0;omega,by show (0:Int)<=_;omega⟩,⟨by show (0:Int)<=0;omega,by show (0:Int)<=0;omega⟩,⟨by show (0:Int)<=0;omega,by show (0:Int)<=_;omega⟩,?_,λi hi=>?_,?_,λc hc=>?_,ce6,λf hf=>(by cases hf),by show (0:Nat)<=4096;omega⟩
 .show (be (n.1.map sZ))=_;rw[kW];rfl
 .have hi:i<be n.1:=hi;show jO (Om n.1 i Sk) (Om (n.1.map sZ) i Sk) 0/\cW (Om (n.1.map sZ) i Sk)=Om (gc n (it (0:Int))) i Sk;rw[G8 hi];refine⟨UZ (zP h hi),?_⟩;show bW (Om n.1 i Sk)=Om (n.1.map bW) i Sk;rw[G8 hi]
 .show (be (cq2 (be n.2.1) (0:Int)))=_;rw[vU];rfl
 .have hc:=hc;rw[List.eq_of_mem_replicate hc];omega
theorem Lr.one{c:Int}{l:List Flight}{g:Flight}(h:l.Pairwise λa b=>aW a<=aW b)(hg:c<aW g):Lr c l (iV l g):=by
 refine⟨g,l.takeWhile λx=>bZ2 (aW x<=aW g),l.dropWhile λx=>bZ2 (aW x<=aW g),rfl,by rw[yz],hg,λy hy=>?_,?_⟩
 .simpa using ci6.1 (List.all_takeWhile (p:=λx=>bZ2 (aW x<=aW g)) (l:=l)) y hy
 .intro x hx;have h2:=h;rw[← yz (p:=λx=>bZ2 (aW x<=aW g)) (l:=l)] at h2;obtain⟨-,b,-⟩:=List.pairwise_append.1 h2;cases hh:l.dropWhile (λx=>bZ2 (aW x<=aW g)) with
  | nil=>rw[hh] at hx;cases hx
  | cons y r =>
   have hy:¬ aW y<=aW g:=by
    have:=List.head_dropWhile_not (p:=λx=>bZ2 (aW x<=aW g)) (l:=l) (by rw[hh];simp);simp only[hh,List.head_cons] at this;simpa using this
   rw[hh] at hx b;obtain rfl|hx:=dO.1 hx
   .omega
   .have:=(ca4.1 b).1 x hx;omega
def Bc(b:ad):Nat:=if dN b=0 then (cB b).2.2.1.toNat else 0
def s8(n:Net)(f:Flight):Nat:=1+2*Bc (gS f)+(if gB (Om n.1 (it (bX f)) Sk)=bZ3 then 1 else 0)+(if ju f = -1 then 2 else 0)+(if fJ (gS f) then 600 else 0)
def uZ(n:Net)(l:List Flight):Nat:=(l.map (s8 n)).sum
def lR(w:aN):Nat:=uZ (aH w) (aL w)
def C2(n:Net):Prop:=∀ i:Nat,i<be n.1->B3 (Om n.1 i Sk)
theorem XM{b:ad}(hb:bytes b):Bc b<=255:=by
 unfold Bc
 split
 next h=>obtain⟨⟨-,⟨h1,h2⟩,-⟩,-⟩:=CO hb h;omega
 .omega
theorem bD0{n:Net}(h:iR n=0):∀ l∈n.2.1,nV n.1 l=false:=by
 unfold iR at h
 obtain⟨-,h⟩:=ut h
 obtain⟨-,h⟩:=ut h
 obtain⟨-,h⟩:=ut h
 obtain⟨-,h⟩:=ut h
 obtain⟨-,h⟩:=ut h
 obtain⟨h,-⟩:=ut h
 unfold wj at h
 intro l hl
 split at h
 .cases h
 next k=>
  cases e:nV n.1 l with
  | false=>rfl
  | true=>exact absurd (cc5.2 ⟨l,hl,e⟩) k
theorem aj3{n:Net}(h:iR n=0){k x:Int}(hk:0<=k/\k<be n.2.1)(hx:gB (Om n.1 (it x) Sk)=bZ3)(ho:0<=ku n.2.1 k x):gB (Om n.1 (it (ku n.2.1 k x)) Sk)=false:=by
 have hd:=bD0 h (Om n.2.1 (it k) Sk) (dm hk.1 hk.2)
 unfold nV at hd
 unfold ku at ho ⊢
 rw[ah ab] at ho ⊢
 split at ho
 next e=>rw[aj e];rw[← e,hx,Bool.true_and] at hd;exact hd
 .split at ho
  next e0 e=>rw[ah e0,aj e];rw[← e,hx,Bool.and_true] at hd;exact hd
  .omega
theorem bs8{b:ad}(hb:bytes b)(h:j5 b=0):Bc (lE b)+1=Bc b:=by
 obtain⟨e1,e2,-⟩:=WX hb h
 have hd:=jn λk=>by rw[j5,aj k] at h;exact k h
 have ht:¬ (cB b).2.2.1<2:=λk=>by rw[j5,ah (λq=>q hd),aj k] at h;cases h
 unfold Bc
 rw[aj e2,aj hd,e1]
 show it ((cB b).2.2.1-1)+1=_
 omega
theorem bM4{v:aN}(h:gU v){f:Flight}(hf:zN (aH v) (ce v) f)(A:C2 (aH v))(hp:0<(bT v f).2.1.2.length)(t o og:Int) :
  s8 (aH v) (t,o,ku (aH v).2.1 (bT v f).2.1.1 (bX f),(bT v f).2.1.1,og,(bT v f).2.1.2)+1<=s8 (aH v) f:=by
 have hi:it (bX f)<(aH v).1.length:=by have:=hf.nd;omega
 have N:=zP h.net hi
 have O:=h.out hf
 obtain⟨-,-,h3⟩:=GG (h.chk hi)
 have Z:=aM3 (lk:=ju f) (t:=aW f) N (A _ hi) (λr hr=>(h3 r hr).2) hf.b
 have eH:bT v f=gH ((aH v).1.getD (it (bX f)) Sk) (Om (dD v) (it (bX f)) Sk) (ju f) (aW f) (gS f):=rfl
 have hr:(bT v f).2.2=0∨(bT v f).2.2=2:=by
  by_cases z0:(bT v f).2.2=0
  .exact .inl z0
  by_cases z2:(bT v f).2.2=2
  .exact .inr z2
  .have:=O.none z0 z2;rw[this] at hp;exact absurd hp (by simp[lJ])
 obtain⟨⟨k0,k1⟩,-,⟨o1,-⟩,-⟩:=EF h.net hi (Gr h.net hi (O.some hr).2.2)
 rw[show ((it (bX f):Nat):Int)=bX f by have:=hf.nd;omega] at o1
 have hk:¬ (bT v f).2.1.1 = -1:=ab
 show 1+2*Bc (bT v f).2.1.2+(if gB ((aH v).1.getD (it (ku (aH v).2.1 (bT v f).2.1.1 (bX f))) Sk)=bZ3 then 1 else 0)+(if (bT v f).2.1.1 = -1 then 2 else 0)+(if fJ (bT v f).2.1.2 then 600 else 0)+1<=_
 rw[ah hk]
 have hD:=aj3 (x:=bX f) h.net ⟨k0,k1⟩
 rw[← eH] at Z
 have hob:=O.byt
 have t1:=XM hob
 unfold s8
 generalize gB ((aH v).1.getD (it (ku (aH v).2.1 (bT v f).2.1.1 (bX f))) Sk)=oy at *
 obtain hr|hr:=hr
 .have F:=Og (by rw[← eH];exact hr);have e:=Ni (t:=aW f) F;rw[← eH] at e;have e2:(bT v f).2.1.2=if ju f ≠ -1/\gB ((aH v).1.getD (it (bX f)) Sk)=bZ6 then lE (gS f) else gS f:=by rw[e]
  have ha:(if fJ (bT v f).2.1.2 then 600 else 0)<=(if fJ (gS f) then 600 else 0):=by
   split
   next q=>rw[aj (jn λk=>Z.2 hr k q)];omega
   .omega
  generalize (if fJ (bT v f).2.1.2 then 600 else 0)=a1 at *;generalize (if fJ (gS f) then 600 else 0)=a2 at *;cases ox:gB ((aH v).1.getD (it (bX f)) Sk) with
  | true =>
   have:=hD ox o1;rw[this] at *;rw[e2,ah (by rw[ox];simp)];simp;omega
  | false =>
   by_cases hl:ju f = -1
   .rw[e2,ah (λq=>q.1 hl),aj hl];cases oy <;> simp <;> omega
   .have hlow:j5 (gS f)=0:=by
     have ht:=F.ttl;rw[cJ,aj F.dec] at ht;unfold j5;rw[ah (λk=>k F.dec),ah];intro q;exact ht ⟨hl,ox,q⟩
    have:=bs8 hf.b hlow;rw[e2,aj ⟨hl,ox⟩,ah hl];cases oy <;> simp <;> omega
 .have ⟨z1,z2⟩:=Z.1 hr;rw[ah z2,aj z1];cases oy <;> simp <;> omega
theorem XB(n:Net)(l:List Flight)(f:Flight):uZ n (iV l f)=uZ n l+s8 n f:=by
 have e:uZ n l=uZ n ((l.takeWhile λx=>bZ2 (aW x<=aW f))++(l.dropWhile λx=>bZ2 (aW x<=aW f))):=by rw[yz]
 rw[e]
 unfold uZ iV
 simp only[kJ,fF,List.sum_append,cq4]
 omega
theorem TD(w:aN)(f:Flight)(out:bY9):be (dZ (ig w f out))<=be (dZ w)+1/\bO (ig w f out)=bO w ∧
  (aL (ig w f out)=aL w∨∃ t o,aL (ig w f out)=iV (aL w) (t,o,ku (aH w).2.1 out.1 (bX f),out.1,qB f,out.2)):=by
 unfold ig
 dsimp only
 split
 .exact⟨by show be ((dZ w)++[_])<=_;simp,rfl,.inl rfl⟩
 .split
  .exact⟨by show be ((dZ w)++[_])<=_;simp,rfl,.inl rfl⟩
  .exact⟨by show be (dZ w)<=_;omega,rfl,.inr ⟨_,_,rfl⟩⟩
theorem aX1{v:aN}(h:gU v){f:Flight}(hf:zN (aH v) (ce v) f)(A:C2 (aH v)) :
  be (dZ (jS v f))<=be (dZ v)+2/\be (bO (jS v f))<=be (bO v)+1/\uZ (aH v) (aL (jS v f))+1<=uZ (aH v) (aL v)+s8 (aH v) f:=by
 have h1:1<=s8 (aH v) f:=by unfold s8;omega
 unfold jS
 dsimp only
 generalize hb:(if (bT v f).2.2=1 then zL (jP v ((dD v).set (it (bX f)) (bT v f).1)) (bO (jP v ((dD v).set (it (bX f)) (bT v f).1))++[(aW f,bX f,gS f)]) else jP v ((dD v).set (it (bX f)) (bT v f).1))=B
 have eB:aH B=aH v/\aL B=aL v/\dZ B=dZ v/\be (bO B)<=be (bO v)+1:=by
  rw[← hb];split
  .exact⟨rfl,rfl,rfl,by show be ((bO v)++[_])<=_;simp⟩
  .exact⟨rfl,rfl,rfl,by show be (bO v)<=_;omega⟩
 clear hb
 have ⟨b1,b2,b3,b4⟩:=eB
 generalize hc:(if (bT v f).2.2≠0 then qF B f (ju f) (bT v f).2.2 else B)=C
 have eC:aH C=aH v/\aL C=aL v/\be (dZ C)<=be (dZ v)+1/\bO C=bO B:=by
  rw[← hc];split
  .exact⟨b1,b2,by show be ((dZ B)++[_])<=_;rw[b3];simp,rfl⟩
  .exact⟨b1,b2,by rw[b3];omega,rfl⟩
 clear hc
 have ⟨c1,c2,c3,c4⟩:=eC
 split
 next hp=>
  have ⟨d1,d2,d3⟩:=TD C f (bT v f).2.1;refine⟨ab,by rw[d2,c4];exact b4,?_⟩;obtain d3|⟨t,o,d3⟩:=d3
  .rw[d3,c2];omega
  .rw[d3,c2,XB,c1];have:=bM4 h hf A hp t o (qB f);omega
 .exact⟨ab,by rw[c4];exact b4,by rw[c2];omega⟩
theorem gU.okDn{w:aN}(h:gU w):okDn w:=⟨h.done.1,by have:=FF h.net;omega⟩
theorem bW6{w:aN}(h:gU w)(hd:nR w=bZ3):dh w=dh (jN w):=by
 have ⟨h1,h2,h3⟩:=Fq h.okDn hd
 have e:=Jr h.okDn (n:=l8 (jN w)+1) ab
 rw[e,fc,aj hd]
 rfl
theorem a38{w:aN}(hd:¬ nR w=bZ3):dh w=w:=by
 unfold dh
 cases (aH w).2.2.length-it (d8 w) with
 | zero=>rfl
 | succ n=>rw[fc,ah hd]
theorem z4(w:aN):(dh w).1=w.1/\aL (dh w)=aL w/\dZ (dh w)=dZ w/\bO (dh w)=bO w/\dc (dh w)=dc w/\ce (dh w)=ce w:=by
 have k:=Gs ((aH w).2.2.length-it (d8 w)) w
 have e:=k.2.2.2
 exact⟨k.1,dP (λx:ad×List Flight×List Del×List EndR=>x.2.1) e,dP (λx:ad×List Flight×List Del×List EndR=>x.2.2.2) e,dP (λx:ad×List Flight×List Del×List EndR=>x.2.2.1) e,k.2.2.1,k.2.1⟩
theorem am4(n:Net)(f:Flight)(l:List Flight):uZ n (f::l)=s8 n f+uZ n l:=by unfold uZ;rw[fF,cq4]
theorem yj.wk{n:Net}{t o:Int}{f:Flight}(h:yj n t o f):zN n t f:=⟨h.t,h.nd,h.l,h.b,h.d⟩
def we(n:Net):Prop:=(be n.1:Int)<=1000000/\(be n.2.1:Int)<=1000000/\(be n.2.2:Int)<=1000000/\(∀ x∈n.1,(be (aS x):Int)<=1000000/\okL (bW x))∧∀ c∈n.2.2,((gK c).2.1.length:Int)<=1099511627776
def Dx(w:aN):Prop:=we (aH w)/\(be (dD w):Int)<=1000000/\(be (iD w):Int)<=1000000/\(be (aL w):Int)<=1000000/\(be (bO w):Int)<=1000000000000/\(be (dZ w):Int)<=1000000000000 ∧
 (∀ s∈dD w,(be (nL s):Int)<=1000000/\okL (cW s))/\(∀ f∈aL w,(be (gS f):Int)<=1000000)∧∀ e∈bO w,(be e.2.2:Int)<=1000000
theorem RB(v:aN)(f:Flight):bO (jS v f)=bO v∨bO (jS v f)=bO v++[(aW f,bX f,gS f)]:=by
 unfold jS
 dsimp only
 generalize hb:(if (bT v f).2.2=1 then zL (jP v ((dD v).set (it (bX f)) (bT v f).1)) (bO (jP v ((dD v).set (it (bX f)) (bT v f).1))++[(aW f,bX f,gS f)]) else jP v ((dD v).set (it (bX f)) (bT v f).1))=B
 have eB:bO B=bO v∨bO B=bO v++[(aW f,bX f,gS f)]:=by
  rw[← hb];split
  .exact .inr rfl
  .exact .inl rfl
 clear hb
 generalize hc:(if (bT v f).2.2≠0 then qF B f (ju f) (bT v f).2.2 else B)=C
 have eC:bO C=bO B:=by rw[← hc];split <;> rfl
 split
 .rw[(TD C f _).2.1,eC];exact eB
 .rw[eC];exact eB
structure eU (B:Int) (w:aN):Prop where
 b:B<=549755813888
 sB:dR w (B-2*lR w)
 a:C2 (aH w)
 c:we (aH w)
 dd:∀ x∈bO w,(be x.2.2:Int)<=2000
 e:(be (dZ w):Int)+2*lR w<=B
 d:(be (bO w):Int)+lR w<=B
abbrev B1(w:aN):Prop:=eU 549755813888 w
theorem eU.s{B:Int}{w:aN}(h:eU B w):dR w (549755813888-2*lR w):=h.sB.more (by have:=h.b;omega)
theorem eU.more{B B':Int}{w:aN}(h:eU B w)(h1:B<=B')(h2:B'<=549755813888):eU B' w:=⟨h2,h.sB.more ab,h.a,h.c,h.dd,by have:=h.e;omega,by have:=h.d;omega⟩
theorem eU.sim{B:Int}{w:aN}(h:eU B w):B1 w:=h.more h.b (io _)
theorem eU.change{B:Int}{w:aN}(h:eU B w):eU B (dh w):=by
 obtain⟨k1,k2,k3,k4,-⟩:=z4 w
 have ep:lR (dh w)=lR w:=by unfold lR;rw[k2];show uZ (dh w).1 _=_;rw[k1];rfl
 exact⟨h.b,by rw[ep];exact h.sB.change,by show C2 (dh w).1;rw[k1];exact h.a,by show we (dh w).1;rw[k1];exact h.c,by rw[k4];exact h.dd,by rw[ep,k3];exact h.e,by rw[ep,k4];exact h.d⟩
theorem eU.cp{B:Int}{w:aN}(h:eU B w):Dx w:=by
 have h1:=h.s.len
 have h2:=FF h.s.net
 have h3:=h.s.cl
 have h4:=h.s.fn
 have h5:=h.e
 have h6:=h.d
 have h7:=h.b
 refine⟨h.c,ab,ab,ab,ab,ab,λs hs=>?_,λf hf=>by have:=(h.s.fo f hf).d;omega,λx hx=>by have:=h.dd x hx;omega⟩
 obtain⟨i,hi,rfl⟩:=cb5.1 hs
 have hi2:i<(aH w).1.length:=ab
 obtain⟨st,-⟩:=h.s.st i hi2
 have e:Om (dD w) i Sk=(dD w)[i]:=by rw[cq,cG hi];rfl
 rw[e] at st
 have:=st.ps
 have:=(zP h.s.net hi2).n32
 exact⟨ab,st.okl⟩
theorem bb8{w:aN}(h:gU w)(A:C2 (aH w)){f:Flight}{r:List Flight}(e:aL w=f::r) :
  lR (eO w)+1<=lR w/\be (dZ (eO w))<=be (dZ w)+2/\be (bO (eO w))<=be (bO w)+1:=by
 obtain⟨-,s2,-⟩:=h.step e
 have es:eO w=jS (dh (cQ (gu w r) (aW f))) f:=by unfold eO;rw[e];rfl
 obtain⟨k1,k2,k3,k4,-,k6⟩:=z4 (cQ (gu w r) (aW f))
 have k2:aL (dh (cQ (gu w r) (aW f)))=r:=k2
 have k6:=k6
 have k1:aH (dh (cQ (gu w r) (aW f)))=aH w:=k1
 have hf:=h.fo f (by rw[e];exact eV ..)
 have hp:=h.fl
 rw[e] at hp
 have h0:gU (cQ (gu w r) (aW f)):=by
  refine⟨h.net,⟨by have:=hf.t;have:=h.now;show 0<=aW f;omega,hf.t.2⟩,h.done,h.len,h.st,h.cl,(ca4.1 hp).2,λx hx=>?_,?_⟩
  .have k:=h.fo x (by rw[e];exact fu _ hx);exact⟨⟨(ca4.1 hp).1 x hx,k.t.2⟩,k.nd,k.l,k.b,k.d⟩
  .have:=h.fn;rw[e] at this;simp at this;show be r<=4096;omega
 have h1:gU (dh (cQ (gu w r) (aW f))):=LJ _ h0
 have ⟨l1,l2,l3⟩:=aX1 h1 (f:=f) (by rw[k1,k6];exact⟨⟨io _,hf.t.2⟩,hf.nd,hf.l,hf.b,hf.d⟩) (by rw[k1];exact A)
 rw[← es] at l1 l2 l3
 rw[k3] at l1
 rw[k4] at l2
 rw[k1,k2] at l3
 refine⟨?_,l1,l2⟩
 unfold lR
 rw[s2,e,am4]
 omega
theorem eU.step{B:Int}{w:aN}(h:eU B w){f:Flight}{r:List Flight}(e:aL w=f::r):eU B (eO w)/\lR (eO w)+1<=lR w:=by
 have ⟨p1,p2,p3⟩:=bb8 h.s.weak h.a e
 obtain⟨s1,s2,-⟩:=h.sB.step (by have:=h.b;omega) e
 have h1:=h.e
 have h2:=h.d
 refine⟨⟨h.b,s1.more ab,by rw[s2];exact h.a,by rw[s2];exact h.c,?_,ab,ab⟩,p1⟩
 have es:eO w=jS (dh (cQ (gu w r) (aW f))) f:=by unfold eO;rw[e];rfl
 have k4:bO (dh (cQ (gu w r) (aW f)))=bO w:=(z4 _).2.2.2.1
 have hf:=h.s.fo f (by rw[e];exact eV ..)
 rw[es]
 obtain q|q:=RB (dh (cQ (gu w r) (aW f))) f
 .rw[q,k4];exact h.dd
 .rw[q,k4];intro x hx;obtain hx|hx:=dI.1 hx
  .exact h.dd x hx
  .rw[kY.1 hx];exact hf.d
theorem bc3{to:Int}:∀(n m:Nat){w:aN},gU w->gm to (aL w)<=n->gm to (aL w)<=m->jD n w to=jD m w to:=by
 have stop:∀{w:aN},gm to (aL w)=0->fE w to=false:=by
  intro w hw;unfold fE;cases e:aL w with
  | nil=>rfl
  | cons f r =>
   rw[e,sN] at hw;exact eT ab
 intro n
 induction n with
 | zero =>
  intro m w h hn hm;have hb:=stop (w:=w) ab;cases m with
  | zero=>rfl
  | succ m=>rw[jD,jD,ah (by rw[hb];simp)]
 | succ n ih =>
  intro m w h hn hm;cases m with
  | zero =>
   have hb:=stop (w:=w) ab;rw[jD,jD,ah (by rw[hb];simp)]
  | succ m =>
   rw[jD,jD];split
   .rename_i hb;unfold fE at hb;cases e:aL w with
    | nil=>rw[e] at hb;cases hb
    | cons f r =>
     rw[e] at hb;have hb:=aX hb;have hpos:1<=gm to (aL w):=by rw[e,sN];omega
     obtain⟨s1,-,-,s4⟩:=h.step e;have:=s4 to hb;exact ih m s1 ab ab
   .rfl
theorem PZ{w:aN}{to:Int}(h:gU w)(hb:fE w to=bZ3):fW w to=fW (eO w) to:=by
 have hb0:=hb
 unfold fE at hb
 cases e:aL w with
 | nil=>rw[e] at hb;cases hb
 | cons f r =>
  rw[e] at hb;have hb:=aX hb;have hpos:1<=gm to (aL w):=by rw[e,sN];omega
  obtain⟨s1,-,-,s4⟩:=h.step e;have:=s4 to hb;obtain⟨k,hk⟩:∃ k,gm to (aL w)=k+1:=⟨gm to (aL w)-1,ab⟩
  have e1:fW w to=jD k (eO w) to:=by unfold fW;rw[hk,jD,aj hb0]
  rw[e1];exact bc3 _ _ s1 ab (dq _)
theorem ON{w:aN}{to:Int}(hb:fE w to=bZ6):fW w to=w:=EP hb _
theorem eU.run{B to:Int}:∀(n:Nat){w:aN},eU B w->lR w<=n->eU B (fW w to)/\fE (fW w to) to=bZ6/\aH (fW w to)=aH w/\lR (fW w to)<=lR w
 | n,w,h,hn=>by
  cases hb:fE w to with
  | false=>rw[ON hb];exact⟨h,hb,rfl,dq _⟩
  | true =>
   rw[PZ h.s.weak hb];cases e:aL w with
   | nil=>unfold fE at hb;rw[e] at hb;cases hb
   | cons f r =>
    obtain⟨k1,k2⟩:=h.step e;obtain⟨-,s2,-⟩:=h.s.weak.step e;cases n with
    | zero=>omega
    | succ n =>
     obtain⟨a,b,c,d⟩:=eU.run n k1 ab;exact⟨a,b,c.trans s2,ab⟩
def LA:aN:=(([],[],[]),0,0,0,[],[],[],[],[])
def vz(w:aN):Prop:=w=cQ LA (ce w)/\0<=ce w/\ce w<=1125899906842624
def ry(w:aN):Prop:=B1 w∨vz w
theorem vz.fl{w:aN}(h:vz w):aL w=[]:=by rw[h.1];rfl
theorem vz.cp{w:aN}(h:vz w):Dx w:=by
 rw[h.1]
 have Z:∀{b:Int},0<=b->((0:Nat):Int)<=b:=λh=>h
 exact⟨⟨Z aB,Z aB,Z aB,λx hx=>(by cases hx),λx hx=>(by cases hx)⟩,Z aB,Z aB,Z aB,Z aB,Z aB,λx hx=>(by cases hx),λx hx=>(by cases hx),λx hx=>(by cases hx)⟩
theorem ry.cp{w:aN}(h:ry w):Dx w:=h.elim eU.cp vz.cp
theorem ry.fl{w:aN}(h:ry w)(hf:aL w≠[]):B1 w:=h.resolve_right λq=>hf q.fl
def yN(w:aN):Prop:=gU w∨((aH w).2.2=[]/\d8 w=0)
theorem vz.ch{w:aN}(h:vz w)(t:Int):yN (cQ w t) := .inr (by rw[h.1];exact⟨rfl,rfl⟩)
theorem vz.chg{w:aN}(h:vz w)(t:Int):dh (cQ w t)=cQ w t:=by rw[h.1];rfl
def ky(w:aN):Flight:=(aL w).headD Sk
def gb(w:aN):aN:=dh (cQ (gu w (aL w).tail) (aW (ky w)))
def mL(w:aN):rm:=bT (gb w) (ky w)
def AO(w:aN):aN:=jP (gb w) ((dD (gb w)).set (it (bX (ky w))) (mL w).1)
def pR(w:aN):aN:=if (mL w).2.2=1 then zL (AO w) (bO (AO w)++[(aW (ky w),bX (ky w),gS (ky w))]) else AO w
def ke(w:aN):aN:=if (mL w).2.2≠0 then qF (pR w) (ky w) (ju (ky w)) (mL w).2.2 else pR w
theorem So(w:aN):eO w=if 0<(mL w).2.1.2.length then ig (ke w) (ky w) (mL w).2.1 else ke w:=by
 have e:eO w=jS (gb w) (ky w):=by unfold eO gb ky;rfl
 rw[e]
 unfold jS ke pR AO mL
 rfl
theorem Ar(w:aN):pR w=zL (AO w) (if (mL w).2.2=1 then bO (gb w)++[(aW (ky w),bX (ky w),gS (ky w))] else bO (gb w)):=by unfold pR;split <;> rfl
theorem CZ(w:aN):ke w=Q0 (pR w) (if (mL w).2.2≠0 then dZ (gb w)++[(qB (ky w),aW (ky w),bX (ky w),ju (ky w),(mL w).2.2)] else dZ (gb w)):=by
 unfold ke
 rw[Ar]
 split <;> rfl
structure At (w:aN) (f:Flight) (r:List Flight):Prop where
 s:dR (gb w) (549755813888-2*lR w)
 fk:yj (aH (gb w)) (ce (gb w)) (dc (gb w)) f
 eF:ky w=f
 net:aH (gb w)=aH w
 now:ce (gb w)=aW f
 fl:aL (gb w)=r
 en:dZ (gb w)=dZ w
 dl:bO (gb w)=bO w
 h0:dR (cQ (gu w (aL w).tail) (aW (ky w))) (549755813888-2*lR w)
theorem eU.at{B:Int}{w:aN}(h:eU B w){f:Flight}{r:List Flight}(e:aL w=f::r):At w f r:=by
 have hs:=h.s
 have hp:=hs.fl
 rw[e] at hp
 have ⟨p1,p2⟩:=ca4.1 hp
 have hf:=hs.fo f (by rw[e];exact eV)
 have hle:∀ x∈r,aW f<=aW x:=λx hx=>by obtain k|k:=p1 x hx <;> omega
 have ed:ky w=f:=by unfold ky;rw[e];rfl
 have et:(aL w).tail=r:=by rw[e];rfl
 have hb:dR (cQ (gu w r) (aW f)) (549755813888-2*lR w):=by
  refine⟨hs.net,⟨by show 0<=aW f;have:=hs.now;have:=hf.t;omega,hf.t.2⟩,hs.ord,hs.done,hs.len,hs.st,hs.cl,hs.cr,p2,λx hx=>?_,?_⟩
  .have hx:=hx;have k:=hs.fo x (by rw[e];exact fu _ hx);exact⟨⟨hle x hx,k.t.2⟩,k.o,k.nd,k.l,k.g,k.b,k.d⟩
  .show (be r)<=4096;have:=hs.fn;rw[e,cX] at this;omega
 have ⟨k1,k2,k3,k4,k5,k6⟩:=z4 (cQ (gu w r) (aW f))
 have es:gb w=dh (cQ (gu w r) (aW f)):=by unfold gb;rw[ed,et]
 have n1:aH (gb w)=aH w:=by rw[es];exact k1
 have n2:ce (gb w)=aW f:=by rw[es];exact k6
 have n3:dc (gb w)=dc w:=by rw[es];exact k5
 refine⟨by rw[es];exact hb.change,?_,ed,n1,n2,by rw[es];exact k2,by rw[es];exact k3,by rw[es];exact k4,by rw[ed,et];exact hb⟩
 rw[n1,n2,n3]
 exact⟨⟨io _,hf.t.2⟩,hf.o,hf.nd,hf.l,hf.g,hf.b,hf.d⟩
theorem At.out{w:aN}{f:Flight}{r:List Flight}(h:At w f r)(hp:0<(mL w).2.1.2.length) :
  0<=(mL w).2.1.1/\(mL w).2.1.1<(aH w).2.1.length/\oM (aH w).1.length ((aH w).2.1.getD (mL w).2.1.1.toNat Sk):=by
 have hi:it (bX f)<(aH (gb w)).1.length:=by have:=h.fk.nd;omega
 have O:=h.s.weak.out h.fk.wk
 have eH:mL w=bT (gb w) f:=by unfold mL;rw[h.eF]
 rw[eH] at hp ⊢
 have hr:(bT (gb w) f).2.2=0∨(bT (gb w) f).2.2=2:=by
  by_cases z0:(bT (gb w) f).2.2=0
  .exact .inl z0
  by_cases z2:(bT (gb w) f).2.2=2
  .exact .inr z2
  .have:=O.none z0 z2;rw[this] at hp;exact absurd hp (by simp[lJ])
 obtain⟨⟨k0,k1⟩,k2,-⟩:=EF h.s.net hi (Gr h.s.net hi (O.some hr).2.2)
 rw[h.net] at k1 k2
 exact⟨k0,k1,k2⟩
end Go.RS
namespace Go.SX
open Go
variable {P:Program}
theorem KH(w:World)(dT sT ty nB:bZ8)(z g o dLen dCap:Nat)(a:Addr)(rM zd:Nat)(cur:Array Value)(t:bZ8)(cs:List Value)
  (hu:P.underlying dT=bZ1 (.slice nB)) (hs:(P.info? nB).map (·.size)=bZ1 z)
  (hg:w.heap[g]? = bZ1 (.cells cur t (0,0))) (hn:be cs=Nat.min rM dLen*z)
  (hsrc:∀ j v,cs[j]? = bZ1 v->w.cell? (a.add j)=bZ1 v) (hfit:o+be cs<=cur.size) (h1:∀ v∈cs,v.oneCell'=bZ3) :
  (ci9 #[dT,sT] ty #[.slice (bZ1 ⟨g,o,none⟩) dLen dCap,.slice (bZ1 a) rM zd]).run P w =
   .ok (goInt (Nat.min rM dLen)) (w.setRow g (cur.toList.take o++cs++cur.toList.drop (o+be cs)).toArray):=by
 have hl:=run_loadCells_list (P:=P) w a cs hsrc
 have hst:=run_storeCells_at P g o t cs 0 cur w hg (by simpa using hfit) h1
 cases hq:P.info? nB with
 | none=>simp[hq] at hs
 | some i =>
  have hi:i.size=z:=by simpa[hq] using hs
  simp[ci9,run_underlying hu,Builtin.lenOf,Builtin.firstCells,sizeOf,typeInfo,hq,hi,← hn,hl,hst]
end Go.SX
namespace Go.SX
open Go.ChangeShapes Go.WideShapes Go.ChangeAt Go.RowKit
def C4{H:Type}(f:(t:CT)->bZ8->t.D->cn2 H):List Field->(t:CT)->t.D->List (cn2 H)
 | [],_,_=>[]
 | [fd],t,d=>[f t fd.type d]
 | fd::g::r,.pair a b,(x,y)=>f a fd.type x::C4 f (g::r) b y
 | _::_::_,_,_=>[]
def EB{H:Type}(f:(t:CT)->bZ8->t.D->cn2 H)(e:bZ8):Nat->(t:CT)->t.D->List (cn2 H)
 | 0,_,_=>[]
 | 1,t,d=>[f t e d]
 | n+2,.pair a b,(x,y)=>f a e x::EB f e (n+1) b y
 | _+2,_,_=>[]
def rT{H:Type}(P:Program):Nat->(t:CT)->bZ8->t.D->cn2 H
 | 0,_,_,_ => .agg []
 | n+1,t,τ,d=>match P.underlying τ,t,d with
  | some (.int k),.int _,d => .lit (.int k d)
  | some .bool,.bool,d => .lit (.bool d)
  | some (.struct fs),t,d => .agg (C4 (rT P n) fs.toList t d)
  | some (.array k e),t,d => .agg (EB (rT P n) e k t d)
  | _,_,_ => .agg []
def xG:CT->Bool
 | .int _=>bZ3
 | .bool=>bZ3
 | .pair a b=>xG a&&xG b
 | _=>bZ6
section
variable {H:Type} {enc:bZ8×Value->H} {P:Program} {w:World} {base:Nat} {held:Bool}
theorem Sh{A:Nat->Prop}{f:CT->bZ8->Bool}{F:(t:CT)->bZ8->t.D->cn2 H}{cs:List Value}{n:Nat}
  (hf:∀ t τ cs d p,f t τ=bZ3->xG t=bZ3->ch0 enc P w base (λ_=>bZ3) held n τ cs=bZ1 (F t τ d,p)->Rd A w t (λj=>cs[j]?) 0 d) :
  ∀(fs:List Field)(t:CT)(o:Nat)(d:t.D)(xs:List (cn2 H×List cp1)),yo P f fs t o=bZ3->xG t=bZ3->be xs=be fs->xs.map (·.1)=C4 F fs t d →
   (∀ i (h1:i<be fs) (h2:i<be xs),ch0 enc P w base (λ_=>bZ3) held n fs[i].type ((cs.drop fs[i].offset).take (P.cellsOf fs[i].type))=bZ1 xs[i])->Rd A w t (λj=>cs[j]?) o d
 | [],t,o,d,xs,h,_,_,_,_=>by cases h
 | [fd],t,o,d,xs,h,ht,hl,he,hx=>by
  simp only[yo,fx] at h;obtain⟨⟨h1,h2⟩,h3⟩:=h;have h2:=bK h2;have h3:=bK h3
  match xs,hl with
  | [x],_ =>
   have:=hx 0 az az;simp only[ch5] at this;simp only[fF,cn8,C4,cj0.injEq,g7] at he;have hd:=hf t fd.type _ d x.2 h1 ht (by rw[this,← he]);rw[h2] at hd;exact Ai h3 hd
 | fd::g::r,.pair a b,o,(d1,d2),xs,h,ht,hl,he,hx=>by
  simp only[yo,fx] at h;have ⟨⟨⟨h1,h2⟩,h3⟩,h4⟩:=h;simp only[xG,fx] at ht;have h2:=bK h2;have h3:=bK h3
  match xs,hl with
  | x::ys,hl =>
   simp only[fF,C4,cj0.injEq] at he;have:=hx 0 az az;simp only[ch5] at this;have hd:=hf a fd.type _ d1 x.2 h1 ht.1 (by rw[this,← he.1]);rw[h2] at hd;have hd':=Sh hf (g::r) b (o+a.size) d2 ys h4 ht.2 (by simpa using hl) he.2 (λi k1 k2=>by
    have:=hx (i+1) (by simpa using k1) (by simpa using k2);simpa only[cr4] using this)
   exact⟨Ai h3 hd,hd'⟩
 | _::_::_,.int _,_,_,_,h,_,_,_,_=>by cases h
 | _::_::_,.bool,_,_,_,h,_,_,_,_=>by cases h
 | _::_::_,.str,_,_,_,h,_,_,_,_=>by cases h
 | _::_::_,.sl _,_,_,_,h,_,_,_,_=>by cases h
theorem Sf{A:Nat->Prop}{f:CT->bZ8->Bool}{F:(t:CT)->bZ8->t.D->cn2 H}{cs:List Value}{n:Nat}{e:bZ8}
  (hf:∀ t τ cs d p,f t τ=bZ3->xG t=bZ3->ch0 enc P w base (λ_=>bZ3) held n τ cs=bZ1 (F t τ d,p)->Rd A w t (λj=>cs[j]?) 0 d) :
  ∀(k:Nat)(t:CT)(i:Nat)(d:t.D)(xs:List (cn2 H×List cp1)),yW P f e k t=bZ3->xG t=bZ3->be xs=k->xs.map (·.1)=EB F e k t d →
   (∀ j (h2:j<be xs),ch0 enc P w base (λ_=>bZ3) held n e ((cs.drop ((i+j)*P.cellsOf e)).take (P.cellsOf e))=bZ1 xs[j])->Rd A w t (λj=>cs[j]?) (i*P.cellsOf e) d
 | 0,t,i,d,xs,h,_,_,_,_=>by cases h
 | 1,t,i,d,xs,h,ht,hl,he,hx=>by
  simp only[yW,fx] at h;obtain⟨h1,h2⟩:=h;have h2:=bK h2
  match xs,hl with
  | [x],_ =>
   have:=hx 0 az;simp only[ch5] at this;simp only[fF,cn8,EB,cj0.injEq,g7] at he;have hd:=hf t e _ d x.2 h1 ht (by rw[this,← he]);exact Ai h2 hd
 | k+2,.pair a b,i,(d1,d2),xs,h,ht,hl,he,hx=>by
  simp only[yW,fx] at h;have ⟨⟨h1,h2⟩,h4⟩:=h;simp only[xG,fx] at ht;have h2:=bK h2
  match xs,hl with
  | x::ys,hl =>
   simp only[fF,EB,cj0.injEq] at he;have:=hx 0 az;simp only[ch5] at this;have hd:=hf a e _ d1 x.2 h1 ht.1 (by rw[this,← he.1]);have hd':=Sf hf (k+1) b (i+1) d2 ys h4 ht.2 (by simpa using hl) he.2 (λj k2=>by
    have:=hx (j+1) (by simpa using k2);simp only[cr4] at this;rw[← this];congr 4;omega)
   refine⟨Ai h2 hd,?_⟩;rw[fY,mv] at hd';rw[← h2];exact hd'
 | _+2,.int _,_,_,_,h,_,_,_,_=>by cases h
 | _+2,.bool,_,_,_,h,_,_,_,_=>by cases h
 | _+2,.str,_,_,_,h,_,_,_,_=>by cases h
 | _+2,.sl _,_,_,_,h,_,_,_,_=>by cases h
theorem Oj:∀(n:Nat)(t:CT)(τ:bZ8)(fuel:Nat)(cs:List Value)(d:t.D)(p:List cp1),oT P n t τ=bZ3->xG t=bZ3->ch0 enc P w base (λ_=>bZ3) held fuel τ cs=bZ1 (rT P n t τ d,p) →
  Rd (λb=>b<w.heap.size) w t (λj=>cs[j]?) 0 d
 | 0,t,τ,fuel,cs,d,p,h,_,_=>by cases h
 | n+1,t,τ,fuel,cs,d,p,h,ht,hx=>by
  cases hu:P.underlying τ with
  | none=>cases t <;> simp[oT,hu] at h
  | some ty =>
   cases ty with
   | int k =>
    cases t with
    | int k' =>
     simp only[oT,hu] at h;cases j6 h;obtain⟨m,rfl,e,hw⟩:=DataW.trod_int hu hx;unfold rT at e;rw[hu] at e;simp only[cy,cD0.injEq,Lit.int.injEq,true_and] at e;obtain⟨rfl,-⟩:=e;exact⟨az,Xq hw⟩
    | _=>simp[oT,hu] at h
   | bool =>
    cases t with
    | bool =>
     obtain⟨b,rfl,e⟩:=DataW.trod_bool hu hx;unfold rT at e;rw[hu] at e;simp only[cy,cD0.injEq,Lit.bool.injEq] at e;obtain⟨rfl,-⟩:=e;simp[Rd]
    | _=>simp[oT,hu] at h
   | struct fs =>
    have h':yo P (oT P n) fs.toList t 0=true:=by cases t <;> simpa[oT,hu] using h
    have ed:rT (H:=H) P (n+1) t τ d = .agg (C4 (rT P n) fs.toList t d):=by
     cases t <;> first|(cases ht;done)|(unfold rT;rw[hu])
    have ⟨xs,m,_,e,hl,hlen,hf⟩:=DataW.trod_struct hu hx;rw[ed] at e;simp only[cy,cD1.injEq] at e;refine Sh (F:=rT P n) (n:=m) (λt τ cs d p h1 h2 h3=>Oj n t τ m cs d p h1 h2 h3) fs.toList _ 0 d xs h' ht (by simpa using hlen) e.1.symm λi h1 h2=>?_;have:=hf i fs[i] (Array.getElem?_eq_getElem (by simpa using h1));rw[cG h2] at this;simpa using this
   | array k e' =>
    have h':yW P (oT P n) e' k t=true:=by cases t <;> simpa[oT,hu] using h
    have ed:rT (H:=H) P (n+1) t τ d = .agg (EB (rT P n) e' k t d):=by
     cases t <;> first|(cases ht;done)|(unfold rT;rw[hu])
    have ⟨xs,m,_,e,hl,hlen,hf⟩:=DataW.trod_array hu hx;rw[ed] at e;simp only[cy,cD1.injEq] at e;have:=Sf (F:=rT P n) (n:=m) (cs:=cs) (e:=e') (λt τ cs d p h1 h2 h3=>Oj n t τ m cs d p h1 h2 h3) k _ 0 d xs h' ht hlen e.1.symm λj h2=>by
     have:=hf j ab;rw[cG h2] at this;simpa using this
    simpa using this
   | _=>cases t <;> first|(cases ht;done)|(simp[oT,hu] at h;done)
end
theorem globs_at{P:Program}{w:World}{l:List (String×cn2 Unit)}{name:String}{t:CT}{v:t.D}{g n:Nat}{τ:bZ8}{d:cn2 Unit}(h:laidMetH P l w)(hh:(l.all λx=>x.2.handleName?.isNone)=bZ3)(hm:(name,d)∈l)
  (hg:P.globalNamed name=bZ1 g) (hτ:(P.globals[g]?).map (·.type)=bZ1 τ) (hf:oT P n t τ=bZ3) (hs:xG t=bZ3) (hd:d=rT P n t τ v) :
  g<w.heap.size/\Rd (λb=>b<w.heap.size) w t (λo=>w.cell? ⟨g,o,none⟩) 0 v:=by
 rw[cE7 _ _ _ hh] at h
 have ⟨g0,t0,cs0,f0,p0,hg0,ht0,hv0,hd0⟩:=Lib.laidMet.reads h hm
 obtain rfl:=cn7.inj (hg.symm.trans hg0)
 obtain rfl:=cn7.inj (hτ.symm.trans ht0)
 rw[hd] at hd0
 have hr:=Oj n t τ f0 cs0.toList v p0 hf hs hd0
 have hlt:g<w.heap.size:=by
  have hv:=hv0;simp only[World.var?,hg,Option.bind_some] at hv;split at hv
  next hb=>exact (Array.getElem?_eq_some_iff.1 hb).1
  .cases hv
 refine⟨hlt,?_⟩
 refine iQ (λ_ h=>h) (λ_ _ _=>rfl) t _ _ _ _ (λj hj=>?_) hr
 have:=World.var?_cell hg hv0 j
 rw[gJ,this];simp
end Go.SX
