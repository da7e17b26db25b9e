/- Sim2: what holds of a network in operation. -/
import Derived.Test.YtoipogagjfkjlaaGreatDoorSim1
import Derived.Laws.CopyRow
import Derived.Test.YtoipogagjfkjlaaGreatDoorIdent
import Derived.LaidMore
import Derived.Stop.Joined
import Derived.FnData
import Derived.MakeChecks
import Derived.Lib.LaidU8
set_option maxRecDepth 100000
set_option linter.unusedVariables false
open List (replicate)
namespace Go.RS
open Go.SX Go.Proofs
theorem Hd{n:Net}(h:iB n=0):ud n=0/\qO n=0/\rk n=0/\tG n=0/\sk n=0:=by
 unfold iB at h
 obtain⟨h1,h⟩:=t9 h
 obtain⟨h2,h⟩:=t9 h
 obtain⟨h3,h⟩:=t9 h
 obtain⟨h4,h⟩:=t9 h
 obtain⟨h5,h⟩:=t9 h
 obtain⟨h6,h⟩:=t9 h
 exact⟨h1,h2,h3,h4,h⟩
theorem yV{n:Net}(h:iB n=0){i:Nat}(hi:i<n.1.length):tA (n.1.getD i default):=by
 have hb:=zW (Hd h).2.2.1 i hi
 unfold sc at hb
 split at hb
 next k=>exact absurd hb k
 next k=>exact Xi (sI.1 k)
theorem Gt{n:Net}(h:iB n=0):1<=n.1.length/\n.1.length<=64/\n.2.1.length<=128/\n.2.2.length<=64:=by
 have:=(Hd h).1
 unfold ud at this
 split at this
 .cases this
 .omega
theorem Ih{n:Net}(h:iB n=0){k:Nat}(hk:k<n.2.2.length):(0<=jP (n.2.2.getD k default)/\jP (n.2.2.getD k default)<=1125899906842624)/\(0<=cZ (n.2.2.getD k default)/\cZ (n.2.2.getD k default)<n.1.length) ∧
  jf (jw ((gp n k).getD (cZ (n.2.2.getD k default)).toNat default) (n.2.2.getD k default)) (c8 (n.1.getD (cZ (n.2.2.getD k default)).toNat default))=0:=by
 have hs:=zW (Hd h).2.2.2.2 k hk
 unfold nk tx at hs
 split at hs
 .cases hs
 rename_i a1
 split at hs
 .cases hs
 split at hs
 .cases hs
 rename_i a3
 split at hs
 .cases hs
 exact⟨ab,ab,hs⟩
theorem Qz{n:Net}(h:iB n=0):∀ k:Nat,k<=n.2.2.length→∀ i:Nat,i<n.1.length->jf ((gp n k).getD i default) (c8 (n.1.getD i default))=0
 | 0,_,i,hi=>by rw[gp,Eb hi];exact (yV h hi).rt
 | k+1,hk,i,hi=>by
  obtain⟨-,h2,h3⟩:=Ih h (k:=k) ab;rw[gp];by_cases e:(cZ (n.2.2.getD k default)).toNat=i
  .rw[← e,lD (by rw[vf];omega)];exact h3
  .rw[o5 e];exact Qz h k ab i hi
structure xY (n:Net) (now ord:Int) (f:Flight):Prop where
 t:now<=aW f/\aW f<=1125899906842624
 o:0<=pK f/\pK f<ord
 nd:0<=bR f/\bR f<n.1.length
 l:js f = -1∨js f∈c8 (n.1.getD (bR f).toNat default)
 g:0<=pk f/\pk f<ord
 b:bytes (io f)
 d:((io f).length:Int)<=2000
structure dO (w:aJ) (K:Int):Prop where
 net:iB (aH w)=0
 now:0<=bf w/\bf w<=1125899906842624
 ord:0<=cV w/\cV w<=K
 done:0<=dU w/\dU w<=(aH w).2.2.length
 len:(dc w).length=(aH w).1.length
 st:∀ i:Nat,i<(aH w).1.length->jQ ((aH w).1.getD i default) ((dc w).getD i default) K/\cR ((dc w).getD i default)=(gp (aH w) (dU w).toNat).getD i default
 cl:(iI w).length=(aH w).2.1.length
 cr:∀ c∈iI w,0<=c/\c<=K
 fl:(aP w).Pairwise iS
 fo:∀ f∈aP w,xY (aH w) (bf w) (cV w) f
 fn:(aP w).length<=4096
theorem dO.more{w:aJ}{K K':Int}(h:dO w K)(hk:K<=K'):dO w K' :=
 ⟨h.net,h.now,by have:=h.ord;omega,h.done,h.len,λi hi=>⟨(h.st i hi).1.more hk,(h.st i hi).2⟩,h.cl,λc hc=>by have:=h.cr c hc;omega,h.fl,h.fo,h.fn⟩
theorem jQ.rts{x:ar}{s:NState}{K:Int}(h:jQ x s K){l:List Rt}(hc:jf l (c8 x)=0):jQ x (Ny s l) K:=by
 obtain⟨h1,h2⟩:=Bp hc
 obtain⟨-,-,h3⟩:=Fz hc
 exact⟨h1,h2,λr hr=>(h3 r hr).2,h.ps,h.tk,h.cn,h.cp⟩
theorem dO.chg{w:aJ}{K:Int}(h:dO w K)(hd:nS w=true):dO (jX w) K/\dU (jX w)=dU w+1:=by
 unfold nS at hd
 rw[fe,rI,rI] at hd
 have hk:(dU w).toNat<(aH w).2.2.length:=by have:=h.done;omega
 obtain⟨-,⟨w0,w1⟩,hc⟩:=Ih h.net hk
 have sz:=Gt h.net
 have e1:IntKind.i64.wrap (dU w+1)=dU w+1:=aL (by have:=h.done;omega) (by have:=h.done;omega)
 have eD:dU (jX w)=dU w+1:=e1
 have eN:aH (jX w)=aH w:=rfl
 have hwho:cZ (lY w)=cZ ((aH w).2.2.getD (dU w).toNat default):=rfl
 have hlt:(cZ (lY w)).toNat<(aH w).1.length:=ab
 have hst:=(h.st _ hlt)
 have hc:jf (jw ((gp (aH w) (dU w).toNat).getD (cZ (lY w)).toNat default) (lY w)) (c8 ((aH w).1.getD (cZ (lY w)).toNat default))=0:=hc
 rw[← hst.2] at hc
 refine⟨⟨h.net,h.now,h.ord,by have:=h.done;rw[eD,eN];omega,?_,λi hi=>?_,h.cl,h.cr,h.fl,h.fo,h.fn⟩,eD⟩
 .show ((dc w).set _ _).length=_;rw[fF];exact h.len
 .have hi:i<(aH w).1.length:=hi;rw[eD,eN,show (dU w+1).toNat=(dU w).toNat+1 by have:=h.done;omega,gp];show jQ _ (((dc w).set (cZ (lY w)).toNat _).getD i default) K/\cR (((dc w).set (cZ (lY w)).toNat _).getD i default)=_;by_cases e:(cZ (lY w)).toNat=i
  .subst e;rw[lD (by rw[h.len];exact hlt),show ((aH w).2.2.getD (dU w).toNat default)=lY w from rfl,lD (by rw[vf];exact hlt),← hst.2];exact⟨hst.1.rts hc,rfl⟩
  .rw[o5 e,show ((aH w).2.2.getD (dU w).toNat default)=lY w from rfl,o5 e];exact h.st i hi
theorem NI{K:Int}:∀(n:Nat){w:aJ},dO w K->dO (eU n w) K/\(eU n w).1=w.1/\(eU n w).2.1=w.2.1/\(eU n w).2.2.1=w.2.2.1/\(eU n w).2.2.2.2.2=w.2.2.2.2.2
 | 0,w,h=>⟨h,rfl,rfl,rfl,rfl⟩
 | n+1,w,h=>by
  rw[eU];split
  next hd=>have k:=NI n (h.chg hd).1;exact⟨k.1,k.2.1.trans rfl,k.2.2.1.trans rfl,k.2.2.2.1.trans rfl,k.2.2.2.2.trans rfl⟩
  .exact⟨h,rfl,rfl,rfl,rfl⟩
theorem dO.change{w:aJ}{K:Int}(h:dO w K):dO (cY w) K:=(NI _ h).1
theorem Cf{n:Net}(h:iB n=0){i:Nat}(hi:i<n.1.length){k:Int}(hk:k∈c8 (n.1.getD i default)) :
  (0<=k/\k<n.2.1.length)/\nY n.1.length (n.2.1.getD k.toNat default)/\(0<=jG n.2.1 k i/\jG n.2.1 k i<n.1.length)/\k∈c8 (n.1.getD (jG n.2.1 k i).toNat default):=by
 obtain⟨-,hc,hb,hp,-⟩:=Hd h
 have b:=zW hb i hi
 unfold sc at b
 split at b
 next q=>exact absurd b q
 rename_i hv
 have N:tA (n.1.getD i default):=Xi (sI.1 hv)
 split at b
 .cases b
 rename_i hs
 have hst:wj n i k=false:=by
  cases q:wj n i k with
  | false=>rfl
  | true=>exact absurd (List.any_eq_true.2 ⟨k,hk,q⟩) hs
 unfold wj at hst
 simp only[Bool.or_eq_false_iff,sF,zR,sD,pD] at hst
 obtain⟨h1,h2⟩:=hst
 obtain⟨q,hq,rfl⟩:=List.mem_map.1 hk
 obtain⟨j,hj,rfl⟩:=List.mem_iff_getElem.1 hq
 have k0:0<=((aM (n.1.getD i default))[j]).2:=by
  have:=(TT (N.ports j hj)).2;rw[ct (l:=aM _),cM hj,jo] at this;omega
 generalize ((aM (n.1.getD i default))[j]).2=k at hk h1 h2 k0
 have hkl:k.toNat<n.2.1.length:=ab
 have snd:nY n.1.length (n.2.1.getD k.toNat default):=by
  unfold qO at hc;split at hc
  next z=>exact aX (List.all_eq_true.1 z _ (qj hkl))
  .cases hc
 have lo:w9 n k.toNat=false:=by
  unfold tG at hp;split at hp
  .cases hp
  .rename_i z;cases q:w9 n k.toNat with
   | false=>rfl
   | true=>exact absurd (List.any_eq_true.2 ⟨k.toNat,List.mem_range.2 hkl,q⟩) z
 unfold w9 at lo
 simp only[Bool.or_eq_false_iff,sF] at lo
 obtain⟨l1,l2⟩:=lo
 rw[show ((k.toNat:Nat):Int)=k by omega] at l1 l2
 have mem:∀ x:ar,¬ fG x k<0->k∈c8 x:=λx hx=>by
  obtain⟨a,b⟩:=yg (q:=mz k) (l:=aM x) (by unfold fG at hx;omega);have hm:=qj (xs:=aM x) (i:=(jS (mz k) (aM x)).toNat) (by unfold fG at hx;omega);exact List.mem_map.2 ⟨_,hm,aX b⟩
 refine⟨⟨k0,ab⟩,snd,?_⟩
 obtain⟨s1,s2,s3,s4,s5,-⟩:=snd
 unfold jG
 rw[ah ab]
 by_cases e:(i:Int)=lA (n.2.1.getD k.toNat default)
 .rw[aj e];exact⟨⟨s3,s4⟩,mem _ l2⟩
 .have e2:lB (n.2.1.getD k.toNat default)=i:=by
   rcases h2 with z|z
   .exact absurd z.symm e
   .exact z
  rw[ah e,aj e2.symm];exact⟨⟨s1,s2⟩,mem _ l1⟩
theorem Oc{n:Int}(h0:0<=n)(h1:n<=9223372036854775807):IntKind.u64.wrap n=n:=by
 obtain⟨m,rfl⟩:∃ m:Nat,n=m:=⟨n.toNat,ab⟩
 rw[PC];omega
theorem aV5(x:Int):0<=oz x:=Int.natCast_nonneg _
theorem Km{w:aJ}{k:Int}(hs:nY (aH w).1.length (fU w k))(hn:0<=bf w/\bf w<=1125899906842624):bf w+1<=o9 w k/\o9 w k<=bf w+qi (fU w k)+me (fU w k):=by
 obtain⟨-,-,-,-,-,d1,d2,j1,j2,-⟩:=hs
 have hh:0<=xo (fU w k) (oY w k):=aV5 _
 have e1:IntKind.i64.wrap (me (fU w k)+1)=me (fU w k)+1:=aL ab ab
 have e2:IntKind.u64.wrap (me (fU w k)+1)=me (fU w k)+1:=Oc ab ab
 have hd:0<=Int.tdiv (xo (fU w k) (oY w k)) 65536:=Int.tdiv_nonneg hh ab
 have t0:=Int.tmod_nonneg (me (fU w k)+1) hd
 have t1:=Int.tmod_lt_of_pos (Int.tdiv (xo (fU w k) (oY w k)) 65536) (show 0<me (fU w k)+1 by omega)
 have el:D9 w k=Int.tmod (Int.tdiv (xo (fU w k) (oY w k)) 65536) (me (fU w k)+1):=by
  unfold D9;rw[e1,e2,aL ab ab]
 have e3:IntKind.i64.wrap (bf w+qi (fU w k))=bf w+qi (fU w k):=aL ab ab
 have e4:o9 w k=bf w+qi (fU w k)+D9 w k:=by
  unfold o9;rw[e3,aL ab ab]
 omega
theorem dO.ends{w:aJ}{K:Int}(h:dO w K)(f:Flight)(link why:Int):dO (qC w f link why) K:=⟨h.net,h.now,h.ord,h.done,h.len,h.st,h.cl,h.cr,h.fl,h.fo,h.fn⟩
theorem dO.dels{w:aJ}{K:Int}(h:dO w K)(l:List Del):dO (zc w l) K:=⟨h.net,h.now,h.ord,h.done,h.len,h.st,h.cl,h.cr,h.fl,h.fo,h.fn⟩
theorem dO.crosses{w:aJ}{K:Int}(h:dO w K)(hK:K<=2199023255552){f:Flight}{out:bU0}(hf:0<=bR f/\bR f<(aH w).1.length)(hg:0<=pk f/\pk f<cV w)
  (hk:out.1∈c8 ((aH w).1.getD (bR f).toNat default)) (hb:bytes out.2) (hl:(out.2.length:Int)<=2000):dO (iw w f out) (K+1):=by
 have hi:(bR f).toNat<(aH w).1.length:=ab
 obtain⟨⟨k0,k1⟩,snd,o1,o2⟩:=Cf h.net hi hk
 rw[show (((bR f).toNat:Nat):Int)=bR f by omega] at o1 o2
 have ov:=Km (w:=w) (k:=out.1) snd h.now
 have hcl:out.1.toNat<(iI w).length:=by rw[h.cl];omega
 have hc0:oY w out.1∈iI w:=qj hcl
 have hc1:=h.cr _ hc0
 have hord:=h.ord
 have base:dO (ya w ((iI w).set out.1.toNat (IntKind.i64.wrap (oY w out.1+1)))) (K+1):=by
  have h':=h.more (K':=K+1) ab;refine⟨h'.net,h'.now,h'.ord,h'.done,h'.len,h'.st,?_,λc hc=>?_,h'.fl,h'.fo,h'.fn⟩
  .show ((iI w).set _ _).length=_;rw[fF];exact h.cl
  .have hc:c∈(iI w).set out.1.toNat (IntKind.i64.wrap (oY w out.1+1)):=hc;rcases zt hc with hc|rfl
   .have:=h.cr c hc;omega
   .rw[aL ab ab];omega
 unfold iw
 dsimp only
 split
 .exact base.ends _ _ _
 split
 .exact base.ends _ _ _
 rename_i q
 have ew:IntKind.i64.wrap (cV w+1)=cV w+1:=aL ab ab
 refine⟨base.net,base.now,?_,base.done,base.len,base.st,base.cl,base.cr,?_,?_,?_⟩
 .show 0<=IntKind.i64.wrap (cV w+1)/\IntKind.i64.wrap (cV w+1)<=K+1;rw[ew];omega
 .exact QK h.fl λx hx=>(h.fo x hx).o.2
 .intro x hx;have hx:x∈iJ (aP w) (o9 w out.1,cV w,jG (aH w).2.1 out.1 (bR f),out.1,pk f,out.2):=hx;show xY (aH w) (bf w) (IntKind.i64.wrap (cV w+1)) x;rw[ew];rcases GQ.1 hx with rfl|hx
  .exact⟨⟨by show bf w<=o9 w out.1;omega,by show o9 w out.1<=_;omega⟩,⟨by show 0<=cV w;omega,by show cV w<cV w+1;omega⟩,o1,.inr o2,⟨hg.1,by show pk f<cV w+1;omega⟩,hb,hl⟩
  .have k:=h.fo x hx;exact⟨k.t,⟨k.o.1,by have:=k.o.2;omega⟩,k.nd,k.l,⟨k.g.1,by have:=k.g.2;omega⟩,k.b,k.d⟩
 .show (iJ (aP w) _).length<=4096;rw[O5];omega
theorem dO.land{w:aJ}{K:Int}(h:dO w K)(hK:K<=1099511627776){f:Flight}(hf:xY (aH w) (bf w) (cV w) f)(ht:aW f=bf w):dO (jV w f) (K+2):=by
 have hi:(bR f).toNat<(aH w).1.length:=by have:=hf.nd;omega
 obtain⟨st,rt⟩:=h.st _ hi
 have N:=yV h.net hi
 have O:=Mp (lk:=js f) (t:=aW f) N st.rt hf.b
 have S:=bH6 (link:=js f) (b:=io f) (at':=aW f) N st ⟨by have:=h.ord;omega,ab⟩ ⟨by have:=h.now;omega,by have:=h.now;omega⟩
 have eH:bQ w f=gO ((aH w).1.getD (bR f).toNat default) ((dc w).getD (bR f).toNat default) (js f) (aW f) (io f):=rfl
 rw[← eH] at O S
 have ha:dO (jU w ((dc w).set (bR f).toNat (bQ w f).1)) (K+1):=by
  have h':=h.more (K':=K+1) ab;refine⟨h'.net,h'.now,h'.ord,h'.done,?_,λi hl=>?_,h'.cl,h'.cr,h'.fl,h'.fo,h'.fn⟩
  .show ((dc w).set _ _).length=_;rw[fF];exact h.len
  .have hl:i<(aH w).1.length:=hl;show jQ _ (((dc w).set (bR f).toNat (bQ w f).1).getD i default) _/\cR (((dc w).set (bR f).toNat (bQ w f).1).getD i default)=_;by_cases e:(bR f).toNat=i
   .subst e;rw[lD (by rw[h.len];exact hi)];exact⟨S,O.rt.trans rt⟩
   .rw[o5 e];exact h'.st i hl
 have hb:dO (if (bQ w f).2.2=1 then zc (jU w ((dc w).set (bR f).toNat (bQ w f).1)) (bh (jU w ((dc w).set (bR f).toNat (bQ w f).1))++[(aW f,bR f,io f)]) else jU w ((dc w).set (bR f).toNat (bQ w f).1)) (K+1):=by
  split
  .exact ha.dels _
  .exact ha
 unfold jV
 dsimp only
 generalize hB:(if (bQ w f).2.2=1 then zc (jU w ((dc w).set (bR f).toNat (bQ w f).1)) (bh (jU w ((dc w).set (bR f).toNat (bQ w f).1))++[(aW f,bR f,io f)]) else jU w ((dc w).set (bR f).toNat (bQ w f).1))=B at hb
 have eB:aH B=aH w/\cV B=cV w:=by rw[← hB];split <;> exact⟨rfl,rfl⟩
 have hc:dO (if (bQ w f).2.2≠0 then qC B f (js f) (bQ w f).2.2 else B) (K+1):=by
  split
  .exact hb.ends _ _ _
  .exact hb
 have eC:aH (if (bQ w f).2.2≠0 then qC B f (js f) (bQ w f).2.2 else B)=aH w/\cV (if (bQ w f).2.2≠0 then qC B f (js f) (bQ w f).2.2 else B)=cV w:=by
  split
  .exact eB
  .exact eB
 generalize (if (bQ w f).2.2≠0 then qC B f (js f) (bQ w f).2.2 else B)=C at hc eC
 split
 next hp=>
  have hr:(bQ w f).2.2=0∨(bQ w f).2.2=2:=by
   by_cases z0:(bQ w f).2.2=0
   .exact .inl z0
   by_cases z2:(bQ w f).2.2=2
   .exact .inr z2
   .have:=O.none z0 z2;rw[this] at hp;exact absurd hp (by simp[lF])
  obtain⟨p1,p2,p3⟩:=O.some hr;have hm:(bQ w f).2.1.1∈c8 ((aH w).1.getD (bR f).toNat default):=by
   obtain⟨a,b⟩:=yg (q:=mz (bQ w f).2.1.1) (l:=aM ((aH w).1.getD (bR f).toNat default)) p3;have hm:=qj (xs:=aM ((aH w).1.getD (bR f).toNat default)) (i:=(jS (mz (bQ w f).2.1.1) (aM ((aH w).1.getD (bR f).toNat default))).toNat) (by unfold fG at p3;omega);exact List.mem_map.2 ⟨_,hm,aX b⟩
  have z:=dO.crosses hc ab (by rw[eC.1];exact hf.nd) (by rw[eC.2];exact hf.g) (by rw[eC.1];exact hm) O.byt ab
  rwa [show K+1+1=K+2 by omega] at z
 .exact hc.more ab
theorem XU(w:aJ)(f:Flight)(out:bU0):aH (iw w f out)=aH w/\bf (iw w f out)=bf w ∧
  (aP (iw w f out)=aP w∨∃ g,aW g=o9 w out.1/\aP (iw w f out)=iJ (aP w) g):=by
 unfold iw
 dsimp only
 split
 .exact⟨rfl,rfl,.inl rfl⟩
 split
 .exact⟨rfl,rfl,.inl rfl⟩
 .exact⟨rfl,rfl,.inr ⟨_,rfl,rfl⟩⟩
theorem FX{n:Net}(h:iB n=0){i:Nat}(hi:i<n.1.length){k:Int}(hp:0<=fG (n.1.getD i default) k):k∈c8 (n.1.getD i default):=by
 obtain⟨a,b⟩:=yg (q:=mz k) (l:=aM (n.1.getD i default)) hp
 have hm:=qj (xs:=aM (n.1.getD i default)) (i:=(jS (mz k) (aM (n.1.getD i default))).toNat) (by unfold fG at hp;omega)
 exact List.mem_map.2 ⟨_,hm,aX b⟩
theorem aD5{w:aJ}{K:Int}(h:dO w K){f:Flight}(hf:xY (aH w) (bf w) (cV w) f):aH (jV w f)=aH w/\bf (jV w f)=bf w ∧
  (aP (jV w f)=aP w∨∃ g,bf w+1<=aW g/\aP (jV w f)=iJ (aP w) g):=by
 have hi:(bR f).toNat<(aH w).1.length:=by have:=hf.nd;omega
 obtain⟨st,rt⟩:=h.st _ hi
 have N:=yV h.net hi
 have O:=Mp (lk:=js f) (t:=aW f) N st.rt hf.b
 have eH:bQ w f=gO ((aH w).1.getD (bR f).toNat default) ((dc w).getD (bR f).toNat default) (js f) (aW f) (io f):=rfl
 rw[← eH] at O
 unfold jV
 dsimp only
 have key:∀ B:aJ,aH B=aH w->bf B=bf w->aP B=aP w->iI B=iI w →
   (aH (if 0<(bQ w f).2.1.2.length then iw B f (bQ w f).2.1 else B)=aH w/\bf (if 0<(bQ w f).2.1.2.length then iw B f (bQ w f).2.1 else B)=bf w ∧
    (aP (if 0<(bQ w f).2.1.2.length then iw B f (bQ w f).2.1 else B)=aP w∨∃ g,bf w+1<=aW g/\aP (if 0<(bQ w f).2.1.2.length then iw B f (bQ w f).2.1 else B)=iJ (aP w) g)):=by
  intro B b1 b2 b3 b4;split
  .rename_i hp;obtain⟨c1,c2,c3⟩:=XU B f (bQ w f).2.1;refine⟨c1.trans b1,c2.trans b2,?_⟩;rcases c3 with c3|⟨g,g1,g2⟩
   .exact .inl (c3.trans b3)
   .have hr:(bQ w f).2.2=0∨(bQ w f).2.2=2:=by
     by_cases z0:(bQ w f).2.2=0
     .exact .inl z0
     by_cases z2:(bQ w f).2.2=2
     .exact .inr z2
     .have:=O.none z0 z2;rw[this] at hp;exact absurd hp (by simp[lF])
    have hl:=FX h.net hi (O.some hr).2.2;obtain⟨-,snd,-⟩:=Cf h.net hi hl;have ov:=Km (w:=B) (k:=(bQ w f).2.1.1) (by unfold fU;rw[b1];exact snd) (by rw[b2];exact h.now);refine .inr ⟨g,by rw[g1,← b2];exact ov.1,by rw[g2,b3]⟩
  .exact⟨b1,b2,.inl b3⟩
 apply key
 all_goals (split <;> (split <;> rfl))
theorem r4(to:Int)(f:Flight)(r:List Flight):gh to (f::r)=(to+1-aW f).toNat+gh to r:=by
 unfold gh;rw[fV,List.sum_cons]
theorem dO.step{w:aJ}{K:Int}(h:dO w K)(hK:K<=1099511627776){f:Flight}{r:List Flight}(e:aP w=f::r) :
  dO (eJ w) (K+2)/\aH (eJ w)=aH w/\bf (eJ w)=aW f∧∀ to,aW f<=to->gh to (aP (eJ w))+1<=gh to (aP w):=by
 have hp:=h.fl
 rw[e] at hp
 obtain⟨p1,p2⟩:=List.pairwise_cons.1 hp
 have hf:=h.fo f (by rw[e];exact fp)
 have hle:∀ x∈r,aW f<=aW x:=λx hx=>by rcases p1 x hx with k|k <;> omega
 have ed:(aP w).headD default=f:=by rw[e];rfl
 have et:(aP w).tail=r:=by rw[e];rfl
 have hb:dO (cK (gB w r) (aW f)) K:=by
  refine⟨h.net,⟨by show 0<=aW f;have:=h.now;have:=hf.t;omega,hf.t.2⟩,h.ord,h.done,h.len,h.st,h.cl,h.cr,p2,λx hx=>?_,?_⟩
  .have hx:x∈r:=hx;have k:=h.fo x (by rw[e];exact fu _ hx);exact⟨⟨hle x hx,k.t.2⟩,k.o,k.nd,k.l,k.g,k.b,k.d⟩
  .show r.length<=4096;have:=h.fn;rw[e,dP] at this;omega
 have hc:=NI ((aH w).2.2.length-(dU w).toNat) hb
 have es:eJ w=jV (cY (cK (gB w r) (aW f))) f:=by unfold eJ;rw[ed,et]
 have ec:cY (cK (gB w r) (aW f))=eU ((aH w).2.2.length-(dU w).toNat) (cK (gB w r) (aW f)):=rfl
 rw[← ec] at hc
 obtain⟨c1,c2,c3,c4,c5⟩:=hc
 generalize cY (cK (gB w r) (aW f))=v at c1 c2 c3 c4 c5 es
 have n1:aH v=aH w:=c2
 have n2:bf v=aW f:=c3
 have n3:cV v=cV w:=c4
 have n4:aP v=r:=fj (λx:ac×List Flight×List Del×List EndR=>x.2.1) c5
 have hfv:xY (aH v) (bf v) (cV v) f:=by
  rw[n1,n2,n3];exact⟨⟨gH _,hf.t.2⟩,hf.o,hf.nd,hf.l,hf.g,hf.b,hf.d⟩
 have L:=aD5 c1 hfv
 rw[es]
 refine⟨c1.land hK hfv n2.symm,L.1.trans n1,L.2.1.trans n2,λto hto=>?_⟩
 rw[e,r4]
 rcases L.2.2 with q|⟨g,g1,g2⟩
 .rw[q,n4];omega
 .rw[g2,n4,XO];rw[n2] at g1;omega
theorem dO.run{to:Int}:∀(n:Nat){w:aJ}{K:Int},dO w K->gh to (aP w)<=n->K+2*n<=1099511627776->dO (jy n w to) (K+2*n)/\fI (jy n w to) to=false/\aH (jy n w to)=aH w
 | 0,w,K,h,hw,hK=>by
  refine⟨by simpa[jy] using h,?_,rfl⟩;show fI w to=false;unfold fI;cases e:aP w with
  | nil=>rfl
  | cons f r =>
   rw[e,r4] at hw;exact fh ab
 | n+1,w,K,h,hw,hK=>by
  rw[jy];split
  .rename_i hb;unfold fI at hb;cases e:aP w with
   | nil=>rw[e] at hb;cases hb
   | cons f r =>
    rw[e] at hb;have hb:=aX hb;obtain⟨s1,s2,-,s4⟩:=h.step ab e;have:=s4 to hb;obtain⟨t1,t2,t3⟩:=dO.run (to:=to) n s1 ab ab;rw[show K+2+2*(n:Int)=K+2*((n+1:Nat):Int) by omega] at t1;exact⟨t1,t2,t3.trans s2⟩
  next hb=>exact⟨h.more ab,by simpa using hb,rfl⟩
def okDn(w:aJ):Prop:=0<=dU w/\((aH w).2.2.length:Int)<=1099511627776
def lK(w:aJ):Nat:=(aH w).2.2.length-(dU w).toNat
theorem D4{w:aJ}(h:okDn w)(hd:nS w=true):dU (jX w)=dU w+1/\okDn (jX w)/\lK (jX w)+1=lK w:=by
 unfold nS at hd
 rw[fe,rI,rI] at hd
 obtain⟨h0,h1⟩:=h
 have e:dU (jX w)=dU w+1:=aL (n:=dU w+1) ab ab
 refine⟨e,⟨by rw[e];omega,h1⟩,?_⟩
 unfold lK
 rw[e]
 show (aH w).2.2.length-_+1=_
 omega
theorem T7{w:aJ}(h:okDn w)(hd:nS w=true):0<lK w:=by
 unfold nS at hd
 rw[fe,rI,rI] at hd
 have:=h.1
 unfold lK;omega
theorem MP:∀(n m:Nat){w:aJ},okDn w->lK w<=n->lK w<=m->eU n w=eU m w
 | 0,0,_,_,_,_=>rfl
 | 0,m+1,w,h,hn,_=>by
  rw[eU,eU,ah];intro hd;have:=T7 h hd;omega
 | n+1,0,w,h,_,hm=>by
  rw[eU,eU,ah];intro hd;have:=T7 h hd;omega
 | n+1,m+1,w,h,hn,hm=>by
  rw[eU,eU];split
  next hd=>obtain⟨-,o,r⟩:=D4 h hd;exact MP n m o ab ab
  .rfl
theorem HH{w:aJ}(h:okDn w){n:Nat}(hn:lK w<=n):cY w=eU n w:=MP _ _ h (eT _) hn
theorem a57{w:aJ}{t:Int}:nS (cK w t)=(decide (dU w<(aH w).2.2.length)&&decide (jP (lY w)<=t)):=rfl
theorem Ry{t t':Int}(ht:t<=t'):∀(n:Nat){w:aJ},okDn w->lK w<=n->eU n (cK (eU n (cK w t)) t')=eU n (cK w t')
 | 0,w,h,hn=>rfl
 | n+1,w,h,hn=>by
  by_cases hd:nS (cK w t)=true
  .have hd':nS (cK w t')=true:=by
    rw[a57,fe,rI,rI] at hd ⊢;exact⟨hd.1,ab⟩
   have c:=D4 (w:=cK w t) h hd;have e1:eU (n+1) (cK w t)=eU n (cK (jX w) t):=by rw[eU,aj hd];rfl
   have e2:eU (n+1) (cK w t')=eU n (cK (jX w) t'):=by rw[eU,aj hd'];rfl
   have o:okDn (jX w):=c.2.1;have r:lK (jX w)+1=lK w:=c.2.2;have ih:=Ry ht n o ab;rw[e1,e2,← ih];have of':okDn (cK (eU n (cK (jX w) t)) t')/\lK (cK (eU n (cK (jX w) t)) t')<=n:=by
    have key:∀(k:Nat){v:aJ},okDn v->okDn (eU k v)/\lK (eU k v)<=lK v:=by
     intro k
     induction k with
     | zero=>intro v hv;exact⟨hv,eT _⟩
     | succ k ihk =>
      intro v hv;rw[eU];split
      next hdv=>obtain⟨-,a,b⟩:=D4 hv hdv;have:=ihk a;exact⟨this.1,ab⟩
      .exact⟨hv,eT _⟩
    have k:=key n (v:=cK (jX w) t) o;exact⟨k.1,by have:=k.2;show lK (eU n (cK (jX w) t))<=n;have e:lK (cK (jX w) t)=lK (jX w):=rfl;omega⟩
   exact MP _ _ of'.1 ab of'.2
  .have e1:eU (n+1) (cK w t)=cK w t:=by rw[eU,ah hd]
   rw[e1];rfl
theorem We{w:aJ}{t t':Int}(h:okDn w)(ht:t<=t'):cY (cK (cY (cK w t)) t')=cY (cK w t'):=by
 have e1:cY (cK w t)=eU (lK w) (cK w t):=HH (w:=cK w t) h (eT _)
 have e2:cY (cK w t')=eU (lK w) (cK w t'):=HH (w:=cK w t') h (eT _)
 rw[e1,e2,← Ry ht (lK w) h (eT _)]
 have key:∀(k:Nat){v:aJ},okDn v->okDn (eU k v)/\lK (eU k v)<=lK v:=by
  intro k
  induction k with
  | zero=>intro v hv;exact⟨hv,eT _⟩
  | succ k ihk =>
   intro v hv;rw[eU];split
   next hdv=>obtain⟨-,a,b⟩:=D4 hv hdv;have:=ihk a;exact⟨this.1,ab⟩
   .exact⟨hv,eT _⟩
 have k:=key (lK w) (v:=cK w t) h
 exact HH (w:=cK (eU (lK w) (cK w t)) t') k.1 k.2
theorem FK:∀(n:Nat)(w:aJ),(eU n w).1=w.1/\(eU n w).2.1=w.2.1/\(eU n w).2.2.1=w.2.2.1/\(eU n w).2.2.2.2.2=w.2.2.2.2.2
 | 0,w=>⟨rfl,rfl,rfl,rfl⟩
 | n+1,w=>by
  rw[eU];split
  .have k:=FK n (jX w);exact⟨k.1.trans rfl,k.2.1.trans rfl,k.2.2.1.trans rfl,k.2.2.2.trans rfl⟩
  .exact⟨rfl,rfl,rfl,rfl⟩
theorem LG(w:aJ):aP (cY w)=aP w/\bf (cY w)=bf w:=⟨fj (λx:ac×List Flight×List Del×List EndR=>x.2.1) (FK _ w).2.2.2,(FK _ w).2.1⟩
theorem aO7(w:aJ)(l:List Flight):jX (gB w l)=gB (jX w) l:=rfl
theorem X6(l:List Flight):∀(n:Nat)(w:aJ),eU n (gB w l)=gB (eU n w) l
 | 0,w=>rfl
 | n+1,w=>by
  rw[eU,eU];by_cases hd:nS w=true
  .rw[aj hd,aj (show nS (gB w l)=true from hd),aO7,X6 l n]
  .rw[ah hd,ah (show ¬ nS (gB w l)=true from hd)]
theorem aj7{w:aJ}{t:Int}(h:okDn w)(ht:t<=aW ((aP w).headD default)):eJ (cY (cK w t))=eJ w:=by
 have e:=(LG (cK w t)).1
 have e:aP (cY (cK w t))=aP w:=e
 unfold eJ
 rw[e]
 congr 1
 have e1:gB (cY (cK w t)) (aP w).tail=cY (cK (gB w (aP w).tail) t):=(X6 _ _ _).symm
 rw[e1]
 exact We (w:=gB w (aP w).tail) h ht
def gm(w:aJ)(to:Int):aJ:=jy (gh to (aP w)) w to
theorem aU4{to:Int}:∀(n m:Nat){w:aJ}{K:Int},dO w K->gh to (aP w)<=n->gh to (aP w)<=m->K+2*(gh to (aP w))<=1099511627776->jy n w to=jy m w to:=by
 have stop:∀{w:aJ},gh to (aP w)=0->fI w to=false:=by
  intro w hw;unfold fI;cases e:aP w with
  | nil=>rfl
  | cons f r =>
   rw[e,r4] at hw;exact fh ab
 intro n
 induction n with
 | zero =>
  intro m w K h hn hm hK;have hb:=stop (w:=w) ab;cases m with
  | zero=>rfl
  | succ m=>rw[jy,jy,ah (by rw[hb];simp)]
 | succ n ih =>
  intro m w K h hn hm hK;cases m with
  | zero =>
   have hb:=stop (w:=w) ab;rw[jy,jy,ah (by rw[hb];simp)]
  | succ m =>
   rw[jy,jy];split
   .rename_i hb;unfold fI at hb;cases e:aP w with
    | nil=>rw[e] at hb;cases hb
    | cons f r =>
     rw[e] at hb;have hb:=aX hb;have hpos:1<=gh to (aP w):=by rw[e,r4];omega
     obtain⟨s1,-,-,s4⟩:=h.step ab e;have:=s4 to hb;exact ih m s1 ab ab ab
   .rfl
theorem GK{w:aJ}{to K:Int}(h:dO w K)(hK:K+2*(gh to (aP w))<=1099511627776)(hb:fI w to=true) :
  gm w to=gm (eJ w) to/\dO (eJ w) (K+2)/\gh to (aP (eJ w))+1<=gh to (aP w):=by
 have hb0:=hb
 unfold fI at hb
 cases e:aP w with
 | nil=>rw[e] at hb;cases hb
 | cons f r =>
  rw[e] at hb;have hb:=aX hb;have hpos:1<=gh to (aP w):=by rw[e,r4];omega
  obtain⟨s1,-,-,s4⟩:=h.step ab e;have:=s4 to hb;refine⟨?_,s1,by rw[← e];exact this⟩;obtain⟨k,hk⟩:∃ k,gh to (aP w)=k+1:=⟨gh to (aP w)-1,ab⟩
  have e1:gm w to=jy k (eJ w) to:=by unfold gm;rw[hk,jy,aj hb0]
  rw[e1];exact aU4 _ _ s1 ab (eT _) ab
theorem Fa{w:aJ}{to:Int}(hb:fI w to=false):∀ n:Nat,jy n w to=w
 | 0=>rfl
 | n+1=>by rw[jy,ah (by rw[hb];simp)]
theorem bw0{w:aJ}{a b:Int}(h:a<=b)(hb:fI w a=true):fI w b=true:=by
 unfold fI at hb ⊢
 cases e:aP w with
 | nil=>rw[e] at hb;cases hb
 | cons f r =>
  rw[e] at hb;have hb:=aX hb;exact fm ab
theorem VP{a b:Int}(h:a<=b):∀ l:List Flight,gh a l<=gh b l
 | []=>eT _
 | f::r=>by rw[r4,r4];have:=VP h r;omega
theorem aq5{a b:Int}(hab:a<=b):∀(n:Nat){w:aJ}{K:Int},dO w K->gh a (aP w)<=n->K+2*(gh b (aP w))<=1099511627776 →
  gm (gm w a) b=gm w b/\(∃ K',dO (gm w a) K'∧K'+2*(gh b (aP (gm w a)))<=1099511627776)/\fI (gm w a) a=false/\bf (gm w a)<=max (bf w) a:=by
 intro n
 induction n with
 | zero =>
  intro w K h hn hK;have hb:fI w a=false:=by
   unfold fI;cases e:aP w with
   | nil=>rfl
   | cons f r =>
    rw[e,r4] at hn;exact fh ab
  have e:gm w a=w:=Fa hb _;rw[e];exact⟨rfl,⟨K,h,hK⟩,hb,ab⟩
 | succ n ih =>
  intro w K h hn hK;by_cases hb:fI w a=true
  .have l:=VP hab (aP w);obtain⟨r1,r2,r3⟩:=GK h ab hb;obtain⟨q1,q2,q3⟩:=GK h hK (bw0 hab hb);have now:bf (eJ w)<=a:=by
    unfold fI at hb;cases e:aP w with
    | nil=>rw[e] at hb;cases hb
    | cons f r =>
     rw[e] at hb;have hb:=aX hb;have hpos:1<=gh a (aP w):=by rw[e,r4];omega
     obtain⟨-,-,s3,-⟩:=h.step ab e;omega
   rw[r1,q1];obtain⟨i1,i2,i3,i4⟩:=ih r2 ab ab;exact⟨i1,i2,i3,ab⟩
  .have hb:fI w a=false:=by simpa using hb
   have e:gm w a=w:=Fa hb _;rw[e];exact⟨rfl,⟨K,h,hK⟩,hb,ab⟩
theorem dO.okDn{w:aJ}{K:Int}(h:dO w K):okDn w:=⟨h.done.1,by have:=Gt h.net;omega⟩
theorem bz3{w:aJ}{a:Int}(hb:fI w a=false){b:Int}(hb2:fI w b=true):a<=aW ((aP w).headD default):=by
 unfold fI at hb hb2
 cases e:aP w with
 | nil=>rw[e] at hb2;cases hb2
 | cons f r =>
  rw[e] at hb;have hb:=bi hb;show a<=aW f;omega
theorem dO.wait{w:aJ}{K a:Int}(h:dO w K)(hb:fI w a=false)(ha:0<=a/\a<=1125899906842624):dO (cK w a) K:=by
 refine⟨h.net,ha,h.ord,h.done,h.len,h.st,h.cl,h.cr,h.fl,λx hx=>?_,h.fn⟩
 have hx:x∈aP w:=hx
 have k:=h.fo x hx
 refine⟨⟨?_,k.t.2⟩,k.o,k.nd,k.l,k.g,k.b,k.d⟩
 show a<=aW x
 have hp:=h.fl
 unfold fI at hb
 cases e:aP w with
 | nil=>rw[e] at hx;cases hx
 | cons f r =>
  rw[e] at hb hx hp;have hb:=bi hb;rcases eZ.1 hx with rfl|hx
  .omega
  .rcases (List.pairwise_cons.1 hp).1 x hx with q|q <;> omega
theorem Y3{w:aJ}{K a b:Int}(h:dO w K)(ha:0<=a)(hab:a<=b)(hb:b<=1125899906842624)(hK:K+2*(gh b (aP w))<=1099511627776):j9 (j9 w a) b=j9 w b:=by
 obtain⟨t1,⟨K',t2,t3⟩,t4,-⟩:=aq5 hab _ h (eT _) hK
 have ea:j9 w a=cY (cK (gm w a) a):=rfl
 have eb:j9 w b=cY (cK (gm w b) b):=rfl
 rw[ea,eb,← t1]
 generalize gm w a=u at t2 t3 t4
 have hv:dO (cY (cK u a)) K':=(t2.wait t4 ⟨ha,ab⟩).change
 have fl:aP (cY (cK u a))=aP u:=(LG _).1
 have hbz:fI (cY (cK u a)) b=fI u b:=by unfold fI;rw[fl]
 show cY (cK (gm (cY (cK u a)) b) b)=_
 by_cases hz:fI u b=true
 .obtain⟨r1,-,-⟩:=GK t2 t3 hz;obtain⟨q1,-,-⟩:=GK hv (by rw[fl];exact t3) (hbz.trans hz);rw[q1,r1,aj7 t2.okDn (bz3 t4 hz)]
 .have hz:fI u b=false:=by simpa using hz
  rw[show gm (cY (cK u a)) b=cY (cK u a) from Fa (hbz.trans hz) _,show gm u b=u from Fa hz _];exact We t2.okDn hab
def J5(f:Flight):Int×Int×Int×Int×ac:=(f.1,f.2.2)
def Lr(c:Int)(l l':List Flight):Prop:=∃ (g:Flight) (pre post:List Flight),l'=pre++g::post/\(pre++post).map J5=l.map J5/\c<aW g/\(∀ y∈pre,aW y<=aW g)∧∀ y∈post,aW g<=aW y
theorem UE{x y:Flight}(h:J5 x=J5 y):aW x=aW y/\x.2.2=y.2.2:=⟨fj (·.1) h,fj (·.2) h⟩
theorem Lr.len{c:Int}{l l':List Flight}(h:Lr c l l'):l'.length=l.length+1:=by
 obtain⟨g,pre,post,rfl,h1,-⟩:=h
 have:=fj List.length h1
 rw[mg,mg,cL] at this
 rw[cL,dP];omega
theorem Lr.busy{c:Int}{l l':List Flight}(h:Lr c l l')(w:aJ)(o':Int)(e:aP w=l):fI (gB (WM w o') l') c=fI w c:=by
 obtain⟨g,pre,post,rfl,h1,h2,h3,h4⟩:=h
 show (match pre++g::post with|[]=>false|f::_=>decide (aW f<=c))=(match aP w with|[]=>false|f::_=>decide (aW f<=c))
 rw[e]
 cases pre with
 | nil =>
  rw[uy];have hg:decide (aW g<=c)=false:=fh ab;show decide (aW g<=c)=_;rw[hg];cases post with
  | nil =>
   cases l with
   | nil=>rfl
   | cons f r=>cases h1
  | cons y p =>
   cases l with
   | nil=>rfl
   | cons f r =>
    rw[uy,fV,fV,List.cons.injEq] at h1;have:=(UE h1.1).1;have:=h4 y fp;exact (fh ab).symm
 | cons f' pre =>
  cases l with
  | nil=>cases h1
  | cons f r =>
   rw[nO,fV,fV,List.cons.injEq] at h1;have:=(UE h1.1).1;show decide (aW f'<=c)=decide (aW f<=c);rw[this]
structure zf (n:Net) (now:Int) (f:Flight):Prop where
 t:now<=aW f/\aW f<=1125899906842624
 nd:0<=bR f/\bR f<n.1.length
 l:js f = -1∨js f∈c8 (n.1.getD (bR f).toNat default)
 b:bytes (io f)
 d:((io f).length:Int)<=2000
structure gP (w:aJ):Prop where
 net:iB (aH w)=0
 now:0<=bf w/\bf w<=1125899906842624
 done:0<=dU w/\dU w<=(aH w).2.2.length
 len:(dc w).length=(aH w).1.length
 st:∀ i:Nat,i<(aH w).1.length->cR ((dc w).getD i default)=(gp (aH w) (dU w).toNat).getD i default/\(mE ((dc w).getD i default)).length=(aM ((aH w).1.getD i default)).length
 cl:(iI w).length=(aH w).2.1.length
 fl:(aP w).Pairwise λa b=>aW a<=aW b
 fo:∀ f∈aP w,zf (aH w) (bf w) f
 fn:(aP w).length<=4096
theorem dO.weak{w:aJ}{K:Int}(h:dO w K):gP w :=
 ⟨h.net,h.now,h.done,h.len,λi hi=>⟨(h.st i hi).2,(h.st i hi).1.ps⟩,h.cl,h.fl.imp λq=>by rcases q with q|q <;> omega,
  λf hf=>by have k:=h.fo f hf;exact⟨k.t,k.nd,k.l,k.b,k.d⟩,h.fn⟩
theorem gP.chk{w:aJ}(h:gP w){i:Nat}(hi:i<(aH w).1.length):jf (cR ((dc w).getD i default)) (c8 ((aH w).1.getD i default))=0:=by
 rw[(h.st i hi).1]
 exact Qz h.net _ (by have:=h.done;omega) i hi
theorem gP.chg{w:aJ}(h:gP w)(hd:nS w=true):gP (jX w):=by
 have hd0:=hd
 unfold nS at hd
 rw[fe,rI,rI] at hd
 have hk:(dU w).toNat<(aH w).2.2.length:=by have:=h.done;omega
 obtain⟨-,⟨w0,w1⟩,-⟩:=Ih h.net hk
 have sz:=Gt h.net
 have eD:dU (jX w)=dU w+1:=aL (n:=dU w+1) (by have:=h.done;omega) (by have:=h.done;omega)
 have eN:aH (jX w)=aH w:=rfl
 have hwho:cZ (lY w)=cZ ((aH w).2.2.getD (dU w).toNat default):=rfl
 have hlt:(cZ (lY w)).toNat<(aH w).1.length:=ab
 have hst:=h.st _ hlt
 refine⟨h.net,h.now,by have:=h.done;rw[eD,eN];omega,?_,λi hi=>?_,h.cl,h.fl,h.fo,h.fn⟩
 .show ((dc w).set _ _).length=_;rw[fF];exact h.len
 .have hi:i<(aH w).1.length:=hi;rw[eD,eN,show (dU w+1).toNat=(dU w).toNat+1 by have:=h.done;omega,gp];show cR (((dc w).set (cZ (lY w)).toNat _).getD i default)=_/\(mE (((dc w).set (cZ (lY w)).toNat _).getD i default)).length=_;by_cases e:(cZ (lY w)).toNat=i
  .subst e;rw[lD (by rw[h.len];exact hlt),show ((aH w).2.2.getD (dU w).toNat default)=lY w from rfl,lD (by rw[vf];exact hlt),← hst.1];exact⟨rfl,hst.2⟩
  .rw[o5 e,show ((aH w).2.2.getD (dU w).toNat default)=lY w from rfl,o5 e];exact h.st i hi
theorem NF:∀(n:Nat){w:aJ},gP w->gP (eU n w)
 | 0,w,h=>h
 | n+1,w,h=>by
  rw[eU];split
  next hd=>exact NF n (h.chg hd)
  .exact h
theorem bo1{l:List Flight}{f:Flight}(h:l.Pairwise λa b=>aW a<=aW b):(iJ l f).Pairwise λa b=>aW a<=aW b:=by
 induction l with
 | nil=>simp[iJ]
 | cons x l ih =>
  obtain⟨a,b⟩:=List.pairwise_cons.1 h;have ih:=ih b;by_cases c:aW x<=aW f
  .have e:iJ (x::l) f=x::iJ l f:=by
    unfold iJ;rw[List.takeWhile_cons_of_pos (by simpa using c),List.dropWhile_cons_of_pos (by simpa using c)];rfl
   rw[e];refine List.pairwise_cons.2 ⟨λy hy=>?_,ih⟩;rcases GQ.1 hy with rfl|hy
   .exact c
   .exact a y hy
  .have e:iJ (x::l) f=f::x::l:=by
    unfold iJ;rw[List.takeWhile_cons_of_neg (by simpa using c),List.dropWhile_cons_of_neg (by simpa using c)];rfl
   rw[e];refine List.pairwise_cons.2 ⟨λy hy=>?_,h⟩;rcases eZ.1 hy with rfl|hy
   .omega
   .have:=a y hy;omega
theorem gP.crosses{w:aJ}(h:gP w){f:Flight}{out:bU0}(hf:0<=bR f/\bR f<(aH w).1.length)
  (hk:out.1∈c8 ((aH w).1.getD (bR f).toNat default)) (hb:bytes out.2) (hl:(out.2.length:Int)<=2000):gP (iw w f out):=by
 have hi:(bR f).toNat<(aH w).1.length:=ab
 obtain⟨⟨k0,k1⟩,snd,o1,o2⟩:=Cf h.net hi hk
 rw[show (((bR f).toNat:Nat):Int)=bR f by omega] at o1 o2
 have ov:=Km (w:=w) (k:=out.1) snd h.now
 have base:gP (ya w ((iI w).set out.1.toNat (IntKind.i64.wrap (oY w out.1+1)))):=by
  refine⟨h.net,h.now,h.done,h.len,h.st,?_,h.fl,h.fo,h.fn⟩;show ((iI w).set _ _).length=_;rw[fF];exact h.cl
 unfold iw
 dsimp only
 split
 .exact⟨base.net,base.now,base.done,base.len,base.st,base.cl,base.fl,base.fo,base.fn⟩
 split
 .exact⟨base.net,base.now,base.done,base.len,base.st,base.cl,base.fl,base.fo,base.fn⟩
 rename_i q
 refine⟨base.net,base.now,base.done,base.len,base.st,base.cl,bo1 h.fl,?_,?_⟩
 .intro x hx;have hx:x∈iJ (aP w) (o9 w out.1,cV w,jG (aH w).2.1 out.1 (bR f),out.1,pk f,out.2):=hx;rcases GQ.1 hx with rfl|hx
  .exact⟨⟨by show bf w<=o9 w out.1;omega,by show o9 w out.1<=_;omega⟩,o1,.inr o2,hb,hl⟩
  .exact h.fo x hx
 .show (iJ (aP w) _).length<=4096;rw[O5];omega
theorem gP.out{w:aJ}(h:gP w){f:Flight}(hf:zf (aH w) (bf w) f) :
  Yb ((aH w).1.getD (bR f).toNat default) ((dc w).getD (bR f).toNat default) (bQ w f):=by
 have hi:(bR f).toNat<(aH w).1.length:=by have:=hf.nd;omega
 obtain⟨-,-,h3⟩:=Fz (h.chk hi)
 exact Mp (lk:=js f) (t:=aW f) (yV h.net hi) (λr hr=>(h3 r hr).2) hf.b
theorem gP.land{w:aJ}(h:gP w){f:Flight}(hf:zf (aH w) (bf w) f):gP (jV w f):=by
 have hi:(bR f).toNat<(aH w).1.length:=by have:=hf.nd;omega
 have O:=h.out hf
 have T:=(SE ((aH w).1.getD (bR f).toNat default) ((dc w).getD (bR f).toNat default) (js f) (aW f) (io f)).2.1
 have eH:bQ w f=gO ((aH w).1.getD (bR f).toNat default) ((dc w).getD (bR f).toNat default) (js f) (aW f) (io f):=rfl
 rw[← eH] at T
 have ha:gP (jU w ((dc w).set (bR f).toNat (bQ w f).1)):=by
  refine⟨h.net,h.now,h.done,?_,λi hl=>?_,h.cl,h.fl,h.fo,h.fn⟩
  .show ((dc w).set _ _).length=_;rw[fF];exact h.len
  .have hl:i<(aH w).1.length:=hl;show cR (((dc w).set (bR f).toNat (bQ w f).1).getD i default)=_/\(mE (((dc w).set (bR f).toNat (bQ w f).1).getD i default)).length=_;by_cases e:(bR f).toNat=i
   .subst e;rw[lD (by rw[h.len];exact hi)];exact⟨O.rt.trans (h.st _ hi).1,T.trans (h.st _ hi).2⟩
   .rw[o5 e];exact h.st i hl
 unfold jV
 dsimp only
 have key:∀ B:aJ,gP B->aH B=aH w->gP (if 0<(bQ w f).2.1.2.length then iw B f (bQ w f).2.1 else B):=by
  intro B hB b1;split
  .rename_i hp;have hr:(bQ w f).2.2=0∨(bQ w f).2.2=2:=by
    by_cases z0:(bQ w f).2.2=0
    .exact .inl z0
    by_cases z2:(bQ w f).2.2=2
    .exact .inr z2
    .have:=O.none z0 z2;rw[this] at hp;exact absurd hp (by simp[lF])
   obtain⟨p1,p2,p3⟩:=O.some hr;exact hB.crosses (by rw[b1];exact hf.nd) (by rw[b1];exact FX h.net hi p3) O.byt ab
  .exact hB
 apply key
 .split <;> (split <;> exact⟨ha.net,ha.now,ha.done,ha.len,ha.st,ha.cl,ha.fl,ha.fo,ha.fn⟩)
 .split <;> (split <;> rfl)
theorem VA{w:aJ}(h:gP w){f:Flight}(hf:zf (aH w) (bf w) f):aH (jV w f)=aH w/\bf (jV w f)=bf w ∧
  (aP (jV w f)=aP w∨∃ g,bf w+1<=aW g/\aP (jV w f)=iJ (aP w) g):=by
 have hi:(bR f).toNat<(aH w).1.length:=by have:=hf.nd;omega
 have O:=h.out hf
 unfold jV
 dsimp only
 have key:∀ B:aJ,aH B=aH w->bf B=bf w->aP B=aP w →
   (aH (if 0<(bQ w f).2.1.2.length then iw B f (bQ w f).2.1 else B)=aH w/\bf (if 0<(bQ w f).2.1.2.length then iw B f (bQ w f).2.1 else B)=bf w ∧
    (aP (if 0<(bQ w f).2.1.2.length then iw B f (bQ w f).2.1 else B)=aP w∨∃ g,bf w+1<=aW g/\aP (if 0<(bQ w f).2.1.2.length then iw B f (bQ w f).2.1 else B)=iJ (aP w) g)):=by
  intro B b1 b2 b3;split
  .rename_i hp;obtain⟨c1,c2,c3⟩:=XU B f (bQ w f).2.1;refine⟨c1.trans b1,c2.trans b2,?_⟩;rcases c3 with c3|⟨g,g1,g2⟩
   .exact .inl (c3.trans b3)
   .have hr:(bQ w f).2.2=0∨(bQ w f).2.2=2:=by
     by_cases z0:(bQ w f).2.2=0
     .exact .inl z0
     by_cases z2:(bQ w f).2.2=2
     .exact .inr z2
     .have:=O.none z0 z2;rw[this] at hp;exact absurd hp (by simp[lF])
    obtain⟨-,snd,-⟩:=Cf h.net hi (FX h.net hi (O.some hr).2.2);have ov:=Km (w:=B) (k:=(bQ w f).2.1.1) (by unfold fU;rw[b1];exact snd) (by rw[b2];exact h.now);exact .inr ⟨g,by rw[g1,← b2];exact ov.1,by rw[g2,b3]⟩
  .exact⟨b1,b2,.inl b3⟩
 apply key
 all_goals (split <;> (split <;> rfl))
theorem gP.step{w:aJ}(h:gP w){f:Flight}{r:List Flight}(e:aP w=f::r) :
  gP (eJ w)/\aH (eJ w)=aH w/\bf (eJ w)=aW f∧∀ to,aW f<=to->gh to (aP (eJ w))+1<=gh to (aP w):=by
 have hp:=h.fl
 rw[e] at hp
 obtain⟨p1,p2⟩:=List.pairwise_cons.1 hp
 have hf:=h.fo f (by rw[e];exact fp)
 have hb:gP (cK (gB w r) (aW f)):=by
  refine⟨h.net,⟨by show 0<=aW f;have:=h.now;have:=hf.t;omega,hf.t.2⟩,h.done,h.len,h.st,h.cl,p2,λx hx=>?_,?_⟩
  .have hx:x∈r:=hx;have k:=h.fo x (by rw[e];exact fu _ hx);exact⟨⟨p1 x hx,k.t.2⟩,k.nd,k.l,k.b,k.d⟩
  .show r.length<=4096;have:=h.fn;rw[e,dP] at this;omega
 have es:eJ w=jV (cY (cK (gB w r) (aW f))) f:=by unfold eJ;rw[e];rfl
 have c1:gP (cY (cK (gB w r) (aW f))):=NF _ hb
 have c2:=FK ((aH w).2.2.length-(dU w).toNat) (cK (gB w r) (aW f))
 have n1:aH (cY (cK (gB w r) (aW f)))=aH w:=c2.1
 have n2:bf (cY (cK (gB w r) (aW f)))=aW f:=c2.2.1
 have n4:aP (cY (cK (gB w r) (aW f)))=r:=(LG _).1
 generalize cY (cK (gB w r) (aW f))=v at c1 n1 n2 n4 es
 have hfv:zf (aH v) (bf v) f:=by
  rw[n1,n2];exact⟨⟨gH _,hf.t.2⟩,hf.nd,hf.l,hf.b,hf.d⟩
 have L:=VA c1 hfv
 rw[es]
 refine⟨c1.land hfv,L.1.trans n1,L.2.1.trans n2,λto hto=>?_⟩
 rw[e,r4]
 rcases L.2.2 with q|⟨g,g1,g2⟩
 .rw[q,n4];omega
 .rw[g2,n4,XO];rw[n2] at g1;omega
theorem X8{b:ac}(hb:bytes b)(h:j4 b=0):cy (lL b)=BT (cy b)/\dE (lL b)=0/\(lL b).drop 20=b.drop 20:=by
 have hd:dE b=0:=i5 λk=>by rw[j4,aj k] at h;exact k h
 have ht:¬ (cy b).2.2.1<2:=λk=>by rw[j4,ah (λq=>q hd),aj k] at h;cases h
 obtain⟨⟨h1,⟨h2,h2'⟩,h3,h4,h5⟩,l1,l2⟩:=Ce hb hd
 have hk:nh (BT (cy b)):=⟨h1,⟨by show 0<=(cy b).2.2.1-1;omega,by show (cy b).2.2.1-1<=255;omega⟩,h3,h4,h5⟩
 have hl:((b.drop 20).length:Int)<=1480:=by rw[ib];omega
 have e:gv (BT (cy b),b.drop 20)=0:=by
  rw[gv,ah (by rw[sI];exact hk),ah (by simp only;omega)]
 rw[lL,aj h,fN,aj e]
 exact O9 hk (zw hb 12) (zw hb 16) hl (Bh hb)
theorem at4{b:ac}(hb:bytes b)(hn:¬ fq b):¬ fq (if j4 b=0 then lL b else b):=by
 split
 next h=>
  obtain⟨e1,e2,e3⟩:=X8 hb h;have hd:dE b=0:=i5 λk=>by rw[j4,aj k] at h;exact k h
  rintro⟨-,k⟩;apply hn;refine⟨hd,?_⟩;rw[cD,aj e2,e1,e3] at k;rw[cD,aj hd];exact k
 .exact hn
theorem OD{b:ac}{f kind code id ttl:Int}(hb:bytes b)(hf:u32 f)(h:iW b kind code id ttl=0):¬ fq (lv b f kind code id ttl):=by
 have hg:uI kind code id ttl:=i5 λk=>by rw[iW,aj k] at h;cases h
 have ha:fq b:=i5 λk=>by rw[iW,ah (λq=>q hg),ah k] at h;cases h
 obtain⟨-,e,en,ei⟩:=Jd (src:=f) hg ha
 have hk:=hg.1
 rw[e]
 obtain⟨s1,s2,s3,s4⟩:=C8 (src:=f) (dst:=dC b) (proto:=1) (data:=jL (kind,code,b.take 28)) hg.2.2 ab hf (zw hb 12) (M5 _) (NQ en (Ms hb))
 intro k
 have hp1:d5 (fN (lz f (dC b) 1 id ttl (jL (kind,code,b.take 28))))=1:=by rw[d5,s2]
 have:=(tI k).2.2.1 hp1
 rw[s3,(UM en).1] at this
 simp only at this
 omega
theorem Zh{b:ac}{f id ttl:Int}(hb:bytes b)(hf:u32 f)(h:jn b id ttl=0):¬ fq (lS b f id ttl):=by
 have hn:kv id ttl:=i5 λk=>by rw[jn,aj k] at h;cases h
 have hg:yB b:=i5 λk=>by rw[jn,ah (λq=>q hn),ah k] at h;cases h
 obtain⟨-,l1,l2⟩:=Ce hb hg.1.1
 have hd:=Bh (n:=20) hb
 rcases hg with⟨ha,⟨g1,g2⟩|⟨g1,g2⟩|⟨g1,g2,g3,g4⟩⟩
 .rw[(In (src:=f) hn ha g1 g2).1];have hE:((fP (true,(g7 (b.drop 20)).2)).length:Int)<=1480/\bytes (fP (true,(g7 (b.drop 20)).2)):=by
   have e:(g7 (b.drop 20)).2.2.2=(b.drop 20).drop 8:=by unfold g7;rw[aj g2]
   refine RB ?_ ?_
   .show bytes (g7 (b.drop 20)).2.2.2;rw[e];exact Bh hd
   .show ((g7 (b.drop 20)).2.2.2.length:Int)<=1472;rw[e];simp only[ib];omega
  obtain⟨s1,s2,s3,s4⟩:=C8 (src:=f) (dst:=dC b) (proto:=1) hn ab hf (zw hb 12) hE.1 hE.2;intro k;have h8:=(tI k).2.2.1 (by rw[d5,s2]);have h28:=(tI k).2.1;rw[s3] at h8;rw[s4] at h28;unfold fP at h8 h28;split at h8
  .have:(de (dB (true,(g7 (b.drop 20)).2)) 2 (dM (dB (true,(g7 (b.drop 20)).2)))).getD 0 default=0:=rfl;rw[this] at h8;cases h8
  next z=>rw[ah z] at h28;simp at h28
 .rw[(II (src:=f) hn ha g1 g2).1];exact OD hb hf (Pa hn ha)
 .rw[(Kw (src:=f) hn ha g1 g2 g3 g4).1];have hE:((gc f (dC b) (oI (gF (dC b) (g9 b) (b.drop 20)))).length:Int)<=1480/\bytes (gc f (dC b) (oI (gF (dC b) (g9 b) (b.drop 20)))):=WW rfl;obtain⟨s1,s2,s3,s4⟩:=C8 (src:=f) (dst:=dC b) (proto:=6) hn ab hf (zw hb 12) hE.1 hE.2;intro k;have h28:=(tI k).2.1;rw[s4] at h28;unfold gc at h28;split at h28
  next z=>have hfl:=(tI k).2.2.2.1 (by rw[d5,s2]);rw[s3] at hfl;unfold gc at hfl;rw[aj z] at hfl;have h13:(de (mT (oI (gF (dC b) (g9 b) (b.drop 20)))) 16 (f6 f (dC b) 6 (mT (oI (gF (dC b) (g9 b) (b.drop 20)))))).getD 13 default=20:=rfl;rw[h13,ng,ET] at hfl;have:=hfl (by show 14<=20+_;omega);exact absurd this bo
  .simp at h28
theorem bb3{x:ar}{lk L:Int}(N:tA x)(A:BD x)(hL:0<=fG x L):u32 (ob x (dR x lk) L):=by
 have l1:fG x L<(aM x).length:=(yg hL).1
 unfold ob
 split
 .exact (I9 A hL l1).1
 split
 .exact A.2.1
 split
 .exact A.2.2
 .exact (I9 A (Ho x lk) (ae3 N lk)).1
theorem ab4{ki:Int}{w:fi}{f id:Int}(hb:bytes w.2.2.2.2.1)(hf:u32 f)(hn:kv id (lN w.1))(h:kE ki w 0=0):¬ fq (kB ki w f id):=by
 have ha:=LD h
 unfold kB
 split
 .exact OD hb hf (by rw[iW,ah (λk=>k ⟨.inl rfl,ab,hn⟩),aj ha])
 split
 .exact OD hb hf (by rw[iW,ah (λk=>k ⟨.inr rfl,ab,hn⟩),aj ha])
 next k2 k3=>
  have h:jn w.2.2.2.2.1 0 (lN w.1)=0:=by
   unfold kE at h;rw[ah k2,ah k3] at h;exact h
  have hg:yB w.2.2.2.2.1:=i5 λq=>by
   rw[jn] at h;split at h
   .cases h
   .cases h
  exact Zh hb hf (D7 hn hg)
theorem bm0{x:ar}{s:NState}{lk t:Int}{b:ac}(N:tA x)(A:BD x)(hrt:∀ r∈cR s,oU r (c8 x))(hb:bytes b) :
  ((gO x s lk t b).2.2=2->fq b∧¬ fq (gO x s lk t b).2.1.2)/\((gO x s lk t b).2.2=0→¬ fq b→¬ fq (gO x s lk t b).2.1.2):=by
 constructor
 .intro h2;have hbo:fq b:=i5 λk=>aX3 k h2;refine⟨hbo,?_⟩;obtain⟨ki,e,hk⟩:=Mt h2;rw[e] at h2 ⊢;obtain⟨w,hw⟩:∃ w,w=Jb x s lk t b:=⟨_,rfl⟩
  rw[← hw] at h2 ⊢;obtain⟨a1,a2,a3⟩:=L8 h2;have w1:w.1=x:=by rw[hw];rfl
  have w2:w.2.1=s:=by rw[hw];rfl
  have w3:w.2.2.1=lk:=by rw[hw];rfl
  have w5:w.2.2.2.2.1=b:=by rw[hw];rfl
  have w6:w.2.2.2.2.2=cy b:=by
   have:w.2.2.2.2.2=(cD b).1:=by rw[hw];rfl
   rw[this,cD,aj hbo.1]
  have hn:=Vj (w:=w) (by rw[w1];exact N.id) (by rw[w1];exact N.form) (by rw[w6];exact rY hb 4);have hL:0<=fG x (mo (kB ki w) w):=by
   have:=Nq hrt (a:=pj w.2.2.2.2.2) (by rw[← w2];exact a2) (oq w) (iR (kB ki w (adr w.1 (dR w.1 w.2.2.1)) 0));unfold mo nL;rw[w1,w2];rw[w1] at this;exact this
  have hf:u32 (lE (kB ki w) w (rV ki w)):=by
   unfold lE;split
   .rw[w1,w3];exact bb3 N A hL
   .rename_i k;unfold rV at k ⊢;split
    .rw[w6];exact zw hb 16
    next z=>rw[ah z] at k;exact absurd rfl k
  have ho:(vX w ki).2.1.2=kB ki w (lE (kB ki w) w (rV ki w)) (jk w):=fj (λr:qL=>r.2.1.2) a3;rw[ho];exact ab4 (by rw[w5];exact hb) hf hn a1
 .intro h0 hno;have F:=N6 h0;rw[N9 (t:=t) F];show ¬ fq (if lk ≠ -1/\gG x=false then lL b else b);split
  .rename_i k;have ht:=F.ttl;have e1:(cD b).1=cy b:=by rw[cD,aj F.dec]
   rw[e1] at ht;have hl:j4 b=0:=by
    rw[j4,ah (λq=>q F.dec)];exact ah (λq=>ht ⟨k.1,k.2,q⟩)
   have:=at4 hb hno
   rwa [aj hl] at this
  .exact hno
def tC(w:aJ)(at' who:Int)(b:ac):aJ:=DB w (at',0,who,-1,cV w,b)
theorem dO.send{w:aJ}{K:Int}(h:dO w K)(hK:K<=2199023255552){at' who:Int}{b:ac}(ha:bf w<=at'∧at'<=1125899906842624)(hw:0<=who/\who<(aH w).1.length)(hb:bytes b)(hl:(b.length:Int)<=2000)
  (hf:(aP w).length<4096):dO (tC w at' who b) (K+1)/\cV (tC w at' who b)=cV w+1:=by
 have hord:=h.ord
 have ew:IntKind.i64.wrap (cV w+1)=cV w+1:=aL ab ab
 have eo:cV (tC w at' who b)=cV w+1:=ew
 have h':=h.more (K':=K+1) ab
 refine⟨⟨h'.net,h'.now,by rw[eo];omega,h'.done,h'.len,h'.st,h'.cl,h'.cr,?_,?_,?_⟩,eo⟩
 .exact QK h.fl λx hx=>(h.fo x hx).o.2
 .intro x hx;have hx:x∈iJ (aP w) (at',cV w,who,-1,cV w,b):=hx;show xY (aH w) (bf w) (cV (tC w at' who b)) x;rw[eo];rcases GQ.1 hx with rfl|hx
  .exact⟨ha,⟨by show 0<=cV w;omega,by show cV w<cV w+1;omega⟩,hw,.inl rfl,⟨by show 0<=cV w;omega,by show cV w<cV w+1;omega⟩,hb,hl⟩
  .have k:=h.fo x hx;exact⟨k.t,⟨k.o.1,by have:=k.o.2;omega⟩,k.nd,k.l,⟨k.g.1,by have:=k.g.2;omega⟩,k.b,k.d⟩
 .show (iJ (aP w) _).length<=4096;rw[O5];omega
def mM(n:Net):aJ:=(n,0,0,0,n.1.map pX,replicate n.2.1.length 0,[],[],[])
theorem dO.new{n:Net}(h:iB n=0):dO (mM n) 0:=by
 refine⟨h,⟨by show (0:Int)<=0;omega,by show (0:Int)<=_;omega⟩,⟨by show (0:Int)<=0;omega,by show (0:Int)<=0;omega⟩,⟨by show (0:Int)<=0;omega,by show (0:Int)<=_;omega⟩,?_,λi hi=>?_,?_,λc hc=>?_,List.Pairwise.nil,λf hf=>(by cases hf),by show (0:Nat)<=4096;omega⟩
 .show (n.1.map pX).length=_;rw[mg];rfl
 .have hi:i<n.1.length:=hi;show jQ (n.1.getD i default) ((n.1.map pX).getD i default) 0/\cR ((n.1.map pX).getD i default)=(gp n (0:Int).toNat).getD i default;rw[Eb hi];refine⟨Ux (yV h hi),?_⟩;show bL (n.1.getD i default)=(n.1.map bL).getD i default;rw[Eb hi]
 .show (replicate n.2.1.length (0:Int)).length=_;rw[wa];rfl
 .have hc:c∈replicate n.2.1.length (0:Int):=hc;rw[List.eq_of_mem_replicate hc];omega
theorem Lr.one{c:Int}{l:List Flight}{g:Flight}(h:l.Pairwise λa b=>aW a<=aW b)(hg:c<aW g):Lr c l (iJ l g):=by
 refine⟨g,l.takeWhile λx=>decide (aW x<=aW g),l.dropWhile λx=>decide (aW x<=aW g),rfl,by rw[xu],hg,λy hy=>?_,?_⟩
 .simpa using List.all_eq_true.1 (List.all_takeWhile (p:=λx=>decide (aW x<=aW g)) (l:=l)) y hy
 .intro x hx;have h2:=h;rw[← xu (p:=λx=>decide (aW x<=aW g)) (l:=l)] at h2;obtain⟨-,b,-⟩:=List.pairwise_append.1 h2;cases hh:l.dropWhile (λx=>decide (aW x<=aW g)) with
  | nil=>rw[hh] at hx;cases hx
  | cons y r =>
   have hy:¬ aW y<=aW g:=by
    have:=List.head_dropWhile_not (p:=λx=>decide (aW x<=aW g)) (l:=l) (by rw[hh];simp);simp only[hh,List.head_cons] at this;simpa using this
   rw[hh] at hx b;rcases eZ.1 hx with rfl|hx
   .omega
   .have:=(List.pairwise_cons.1 b).1 x hx;omega
def Ao(b:ac):Nat:=if dE b=0 then (cy b).2.2.1.toNat else 0
def tw(n:Net)(f:Flight):Nat:=1+2*Ao (io f)+(if gG (n.1.getD (bR f).toNat default)=true then 1 else 0)+(if js f = -1 then 2 else 0)+(if fq (io f) then 600 else 0)
def tN(n:Net)(l:List Flight):Nat:=(l.map (tw n)).sum
def lQ(w:aJ):Nat:=tN (aH w) (aP w)
def DO(n:Net):Prop:=∀ i:Nat,i<n.1.length->BD (n.1.getD i default)
theorem UR{b:ac}(hb:bytes b):Ao b<=255:=by
 unfold Ao
 split
 next h=>obtain⟨⟨-,⟨h1,h2⟩,-⟩,-⟩:=Ce hb h;omega
 .omega
theorem a19{n:Net}(h:iB n=0):∀ l∈n.2.1,nQ n.1 l=false:=by
 unfold iB at h
 obtain⟨-,h⟩:=t9 h
 obtain⟨-,h⟩:=t9 h
 obtain⟨-,h⟩:=t9 h
 obtain⟨-,h⟩:=t9 h
 obtain⟨-,h⟩:=t9 h
 obtain⟨h,-⟩:=t9 h
 unfold uO at h
 intro l hl
 split at h
 .cases h
 next k=>
  cases e:nQ n.1 l with
  | false=>rfl
  | true=>exact absurd (List.any_eq_true.2 ⟨l,hl,e⟩) k
theorem bs1{n:Net}(h:iB n=0){k x:Int}(hk:0<=k/\k<n.2.1.length)(hx:gG (n.1.getD x.toNat default)=true)(ho:0<=jG n.2.1 k x):gG (n.1.getD (jG n.2.1 k x).toNat default)=false:=by
 have hd:=a19 h (n.2.1.getD k.toNat default) (cA hk.1 hk.2)
 unfold nQ at hd
 unfold jG at ho ⊢
 rw[ah ab] at ho ⊢
 split at ho
 next e=>rw[aj e];rw[← e,hx,Bool.true_and] at hd;exact hd
 .split at ho
  next e0 e=>rw[ah e0,aj e];rw[← e,hx,Bool.and_true] at hd;exact hd
  .omega
theorem aK0{b:ac}(hb:bytes b)(h:j4 b=0):Ao (lL b)+1=Ao b:=by
 obtain⟨e1,e2,-⟩:=X8 hb h
 have hd:dE b=0:=i5 λk=>by rw[j4,aj k] at h;exact k h
 have ht:¬ (cy b).2.2.1<2:=λk=>by rw[j4,ah (λq=>q hd),aj k] at h;cases h
 unfold Ao
 rw[aj e2,aj hd,e1]
 show ((cy b).2.2.1-1).toNat+1=_
 omega
theorem af3{v:aJ}(h:gP v){f:Flight}(hf:zf (aH v) (bf v) f)(A:DO (aH v))(hp:0<(bQ v f).2.1.2.length)(t o og:Int) :
  tw (aH v) (t,o,jG (aH v).2.1 (bQ v f).2.1.1 (bR f),(bQ v f).2.1.1,og,(bQ v f).2.1.2)+1<=tw (aH v) f:=by
 have hi:(bR f).toNat<(aH v).1.length:=by have:=hf.nd;omega
 have N:=yV h.net hi
 have O:=h.out hf
 obtain⟨-,-,h3⟩:=Fz (h.chk hi)
 have Z:=bm0 (lk:=js f) (t:=aW f) N (A _ hi) (λr hr=>(h3 r hr).2) hf.b
 have eH:bQ v f=gO ((aH v).1.getD (bR f).toNat default) ((dc v).getD (bR f).toNat default) (js f) (aW f) (io f):=rfl
 have hr:(bQ v f).2.2=0∨(bQ v f).2.2=2:=by
  by_cases z0:(bQ v f).2.2=0
  .exact .inl z0
  by_cases z2:(bQ v f).2.2=2
  .exact .inr z2
  .have:=O.none z0 z2;rw[this] at hp;exact absurd hp (by simp[lF])
 obtain⟨⟨k0,k1⟩,-,⟨o1,-⟩,-⟩:=Cf h.net hi (FX h.net hi (O.some hr).2.2)
 rw[show (((bR f).toNat:Nat):Int)=bR f by have:=hf.nd;omega] at o1
 have hk:¬ (bQ v f).2.1.1 = -1:=ab
 show 1+2*Ao (bQ v f).2.1.2+(if gG ((aH v).1.getD (jG (aH v).2.1 (bQ v f).2.1.1 (bR f)).toNat default)=true then 1 else 0)+(if (bQ v f).2.1.1 = -1 then 2 else 0)+(if fq (bQ v f).2.1.2 then 600 else 0)+1<=_
 rw[ah hk]
 have hD:=bs1 (x:=bR f) h.net ⟨k0,k1⟩
 rw[← eH] at Z
 have hob:=O.byt
 have t1:=UR hob
 unfold tw
 generalize gG ((aH v).1.getD (jG (aH v).2.1 (bQ v f).2.1.1 (bR f)).toNat default)=oy at *
 rcases hr with hr|hr
 .have F:=N6 (by rw[← eH];exact hr);have e:=N9 (t:=aW f) F;rw[← eH] at e;have e2:(bQ v f).2.1.2=if js f ≠ -1/\gG ((aH v).1.getD (bR f).toNat default)=false then lL (io f) else io f:=by rw[e]
  have ha:(if fq (bQ v f).2.1.2 then 600 else 0)<=(if fq (io f) then 600 else 0):=by
   split
   next q=>rw[aj (i5 λk=>Z.2 hr k q)];omega
   .omega
  generalize (if fq (bQ v f).2.1.2 then 600 else 0)=a1 at *;generalize (if fq (io f) then 600 else 0)=a2 at *;cases ox:gG ((aH v).1.getD (bR f).toNat default) with
  | true =>
   have:=hD ox o1;rw[this] at *;rw[e2,ah (by rw[ox];simp)];simp;omega
  | false =>
   by_cases hl:js f = -1
   .rw[e2,ah (λq=>q.1 hl),aj hl];cases oy <;> simp <;> omega
   .have hlow:j4 (io f)=0:=by
     have ht:=F.ttl;rw[cD,aj F.dec] at ht;unfold j4;rw[ah (λk=>k F.dec),ah];intro q;exact ht ⟨hl,ox,q⟩
    have:=aK0 hf.b hlow;rw[e2,aj ⟨hl,ox⟩,ah hl];cases oy <;> simp <;> omega
 .obtain⟨z1,z2⟩:=Z.1 hr;rw[ah z2,aj z1];cases oy <;> simp <;> omega
theorem Rl(n:Net)(l:List Flight)(f:Flight):tN n (iJ l f)=tN n l+tw n f:=by
 have e:tN n l=tN n ((l.takeWhile λx=>decide (aW x<=aW f))++(l.dropWhile λx=>decide (aW x<=aW f))):=by rw[xu]
 rw[e]
 unfold tN iJ
 simp only[lx,fV,List.sum_append,List.sum_cons]
 omega
theorem Xm(w:aJ)(f:Flight)(out:bU0):(dX (iw w f out)).length<=(dX w).length+1/\bh (iw w f out)=bh w ∧
  (aP (iw w f out)=aP w∨∃ t o,aP (iw w f out)=iJ (aP w) (t,o,jG (aH w).2.1 out.1 (bR f),out.1,pk f,out.2)):=by
 unfold iw
 dsimp only
 split
 .exact⟨by show ((dX w)++[_]).length<=_;simp,rfl,.inl rfl⟩
 .split
  .exact⟨by show ((dX w)++[_]).length<=_;simp,rfl,.inl rfl⟩
  .exact⟨by show (dX w).length<=_;omega,rfl,.inr ⟨_,_,rfl⟩⟩
theorem aP9{v:aJ}(h:gP v){f:Flight}(hf:zf (aH v) (bf v) f)(A:DO (aH v)) :
  (dX (jV v f)).length<=(dX v).length+2/\(bh (jV v f)).length<=(bh v).length+1/\tN (aH v) (aP (jV v f))+1<=tN (aH v) (aP v)+tw (aH v) f:=by
 have h1:1<=tw (aH v) f:=by unfold tw;omega
 unfold jV
 dsimp only
 generalize hb:(if (bQ v f).2.2=1 then zc (jU v ((dc v).set (bR f).toNat (bQ v f).1)) (bh (jU v ((dc v).set (bR f).toNat (bQ v f).1))++[(aW f,bR f,io f)]) else jU v ((dc v).set (bR f).toNat (bQ v f).1))=B
 have eB:aH B=aH v/\aP B=aP v/\dX B=dX v/\(bh B).length<=(bh v).length+1:=by
  rw[← hb];split
  .exact⟨rfl,rfl,rfl,by show ((bh v)++[_]).length<=_;simp⟩
  .exact⟨rfl,rfl,rfl,by show (bh v).length<=_;omega⟩
 clear hb
 obtain⟨b1,b2,b3,b4⟩:=eB
 generalize hc:(if (bQ v f).2.2≠0 then qC B f (js f) (bQ v f).2.2 else B)=C
 have eC:aH C=aH v/\aP C=aP v/\(dX C).length<=(dX v).length+1/\bh C=bh B:=by
  rw[← hc];split
  .exact⟨b1,b2,by show ((dX B)++[_]).length<=_;rw[b3];simp,rfl⟩
  .exact⟨b1,b2,by rw[b3];omega,rfl⟩
 clear hc
 obtain⟨c1,c2,c3,c4⟩:=eC
 split
 next hp=>
  obtain⟨d1,d2,d3⟩:=Xm C f (bQ v f).2.1;refine⟨ab,by rw[d2,c4];exact b4,?_⟩;rcases d3 with d3|⟨t,o,d3⟩
  .rw[d3,c2];omega
  .rw[d3,c2,Rl,c1];have:=af3 h hf A hp t o (pk f);omega
 .exact⟨ab,by rw[c4];exact b4,by rw[c2];omega⟩
theorem gP.okDn{w:aJ}(h:gP w):okDn w:=⟨h.done.1,by have:=Gt h.net;omega⟩
theorem aH6{w:aJ}(h:gP w)(hd:nS w=true):cY w=cY (jX w):=by
 obtain⟨h1,h2,h3⟩:=D4 h.okDn hd
 have e:=HH h.okDn (n:=lK (jX w)+1) ab
 rw[e,eU,aj hd]
 rfl
theorem ao6{w:aJ}(hd:¬ nS w=true):cY w=w:=by
 unfold cY
 cases (aH w).2.2.length-(dU w).toNat with
 | zero=>rfl
 | succ n=>rw[eU,ah hd]
theorem BA(w:aJ):(cY w).1=w.1/\aP (cY w)=aP w/\dX (cY w)=dX w/\bh (cY w)=bh w/\cV (cY w)=cV w/\bf (cY w)=bf w:=by
 have k:=FK ((aH w).2.2.length-(dU w).toNat) w
 have e:=k.2.2.2
 exact⟨k.1,fj (λx:ac×List Flight×List Del×List EndR=>x.2.1) e,fj (λx:ac×List Flight×List Del×List EndR=>x.2.2.2) e,fj (λx:ac×List Flight×List Del×List EndR=>x.2.2.1) e,k.2.2.1,k.2.1⟩
theorem ai5(n:Net)(f:Flight)(l:List Flight):tN n (f::l)=tw n f+tN n l:=by unfold tN;rw[fV,List.sum_cons]
theorem xY.wk{n:Net}{t o:Int}{f:Flight}(h:xY n t o f):zf n t f:=⟨h.t,h.nd,h.l,h.b,h.d⟩
def um(n:Net):Prop:=(n.1.length:Int)<=1000000/\(n.2.1.length:Int)<=1000000/\(n.2.2.length:Int)<=1000000/\(∀ x∈n.1,((aM x).length:Int)<=1000000/\okL (bL x))∧∀ c∈n.2.2,((gE c).2.1.length:Int)<=1099511627776
def vS(w:aJ):Prop:=um (aH w)/\((dc w).length:Int)<=1000000/\((iI w).length:Int)<=1000000/\((aP w).length:Int)<=1000000/\((bh w).length:Int)<=1000000000000/\((dX w).length:Int)<=1000000000000 ∧
 (∀ s∈dc w,((mE s).length:Int)<=1000000/\okL (cR s))/\(∀ f∈aP w,((io f).length:Int)<=1000000)∧∀ e∈bh w,(e.2.2.length:Int)<=1000000
theorem Vv(v:aJ)(f:Flight):bh (jV v f)=bh v∨bh (jV v f)=bh v++[(aW f,bR f,io f)]:=by
 unfold jV
 dsimp only
 generalize hb:(if (bQ v f).2.2=1 then zc (jU v ((dc v).set (bR f).toNat (bQ v f).1)) (bh (jU v ((dc v).set (bR f).toNat (bQ v f).1))++[(aW f,bR f,io f)]) else jU v ((dc v).set (bR f).toNat (bQ v f).1))=B
 have eB:bh B=bh v∨bh B=bh v++[(aW f,bR f,io f)]:=by
  rw[← hb];split
  .exact .inr rfl
  .exact .inl rfl
 clear hb
 generalize hc:(if (bQ v f).2.2≠0 then qC B f (js f) (bQ v f).2.2 else B)=C
 have eC:bh C=bh B:=by rw[← hc];split <;> rfl
 split
 .rw[(Xm C f _).2.1,eC];exact eB
 .rw[eC];exact eB
structure dZ (B:Int) (w:aJ):Prop where
 b:B<=549755813888
 sB:dO w (B-2*lQ w)
 a:DO (aH w)
 c:um (aH w)
 dd:∀ x∈bh w,(x.2.2.length:Int)<=2000
 e:((dX w).length:Int)+2*lQ w<=B
 d:((bh w).length:Int)+lQ w<=B
abbrev zO(w:aJ):Prop:=dZ 549755813888 w
theorem dZ.s{B:Int}{w:aJ}(h:dZ B w):dO w (549755813888-2*lQ w):=h.sB.more (by have:=h.b;omega)
theorem dZ.more{B B':Int}{w:aJ}(h:dZ B w)(h1:B<=B')(h2:B'<=549755813888):dZ B' w:=⟨h2,h.sB.more ab,h.a,h.c,h.dd,by have:=h.e;omega,by have:=h.d;omega⟩
theorem dZ.sim{B:Int}{w:aJ}(h:dZ B w):zO w:=h.more h.b (gH _)
theorem dZ.change{B:Int}{w:aJ}(h:dZ B w):dZ B (cY w):=by
 obtain⟨k1,k2,k3,k4,-⟩:=BA w
 have ep:lQ (cY w)=lQ w:=by unfold lQ;rw[k2];show tN (cY w).1 _=_;rw[k1];rfl
 exact⟨h.b,by rw[ep];exact h.sB.change,by show DO (cY w).1;rw[k1];exact h.a,by show um (cY w).1;rw[k1];exact h.c,by rw[k4];exact h.dd,by rw[ep,k3];exact h.e,by rw[ep,k4];exact h.d⟩
theorem dZ.cp{B:Int}{w:aJ}(h:dZ B w):vS w:=by
 have h1:=h.s.len
 have h2:=Gt h.s.net
 have h3:=h.s.cl
 have h4:=h.s.fn
 have h5:=h.e
 have h6:=h.d
 have h7:=h.b
 refine⟨h.c,ab,ab,ab,ab,ab,λs hs=>?_,λf hf=>by have:=(h.s.fo f hf).d;omega,λx hx=>by have:=h.dd x hx;omega⟩
 obtain⟨i,hi,rfl⟩:=List.mem_iff_getElem.1 hs
 have hi2:i<(aH w).1.length:=ab
 obtain⟨st,-⟩:=h.s.st i hi2
 have e:(dc w).getD i default=(dc w)[i]:=by rw[ct,cM hi];rfl
 rw[e] at st
 have:=st.ps
 have:=(yV h.s.net hi2).n32
 exact⟨ab,st.okl⟩
theorem bM6{w:aJ}(h:gP w)(A:DO (aH w)){f:Flight}{r:List Flight}(e:aP w=f::r) :
  lQ (eJ w)+1<=lQ w/\(dX (eJ w)).length<=(dX w).length+2/\(bh (eJ w)).length<=(bh w).length+1:=by
 obtain⟨-,s2,-⟩:=h.step e
 have es:eJ w=jV (cY (cK (gB w r) (aW f))) f:=by unfold eJ;rw[e];rfl
 obtain⟨k1,k2,k3,k4,-,k6⟩:=BA (cK (gB w r) (aW f))
 have k2:aP (cY (cK (gB w r) (aW f)))=r:=k2
 have k6:bf (cY (cK (gB w r) (aW f)))=aW f:=k6
 have k1:aH (cY (cK (gB w r) (aW f)))=aH w:=k1
 have hf:=h.fo f (by rw[e];exact fp ..)
 have hp:=h.fl
 rw[e] at hp
 have h0:gP (cK (gB w r) (aW f)):=by
  refine⟨h.net,⟨by have:=hf.t;have:=h.now;show 0<=aW f;omega,hf.t.2⟩,h.done,h.len,h.st,h.cl,(List.pairwise_cons.1 hp).2,λx hx=>?_,?_⟩
  .have k:=h.fo x (by rw[e];exact fu _ hx);exact⟨⟨(List.pairwise_cons.1 hp).1 x hx,k.t.2⟩,k.nd,k.l,k.b,k.d⟩
  .have:=h.fn;rw[e] at this;simp at this;show r.length<=4096;omega
 have h1:gP (cY (cK (gB w r) (aW f))):=NF _ h0
 obtain⟨l1,l2,l3⟩:=aP9 h1 (f:=f) (by rw[k1,k6];exact⟨⟨gH _,hf.t.2⟩,hf.nd,hf.l,hf.b,hf.d⟩) (by rw[k1];exact A)
 rw[← es] at l1 l2 l3
 rw[k3] at l1
 rw[k4] at l2
 rw[k1,k2] at l3
 refine⟨?_,l1,l2⟩
 unfold lQ
 rw[s2,e,ai5]
 omega
theorem dZ.step{B:Int}{w:aJ}(h:dZ B w){f:Flight}{r:List Flight}(e:aP w=f::r):dZ B (eJ w)/\lQ (eJ w)+1<=lQ w:=by
 obtain⟨p1,p2,p3⟩:=bM6 h.s.weak h.a e
 obtain⟨s1,s2,-⟩:=h.sB.step (by have:=h.b;omega) e
 have h1:=h.e
 have h2:=h.d
 refine⟨⟨h.b,s1.more ab,by rw[s2];exact h.a,by rw[s2];exact h.c,?_,ab,ab⟩,p1⟩
 have es:eJ w=jV (cY (cK (gB w r) (aW f))) f:=by unfold eJ;rw[e];rfl
 have k4:bh (cY (cK (gB w r) (aW f)))=bh w:=(BA _).2.2.2.1
 have hf:=h.s.fo f (by rw[e];exact fp ..)
 rw[es]
 rcases Vv (cY (cK (gB w r) (aW f))) f with q|q
 .rw[q,k4];exact h.dd
 .rw[q,k4];intro x hx;rcases fC.1 hx with hx|hx
  .exact h.dd x hx
  .rw[nz.1 hx];exact hf.d
theorem bG4{to:Int}:∀(n m:Nat){w:aJ},gP w->gh to (aP w)<=n->gh to (aP w)<=m->jy n w to=jy m w to:=by
 have stop:∀{w:aJ},gh to (aP w)=0->fI w to=false:=by
  intro w hw;unfold fI;cases e:aP w with
  | nil=>rfl
  | cons f r =>
   rw[e,r4] at hw;exact fh ab
 intro n
 induction n with
 | zero =>
  intro m w h hn hm;have hb:=stop (w:=w) ab;cases m with
  | zero=>rfl
  | succ m=>rw[jy,jy,ah (by rw[hb];simp)]
 | succ n ih =>
  intro m w h hn hm;cases m with
  | zero =>
   have hb:=stop (w:=w) ab;rw[jy,jy,ah (by rw[hb];simp)]
  | succ m =>
   rw[jy,jy];split
   .rename_i hb;unfold fI at hb;cases e:aP w with
    | nil=>rw[e] at hb;cases hb
    | cons f r =>
     rw[e] at hb;have hb:=aX hb;have hpos:1<=gh to (aP w):=by rw[e,r4];omega
     obtain⟨s1,-,-,s4⟩:=h.step e;have:=s4 to hb;exact ih m s1 ab ab
   .rfl
theorem PM{w:aJ}{to:Int}(h:gP w)(hb:fI w to=true):gm w to=gm (eJ w) to:=by
 have hb0:=hb
 unfold fI at hb
 cases e:aP w with
 | nil=>rw[e] at hb;cases hb
 | cons f r =>
  rw[e] at hb;have hb:=aX hb;have hpos:1<=gh to (aP w):=by rw[e,r4];omega
  obtain⟨s1,-,-,s4⟩:=h.step e;have:=s4 to hb;obtain⟨k,hk⟩:∃ k,gh to (aP w)=k+1:=⟨gh to (aP w)-1,ab⟩
  have e1:gm w to=jy k (eJ w) to:=by unfold gm;rw[hk,jy,aj hb0]
  rw[e1];exact bG4 _ _ s1 ab (eT _)
theorem MB{w:aJ}{to:Int}(hb:fI w to=false):gm w to=w:=Fa hb _
theorem dZ.run{B to:Int}:∀(n:Nat){w:aJ},dZ B w->lQ w<=n->dZ B (gm w to)/\fI (gm w to) to=false/\aH (gm w to)=aH w/\lQ (gm w to)<=lQ w
 | n,w,h,hn=>by
  cases hb:fI w to with
  | false=>rw[MB hb];exact⟨h,hb,rfl,eT _⟩
  | true =>
   rw[PM h.s.weak hb];cases e:aP w with
   | nil=>unfold fI at hb;rw[e] at hb;cases hb
   | cons f r =>
    obtain⟨k1,k2⟩:=h.step e;obtain⟨-,s2,-⟩:=h.s.weak.step e;cases n with
    | zero=>omega
    | succ n =>
     obtain⟨a,b,c,d⟩:=dZ.run n k1 ab;exact⟨a,b,c.trans s2,ab⟩
def I1:aJ:=(([],[],[]),0,0,0,[],[],[],[],[])
def vg(w:aJ):Prop:=w=cK I1 (bf w)/\0<=bf w/\bf w<=1125899906842624
def oQ(w:aJ):Prop:=zO w∨vg w
theorem vg.fl{w:aJ}(h:vg w):aP w=[]:=by rw[h.1];rfl
theorem vg.cp{w:aJ}(h:vg w):vS w:=by
 rw[h.1]
 have Z:∀{b:Int},0<=b->((0:Nat):Int)<=b:=λh=>h
 exact⟨⟨Z bo,Z bo,Z bo,λx hx=>(by cases hx),λx hx=>(by cases hx)⟩,Z bo,Z bo,Z bo,Z bo,Z bo,λx hx=>(by cases hx),λx hx=>(by cases hx),λx hx=>(by cases hx)⟩
theorem oQ.cp{w:aJ}(h:oQ w):vS w:=h.elim dZ.cp vg.cp
theorem oQ.fl{w:aJ}(h:oQ w)(hf:aP w≠[]):zO w:=h.resolve_right λq=>hf q.fl
def xN(w:aJ):Prop:=gP w∨((aH w).2.2=[]/\dU w=0)
theorem vg.ch{w:aJ}(h:vg w)(t:Int):xN (cK w t) := .inr (by rw[h.1];exact⟨rfl,rfl⟩)
theorem vg.chg{w:aJ}(h:vg w)(t:Int):cY (cK w t)=cK w t:=by rw[h.1];rfl
def kR(w:aJ):Flight:=(aP w).headD default
def gq(w:aJ):aJ:=cY (cK (gB w (aP w).tail) (aW (kR w)))
def l8(w:aJ):qL:=bQ (gq w) (kR w)
def Ag(w:aJ):aJ:=jU (gq w) ((dc (gq w)).set (bR (kR w)).toNat (l8 w).1)
def pM(w:aJ):aJ:=if (l8 w).2.2=1 then zc (Ag w) (bh (Ag w)++[(aW (kR w),bR (kR w),io (kR w))]) else Ag w
def kw(w:aJ):aJ:=if (l8 w).2.2≠0 then qC (pM w) (kR w) (js (kR w)) (l8 w).2.2 else pM w
theorem Xs(w:aJ):eJ w=if 0<(l8 w).2.1.2.length then iw (kw w) (kR w) (l8 w).2.1 else kw w:=by
 have e:eJ w=jV (gq w) (kR w):=by unfold eJ gq kR;rfl
 rw[e]
 unfold jV kw pM Ag l8
 rfl
theorem yY(w:aJ):pM w=zc (Ag w) (if (l8 w).2.2=1 then bh (gq w)++[(aW (kR w),bR (kR w),io (kR w))] else bh (gq w)):=by unfold pM;split <;> rfl
theorem Ds(w:aJ):kw w=Nj (pM w) (if (l8 w).2.2≠0 then dX (gq w)++[(pk (kR w),aW (kR w),bR (kR w),js (kR w),(l8 w).2.2)] else dX (gq w)):=by
 unfold kw
 rw[yY]
 split <;> rfl
structure At (w:aJ) (f:Flight) (r:List Flight):Prop where
 s:dO (gq w) (549755813888-2*lQ w)
 fk:xY (aH (gq w)) (bf (gq w)) (cV (gq w)) f
 eF:kR w=f
 net:aH (gq w)=aH w
 now:bf (gq w)=aW f
 fl:aP (gq w)=r
 en:dX (gq w)=dX w
 dl:bh (gq w)=bh w
 h0:dO (cK (gB w (aP w).tail) (aW (kR w))) (549755813888-2*lQ w)
theorem dZ.at{B:Int}{w:aJ}(h:dZ B w){f:Flight}{r:List Flight}(e:aP w=f::r):At w f r:=by
 have hs:=h.s
 have hp:=hs.fl
 rw[e] at hp
 obtain⟨p1,p2⟩:=List.pairwise_cons.1 hp
 have hf:=hs.fo f (by rw[e];exact fp)
 have hle:∀ x∈r,aW f<=aW x:=λx hx=>by rcases p1 x hx with k|k <;> omega
 have ed:kR w=f:=by unfold kR;rw[e];rfl
 have et:(aP w).tail=r:=by rw[e];rfl
 have hb:dO (cK (gB w r) (aW f)) (549755813888-2*lQ w):=by
  refine⟨hs.net,⟨by show 0<=aW f;have:=hs.now;have:=hf.t;omega,hf.t.2⟩,hs.ord,hs.done,hs.len,hs.st,hs.cl,hs.cr,p2,λx hx=>?_,?_⟩
  .have hx:x∈r:=hx;have k:=hs.fo x (by rw[e];exact fu _ hx);exact⟨⟨hle x hx,k.t.2⟩,k.o,k.nd,k.l,k.g,k.b,k.d⟩
  .show r.length<=4096;have:=hs.fn;rw[e,dP] at this;omega
 obtain⟨k1,k2,k3,k4,k5,k6⟩:=BA (cK (gB w r) (aW f))
 have es:gq w=cY (cK (gB w r) (aW f)):=by unfold gq;rw[ed,et]
 have n1:aH (gq w)=aH w:=by rw[es];exact k1
 have n2:bf (gq w)=aW f:=by rw[es];exact k6
 have n3:cV (gq w)=cV w:=by rw[es];exact k5
 refine⟨by rw[es];exact hb.change,?_,ed,n1,n2,by rw[es];exact k2,by rw[es];exact k3,by rw[es];exact k4,by rw[ed,et];exact hb⟩
 rw[n1,n2,n3]
 exact⟨⟨gH _,hf.t.2⟩,hf.o,hf.nd,hf.l,hf.g,hf.b,hf.d⟩
theorem At.out{w:aJ}{f:Flight}{r:List Flight}(h:At w f r)(hp:0<(l8 w).2.1.2.length) :
  0<=(l8 w).2.1.1/\(l8 w).2.1.1<(aH w).2.1.length/\nY (aH w).1.length ((aH w).2.1.getD (l8 w).2.1.1.toNat default):=by
 have hi:(bR f).toNat<(aH (gq w)).1.length:=by have:=h.fk.nd;omega
 have O:=h.s.weak.out h.fk.wk
 have eH:l8 w=bQ (gq w) f:=by unfold l8;rw[h.eF]
 rw[eH] at hp ⊢
 have hr:(bQ (gq w) f).2.2=0∨(bQ (gq w) f).2.2=2:=by
  by_cases z0:(bQ (gq w) f).2.2=0
  .exact .inl z0
  by_cases z2:(bQ (gq w) f).2.2=2
  .exact .inr z2
  .have:=O.none z0 z2;rw[this] at hp;exact absurd hp (by simp[lF])
 obtain⟨⟨k0,k1⟩,k2,-⟩:=Cf h.s.net hi (FX h.s.net hi (O.some hr).2.2)
 rw[h.net] at k1 k2
 exact⟨k0,k1,k2⟩
end Go.RS
namespace Go.SX
open Go
variable {P:Program}
theorem G7(w:World)(dT sT ty mL:TypeId)(z g o dLen dCap:Nat)(a:Addr)(qK ym:Nat)(cur:Array Value)(t:TypeId)(cs:List Value)
  (hu:P.underlying dT=some (.slice mL)) (hs:(P.info? mL).map (·.size)=some z)
  (hg:w.heap[g]? = some (.cells cur t (0,0))) (hn:cs.length=Nat.min qK dLen*z)
  (hsrc:∀ j v,cs[j]? = some v->w.cell? (a.add j)=some v) (hfit:o+cs.length<=cur.size) (h1:∀ v∈cs,v.oneCell'=true) :
  (Builtin.copy_ #[dT,sT] ty #[.slice (some ⟨g,o,none⟩) dLen dCap,.slice (some a) qK ym]).run P w =
   .ok (goInt (Nat.min qK dLen)) (w.setRow g (cur.toList.take o++cs++cur.toList.drop (o+cs.length)).toArray):=by
 have hl:=run_loadCells_list (P:=P) w a cs hsrc
 have hst:=run_storeCells_at P g o t cs 0 cur w hg (by simpa using hfit) h1
 cases hq:P.info? mL with
 | none=>simp[hq] at hs
 | some i =>
  have hi:i.size=z:=by simpa[hq] using hs
  simp[Builtin.copy_,run_underlying hu,Builtin.lenOf,Builtin.firstCells,sizeOf,typeInfo,hq,hi,← hn,hl,hst]
end Go.SX
namespace Go.SX
open Go.ChangeShapes Go.WideShapes Go.ChangeAt Go.RowKit
def Cu{H:Type}(f:(t:CT)->TypeId->t.D->DataW H):List Field->(t:CT)->t.D->List (DataW H)
 | [],_,_=>[]
 | [fd],t,d=>[f t fd.type d]
 | fd::g::r,.pair a b,(x,y)=>f a fd.type x::Cu f (g::r) b y
 | _::_::_,_,_=>[]
def Cj{H:Type}(f:(t:CT)->TypeId->t.D->DataW H)(e:TypeId):Nat->(t:CT)->t.D->List (DataW H)
 | 0,_,_=>[]
 | 1,t,d=>[f t e d]
 | n+2,.pair a b,(x,y)=>f a e x::Cj f e (n+1) b y
 | _+2,_,_=>[]
def rP{H:Type}(P:Program):Nat->(t:CT)->TypeId->t.D->DataW H
 | 0,_,_,_ => .agg []
 | n+1,t,τ,d=>match P.underlying τ,t,d with
  | some (.int k),.int _,d => .lit (.int k d)
  | some .bool,.bool,d => .lit (.bool d)
  | some (.struct fs),t,d => .agg (Cu (rP P n) fs.toList t d)
  | some (.array k e),t,d => .agg (Cj (rP P n) e k t d)
  | _,_,_ => .agg []
def wR:CT->Bool
 | .int _=>true
 | .bool=>true
 | .pair a b=>wR a&&wR b
 | _=>false
section
variable {H:Type} {enc:TypeId×Value->H} {P:Program} {w:World} {base:Nat} {held:Bool}
theorem Wy{A:Nat->Prop}{f:CT->TypeId->Bool}{F:(t:CT)->TypeId->t.D->DataW H}{cs:List Value}{n:Nat}
  (hf:∀ t τ cs d p,f t τ=true->wR t=true->DataW.trod enc P w base (λ_=>true) held n τ cs=some (F t τ d,p)->Rd A w t (λj=>cs[j]?) 0 d) :
  ∀(fs:List Field)(t:CT)(o:Nat)(d:t.D)(xs:List (DataW H×List MemPlace)),yC P f fs t o=true->wR t=true->xs.length=fs.length->xs.map (·.1)=Cu F fs t d →
   (∀ i (h1:i<fs.length) (h2:i<xs.length),DataW.trod enc P w base (λ_=>true) held n fs[i].type ((cs.drop fs[i].offset).take (P.cellsOf fs[i].type))=some xs[i])->Rd A w t (λj=>cs[j]?) o d
 | [],t,o,d,xs,h,_,_,_,_=>by cases h
 | [fd],t,o,d,xs,h,ht,hl,he,hx=>by
  simp only[yC,fe] at h;obtain⟨⟨h1,h2⟩,h3⟩:=h;have h2:=bK h2;have h3:=bK h3
  match xs,hl with
  | [x],_ =>
   have:=hx 0 aw aw;simp only[List.getElem_cons_zero] at this;simp only[fV,List.map_nil,Cu,List.cons.injEq,iC] at he;have hd:=hf t fd.type _ d x.2 h1 ht (by rw[this,← he]);rw[h2] at hd;exact z4 h3 hd
 | fd::g::r,.pair a b,o,(d1,d2),xs,h,ht,hl,he,hx=>by
  simp only[yC,fe] at h;obtain⟨⟨⟨h1,h2⟩,h3⟩,h4⟩:=h;simp only[wR,fe] at ht;have h2:=bK h2;have h3:=bK h3
  match xs,hl with
  | x::ys,hl =>
   simp only[fV,Cu,List.cons.injEq] at he;have:=hx 0 aw aw;simp only[List.getElem_cons_zero] at this;have hd:=hf a fd.type _ d1 x.2 h1 ht.1 (by rw[this,← he.1]);rw[h2] at hd;have hd':=Wy hf (g::r) b (o+a.size) d2 ys h4 ht.2 (by simpa using hl) he.2 (λi k1 k2=>by
    have:=hx (i+1) (by simpa using k1) (by simpa using k2);simpa only[List.getElem_cons_succ] using this)
   exact⟨z4 h3 hd,hd'⟩
 | _::_::_,.int _,_,_,_,h,_,_,_,_=>by cases h
 | _::_::_,.bool,_,_,_,h,_,_,_,_=>by cases h
 | _::_::_,.str,_,_,_,h,_,_,_,_=>by cases h
 | _::_::_,.sl _,_,_,_,h,_,_,_,_=>by cases h
theorem UA{A:Nat->Prop}{f:CT->TypeId->Bool}{F:(t:CT)->TypeId->t.D->DataW H}{cs:List Value}{n:Nat}{e:TypeId}
  (hf:∀ t τ cs d p,f t τ=true->wR t=true->DataW.trod enc P w base (λ_=>true) held n τ cs=some (F t τ d,p)->Rd A w t (λj=>cs[j]?) 0 d) :
  ∀(k:Nat)(t:CT)(i:Nat)(d:t.D)(xs:List (DataW H×List MemPlace)),yv P f e k t=true->wR t=true->xs.length=k->xs.map (·.1)=Cj F e k t d →
   (∀ j (h2:j<xs.length),DataW.trod enc P w base (λ_=>true) held n e ((cs.drop ((i+j)*P.cellsOf e)).take (P.cellsOf e))=some xs[j])->Rd A w t (λj=>cs[j]?) (i*P.cellsOf e) d
 | 0,t,i,d,xs,h,_,_,_,_=>by cases h
 | 1,t,i,d,xs,h,ht,hl,he,hx=>by
  simp only[yv,fe] at h;obtain⟨h1,h2⟩:=h;have h2:=bK h2
  match xs,hl with
  | [x],_ =>
   have:=hx 0 aw;simp only[List.getElem_cons_zero] at this;simp only[fV,List.map_nil,Cj,List.cons.injEq,iC] at he;have hd:=hf t e _ d x.2 h1 ht (by rw[this,← he]);exact z4 h2 hd
 | k+2,.pair a b,i,(d1,d2),xs,h,ht,hl,he,hx=>by
  simp only[yv,fe] at h;obtain⟨⟨h1,h2⟩,h4⟩:=h;simp only[wR,fe] at ht;have h2:=bK h2
  match xs,hl with
  | x::ys,hl =>
   simp only[fV,Cj,List.cons.injEq] at he;have:=hx 0 aw;simp only[List.getElem_cons_zero] at this;have hd:=hf a e _ d1 x.2 h1 ht.1 (by rw[this,← he.1]);have hd':=UA hf (k+1) b (i+1) d2 ys h4 ht.2 (by simpa using hl) he.2 (λj k2=>by
    have:=hx (j+1) (by simpa using k2);simp only[List.getElem_cons_succ] at this;rw[← this];congr 4;omega)
   refine⟨z4 h2 hd,?_⟩;rw[gY,nA] at hd';rw[← h2];exact hd'
 | _+2,.int _,_,_,_,h,_,_,_,_=>by cases h
 | _+2,.bool,_,_,_,h,_,_,_,_=>by cases h
 | _+2,.str,_,_,_,h,_,_,_,_=>by cases h
 | _+2,.sl _,_,_,_,h,_,_,_,_=>by cases h
theorem Ob:∀(n:Nat)(t:CT)(τ:TypeId)(fuel:Nat)(cs:List Value)(d:t.D)(p:List MemPlace),oM P n t τ=true->wR t=true->DataW.trod enc P w base (λ_=>true) held fuel τ cs=some (rP P n t τ d,p) →
  Rd (λb=>b<w.heap.size) w t (λj=>cs[j]?) 0 d
 | 0,t,τ,fuel,cs,d,p,h,_,_=>by cases h
 | n+1,t,τ,fuel,cs,d,p,h,ht,hx=>by
  cases hu:P.underlying τ with
  | none=>cases t <;> simp[oM,hu] at h
  | some ty =>
   cases ty with
   | int k =>
    cases t with
    | int k' =>
     simp only[oM,hu] at h;cases kK h;obtain⟨m,rfl,e,hw⟩:=DataW.trod_int hu hx;unfold rP at e;rw[hu] at e;simp only[cC,DataW.lit.injEq,Lit.int.injEq,true_and] at e;obtain⟨rfl,-⟩:=e;exact⟨aw,Tl hw⟩
    | _=>simp[oM,hu] at h
   | bool =>
    cases t with
    | bool =>
     obtain⟨b,rfl,e⟩:=DataW.trod_bool hu hx;unfold rP at e;rw[hu] at e;simp only[cC,DataW.lit.injEq,Lit.bool.injEq] at e;obtain⟨rfl,-⟩:=e;simp[Rd]
    | _=>simp[oM,hu] at h
   | struct fs =>
    have h':yC P (oM P n) fs.toList t 0=true:=by cases t <;> simpa[oM,hu] using h
    have ed:rP (H:=H) P (n+1) t τ d = .agg (Cu (rP P n) fs.toList t d):=by
     cases t <;> first|(cases ht;done)|(unfold rP;rw[hu])
    obtain⟨xs,m,_,e,hl,hlen,hf⟩:=DataW.trod_struct hu hx;rw[ed] at e;simp only[cC,DataW.agg.injEq] at e;refine Wy (F:=rP P n) (n:=m) (λt τ cs d p h1 h2 h3=>Ob n t τ m cs d p h1 h2 h3) fs.toList _ 0 d xs h' ht (by simpa using hlen) e.1.symm λi h1 h2=>?_;have:=hf i fs[i] (Array.getElem?_eq_getElem (by simpa using h1));rw[cM h2] at this;simpa using this
   | array k e' =>
    have h':yv P (oM P n) e' k t=true:=by cases t <;> simpa[oM,hu] using h
    have ed:rP (H:=H) P (n+1) t τ d = .agg (Cj (rP P n) e' k t d):=by
     cases t <;> first|(cases ht;done)|(unfold rP;rw[hu])
    obtain⟨xs,m,_,e,hl,hlen,hf⟩:=DataW.trod_array hu hx;rw[ed] at e;simp only[cC,DataW.agg.injEq] at e;have:=UA (F:=rP P n) (n:=m) (cs:=cs) (e:=e') (λt τ cs d p h1 h2 h3=>Ob n t τ m cs d p h1 h2 h3) k _ 0 d xs h' ht hlen e.1.symm λj h2=>by
     have:=hf j ab;rw[cM h2] at this;simpa using this
    simpa using this
   | _=>cases t <;> first|(cases ht;done)|(simp[oM,hu] at h;done)
end
theorem globs_at{P:Program}{w:World}{l:List (String×DataW Unit)}{name:String}{t:CT}{v:t.D}{g n:Nat}{τ:TypeId}{d:DataW Unit}(h:laidMetH P l w)(hh:(l.all λx=>x.2.handleName?.isNone)=true)(hm:(name,d)∈l)
  (hg:P.globalNamed name=some g) (hτ:(P.globals[g]?).map (·.type)=some τ) (hf:oM P n t τ=true) (hs:wR t=true) (hd:d=rP P n t τ v) :
  g<w.heap.size/\Rd (λb=>b<w.heap.size) w t (λo=>w.cell? ⟨g,o,none⟩) 0 v:=by
 rw[MakeChecks.laidMetH_plain _ _ _ hh] at h
 obtain⟨g0,t0,cs0,f0,p0,hg0,ht0,hv0,hd0⟩:=Lib.laidMet.reads h hm
 obtain rfl:=Option.some.inj (hg.symm.trans hg0)
 obtain rfl:=Option.some.inj (hτ.symm.trans ht0)
 rw[hd] at hd0
 have hr:=Ob n t τ f0 cs0.toList v p0 hf hs hd0
 have hlt:g<w.heap.size:=by
  have hv:=hv0;simp only[World.var?,hg,Option.bind_some] at hv;split at hv
  next hb=>exact (Array.getElem?_eq_some_iff.1 hb).1
  .cases hv
 refine⟨hlt,?_⟩
 refine iL (λ_ h=>h) (λ_ _ _=>rfl) t _ _ _ _ (λj hj=>?_) hr
 have:=World.var?_cell hg hv0 j
 rw[gI,this];simp
end Go.SX
