/- Drawn4: drawn networks are in order. -/
import Derived.Test.YtpdpkobkpacbnaaGreatDoorSimA
import Derived.Test.YtpdpkobkpacbnaaGreatDoorLaw13c
import Derived.Test.YtpdpkobkpacbnaaGreatDoorNetdraw
import Derived.Test.YtpdpkobkpacbnaaGreatDoorSx25
set_option maxRecDepth 100000
set_option linter.unusedVariables false
open Int (toNat)
open List (length take getD set)
namespace Go.RS
open Go.SX Go.Proofs
theorem Pz(i:Int):∀(k:Nat)(ls:List aK),(∀ l∈ls,lA l≠lB l)->(portsF i k ls).Pairwise (λa b=>a.2<b.2/\a.1<b.1)∧∀ q∈portsF i k ls,(k:Int)<=q.2/\gp k<q.1
 | _,[],_=>by simp[portsF]
 | k,l::r,h=>by
  obtain⟨h1,h2⟩:=Pz i (k+1) r (λx hx=>h x (fL _ hx));have hl:=h l fW;have e:pG i k l=[]∨∃ a:Int,(a=1∨a=2)/\pG i k l=[(gp k+a,(k:Int))]:=by
   unfold pG;by_cases ha:lA l=i
   .rw[am ha,af ab];exact .inr ⟨1,.inl rfl,rfl⟩
   .rw[af ha];by_cases hb:lB l=i
    .rw[am hb];exact .inr ⟨2,.inr rfl,rfl⟩
    .rw[af hb];exact .inl rfl
  rw[portsF];unfold gp at *;rcases e with e|⟨a,ha,e⟩ <;> rw[e]
  .rw[rx];exact⟨h1,λq hq=>by have:=h2 q hq;omega⟩
  .rw[List.singleton_append];refine⟨List.pairwise_cons.2 ⟨λq hq=>?_,h1⟩,λq hq=>?_⟩
   .have:=h2 q hq;simp only;omega
   .rcases dL.1 hq with rfl|hq
    .simp only;omega
    .have:=h2 q hq;omega
theorem Py{l:List pi}{q:pi->Bool}{i:Nat}(hi:i<l.length)(hq:q (l.getD i default)=true)(hn:∀ j:Nat,j<i->q (l.getD j default)=false):gW q l=i:=by
 have e:l.findIdx q=i:=by
  rw[List.findIdx_eq hi];refine⟨by rwa [bL,cK hi,fZ] at hq,λj hj=>?_⟩;have:=hn j hj
  rwa [bL,cK ab,fZ] at this
 unfold gW
 rw[e,am hi]
theorem ah3{q:Int×Int->Bool}{l:List (Int×Int)}{y:Int×Int}(hy:y∈l)(hq:q y=true):0<=gW q l:=by
 have hlt:l.findIdx q<l.length:=List.findIdx_lt_length_of_exists ⟨y,hy,hq⟩
 unfold gW;rw[am hlt];omega
theorem RM{α:Type} [Inhabited α] {R:α->α->Prop} {l:List α} (h:l.Pairwise R) {k j:Nat} (hk:k<j) (hj:j<l.length):R (l.getD k default) (l.getD j default):=by
 rw[bL,bL,cK hj,cK ab,fZ,fZ]
 exact List.pairwise_iff_getElem.1 h _ _ _ _ hk
theorem KA{a:Int}(h:167837696<=a/\a<=167903300):fC a:=by
 right
 unfold fE
 have:a/16777216=10:=ab
 rw[af ab,af ab,am (.inl this)]
theorem SL{a n:Int}(h:n=32):jT (a,n)=true:=by
 subst h
 unfold jT
 have:sz 32=1:=bt
 rw[this]
 simp only[lU]
 omega
theorem Ny{links:ae}:∀{l:List Rt}{q:Option eh},cH l->(∀ p,q=some p→∀ r∈l,bH p r.1)->(∀ r∈l,jT r.1=true/\kX r links)->chk links q l=0
 | [],_,_,_,_=>rfl
 | r::rs,q,hs,hq,hr=>by
  obtain⟨v,w⟩:=hr r fW;obtain⟨s1,s2⟩:=List.pairwise_cons.1 hs;rw[chk,af (by rw[v];simp)];have e:q.any (λq=>decide (0<=gD q r.1))=false:=by
   cases q with
   | none=>rfl
   | some p =>
    have:=hq p rfl r fW;simp only[Option.any_some,pj];rw[J8];exact λk=>k this
  rw[af (by rw[e];simp),af (by simpa using w)];exact Ny s2 (λp hp x hx=>by cases hp;exact s1 x hx) (λx hx=>hr x (fL _ hx))
structure GT (m:Nat) (links:ae) (l:List Rt):Prop where
 s:cH l
 n:l.length<=m
 r:∀ r∈l,jT r.1=true/\kX r links
theorem GT.ok{m:Nat}{links:ae}{l:List Rt}(h:GT m links l)(hm:m<=64):dP l links=0:=by
 have:=h.n
 unfold dP
 rw[af ab]
 exact Ny h.s (λp hp=>by cases hp) h.r
theorem DN.gt{n:aQ}(h:DN n){i:Nat}(hi:i<n.1.length):GT 20 (bj (n.1.getD i default)) (aU (n.1.getD i default)):=by
 have t:=h.t i hi
 refine⟨t.1,Jm t,λr hr=>?_⟩
 have k:=t.2 r hr
 have l10:=h.l10
 have hl:=Ei k
 refine⟨SL k.len,⟨ab,λj hj=>⟨λh0=>?_,?_⟩⟩,k.w0,k.w1⟩
 .rw[bL,bL,cK hj,cK ab,fZ,fZ];exact List.pairwise_iff_getElem.1 k.pw _ _ _ _ ab
 .rw[(h.links hi)];rw[bL,cK hj,fZ];exact k.ln _ (List.getElem_mem hj)
theorem DN.pw{n:aQ}(h:DN n){i:Nat}(hi:i<n.1.length):(ay (n.1.getD i default)).Pairwise (λa b=>a.2<b.2/\a.1<b.1):=by
 rw[h.p i hi]
 exact (Pz i 0 n.2.1 λl hl=>(h.g l hl).2.2.1).1
theorem DN.node{n:aQ}(h:DN n){i:Nat}(hi:i<n.1.length)(hp:0<(ay (n.1.getD i default)).length):eG (n.1.getD i default)=0:=by
 have pw:=h.pw hi
 have d:=h.d i hi
 have n7:=h.n7
 have l10:=h.l10
 have hlen:(ay (n.1.getD i default)).length<=20:=by
  rw[h.p i hi];have:=Bz i 0 n.2.1;omega
 have gt:=h.gt hi
 have ports:∀ j:Nat,j<(ay (n.1.getD i default)).length->g7 (n.1.getD i default) j=0:=λj hj=>by
  have hm:(ay (n.1.getD i default)).getD j default∈ay (n.1.getD i default):=nX hj;have hadr:=h.padr hi (sk (f:=(·.1)) hm);have hlnk:=(h.links hi).1 (sk (f:=(·.2)) hm);have ne:∀ k:Nat,k<j->((ay (n.1.getD i default)).getD k default).2<((ay (n.1.getD i default)).getD j default).2/\((ay (n.1.getD i default)).getD k default).1<((ay (n.1.getD i default)).getD j default).1:=λk hk=>RM pw hk hj;have ea:jl (n.1.getD i default) ((ay (n.1.getD i default)).getD j default).1=j:=Py hj (by simp[gV]) (λk hk=>by have:=ne k hk;simp only[gV,pj];omega);have el:cy (n.1.getD i default) ((ay (n.1.getD i default)).getD j default).2=j:=Py hj (by simp[ic]) (λk hk=>by have:=ne k hk;simp only[ic,pj];omega);have hu:fC ((ay (n.1.getD i default)).getD j default).1:=KA ab;unfold g7;have:=hlnk.1;rw[ea,el,af (by rintro (k|k);exact k hu;omega),af ab]
 have hloop:¬ oH (n.1.getD i default):=by
  rintro⟨k0,k⟩;have hl:=d.loop.resolve_left k0;rcases k with k|k
  .exact k (KA ab)
  .have:=h.padr hi (KQ.1 k);omega
 have hform:¬ mK (n.1.getD i default):=by
  have o:=d.own;have f:=d.first;unfold mK;rintro (k|k|⟨k1,k2⟩|⟨k1,k2⟩|⟨k1,k2⟩|k|k)
  .omega
  .rcases d.src with s|⟨s,-⟩|⟨s,-⟩ <;> omega
  .rcases d.src with s|⟨s,s2⟩|⟨s,-⟩ <;> omega
  .have:=d.fix.resolve_left k1;exact k2 (KA ab)
  .rcases d.src with s|⟨s,s2⟩|⟨s,s2⟩ <;> omega
  .omega
  .omega
 have hid:iZ (n.1.getD i default)=0:=by
  unfold iZ;rw[am];obtain⟨⟨a,b⟩,⟨c,e⟩,f,g⟩:=d.id;exact cM ⟨a,b,c,e,f,g⟩
 have hb:hV (jV (n.1.getD i default))=0:=by
  unfold hV;rw[am];rcases d.lim with k|k
  .exact .inl k
  .right;omega
 rw[IM ab (Fc ports) hloop hform,af (λk=>k hid),af (λk=>k hb)]
 exact gt.ok ab
theorem LG(ns:List au)(a:Int):∀ k:Nat,gm a (gh ns k)=true↔∃ j:Nat,j<k/\a∈cG (ns.getD j default)
 | 0=>by simp[gh,gm]
 | k+1=>by
  have e:gh ns (k+1)=nJ k (cG (ns.getD k default)) (gh ns k):=by unfold gh;rw[m3,iG];rfl
  rw[e,Ep.1,pb,nZ,LG ns a k];constructor
  .rintro (h|⟨j,hj,h⟩)
   .exact⟨k,ab,h⟩
   .exact⟨j,ab,h⟩
  .rintro⟨j,hj,h⟩;by_cases e:j=k
   .subst e;exact .inl h
   .exact .inr ⟨j,ab,h⟩
theorem DN.tabs{n:aQ}(h:DN n):∀ i:Nat,i<=n.2.2.length→∀ k:Nat,k<n.1.length->GT (20+i) (bj (n.1.getD k default)) ((dG n i).getD k default)
 | 0,_,k,hk=>by
  rw[dG,zp hk];exact h.gt hk
 | i+1,hi,k,hk=>by
  have ih:=h.tabs i ab;have hc:=h.c _ (nX (i:=i) (xs:=n.2.2) ab);rw[dG];by_cases e:(bJ (n.2.2.getD i default)).toNat=k
  .rw[e,kw (by rw[qJ];omega)];have g:=ih k hk;obtain⟨r,hr,p1,p2⟩:=hc.p;rw[e] at hr;have gr:=(h.gt hk).r r hr;have hx:=hc.x;rw[e] at hx;refine⟨?_,?_,λx hx'=>?_⟩
   .unfold f9;rw[af (by rw[hc.r];simp)];exact Gz g.s
   .unfold f9;rw[af (by rw[hc.r];simp)];have:=Lf ((dG n i).getD k default) (dN (n.2.2.getD i default));have:=g.n;omega
   .unfold f9 at hx';rw[af (by rw[hc.r];simp)] at hx';rcases Nn hx' with rfl|hx'
    .refine⟨by rw[p1];exact gr.1,⟨?_,by rw[p2];exact gr.2.2⟩⟩;rcases hx with q|⟨y,hy,q⟩ <;> rw[q]
     .exact⟨aA,λj hj=>absurd hj aA⟩
     .refine⟨aA,λj hj=>?_⟩;have:j=0:=by simpa using hj
      subst this;exact⟨λk=>absurd k ab,sk (f:=(·.2)) hy⟩
    .exact g.r x hx'
  .have g:=ih k hk;have e2:((dG n i).set (bJ (n.2.2.getD i default)).toNat (f9 ((dG n i).getD (bJ (n.2.2.getD i default)).toNat default) (n.2.2.getD i default))).getD k default=(dG n i).getD k default:=by
    exact nA e
   rw[e2];exact⟨g.s,by have:=g.n;omega,g.r⟩
theorem DN.right{n:aQ}(h:DN n)(hp:∀ i:Nat,i<n.1.length->0<(ay (n.1.getD i default)).length):d9 n=0:=by
 have n3:=h.n3
 have n7:=h.n7
 have l10:=h.l10
 have h3:=h.h3
 have e1:nR n=0:=by unfold nR;rw[af ab]
 have e2:lX n=0:=by
  unfold lX;rw[am];rw[List.all_eq_true];intro l hl;obtain⟨a,b,c,d,e,f,g⟩:=h.g l hl;refine cM ?_;unfold gZ;omega
 have e3:lq n=0:=Fc λi hi=>by
  unfold kQ;rw[af (λk=>k (h.node hi (hp i hi))),af];rw[List.any_eq_true];rintro⟨k,hk,hs⟩;obtain⟨a,b,c⟩:=(h.links hi).1 hk;unfold mL at hs;simp only[pb,sa,lU,Bool.or_eq_false_iff,pj] at hs;rcases hs with hs|⟨s1,s2⟩
  .omega
  .rcases c with c|c
   .exact s1 c
   .exact s2 c
 have e4:nH n=0:=by
  unfold nH;rw[af];rw[List.any_eq_true];rintro⟨k,hk,hs⟩;have hk:=List.mem_range.1 hk;obtain⟨⟨a0,a1⟩,⟨b0,b1⟩,-⟩:=h.g _ (nX hk);unfold na at hs;simp only[pb,lU] at hs;have key:∀ i:Int,0<=i->i<n.1.length->(lA (n.2.1.getD k default)=i∨lB (n.2.1.getD k default)=i)→¬ cy (n.1.getD i.toNat default) k<0:=λi i0 i1 hq hlt=>by
   have hi:i.toNat<n.1.length:=ab;have:(k:Int)∈bj (n.1.getD i.toNat default):=(h.links hi).2 ⟨ab,ab,by rw[Int.toNat_natCast];rcases hq with q|q;left;omega;right;omega⟩;obtain⟨y,hy,e⟩:=List.mem_map.1 this;have:=ah3 (q:=ic k) hy (by simp[ic,e]);have e5:cy (n.1.getD i.toNat default) k=gW (ic k) (ay (n.1.getD i.toNat default)):=rfl;omega
  rcases hs with hs|hs
  .exact key _ a0 a1 (.inl rfl) hs
  .exact key _ b0 b1 (.inr rfl) hs
 have e5:oJ n=0:=by
  unfold oJ;rw[af];unfold LS;rw[List.any_eq_true];rintro⟨i,hi,hs⟩;have hi:=List.mem_range.1 hi;obtain⟨a,ha,hm⟩:=List.any_eq_true.1 hs;obtain⟨j,hj,hb⟩:=(LG n.1 a i).1 hm;have:=h.apart (i:=i) (j:=j) hi ab ha hb;omega
 have e6:nT n=0:=by
  unfold nT;rw[af];rw[List.any_eq_true];rintro⟨l,hl,hs⟩;rw[h.o l hl] at hs;cases hs
 have e7:lS n=0:=Fc λi hi=>by
  have hc:=h.c _ (nX (i:=i) (xs:=n.2.2) hi);have ha:=hc.at';have hw:=hc.w;have hk:(bJ (n.2.2.getD i default)).toNat<n.1.length:=ab;have hs:0<i->fc (n.2.2.getD (i-1) default)<=fc (n.2.2.getD i default):=λh0=>RM h.s ab hi;have g:=h.tabs (i+1) ab _ hk;rw[dG,kw (by rw[qJ];omega)] at g;unfold hY mV;rw[af ab,af (by rintro⟨k0,k1⟩;have:=hs k0;omega),af ab,af (by rintro⟨k0,-⟩;rw[hc.r] at k0;cases k0)];exact g.ok ab
 unfold d9 mH
 simp[e1,e2,e3,e4,e5,e6,e7]
set_option maxHeartbeats 1000000
theorem P1{k:Int}{n:aQ}(h:OK k n)(hk:k<=1000000):sM n:=by
 obtain⟨h1,h2,h3,h4,h5⟩:=h
 refine⟨ab,ab,ab,λx hx=>?_,λc hc=>?_⟩
 .obtain⟨a,b,c⟩:=h4 x hx;exact⟨by show (x.1.length:Int)<=1000000;omega,ab,λr hr=>by have:=c r hr;omega⟩
 .have:=h5 c hc;show (c.2.2.2.2.1.length:Int)<=_;omega
theorem eJ.new{n:aQ}{B:Int}(h:d9 n=0)(ha:xg n)(hc:sM n)(h0:0<=B)(h1:B<=549755813888):eJ B (jr n):=by
 have e:jD (jr n)=0:=rfl
 exact⟨h1,by rw[e];exact (dI.new h).more ab,ha,hc,λx hx=>(by cases hx),by rw[e];show ((0:Nat):Int)+2*((0:Nat):Int)<=B;omega,by rw[e];show ((0:Nat):Int)+((0:Nat):Int)<=B;omega⟩
theorem au0{n:aQ}{f:bg}(hb:bytes (f7 f)):qk n f<=1114:=by
 have:=L5 hb
 unfold qk
 have h1:(if dJ (n.1.getD (bm f).toNat default)=true then 1 else 0)<=1:=by split <;> omega
 have h2:(if gN f = -1 then 2 else 0)<=2:=by split <;> omega
 have h3:(if dH (f7 f) then 600 else 0)<=600:=by split <;> omega
 omega
theorem eJ.send{w:aJ}{B:Int}(h:eJ B w)(hB:B+4000<=549755813888){at' who:Int}{b:ae}(he:lK w at' who=0)(hb:bytes b)(hl:(b.length:Int)<=2000) :
  eJ (B+4000) (iH w at' who b)/\bK (iH w at' who b)=bK w+1/\aC (iH w at' who b)=aC w:=by
 unfold lK at he
 split at he
 .cases he
 rename_i q1
 split at he
 .cases he
 rename_i q2
 split at he
 .cases he
 rename_i q3
 split at he
 .cases he
 rename_i q4
 obtain⟨s1,s2⟩:=h.sB.send ab (at':=at') (who:=who) (b:=b) ⟨ab,ab⟩ ⟨ab,ab⟩ hb hl ab
 have hp:jD (iH w at' who b)=jD w+qk (aC w) (at',bK w,who,-1,bK w,b):=Pe _ _ _
 have hf:qk (aC w) (at',bK w,who,-1,bK w,b)<=1114:=au0 hb
 have h1:=h.e
 have h2:=h.d
 exact⟨⟨hB,s1.more ab,h.a,h.c,h.dd,by show ((bh w).length:Int)+_<=_;omega,by show ((bM w).length:Int)+_<=_;omega⟩,s2,rfl⟩
theorem DN.newOk{n:aQ}(h:DN n)(hp:∀ i,i<n.1.length->0<(ay (n.1.getD i default)).length):eJ 4000 (jr n):=eJ.new (h.right hp) (λi hi=>KW h hi) (P1 h.nb bt) bt bt
structure zD (m:Int) (w:aJ):Prop where
 ok:eJ (4000+4000*m) w
 m9:0<=m/\m<=9
 now:bQ w=0
 fn:((aM w).length:Int)=m
 ord:bK w=m
 en:bh w=[]
 dl:bM w=[]
 at':∀ f∈aM w,aO f<=40
 og:∀ o,0<=o->o<bK w->Rk (tU o (aM w)) (BZ o (bh w))
theorem zD.new{n:aQ}(h:eJ 4000 (jr n)):zD 0 (jr n) :=
 ⟨h.more bt bt,⟨bt,bt⟩,rfl,rfl,rfl,rfl,rfl,λf hf=>(by cases hf),λo h0 h1=>by have h1:o<0:=h1;omega⟩
theorem zD.send{w:aJ}{m:Int}(h:zD m w)(hm:m+1<=9){at':Int}{b:ae}(h0:0<=at')(h1:at'<=40)(hb:bytes b)(hl:(b.length:Int)<=2000):lK w at' 0=0/\zD (m+1) (iH w at' 0 b):=by
 have hm0:=h.m9
 have he:lK w at' 0=0:=by
  have hn:=zc h.ok.s.net;have:=h.now;have:=h.fn;unfold lK;rw[af ab,af ab,af ab,af ab]
 obtain⟨k1,k2,k3⟩:=h.ok.send ab he hb hl
 have hf:∀ f∈aM w,iB f<bK w:=λf hf=>(h.ok.s.fo f hf).g.2
 obtain⟨g1,g2⟩:=ay2 (w:=w) (at':=at') (who:=0) (b:=b) hf (λe he=>by rw[h.en] at he;cases he)
 have ho:=h.ord
 have hfn:=h.fn
 refine⟨he,k1.more ab ab,⟨ab,ab⟩,h.now,?_,by rw[k2];omega,h.en,h.dl,λf hf=>?_,λo o0 o1=>?_⟩
 .show ((fM (aM w) (at',bK w,0,-1,bK w,b)).length:Int)=_;rw[FI];omega
 .rcases zo.1 hf with rfl|hf
  .exact h1
  .exact h.at' f hf
 .by_cases e:o=bK w
  .rw[e];exact g1
  .obtain⟨e1,e2⟩:=g2 o e;rw[e1,e2];exact h.og o o0 (by rw[k2] at o1;omega)
theorem PA.step{n:aQ}{p:bz}{j:Nat}{w:aJ}(hT:1<=db p/\db p<=8)(g:da p)(C:rQ n)(h:PA n p j w) :
  (∃ f,aM w=[f]/\0<=aO f/\aO f<=68719476736)/\(PA n p (j+1) (fw w)∨∃ e0 A,Cl A/\PB n e0 A (fw w)/\jJ e0=0∧∀ dl,(uE e0=2→∀ d∈dl,A d.2.2)->Fin n p e0 dl):=by
 obtain⟨t,o,e,-,k3,k4⟩:=h.fl
 obtain⟨x,s,S⟩:=h.sees C g e
 have h16:=JR h hT.2
 refine⟨⟨_,e,k3,by show t<=_;have:(j:Int)<=16:=ab
            omega⟩,?_⟩
 by_cases ho:dC x p.2.1=true
 .obtain⟨a,b⟩:=h.owns hT g S ho;exact .inr ⟨_,λ_=>True,.inl λ_=>trivial,h.ends S a (λ_=>trivial) (.inr λ_=>trivial),rfl,λdl _=>b dl⟩
 by_cases hh:iL x=true/\d7 n (bc (build p)) j ≠ -1
 .obtain⟨a,b⟩:=h.host hT g S ho hh;exact .inr ⟨_,λ_=>True,.inl λ_=>trivial,h.ends S (by rw[a];show (6:Int)≠0;decide) (λ_=>trivial) (.inr λ_=>trivial),rfl,λdl _=>b dl⟩
 by_cases ht:d7 n (bc (build p)) j ≠ -1/\dJ x=false/\db p-cX n (bd n p) j<2
 .obtain⟨A,a1,a2,a3,a4,a5⟩:=h.over hT g C S ho hh ht.1 ht.2.1 ht.2.2;exact .inr ⟨_,A,a1,h.ends S a2 a3 a4,rfl,a5⟩
 by_cases hw:fV s p.2.1=false
 .obtain⟨a,-,b⟩:=h.noway hT g S ho hh ht hw;exact .inr ⟨_,λ_=>True,.inl λ_=>trivial,h.ends S a (λ_=>trivial) (.inr λ_=>trivial),rfl,λdl _=>b dl⟩
 .exact .inl (h.fwd hT g C S ho hh ht hw)
theorem PA.run{n:aQ}{p:bz}{to:Int}(hT:1<=db p/\db p<=8)(g:da p)(C:rQ n)(hto:68719476736<=to):∀(m:Nat){j:Nat}{w:aJ},PA n p j w->jD w<=m →
  ∃ e0 r,bh (jx w to)=e0::r/\jJ e0=0/\Fin n p e0 (bM (jx w to))
 | m,j,w,h,hm=>by
  obtain⟨⟨f,e,t0,t1⟩,k⟩:=h.step hT g C;have hb:j7 w to=true:=by unfold j7;rw[e];simp;omega
  have k2:=(h.ok.step e).2;rw[Dd h.ok.s.weak hb];cases m with
  | zero=>omega
  | succ m =>
   rcases k with k|⟨e0,A,hA,k,ko,kf⟩
   .exact PA.run hT g C hto m k ab
   .have r:=PB.run (to:=to) hA m k ab;obtain⟨q,hq⟩:=r.en;exact⟨e0,q,hq,ko,kf _ r.dl⟩
theorem PA.start{n:aQ}{p:bz}(g:da p)(h1:1<=db p)(hn:0<n.1.length)(hk:eJ 4000 (jr n))(hs:sJ (iH (jr n) 0 0 (build p))):PA n p 0 (iH (jr n) 0 0 (build p)):=by
 have e0:fD p 0=p:=by unfold fD;rw[Int.sub_zero]
 have en:gQ n (bc (build p)) 0=0:=by
  have h:On n (bc (build p)) 0:=⟨rfl,ab⟩
  rw[← h.at.1];rfl
 refine⟨hs,rfl,⟨rfl,ab⟩,⟨0,0,?_,⟨f8 _,f8 _⟩,f8 _,f8 _⟩,h1,λq=>absurd q ab,rfl,rfl,λm a b=>absurd b ab,?_,λi=>?_⟩
 .rw[en,show cX n (bd n p) 0=0 from rfl,e0];rfl
 .rw[show cX n (bd n p) 0=0 from rfl];split <;> decide
 .show 0<=jz ((n.1.map nB).getD i default)/\jz ((n.1.map nB).getD i default)<=0;rw[bL,List.getElem?_map];cases n.1[i]? with
  | none=>exact⟨f8 _,f8 _⟩
  | some y=>exact⟨f8 _,f8 _⟩
def nQ(r:Rt):Rt:=if r.2.2=3 then (r.1,r.2.1,1) else r
def kR(l:aK):aK:=(l.1,l.2.1,l.2.2.1,l.2.2.2.1,0,l.2.2.2.2.2)
def lM(x:au):au:=(x.1,x.2.1,x.2.2.1,x.2.2.2.1,x.2.2.2.2.1.map nQ,x.2.2.2.2.2.1,x.2.2.2.2.2.2.1,x.2.2.2.2.2.2.2.1,x.2.2.2.2.2.2.2.2.1,x.2.2.2.2.2.2.2.2.2.1,(0,0),false,x.2.2.2.2.2.2.2.2.2.2.2.2.1,x.2.2.2.2.2.2.2.2.2.2.2.2.2.1,x.2.2.2.2.2.2.2.2.2.2.2.2.2.2)
def xd(n:aQ):aQ:=(n.1.map lM,n.2.1.map kR,[])
theorem DD(r:Rt):(nQ r).1=r.1/\(nQ r).2.1=r.2.1/\(nQ r).2.2≠3/\(1<=r.2.2->1<=(nQ r).2.2)/\(r.2.2<=3->(nQ r).2.2<=3):=by
 unfold nQ
 split
 .exact⟨rfl,rfl,by show (1:Int)≠3;decide,λ_=>by show (1:Int)<=1;decide,λ_=>by show (1:Int)<=3;decide⟩
 next h=>exact⟨rfl,rfl,h,id,id⟩
theorem xY{ns:List au}{i:Nat}(h:i<ns.length):(ns.map lM).getD i default=lM (ns.getD i default):=by
 rw[bL,List.getElem?_map,cK h,bL,cK h];rfl
theorem O3(i:Int):∀(k:Nat)(ls:List aK),portsF i k (ls.map kR)=portsF i k ls
 | _,[]=>rfl
 | k,l::r=>by
  rw[fF,portsF,portsF,O3 i (k+1) r];rfl
theorem DN.calm{n:aQ}(h:DN n):DN (xd n):=by
 have eL:(xd n).1.length=n.1.length:=mh _
 have eK:(xd n).2.1.length=n.2.1.length:=mh _
 refine⟨by rw[eL];exact h.n3,by rw[eL];exact h.n7,by rw[eK];exact h.l2,by rw[eK];exact h.l10,by show 0<=3;omega,λx hx=>?_,λi hi=>?_,λi hi=>?_,λi hi=>?_,λx hx=>?_,λc hc=>(by cases hc),List.Pairwise.nil⟩
 .obtain⟨l,hl,rfl⟩:=List.mem_map.1 hx;obtain⟨a,b,c,d,e,-,f⟩:=h.g l hl;rw[eL];exact⟨a,b,c,d,e,⟨by show (0:Int)<=0;decide,by show (0:Int)<=65536;decide⟩,f⟩
 .rw[eL] at hi;show ay ((n.1.map lM).getD i default)=portsF i 0 (n.2.1.map kR);rw[xY hi,O3];exact h.p i hi
 .have hi:i<n.1.length:=by rw[← eL];exact hi
  show NP i ((n.1.map lM).getD i default);rw[xY hi];have k:=h.d i hi;exact⟨k.own,k.loop,k.src,k.fix,k.id,.inl rfl,k.first,k.seed⟩
 .rw[eL] at hi;show ny (n.2.1.map kR) Bk i (aU ((n.1.map lM).getD i default));rw[xY hi];obtain⟨t1,t2⟩:=h.t i hi;refine⟨?_,λr hr=>?_⟩
  .show cH ((aU (n.1.getD i default)).map nQ);refine List.pairwise_map.2 (t1.imp λ{a b} q=>?_);rw[(DD a).1,(DD b).1];exact q
  .obtain⟨q,hq,rfl⟩:=List.mem_map.1 hr;have k:=t2 q hq;obtain⟨c1,c2,-,c4,c5⟩:=DD q;refine⟨by rw[c1];exact k.len,by rw[c1];exact k.mem,by rw[c2];exact k.ne,by rw[c2];exact k.pw,λz hz=>?_,c4 k.w0,c5 k.w1⟩;rw[c2] at hz;have:=k.ln z hz;unfold lnk at this ⊢;obtain⟨z0,z1,z2⟩:=this;rw[zp (by omega),mh];exact⟨z0,z1,z2⟩
 .obtain⟨l,hl,rfl⟩:=List.mem_map.1 hx;have k:=h.o l hl;obtain⟨a,b,-⟩:=h.g l hl;unfold iV at k ⊢;show (dJ ((n.1.map lM).getD (lA l).toNat default)&&dJ ((n.1.map lM).getD (lB l).toNat default))=false;rw[xY (by omega),xY (by omega)];exact k
theorem DN.isCalm{n:aQ}(h:DN n)(hp:∀ i:Nat,i<n.1.length->0<(ay (n.1.getD i default)).length):rQ (xd n):=by
 have eL:(xd n).1.length=n.1.length:=mh _
 refine⟨h.calm.right λi hi=>?_,rfl,λx hx=>?_,λx hx r hr=>?_,λi hi=>KW h.calm hi⟩
 .rw[eL] at hi;show 0<(ay ((n.1.map lM).getD i default)).length;rw[xY hi];exact hp i hi
 .obtain⟨l,hl,rfl⟩:=List.mem_map.1 hx;rfl
 .obtain⟨y,hy,rfl⟩:=List.mem_map.1 hx;obtain⟨q,hq,rfl⟩:=List.mem_map.1 hr;exact (DD q).2.2.1
theorem DN.wn{n:aQ}(h:DN n):WN n:=⟨h.okNet,λwho at' w0 w1 r hr k hk=>h.other (h.next w0 w1 r hr k hk)⟩
def FC(ns:List au)(i:Int):Int:=((ay (ns.getD i.toNat default)).getD 0 default).1
def pX(ns:List au):Nat->Int
 | 0=>0
 | i+1=>if iL (ns.getD (i+1) default)=true/\0<(ay (ns.getD (i+1) default)).length then ((i+1:Nat):Int) else pX ns i
def fe(n:aQ):Int×Int:=if n.1.length=0∨(ay (n.1.getD 0 default)).length=0 then (0,0) else (FC n.1 0,FC n.1 (pX n.1 (n.1.length-1)))
def Ma:Ct:=⟨[.agg ib],[.val cP,.val cP],λ_=>[],λd=>(((fe d.1).1,(fe d.1).2,()),())⟩
def XY:bw Ma.ps->ce:=(λd=>{loops:=(bq 4 (λS=>{ι:=Int,μ:=λi=>i.toNat,inv:=λi=>0<=i/\i+1<=d.1.1.length/\pX d.1.1 (d.1.1.length-1)=pX d.1.1 i.toNat,keep:=[1],slots:=λi=>[(4,.int .i64 i)],keepN:=[32]}) cC)})
def B0(a:List au) :=
 ((length (ai a (0:Int)).1):Int)
def Dy(a:List au) :=
 getD (ai a (0:Int)).1 (toNat 0) default
theorem X8 :
 ∀(a:List au)(b:List aK)(c:List aV),((a.length<=maxLen/\ ∀(d:au),d∈a->CT.wf bR d)/\(b.length<=maxLen/\ ∀(d:aK),d∈b->CT.wf fU d)/\c.length<=maxLen/\ ∀(d:aV),d∈c->CT.wf fg d)/\True->True-> ∀(d:Bool),d=decide ((ac a)=0)->(ah (! d))/\((! d)->(ar (! d))/\(0:Int)<=0/\0<(ac a)/\True)/\(ah (! d))/\(ah (! d))/\(ah (! d))/\(ah (! d))/\(aE d)/\ao (bif d then true else decide ((B0 a)=0)) (0=(fe (a,b,c)).1/\0=(fe (a,b,c)).2) ((∃(e:Int),(0<=e/\e+1<=(ac a)/\pX a (a.length -(1:Nat))=pX a e.toNat)/\aj ((ac a) -1)=e/\a=a/\b=b/\c=c/\True)/\ ∀(e:Int),0<=e/\e+1<=(ac a)/\pX a (a.length -(1:Nat))=pX a e.toNat->ao (decide (0<e)) (0<=e/\e<(ac a)/\ ∀(f:Bool),f=(ai a e).2.2.2.1->(ah f)/\(f->(ar f)/\(ar f)/\0<=e/\e<(ac a)/\True)/\(ah f)/\(ah f)/\(ah f)/\(ah f)/\(ar f)/\ao (bif f then decide (0<((length (ai a e).1):Int)) else false)
 ((0:Int)<=0/\0<(ac a)/\(0:Int)<=0/\0<(B0 a)/\0<=e/\e<(ac a)/\(0:Int)<=0/\0<((length (ai a e).1):Int)/\(Dy a).1=(fe (a,b,c)).1/\(getD (ai a e).1 (toNat 0) default).1=(fe (a,b,c)).2) (∃(g:Int),(0<=g/\g+1<=(ac a)/\pX a (a.length -(1:Nat))=pX a g.toNat)/\g.toNat<e.toNat/\aj (e -1)=g/\a=a/\b=b/\c=c/\True)) ((0:Int)<=0/\0<(ac a)/\(0:Int)<=0/\0<(B0 a)/\(0:Int)<=0/\0<(ac a)/\(0:Int)<=0/\0<(B0 a)/\(Dy a).1=(fe (a,b,c)).1/\(Dy a).1=(fe (a,b,c)).2)):=by
  delta B0 Dy ah ar aE aj ai ac;rintro ns ls hs ⟨⟨⟨hnl,-⟩,-⟩,-⟩ -;simp only[maxLen] at hnl;intro b hb
  (repeat refine⟨λh_=>(by first|exact⟨λ_=>h_,by omega,by rw[hb] at h_;have:=gF h_;omega,trivial⟩|(simp;done)|(simp[h_];done)|(simp_all;done)),?_⟩);rw[hb,lx,show toNat (0:Int)=0 from rfl];rw[show (ns.getD 0 default).1=ay (ns.getD 0 default) from rfl];refine aw (λh=>?_) (λh=>?_)
  .have h:=aI h;unfold fe;rw[am (by dsimp only;omega)];exact⟨rfl,rfl⟩
  have h:=aL h;have eH:fe (ns,ls,hs)=(FC ns 0,FC ns (pX ns (ns.length-1))):=by
   unfold fe;rw[af (by dsimp only;omega)]
  rw[eH,aG (n:=(ns.length:Int)-1) (by omega) (by omega)];refine⟨⟨(ns.length:Int)-1,⟨by omega,by omega,by rw[show ((ns.length:Int)-1).toNat=ns.length-1 by omega]⟩,(by repeat' first|exact trivial|refine⟨trivial,?_⟩|refine⟨(by with_reducible rfl),?_⟩|refine⟨aG (by omega) (by omega),?_⟩|refine⟨rfl,?_⟩)⟩,?_⟩;rintro i ⟨i0,i1,hI⟩;refine aw (λhi=>?_) (λhi=>?_)
  .have hi:=aI hi;have ei:i.toNat=(i.toNat-1)+1:=by omega
   have e2:(((i.toNat-1+1:Nat)):Int)=i:=by omega
   refine⟨i0,by omega,?_⟩;intro b2 hb2
   (repeat refine⟨λh_=>(by first|exact⟨λ_=>h_,λ_=>h_,i0,by omega,trivial⟩|(simp;done)|(simp[h_];done)|(simp_all;done)),?_⟩);have hI2:=hI;rw[ei,pX,← ei] at hI2;rw[show (ns.getD i.toNat default).1=ay (ns.getD i.toNat default) from rfl];refine uD (λh1 h2=>?_) (λh1=>?_)
   .have h1:iL (ns.getD i.toNat default)=true:=hb2.symm.trans h1;have h2:=aI h2;rw[am ⟨h1,by omega⟩,show ((i.toNat:Nat):Int)=i by omega] at hI2;rw[hI2];exact⟨by omega,by omega,by omega,by omega,i0,by omega,by omega,h2,rfl,rfl⟩
   .rw[af] at hI2
    .exact⟨i-1,⟨by omega,by omega,by rw[hI2,show (i-1).toNat=i.toNat-1 by omega]⟩,by omega,(by repeat' first|exact trivial|refine⟨trivial,?_⟩|refine⟨(by with_reducible rfl),?_⟩|refine⟨aG (by omega) (by omega),?_⟩|refine⟨rfl,?_⟩)⟩
    .rintro⟨k1,k2⟩;rcases h1 with h1|h1
     .rw[hb2,show (ns.getD i.toNat default).2.2.2.1=iL (ns.getD i.toNat default) from rfl,k1] at h1;cases h1
     .have:=aL h1;omega
  .have hi:=aL hi;rw[show i.toNat=0 by omega,pX] at hI;rw[hI];exact⟨by omega,by omega,by omega,by omega,by omega,by omega,by omega,by omega,rfl,rfl⟩
theorem Me:aB 9 Ma.spec:=aF Tryz.func9 aD XY X8
theorem ap0:(ly (ji true ([],0)) 0 0 ((fe (ji true ([],0))).1,(fe (ji true ([],0))).2,0,0,0)).2.2=1/\(ly (ji true ([],0)) 0 0 ((fe (ji true ([],0))).1,(fe (ji true ([],0))).2,0,0,0)).1.length=3:=by decide +kernel
theorem My:yh (ji true ([],0)) (fe (ji true ([],0))).1 (fe (ji true ([],0))).1=true/\yh (ji true ([],0)) (fe (ji true ([],0))).1 (fe (ji true ([],0))).2=false:=by decide +kernel
def aL6:Ct:=⟨[],[.val .bool],λ_=>[],λ_=>((true,()),())⟩
theorem am3 :
 True->True->(0:Int)<=0/\ ∀(a:ae)(b:Int),(a,b)=(if (↑(0:Nat):Int)<=0 then ([]:ae) else take (toNat 0) ([]:ae),(0:Int))->aS (a,b)/\ ∀(c:List au)(d:List aK)(e:List aV)(f:ae)(g:Int),(c,d,e)=ji true (a,b)/\(f,g)=xc true (a,b)-> ∀(h i:Int),h=(fe (c,d,e)).1/\i=(fe (c,d,e)).2->WN (c,d,e)/\(0:Int)<=0/\0<(ac c)/\ ∀(j k:ae)(l:Int),(j,k,l)=ly (c,d,e) (0:Int) (0:Int) (h,i,(0:Int),(0:Int),(0:Int))-> ∀(m:Bool),m=decide (l=1)->(ah m)/\(ah m)/\(ah m)/\(ar m)/\ ∀(n:Bool),(n=bif m then decide ((ac j)=3) else false)->(n->(ar n)/\(ar n)/\(ar n)/\True)/\(ar n)/\ ∀(o:Bool),(o=bif n then yh (c,d,e) h h else false)->(o->(ar o)/\(ar o)/\(ar o)/\True)/\(ah o)/\(ar o)/\(bif o then ! yh (c,d,e) h i else false)=true:=by
  delta ah ar ac;rintro - -;refine⟨by omega,?_⟩;rintro l p hc;have hc:(l,p)=(([],0):aX):=hc;have hB:cQ (l,p):=by rw[hc];exact⟨⟨by decide,by decide⟩,λx hx=>by cases hx⟩
  refine⟨hB.at',?_⟩;rintro ns ls hs l2 p2 ⟨hn,-⟩;have D:=Di hB true;rw[← hn] at D;rw[hc] at hn;have h3:3<=ns.length:=D.n3;rintro x y ⟨hx,hy⟩;refine⟨D.wn,by omega,by show 0<(ns.length:Int);omega,?_⟩;rintro u v e ht;rw[hx,hy,hn] at ht;rw[hx,hy,hn];clear hx hy x y D;have t1:=ap0;rw[← ht] at t1;intro b hb;have hb:b=true:=by rw[hb,cM t1.1]
  subst hb
  (repeat refine⟨λh_=>(by first|(simp;done)|(simp[h_];done)|(simp_all;done)),?_⟩);intro b hb;have hb:b=true:=by rw[hb,cond_true];exact cM (by have t2:u.length=3:=t1.2;omega)
  subst hb
  (repeat refine⟨λh_=>(by first|(simp;done)|(simp[h_];done)|(simp_all;done)),?_⟩);intro b hb;have hb:b=true:=by rw[hb,cond_true];exact My.1
  subst hb
  (repeat refine⟨λh_=>(by first|(simp;done)|(simp[h_];done)|(simp_all;done)),?_⟩);rw[cond_true,My.2];rfl
theorem as5:aB 4 aL6.spec:=aF Tryz.func4 (av (av (av (av (av aD (Ct.named Mk)) (Ct.named M1)) (Ct.named Me)) (Ct.named MY)) SZ) aT am3
set_option maxHeartbeats 1000000
def vI(w:aJ)(o:Int):List fm:=(bh w).filter λe=>decide (jJ e=o)
theorem LN{l:List fm}{o j:Int}(h0:0<=j)(h1:j<l.length):(l.take (j+1).toNat).filter (λe=>decide (jJ e=o))=(l.take j.toNat).filter (λe=>decide (jJ e=o))++(if jJ (l.getD j.toNat default)=o then [l.getD j.toNat default] else []):=by
 rw[rk h0 h1,qS,List.filter_cons,List.filter_nil]
 by_cases h:jJ (l.getD j.toNat default)=o
 .rw[am h,am (cM h)]
 .rw[af h,af (by simpa using h)]
theorem QK(l:List fm)(o:Int)(j:Nat):((l.take j).filter (λe=>decide (jJ e=o))).length<=l.length :=
 qX (List.length_filter_le _ _) (by rw[dA];exact Nat.min_le_right _ _)
def NH:Ct:=⟨[.agg nL,.val cI],[.val (.sl pR)],λd=>[((bh d.1).length:Int)<=1099511627776],λd=>((vI d.1 d.2.1,()),())⟩
def XK:bw NH.ps->ce:=(λd=>{loops:=(bq 3 (λS=>{ι:=Int×(List fm),qn:=fj,μ:=λi=>((bh d.1).length-i.1).toNat,inv:=λi=>0<=i.1/\i.1<=(bh d.1).length/\i.2=((bh d.1).take i.1.toNat).filter (λe=>decide (jJ e=d.2.1)),keep:=[1,9,10],slots:=λi=>[(5,.own 524288 5),(11,.int .i64 i.1)],keepN:=[48],names:=λi=>[(524288,.live (.row 68 pR i.2))]}) cC)})
def mn(a:(List au×List aK×List aV)×Int×Int×Int×List (List aN×Int×ae×(Int×Int)×Int)×ae×List (Int×Int×Int×Int×Int×ae)×List (Int×Int×ae)×List (Int×Int×Int×Int×Int)) :=
 ((length (bh a)):Int)
def Ej(a:(List au×List aK×List aV)×Int×Int×Int×List (List aN×Int×ae×(Int×Int)×Int)×ae×List (Int×Int×Int×Int×Int×ae)×List (Int×Int×ae)×List (Int×Int×Int×Int×Int))(c:Int)(d:List fm)(e:Int)(f:List fm) :=
 aj (c+1)=e/\a.1.1=a.1.1/\a.1.2.1=a.1.2.1/\a.1.2.2=a.1.2.2/\a.2.1=a.2.1/\a.2.2.1=a.2.2.1/\a.2.2.2.1=a.2.2.2.1/\a.2.2.2.2.1=a.2.2.2.2.1/\a.2.2.2.2.2.1=a.2.2.2.2.2.1/\a.2.2.2.2.2.2.1=a.2.2.2.2.2.2.1/\a.2.2.2.2.2.2.2.1=a.2.2.2.2.2.2.2.1/\a.2.2.2.2.2.2.2.2=a.2.2.2.2.2.2.2.2/\d++[getD a.2.2.2.2.2.2.2.2 c.toNat default]=f/\True
def Fq(a:(List au×List aK×List aV)×Int×Int×Int×List (List aN×Int×ae×(Int×Int)×Int)×ae×List (Int×Int×Int×Int×Int×ae)×List (Int×Int×ae)×List (Int×Int×Int×Int×Int))(d:List fm) :=
 a.1.1=a.1.1/\a.1.2.1=a.1.2.1/\a.1.2.2=a.1.2.2/\a.2.1=a.2.1/\a.2.2.1=a.2.2.1/\a.2.2.2.1=a.2.2.2.1/\a.2.2.2.2.1=a.2.2.2.2.1/\a.2.2.2.2.2.1=a.2.2.2.2.2.1/\a.2.2.2.2.2.2.1=a.2.2.2.2.2.2.1/\a.2.2.2.2.2.2.2.1=a.2.2.2.2.2.2.2.1/\a.2.2.2.2.2.2.2.2=a.2.2.2.2.2.2.2.2/\d=([]:List (Int×Int×Int×Int×Int))/\True
theorem ao3 :
 ∀(a:(List au×List aK×List aV)×Int×Int×Int×List (List aN×Int×ae×(Int×Int)×Int)×ae×List (Int×Int×Int×Int×Int×ae)×List (Int×Int×ae)×List (Int×Int×Int×Int×Int))(b:Int),CT.wf nL a/\aq b/\True->(mn a)<=1099511627776->(∃(c:Int) (d:List fm),(0<=c/\c<=(mn a)/\d=List.filter (λ(e:fm)=>decide (jJ e=b)) (take c.toNat (bh a)))/\b=b/\a.2.2.2.2.2.2.2.2=a.2.2.2.2.2.2.2.2/\(ac a.2.2.2.2.2.2.2.2)=(ac a.2.2.2.2.2.2.2.2)/\0=c/\(Fq a d))/\ ∀(c:Int)(d:List fm),0<=c/\c<=(mn a)/\d=List.filter (λ(e:fm)=>decide (jJ e=b)) (take c.toNat (bh a))->ao (decide (c<(ac a.2.2.2.2.2.2.2.2))) (0<=c/\c<(ac a.2.2.2.2.2.2.2.2)/\ao (decide ((getD a.2.2.2.2.2.2.2.2 c.toNat default).1=b)) ((d.length+length [getD a.2.2.2.2.2.2.2.2 c.toNat default])*(40:Nat)<=(140737488355328:Nat)/\ ∃(e:Int) (f:List fm),(0<=e/\e<=(mn
 a)/\f=List.filter (λ(g:fm)=>decide (jJ g=b)) (take e.toNat (bh a)))/\toNat ((mn a) -e)<toNat ((mn a) -c)/\b=b/\a.2.2.2.2.2.2.2.2=a.2.2.2.2.2.2.2.2/\(ac a.2.2.2.2.2.2.2.2)=(ac a.2.2.2.2.2.2.2.2)/\(Ej a c d e f)) (∃(e:Int) (f:List fm),(0<=e/\e<=(mn a)/\f=List.filter (λ(g:fm)=>decide (jJ g=b)) (take e.toNat (bh a)))/\toNat ((mn a) -e)<toNat ((mn a) -c)/\b=b/\a.2.2.2.2.2.2.2.2=a.2.2.2.2.2.2.2.2/\(ac a.2.2.2.2.2.2.2.2)=(ac a.2.2.2.2.2.2.2.2)/\aj (c+1)=e/\a.1.1=a.1.1/\a.1.2.1=a.1.2.1/\a.1.2.2=a.1.2.2/\a.2.1=a.2.1/\a.2.2.1=a.2.2.1/\a.2.2.2.1=a.2.2.2.1/\a.2.2.2.2.1=a.2.2.2.2.1/\a.2.2.2.2.2.1=a.2.2.2.2.2.1/\a.2.2.2.2.2.2.1=a.2.2.2.2.2.2.1/\a.2.2.2.2.2.2.2.1=a.2.2.2.2.2.2.2.1/\a.2.2.2.2.2.2.2.2=a.2.2.2.2.2.2.2.2/\d=f/\True)) (d=vI a b):=by
  delta mn Ej Fq aj ac;rintro d x-hn;rw[show d.2.2.2.2.2.2.2.2=bh d from rfl];refine⟨⟨0,[],⟨by omega,by omega,rfl⟩,(by repeat' first|exact trivial|refine⟨trivial,?_⟩|refine⟨(by with_reducible rfl),?_⟩|refine⟨aG (by omega) (by omega),?_⟩|refine⟨rfl,?_⟩)⟩,?_⟩;rintro j l ⟨j0,j1,rfl⟩;refine aw (λh=>?_) (λh=>?_)
  .have h:=aI h;have hl:=QK (bh d) x j.toNat
   have e:=LN (o:=x) j0 h;refine⟨j0,h,aw (λhb=>?_) (λhb=>?_)⟩
   .have hb:jJ ((bh d).getD j.toNat default)=x:=aI hb;rw[am hb] at e;refine⟨by simp only[ga];omega,j+1,_,⟨by omega,by omega,rfl⟩,by omega,?_⟩
    (repeat first|refine⟨trivial,?_⟩|refine⟨(by with_reducible rfl),?_⟩|refine⟨aG (by omega) (by omega),?_⟩);refine⟨e.symm,by (repeat refine⟨(by with_reducible rfl),?_⟩);trivial⟩
   .have hb:¬ jJ ((bh d).getD j.toNat default)=x:=aL hb;rw[af hb,jG] at e;refine⟨j+1,_,⟨by omega,by omega,rfl⟩,by omega,?_⟩
    (repeat first|refine⟨trivial,?_⟩|refine⟨(by with_reducible rfl),?_⟩|refine⟨aG (by omega) (by omega),?_⟩);refine⟨e.symm,by (repeat refine⟨(by with_reducible rfl),?_⟩);trivial⟩
  .have h:=aL h;rw[fi (by omega)];rfl
theorem aF4:aB 17 NH.spec:=aF Tryz.func17 aD XK ao3
def Lw:Ct:=⟨[.agg nL,.val cI],[.val (.sl pR)],λd=>[((bh d.1).length:Int)<=1099511627776],λd=>((vI d.1 d.2.1,()),())⟩
def ac7:bw Lw.ps->ce:=(λd=>{loops:=(bq 3 (λS=>{ι:=Int×(List fm),qn:=fj,μ:=λi=>((bh d.1).length-i.1).toNat,inv:=λi=>0<=i.1/\i.1<=(bh d.1).length/\i.2=((bh d.1).take i.1.toNat).filter (λe=>decide (jJ e=d.2.1)),keep:=[1,2],slots:=λi=>[(5,.own 524288 5),(6,.int .i64 i.1)],keepN:=[48],names:=λi=>[(524288,.live (.row 68 pR i.2))]}) cC)})
theorem VB :
 ∀(a:(List au×List aK×List aV)×Int×Int×Int×List (List aN×Int×ae×(Int×Int)×Int)×ae×List (Int×Int×Int×Int×Int×ae)×List (Int×Int×ae)×List (Int×Int×Int×Int×Int))(b:Int),CT.wf nL a/\aq b/\True->(mn a)<=1099511627776->(∃(c:Int) (d:List fm),(0<=c/\c<=(mn a)/\d=List.filter (λ(e:fm)=>decide (jJ e=b)) (take c.toNat (bh a)))/\b=b/\0=c/\(Fq a d))/\ ∀(c:Int)(d:List fm),0<=c/\c<=(mn a)/\d=List.filter (λ(e:fm)=>decide (jJ e=b)) (take c.toNat (bh a))->ao (decide (c<(ac a.2.2.2.2.2.2.2.2))) (0<=c/\c<(ac a.2.2.2.2.2.2.2.2)/\ao (decide ((getD a.2.2.2.2.2.2.2.2 c.toNat default).1=b)) (0<=c/\c<(ac a.2.2.2.2.2.2.2.2)/\(d.length+length [getD a.2.2.2.2.2.2.2.2 c.toNat default])*(40:Nat)<=(140737488355328:Nat)/\ ∃(e:Int) (f:List fm),(0<=e/\e<=(mn a)/\f=List.filter (λ(g:fm)=>decide (jJ g=b)) (take
 e.toNat (bh a)))/\toNat ((mn a) -e)<toNat ((mn a) -c)/\b=b/\(Ej a c d e f)) (∃(e:Int) (f:List fm),(0<=e/\e<=(mn a)/\f=List.filter (λ(g:fm)=>decide (jJ g=b)) (take e.toNat (bh a)))/\toNat ((mn a) -e)<toNat ((mn a) -c)/\b=b/\aj (c+1)=e/\a.1.1=a.1.1/\a.1.2.1=a.1.2.1/\a.1.2.2=a.1.2.2/\a.2.1=a.2.1/\a.2.2.1=a.2.2.1/\a.2.2.2.1=a.2.2.2.1/\a.2.2.2.2.1=a.2.2.2.2.1/\a.2.2.2.2.2.1=a.2.2.2.2.2.1/\a.2.2.2.2.2.2.1=a.2.2.2.2.2.2.1/\a.2.2.2.2.2.2.2.1=a.2.2.2.2.2.2.2.1/\a.2.2.2.2.2.2.2.2=a.2.2.2.2.2.2.2.2/\d=f/\True)) (d=vI a b):=by
  delta mn Ej Fq aj ac;rintro d x-hn;rw[show d.2.2.2.2.2.2.2.2=bh d from rfl];refine⟨⟨0,[],⟨by omega,by omega,rfl⟩,(by repeat' first|exact trivial|refine⟨trivial,?_⟩|refine⟨(by with_reducible rfl),?_⟩|refine⟨aG (by omega) (by omega),?_⟩|refine⟨rfl,?_⟩)⟩,?_⟩;rintro j l ⟨j0,j1,rfl⟩;refine aw (λh=>?_) (λh=>?_)
  .have h:=aI h;have hl:=QK (bh d) x j.toNat
   have e:=LN (o:=x) j0 h;refine⟨j0,h,aw (λhb=>?_) (λhb=>?_)⟩
   .have hb:jJ ((bh d).getD j.toNat default)=x:=aI hb;rw[am hb] at e;refine⟨j0,h,by simp only[ga];omega,j+1,_,⟨by omega,by omega,rfl⟩,by omega,?_⟩
    (repeat first|refine⟨trivial,?_⟩|refine⟨(by with_reducible rfl),?_⟩|refine⟨aG (by omega) (by omega),?_⟩);refine⟨e.symm,by (repeat refine⟨(by with_reducible rfl),?_⟩);trivial⟩
   .have hb:¬ jJ ((bh d).getD j.toNat default)=x:=aL hb;rw[af hb,jG] at e;refine⟨j+1,_,⟨by omega,by omega,rfl⟩,by omega,?_⟩
    (repeat first|refine⟨trivial,?_⟩|refine⟨(by with_reducible rfl),?_⟩|refine⟨aG (by omega) (by omega),?_⟩);refine⟨e.symm,by (repeat refine⟨(by with_reducible rfl),?_⟩);trivial⟩
  .have h:=aL h;rw[fi (by omega)];rfl
theorem SH:aB 19 Lw.spec:=aF Tryz.func19 aD ac7 VB
def Br(n:aQ):Prop:=∃ m,DN m/\(∀ i:Nat,i<m.1.length->0<(ay (m.1.getD i default)).length)/\n=xd m
def iw{α:Type}(f:α->α)(l:List α)(j:Nat):List α:=(l.take j).map f++l.drop j
theorem wb{α:Type}(f:α->α)(l:List α)(j:Nat):(iw f l j).length=l.length:=by
 unfold iw;rw[cu,mh,dA,fv];omega
theorem IR{α:Type}(f:α->α)(l:List α):l=iw f l (toNat 0):=rfl
theorem Jl{α:Type}(f:α->α)(l:List α){j:Nat}(h:l.length<=j):iw f l j=l.map f:=by
 unfold iw;rw[fi h,List.drop_eq_nil_of_le h,jG]
theorem Fp{α:Type} [Inhabited α] (f:α->α) (l:List α) {i:Int} (h0:0<=i) (h1:i<l.length):(iw f l i.toNat).getD i.toNat default=l.getD i.toNat default:=by
 unfold iw
 rw[bL,jU (by rw[mh,dA];omega),mh,dA,show i.toNat-min i.toNat l.length=0 by omega,pd,ix,bL]
theorem CO{α:Type} [Inhabited α] {f:α->α} {l:List α} {i:Int} (h0:0<=i) (h1:i<l.length) {y:α} (hy:y=f (l.getD i.toNat default)):(iw f l i.toNat).set i.toNat y=iw f l (i+1).toNat:=by
 unfold iw
 rw[rk h0 h1,lL,hy,show (i+1).toNat=i.toNat+1 by omega,ia]
 have hl:((l.take i.toNat).map f).length=i.toNat:=by rw[mh,dA];omega
 rw[List.set_append_right _ _ (by omega),hl,Nat.sub_self,sI (i:=i.toNat) (by omega)]
 rfl
theorem UW{α:Type} [Inhabited α] {f:α->α} {l:List α} {i:Int} (h0:0<=i) (h1:i<l.length) (e:f (l.getD i.toNat default)=l.getD i.toNat default):iw f l i.toNat=iw f l (i+1).toNat:=by
 rw[← CO h0 h1 rfl,e]
 conv=>rhs;rw[← Fp f l h0 h1]
 rw[bL,cK (by rw[wb];omega)]
 exact (List.set_getElem_self _).symm
def E0(c:aX):aQ:=ji (decide ((ax c 3).1=0)) (ax c 3).2
def kL(c:aX):List au:=(E0 c).1
def jy(c:aX):List aK:=(E0 c).2.1
def yO(x:au):au:=(x.1,x.2.1,x.2.2.1,x.2.2.2.1,x.2.2.2.2.1,x.2.2.2.2.2.1,x.2.2.2.2.2.2.1,x.2.2.2.2.2.2.2.1,x.2.2.2.2.2.2.2.2.1,x.2.2.2.2.2.2.2.2.2.1,(0,0),false,x.2.2.2.2.2.2.2.2.2.2.2.2)
def QM:Cn:=⟨[.box 83 jN],[.agg ib],λd=>[aS d.1],λd y=>cQ y.2.1/\Br y.1.1,λd h=>⟨((xd (ji false ([],0)),()),(([],0),())),⟨⟨by decide,by decide⟩,λx hx=>by cases hx⟩,ji false ([],0),Di ⟨⟨by decide,by decide⟩,λx hx=>by cases hx⟩ false,λi hi=>RA ⟨⟨by decide,by decide⟩,λx hx=>by cases hx⟩ false hi,rfl⟩⟩
def ae9:bw QM.ps->ce:=(λd=>{loops:=(bq 5 (λS=>{ι:=Int×(List aK),qn:=fj,μ:=λi=>((jy d.1).length-i.1).toNat,inv:=λi=>0<=i.1/\i.1<=(jy d.1).length/\i.2=iw kR (jy d.1) i.1.toNat,keep:=[2,3],slots:=λi=>[(4,.int .i64 i.1)],keepN:=[48,272,1048576],names:=λi=>[(64,.live (.cells 30 [.own 272 16,.own 524288 6,.nilsl])),(524288,.live (.row 86 fU i.2))]}) (bq 9 (λS=>{ι:=Int×(List au),qn:=fj,μ:=λi=>((kL d.1).length-i.1).toNat,inv:=λi=>0<=i.1/\i.1<=(kL d.1).length/\i.2=iw lM (kL d.1) i.1.toNat,keep:=[2,3],slots:=λi=>[(5,.int .i64 i.1)],keepN:=[48,1048576],names:=λi=>[(64,.live (.cells 30 [.own 524288 16,.own 524289 6,.nilsl])),(524288,.live (.row 92 bR i.2)),(524289,.live (.row 86 fU ((jy d.1).map kR)))]}) (bq 14 (λS=>{ι:=Int×(List Rt),qn:=fj,μ:=λi=>((aU ((kL d.1).getD (S.i 5).toNat default)).length-i.1).toNat,inv:=λi=>0<=i.1/\i.1<=(aU ((kL d.1).getD (S.i 5).toNat default)).length/\i.2=iw nQ (aU ((kL d.1).getD (S.i 5).toNat default)) i.1.toNat,keep:=[2,3,5],slots:=λi=>[(6,.own 524290 4),(7,.int .i64 i.1)],keepN:=[48,64,524288,524289,1048576],names:=λi=>[(524290,.live (.row 96 dj i.2))]}) cC))),cuts:=(bq 12 (λS=>{ι:=(List au),inv:=λi=>i=(iw lM (kL d.1) (S.i 5).toNat).set (S.i 5).toNat (yO ((kL d.1).getD (S.i 5).toNat default)),keep:=[2,3,5],slots:=λi=>[],keepN:=[48,524289,1048576],names:=λi=>[(64,.live (.cells 30 [.own 524288 16,.own 524289 6,.nilsl])),(524288,.live (.row 92 bR i))]}) cC)})
def Eh(j:Int)(k:List au) :=
 set k j.toNat ((ai k j).1,(ai k j).2.1,(ai k j).2.2.1,(ai k j).2.2.2.1,(ai k j).2.2.2.2.1,(ai k j).2.2.2.2.2.1,(ai k j).2.2.2.2.2.2.1,(ai k j).2.2.2.2.2.2.2.1,(ai k j).2.2.2.2.2.2.2.2.1,(ai k j).2.2.2.2.2.2.2.2.2.1,(ai k j).2.2.2.2.2.2.2.2.2.2.1,false,(ai k j).2.2.2.2.2.2.2.2.2.2.2.2)
def yX(a:ae)(b j:Int) :=
 aU (getD (kL (a,b)) j.toNat default)
def qI(j:Int)(k:List au) :=
 getD (Eh j k) j.toNat default
def uG(a:ae)(b j:Int) :=
 ((length (yX a b j)):Int)
theorem aF3 :
 ∀(a:ae)(b:Int),((a.length<=maxLen/\ ∀(c:Int),c∈a->0<=c/\c<=255)/\aq b)/\True->0<=b/\b<=(ac a)->aS (a,b)/\aS (ax (a,b) (3:Int)).2/\ ∀(c:List au)(d:List aK)(e:List aV)(f:ae)(g:Int),(c,d,e)=ji (decide ((ax (a,b) (3:Int)).1=0)) (ax (a,b) (3:Int)).2/\(f,g)=xc (decide ((ax (a,b) (3:Int)).1=0)) (ax (a,b) (3:Int)).2->c.length*(152:Nat)<=(140737488355328:Nat)/\d.length*(48:Nat)<=(140737488355328:Nat)/\(∃(h:Int) (i:List aK),(0<=h/\h<=((length (jy (a,b))):Int)/\i=iw kR (jy (a,b)) h.toNat)/\0=h/\c=c/\f=f/\g=g/\d=i/\True)/\ ∀(h:Int)(i:List aK),0<=h/\h<=((length (jy (a,b))):Int)/\i=iw kR (jy (a,b)) h.toNat->ao (decide (h<(ac i))) (0<=h/\h<(ac i)/\ ∃(j:Int) (k:List aK),(0<=j/\j<=((length (jy (a,b))):Int)/\k=iw kR (jy (a,b)) j.toNat)/\toNat (((length (jy (a,b))):Int) -j)<toNat
 (((length (jy (a,b))):Int) -h)/\aj (h+1)=j/\c=c/\f=f/\g=g/\set i h.toNat ((ai i h).1,(ai i h).2.1,(ai i h).2.2.1,(ai i h).2.2.2.1,(0:Int),(ai i h).2.2.2.2.2)=k/\True) ((∃(j:Int) (k:List au),(0<=j/\j<=((length (kL (a,b))):Int)/\k=iw lM (kL (a,b)) j.toNat)/\0=j/\f=f/\g=g/\c=k/\i=List.map kR (jy (a,b))/\True)/\ ∀(j:Int)(k:List au),0<=j/\j<=((length (kL (a,b))):Int)/\k=iw lM (kL (a,b)) j.toNat->ao (decide (j<(ac k))) ((0<=j/\j<(ac k)/\0<=j/\j<((length (Eh j k)):Int)/\ ∃(l:List au),l=set (iw lM (kL (a,b)) j.toNat) j.toNat (yO (getD (kL (a,b)) j.toNat default))/\j=j/\List.map kR (jy (a,b))=List.map kR (jy (a,b))/\f=f/\g=g/\set (Eh j k) j.toNat ((qI j k).1,(qI j k).2.1,(qI j k).2.2.1,(qI j k).2.2.2.1,(qI j k).2.2.2.2.1,(qI j k).2.2.2.2.2.1,(qI j k).2.2.2.2.2.2.1,(qI j
 k).2.2.2.2.2.2.2.1,(qI j k).2.2.2.2.2.2.2.2.1,(qI j k).2.2.2.2.2.2.2.2.2.1,((0:Int),(0:Int)),(qI j k).2.2.2.2.2.2.2.2.2.2.2)=l/\True)/\ ∀(l:List au),l=set (iw lM (kL (a,b)) j.toNat) j.toNat (yO (getD (kL (a,b)) j.toNat default))->0<=j/\j<(ac l)/\length (ai l j).2.2.2.2.1*(48:Nat)<=(140737488355328:Nat)/\(∃(m:Int) (n:List Rt),(0<=m/\m<=(uG a b j)/\n=iw nQ (yX a b j) m.toNat)/\j=j/\0=m/\l=l/\List.map kR (jy (a,b))=List.map kR (jy (a,b))/\f=f/\g=g/\(ai l j).2.2.2.2.1=n/\True)/\ ∀(m:Int)(n:List Rt),0<=m/\m<=(uG a b j)/\n=iw nQ (yX a b j) m.toNat->ao (decide (m<(ac n))) (0<=m/\m<(ac n)/\ao (decide ((ai n m).2.2=3)) (0<=m/\m<(ac n)/\ ∃(o:Int) (p:List Rt),(0<=o/\o<=(uG a b j)/\p=iw nQ (yX a b j) o.toNat)/\toNat ((uG a b j) -o)<toNat ((uG a b j) -m)/\j=j/\aj (m+1)=o/\l=l/\List.map kR (jy
 (a,b))=List.map kR (jy (a,b))/\f=f/\g=g/\set n m.toNat ((ai n m).1,(ai n m).2.1,(1:Int))=p/\True) (∃(o:Int) (p:List Rt),(0<=o/\o<=(uG a b j)/\p=iw nQ (yX a b j) o.toNat)/\toNat ((uG a b j) -o)<toNat ((uG a b j) -m)/\j=j/\aj (m+1)=o/\l=l/\List.map kR (jy (a,b))=List.map kR (jy (a,b))/\f=f/\g=g/\n=p/\True)) (0<=j/\j<(ac l)/\ ∃(o:Int) (p:List au),(0<=o/\o<=((length (kL (a,b))):Int)/\p=iw lM (kL (a,b)) o.toNat)/\toNat (((length (kL (a,b))):Int) -o)<toNat (((length (kL (a,b))):Int) -j)/\aj (j+1)=o/\f=f/\g=g/\set l j.toNat ((ai l j).1,(ai l j).2.1,(ai l j).2.2.1,(ai l j).2.2.2.1,n,(ai l j).2.2.2.2.2)=p/\List.map kR (jy (a,b))=List.map kR (jy (a,b))/\True)) (cQ (f,g)/\Br (k,List.map kR (jy (a,b)),([]:List aV)))):=by
  delta Eh yX qI uG aj ai ac;rintro l p ⟨⟨⟨-,hw⟩,-⟩,-⟩ hc;have hB:cQ (l,p):=⟨hc,hw⟩
  have hB1:=(dr hB 3).1;refine⟨hc,hB1.at',?_⟩;rintro ns ls hs l1 p1 ⟨hnet,hcod⟩;have D:=Di hB1 (decide ((ax (l,p) 3).1=0));have P:=λi=>RA hB1 (decide ((ax (l,p) 3).1=0)) (i:=i);have C:=aj0 hB1 (decide ((ax (l,p) 3).1=0));have en:kL (l,p)=ns:=by unfold kL E0;rw[← hnet]
  have el:jy (l,p)=ls:=by unfold jy E0;rw[← hnet]
  rw[← hnet] at D P;rw[← hcod] at C;have n7:ns.length<=7:=D.n7;have l10:ls.length<=10:=D.l10;have hr:∀ x∈ns,(aU x).length<=1000:=λx hx=>by
   have h:=(D.nb.2.2.2.1 x hx).2.1;omega
  rw[en,el];clear hnet hcod;refine⟨by omega,by omega,⟨0,ls,⟨by omega,by omega,IR _ _⟩,(by repeat' first|exact trivial|refine⟨trivial,?_⟩|refine⟨(by with_reducible rfl),?_⟩|refine⟨aG (by omega) (by omega),?_⟩|refine⟨rfl,?_⟩)⟩,?_⟩;rintro i _ ⟨i0,i1,rfl⟩;rw[wb];refine aw (λh=>?_) (λh=>?_)
  .have h:=aI h;refine⟨i0,h,i+1,_,⟨by omega,by omega,rfl⟩,by omega,?_⟩
   (repeat first|refine⟨trivial,?_⟩|refine⟨(by with_reducible rfl),?_⟩|refine⟨aG (by omega) (by omega),?_⟩);refine⟨CO i0 h ?_,by (repeat refine⟨(by with_reducible rfl),?_⟩);trivial⟩;rw[Fp _ _ i0 h];rfl
  have h:=aL h;rw[Jl kR ls (by omega)];refine⟨⟨0,ns,⟨by omega,by omega,IR _ _⟩,(by repeat' first|exact trivial|refine⟨trivial,?_⟩|refine⟨(by with_reducible rfl),?_⟩|refine⟨aG (by omega) (by omega),?_⟩|refine⟨rfl,?_⟩)⟩,?_⟩;clear h i0 i1;rintro i _ ⟨i0,i1,rfl⟩;rw[wb];refine aw (λh=>?_) (λh=>?_)
  .have h:=aI h;refine⟨⟨i0,h,i0,by rw[gB,wb];exact h,_,rfl,?_⟩,?_⟩
   ·(repeat first|refine⟨trivial,?_⟩|refine⟨(by with_reducible rfl),?_⟩|refine⟨aG (by omega) (by omega),?_⟩);refine⟨?_,by (repeat refine⟨(by with_reducible rfl),?_⟩);trivial⟩;have hl:i.toNat<(iw lM ns i.toNat).length:=by rw[wb];omega
    rw[List.set_set,Fp _ _ i0 h];rw[bL,List.getElem?_set_self hl];rfl
   rintro x7 rfl;have hl:i.toNat<(iw lM ns i.toNat).length:=by rw[wb];omega
   have hq:((iw lM ns i.toNat).set i.toNat (yO (ns.getD i.toNat default))).getD i.toNat default=yO (ns.getD i.toNat default):=by
    rw[bL,List.getElem?_set_self hl];rfl
   have hx:=hr _ (bS i0 h);have hq2:(yO (ns.getD i.toNat default)).2.2.2.2.1=aU (ns.getD i.toNat default):=rfl;rw[hq,gB,wb,hq2];refine⟨i0,h,by omega,⟨0,_,⟨by omega,by omega,IR _ _⟩,(by repeat' first|exact trivial|refine⟨trivial,?_⟩|refine⟨(by with_reducible rfl),?_⟩|refine⟨aG (by omega) (by omega),?_⟩|refine⟨rfl,?_⟩)⟩,?_⟩;rintro k _ ⟨k0,k1,rfl⟩;rw[wb];refine aw (λhk=>?_) (λhk=>?_)
   .have hk:=aI hk;rw[Fp _ _ k0 hk];refine⟨k0,hk,aw (λhb=>?_) (λhb=>?_)⟩
    .have hb:=aI hb;refine⟨k0,hk,k+1,_,⟨by omega,by omega,rfl⟩,by omega,?_⟩
     (repeat first|refine⟨trivial,?_⟩|refine⟨(by with_reducible rfl),?_⟩|refine⟨aG (by omega) (by omega),?_⟩);refine⟨CO k0 hk ?_,by (repeat refine⟨(by with_reducible rfl),?_⟩);trivial⟩;unfold nQ;rw[am hb]
    .have hb:=aL hb;refine⟨k+1,_,⟨by omega,by omega,rfl⟩,by omega,?_⟩
     (repeat first|refine⟨trivial,?_⟩|refine⟨(by with_reducible rfl),?_⟩|refine⟨aG (by omega) (by omega),?_⟩);refine⟨UW k0 hk ?_,by (repeat refine⟨(by with_reducible rfl),?_⟩);trivial⟩;unfold nQ;rw[af hb]
   .have hk:=aL hk;rw[Jl nQ _ (by omega)];refine⟨i0,h,i+1,_,⟨by omega,by omega,rfl⟩,by omega,?_⟩
    (repeat first|refine⟨trivial,?_⟩|refine⟨(by with_reducible rfl),?_⟩|refine⟨aG (by omega) (by omega),?_⟩);rw[List.set_set];refine⟨CO i0 h rfl,by (repeat refine⟨(by with_reducible rfl),?_⟩);trivial⟩
  have h:=aL h;rw[Jl lM ns (by omega)];exact⟨C,(ns,ls,hs),D,λi hi=>P i hi,rfl⟩
theorem TN:aB 6 QM.spec:=qV Tryz.func6 (Vg (Z7 (av (av aD yu) (Ct.named M1))) (d:=5) (n:=524288)) ae9 aF3
structure xm (s t:Int) (dn:List aV) (l:ae):Prop where
 ne:0<l.length
 el:∀ x∈l,s<=x/\x<=t/\(x=s∨∃ c∈dn,x=fc c)
 cov:∀ τ,s<=τ->τ<=t→∃ x∈l,x<=τ∧∀ c∈dn,¬ (x<fc c/\fc c<=τ)
theorem xm.next{s t:Int}{dn:List aV}{l:ae}(h:xm s t dn l){c:aV}(hs:∀ d∈dn,fc d<=fc c):xm s t (dn++[c]) (zf s t l c):=by
 have hl:=C5 h.ne
 have el:=h.el _ hl
 refine⟨YZ h.ne,λx hx=>?_,λτ t0 t1=>?_⟩
 .unfold zf at hx;split at hx
  .rename_i k;rcases dw.1 hx with hx|hx
   .obtain⟨a,b,e⟩:=h.el x hx;exact⟨a,b,e.imp id λ⟨d,hd,e⟩=>⟨d,gv _ hd,e⟩⟩
   .rw[iP.1 hx];exact⟨by omega,k.2.1,.inr ⟨c,by simp,rfl⟩⟩
  .obtain⟨a,b,e⟩:=h.el x hx;exact⟨a,b,e.imp id λ⟨d,hd,e⟩=>⟨d,gv _ hd,e⟩⟩
 .obtain⟨x,hx,x1,hc⟩:=h.cov τ t0 t1;unfold zf;by_cases hτ:fc c<=τ
  .split
   .refine⟨fc c,by simp,hτ,λd hd=>?_⟩;rcases dw.1 hd with hd|hd
    .have:=hs d hd;omega
    .rw[iP.1 hd];omega
   .rename_i k;by_cases hcs:fc c<=s
    .refine⟨x,hx,x1,λd hd=>?_⟩;rcases dw.1 hd with hd|hd
     .exact hc d hd
     .rw[iP.1 hd];have:=(h.el x hx).1;omega
    .have e:fc c=gR l:=by
      rcases el.2.2 with e|⟨d,hd,e⟩
      .omega
      .have:=hs d hd;omega
     refine⟨gR l,hl,by omega,λd hd=>?_⟩;rcases dw.1 hd with hd|hd
     .have:=hs d hd;omega
     .rw[iP.1 hd];omega
  .have hx':∀ d∈dn++[c],¬ (x<fc d/\fc d<=τ):=λd hd=>by
    rcases dw.1 hd with hd|hd
    .exact hc d hd
    .rw[iP.1 hd];omega
   split
   .exact⟨x,gv _ hx,x1,hx'⟩
   .exact⟨x,hx,x1,hx'⟩
theorem xm.all{s t:Int}:∀(rest dn:List aV)(l:ae),(dn++rest).Pairwise (λa b=>fc a<=fc b)->xm s t dn l->xm s t (dn++rest) (rest.foldl (zf s t) l)
 | [],dn,l,_,h=>by simpa using h
 | c::r,dn,l,hp,h=>by
  rw[List.foldl_cons,show dn++c::r=(dn++[c])++r by simp];refine xm.all r (dn++[c]) _ (by simpa using hp) (h.next λd hd=>?_);exact (List.pairwise_append.1 hp).2.2 d hd c fW
theorem Sz{ls:List aK}{i k:Int}(h:lnk ls i k)(hne:lA (ls.getD k.toNat default)≠lB (ls.getD k.toNat default)):lnk ls (fB ls k i) k:=by
 obtain⟨k0,k1,e⟩:=h
 refine⟨k0,k1,?_⟩
 rcases e with e|e
 .subst e;rw[Mf k0 k1];exact .inr rfl
 .subst e;rw[Ra k0 k1 hne];exact .inl rfl
structure WL (n:aQ) (w:Way):Prop where
 i:WI n w
 k:∀ i:Nat,i<w.2.1.length->lnk n.2.1 (w.1.getD (i+1) default) (w.2.1.getD i default)
theorem WL.step{n:aQ}(D:DN n){at':Int}{k:dZ}{w:Way}(h:WL n w):WL n (lR n at' k w):=by
 refine⟨h.i.step D.wn,?_⟩
 have hl:=h.i.l
 have hr:=h.i.r _ (C5 (ns:=w.1) (by omega))
 have lm:=Hg (l:=d5 n (gR w.1) at') (a:=k.2.1)
 have nx:=D.next (at':=at') hr.1 hr.2
 unfold lR qG
 split
 .exact h.k
 split
 .exact h.k
 split
 .exact h.k
 rename_i h2
 split
 .exact h.k
 split
 .exact h.k
 have hok:ie (d5 n (gR w.1) at') k.2.1=true:=by
  cases hh:ie (d5 n (gR w.1) at') k.2.1
  .exact absurd (.inl hh) h2
  .rfl
 have pr:=Ht (r:=bf (d5 n (gR w.1) at') k.2.1) (seed:=sw (n.1.getD (gR w.1).toNat default)) (k:=k) (by
  have:¬ (bf (d5 n (gR w.1) at') k.2.1).2.1.length=0:=λe=>h2 (.inr e);omega)
 have ho:=nx _ (lm hok) _ (bS pr.1 pr.2)
 have hg:=D.g _ (bS ho.1 ho.2.1)
 have ho2:=Sz ho hg.2.2.1
 intro i hi
 dsimp only at hi ⊢
 rw[cu,ga] at hi
 by_cases e:i<w.2.1.length
 .rw[Dr (by omega),Dr (by omega)];exact h.k i e
 .have e:i=w.2.1.length:=by omega
  subst e;rw[Fs,← hl,Fs];exact ho2
theorem WL.run{n:aQ}(D:DN n){at':Int}{k:dZ}:∀(f:Nat){w:Way},WL n w->WL n (kY n at' k f w)
 | 0,w,h=>h
 | f+1,w,h=>by
  rw[kY];split
  .exact WL.run D f (h.step D)
  .exact h
theorem aN8{n:aQ}(D:DN n){at' who:Int}{k:dZ}(w0:0<=who)(w1:who<n.1.length):WL n (ly n at' who k) :=
 WL.run D 257 ⟨⟨rfl,Nat.zero_le _,λx hx=>by rw[iP.1 hx];exact⟨w0,w1⟩⟩,λi hi=>absurd hi (Nat.not_lt_zero _)⟩
theorem WL.d2{n:aQ}(D:DN n){w:Way}(h:WL n w):E5 n w.2.1 where
 len:=by have:=h.i.m;omega
 k:=λk hk=>by
  obtain⟨i,hi,rfl⟩:=xp hk;have:=h.k i hi;exact⟨this.1,this.2.1⟩
 d:=λx hx=>by
  have:=D.g x hx;omega
set_option maxHeartbeats 1000000
theorem aU0{n:aQ}{w:Way}{T:Int}(h:ir n w T=true):1<=iF n w T/\iF n w T+1<=w.1.length:=by
 unfold iF
 rw[am h]
 unfold ir at h
 have h:=aI (Bool.and_eq_true_iff.1 h).2
 omega
theorem T3{n:aQ}{p:bz}(C:rQ n)(g:da p)(hT:1<=db p/\db p<=8)(hn:0<n.1.length)(hk:eJ 4000 (jr n))(hs:eJ 8000 (iH (jr n) 0 0 (build p))) :
  ∃ e0 r,vI (tC (iH (jr n) 0 0 (build p)) 1099511627776) 0=e0::r/\Fin n p e0 (bM (tC (iH (jr n) 0 0 (build p)) 1099511627776)) ∧
   ((bh (tC (iH (jr n) 0 0 (build p)) 1099511627776)).length:Int)<=8000/\((bM (tC (iH (jr n) 0 0 (build p)) 1099511627776)).length:Int)<=8000∧∀ x∈bM (tC (iH (jr n) 0 0 (build p)) 1099511627776),(x.2.2.length:Int)<=2000:=by
 obtain⟨e0,r,h1,h2,h3⟩:=(PA.start g hT.1 hn hk hs.sim).run hT g C (to:=1099511627776) (by decide) _ (iq _)
 have hr:=(hs.run (to:=1099511627776) _ (iq _)).1
 have e:tC (iH (jr n) 0 0 (build p)) 1099511627776=dq (fJ (jx (iH (jr n) 0 0 (build p)) 1099511627776) 1099511627776):=rfl
 obtain⟨-,-,k3,k4,-⟩:=BG (fJ (jx (iH (jr n) 0 0 (build p)) 1099511627776) 1099511627776)
 have k3:bh (tC (iH (jr n) 0 0 (build p)) 1099511627776)=bh (jx (iH (jr n) 0 0 (build p)) 1099511627776):=k3
 have k4:bM (tC (iH (jr n) 0 0 (build p)) 1099511627776)=bM (jx (iH (jr n) 0 0 (build p)) 1099511627776):=k4
 rw[k3,k4]
 refine⟨e0,r.filter (λe=>decide (jJ e=0)),?_,h3,?_,by have:=hr.d;omega,hr.dd⟩
 .unfold vI;rw[k3,h1,List.filter_cons,am (cM h2)]
 .have:=hr.e;omega
theorem Br.home{n:aQ}(h:∀ i:Nat,i<n.1.length->0<(ay (n.1.getD i default)).length)(D:DN n):u32 (fe n).1:=by
 have n3:=D.n3
 have hp:=h 0 (by omega)
 unfold fe
 rw[af (by omega)]
 have:=D.padr (i:=0) (by omega) (a:=((ay (n.1.getD 0 default)).getD 0 default).1) (List.mem_map.2 ⟨_,nX hp,rfl⟩)
 unfold u32
 show 0<=((ay (n.1.getD 0 default)).getD 0 default).1/\((ay (n.1.getD 0 default)).getD 0 default).1<=4294967295
 omega
abbrev Zc:pz:=[(false,.sl bP),(false,bP)]
def P5:Ct:=Bg Zc
def ZF:bw P5.ps->ce:=(λd=>{loops:=(bq 33 (λS=>{ι:=Int,μ:=λi=>((bM (S.c nL 288)).length-i).toNat,inv:=λi=>0<=i/\i<=(bM (S.c nL 288)).length,keep:=[7,17,25],slots:=λi=>[(27,.int .i64 i)],keepN:=[128,288]}) cC)})
def uB(b:Int) :=
 (1:Int)+Int.tmod (aj b) (8:Int)
def GC(H:(List au×List aK×List aV)×Int×Int×Int×List (List aN×Int×ae×(Int×Int)×Int)×ae×List (Int×Int×Int×Int×Int×ae)×List (Int×Int×ae)×List (Int×Int×Int×Int×Int))(b:Int) :=
 aj (uB b)=aj (uB b)/\H.1.1=H.1.1/\H.1.2.1=H.1.2.1/\H.1.2.2=H.1.2.2/\H.2.1=H.2.1/\H.2.2.1=H.2.2.1/\H.2.2.2.1=H.2.2.2.1/\H.2.2.2.2.1=H.2.2.2.2.1/\H.2.2.2.2.2.1=H.2.2.2.2.2.1/\H.2.2.2.2.2.2.1=H.2.2.2.2.2.2.1/\H.2.2.2.2.2.2.2.1=H.2.2.2.2.2.2.2.1/\H.2.2.2.2.2.2.2.2=H.2.2.2.2.2.2.2.2/\True
theorem aT2 :
 ∀(a:ae)(b:Int),(a.length<=maxLen/\ ∀(c:Int),c∈a->0<=c/\c<=255)/\(0<=b/\b<=255)/\True->True->(0:Int)<=500/\ ∀(c:ae)(d:Int),(c,d)=(if (ac a)<=500 then a else take (toNat 500) a,(0:Int))->aS (c,d)/\ ∀(e:List au)(f:List aK)(g:List aV)(h:ae)(i:Int),cQ (h,i)/\Br (e,f,g)->(∀(j:aV),j∈g->((length (dN j).2.1):Int)<=1099511627776)/\ao (! decide (d9 (e,f,g)=0)) (false=true) (aS (h,i)/\ ∀(j k l m n o:Int)(p:ae)(q:Int),aS (p,q)/\u32 j/\u32 k/\cf (j,k,l,m,n,o)=0->aS (p,q)/\ ∀(r:Int)(s:ae)(t:Int),aS (s,t)/\0<=r/\r<=4294967295->(8:Int)≠(0:Int)/\ ∀(u:ae)(v:Int),u=build ((fe (e,f,g)).1,r,l,m,n,aj (uB b))/\v=cf ((fe (e,f,g)).1,r,l,m,n,aj (uB b))-> ∀(w x y z A B:Int),(w,x,y,z,A)=An ((fe (e,f,g)).1,r,l,m,n,aj (uB b))/\B=AJ ((fe (e,f,g)).1,r,l,m,n,aj (uB b))->sM (e,f,g)/\
 ∀(C:(List au×List aK×List aV)×Int×Int×Int×List (List aN×Int×ae×(Int×Int)×Int)×ae×List (Int×Int×Int×Int×Int×ae)×List (Int×Int×ae)×List (Int×Int×Int×Int×Int))(D:Int),C=Ab (e,f,g)/\D=d9 (e,f,g)->oX C/\(ac u)<=1000000/\ ∀(E:(List au×List aK×List aV)×Int×Int×Int×List (List aN×Int×ae×(Int×Int)×Int)×ae×List (Int×Int×Int×Int×Int×ae)×List (Int×Int×ae)×List (Int×Int×Int×Int×Int))(F G:Int),E=ry C (0:Int) (0:Int) u/\F=qY C (0:Int) (0:Int)/\G=lK C (0:Int) (0:Int)->oX E/\ ∀(H:(List au×List aK×List aV)×Int×Int×Int×List (List aN×Int×ae×(Int×Int)×Int)×ae×List (Int×Int×Int×Int×Int×ae)×List (Int×Int×ae)×List (Int×Int×Int×Int×Int))(I:Int),H=vH E (1099511627776:Int)/\I=py E (1099511627776:Int)-> ∀(J:Bool),J= ! decide (D=0)->(ah (! J))/\(aE J)/\ ∀(K:Bool),(K=bif J then true else
 ! decide (G=0))->(ah (! K))/\(aE K)/\ao (bif K then true else ! decide (I=0)) (false=true) (WN (e,f,g)/\(0:Int)<=0/\0<(ac e)/\ ∀(L M:ae)(N:Int),(L,M,N)=ly (e,f,g) (0:Int) (0:Int) (w,x,y,z,A)->((length (bh H)):Int)<=1099511627776/\ ∀(O:List (Int×Int×Int×Int×Int)),O=vI H F-> ∀(P:Bool),P=decide ((ac O)=0)->((! P)->(ar (! P))/\(ar (! P))/\((length (bh H)):Int)<=1099511627776/\True)/\((! P)->(ar (! P))/\(ar (! P))/\True)/\(ah (! P))/\(aE P)/\ao (bif P then true else ! decide (O=vI H F)) (false=true) (Cg (e,f,g) (L,M,N)/\ ∀(Q:Int)(R:Bool),Q=iF (e,f,g) (L,M,N) (aj (uB b))/\R=ir (e,f,g) (L,M,N) (aj (uB b))->ao (! R) (∀(S:Bool),S= ! decide (N=1)->(ah (! S))/\(ah (! S))/\(ah (! S))/\(aE S)/\(bif S then true else decide ((ac L)=1))=true) (∀(S:Bool),S=decide (N=5)->(ah S)/\(ah S)/\(ah S)/\(S->(ar S)/\(ar S)/\True)/\(ar S)/\
 ∀(T:Bool),(T=bif S then decide (Q=aj ((ac L) -1)) else false)->(ah (! T))/\(ah (! T))/\(ah (! T))/\ ∀(U:Bool),U=decide (N=2)->(ah (! T&&U))/\(ah (! T&&U))/\(ah (! T&&U))/\((! T)->(ar (! T))/\(U->(! T&&U))/\True)/\(aE T)/\ao (bif T then true else bif U then decide ((ac L)=1) else false) ((0:Int)<=0/\0<(ac O)/\ ∀(V:Bool),V=decide ((ai O (0:Int)).2.2.2.2=6)->((! V)->(ar (! V))/\(0:Int)<=0/\0<(ac O)/\True)/\(ah (! V))/\(ah (! V))/\(ah (! V))/\(aE V)/\(bif V then true else decide ((ai O (0:Int)).2.2.2.2=8))=true) ((0:Int)<=0/\0<=Q/\Q<=(ac M)/\E5 (e,f,g) (cO M (toNat 0) Q.toNat)/\ ∀(V W:Int),V=my (e,f,g) (cO M (toNat 0) Q.toNat)/\W=lV (e,f,g) (cO M (toNat 0) Q.toNat)->(0:Int)<=0/\0<(ac O)/\0<=Q/\Q<(ac L)/\ ∀(X:Bool),X= ! decide ((ai O (0:Int)).2.2.1=ai L Q)->((! X)->(ar (! X))/\(0:Int)<=0/\0<(ac O)/\True)/\(ah (! X))/\(ah (! X))/\(ah (!
 X))/\(ah (! X))/\((! X)->(ar (! X))/\(ar (! X))/\0<=aj (Q -1)/\aj (Q -1)<(ac M)/\True)/\(ah (! X))/\((! X)->(ar (! X))/\(ar (! X))/\True)/\(aE X)/\ ∀(Y:Bool),(Y=bif X then true else ! decide ((ai O (0:Int)).2.2.2.1=ai M (aj (Q -1))))->((! Y)->(ar (! Y))/\(0:Int)<=0/\0<(ac O)/\True)/\(ah (! Y))/\(ah (! Y))/\((! Y)->(ar (! Y))/\(ar (! Y))/\True)/\(aE Y)/\ ∀(Z:Bool),(Z=bif Y then true else decide ((ai O (0:Int)).2.1<V))->((! Z)->(ar (! Z))/\(0:Int)<=0/\0<(ac O)/\True)/\(ah (! Z))/\(ah (! Z))/\((! Z)->(ar (! Z))/\(ar (! Z))/\True)/\(aE Z)/\ao (bif Z then true else decide (W<(ai O (0:Int)).2.1)) (false=true) (okNet (e,f,g)/\Cg (e,f,g) (L,M,N)/\ ∀(a1:Int)(b1:Bool),a1=oa (e,f,g) (0:Int) (L,M,N) Q (fe (e,f,g)).1/\b1=lz (e,f,g) (0:Int) (L,M,N) Q (fe (e,f,g)).1->(0:Int)<=0/\0<(ac O)/\ ∀(c1:Bool),c1= ! decide ((ai O (0:Int)).2.2.2.2=2)->(ah (!
 c1))/\(aE c1)/\ ∀(d1:Bool),(d1=bif c1 then true else ! b1)->(ah (! d1))/\(ah (! d1))/\(ah (! d1))/\ ∀(e1:Bool),e1=decide (N=1)->(ah (! d1&&e1))/\(ah (! d1&&e1))/\(ah (! d1&&e1))/\((! d1&&e1)->(ar (! d1&&e1))/\(ar (! d1&&e1))/\True)/\((! d1)->(ar (! d1))/\(e1->(! d1&&e1))/\True)/\(aE d1)/\ao (bif d1 then true else bif e1 then decide (Q=aj ((ac L) -1)) else false) (true=true) ((∃(f1:Int),(0<=f1/\f1<=((length (bM H)):Int))/\a1=a1/\0=f1/\(fe (e,f,g)).1=(fe (e,f,g)).1/\r=r/\l=l/\m=m/\n=n/\(GC H b))/\ ∀(f1:Int),0<=f1/\f1<=((length (bM H)):Int)->ao (decide (f1<(ac H.2.2.2.2.2.2.2.1))) (0<=f1/\f1<(ac H.2.2.2.2.2.2.2.1)/\((length (getD H.2.2.2.2.2.2.2.1 f1.toNat default).2.2):Int)<=1000000/\ ∀(g1 h1 i1 j1 k1 l1 m1 n1 o1 p1 q1 r1 s1:Int),(g1,h1,i1,j1,k1,l1)=(jQ (getD H.2.2.2.2.2.2.2.1 f1.toNat default).2.2).1/\(m1,n1,o1,p1,q1,r1)=(jQ
 (getD H.2.2.2.2.2.2.2.1 f1.toNat default).2.2).2/\s1=pT (getD H.2.2.2.2.2.2.2.1 f1.toNat default).2.2-> ∀(t1:Bool),t1=decide (s1=0)->(ah t1)/\(ah t1)/\(t1->(ar t1)/\(ar t1)/\True)/\(ar t1)/\ ∀(u1:Bool),(u1=bif t1 then decide (k1=n) else false)->(ah u1)/\(u1->(ar u1)/\(ar u1)/\True)/\(ah u1)/\ ∀(v1:Bool),v1= ! decide (m1=a1)->(ah (u1&& ! v1))/\(ah (u1&& ! v1))/\(ah (u1&& ! v1))/\ ∀(w1:Bool),w1= ! decide (n1=1)->(ah (u1&& ! v1&&w1))/\(ah (u1&& ! v1&&w1))/\((u1&& ! v1)->(ar (u1&& ! v1))/\(w1->(u1&& ! v1&&w1))/\True)/\(u1->(ar u1)/\(v1=false->(u1&& ! v1))/\True)/\(ar u1)/\ao (bif u1 then bif v1 then true else bif w1 then ! decide (n1=5) else false else false) (false=true) (∃(x1:Int),(0<=x1/\x1<=((length (bM H)):Int))/\toNat (((length (bM H)):Int) -x1)<toNat (((length (bM H)):Int) -f1)/\a1=a1/\aj (f1+1)=x1/\(fe (e,f,g)).1=(fe
 (e,f,g)).1/\r=r/\l=l/\m=m/\n=n/\(GC H b))) (true=true)))))))):=by
  delta uB GC ah ar aE aj ai ac;rintro cl t ⟨⟨hcl,hcw⟩,⟨t0,t1⟩,-⟩ -;have q0:=sO (b:=8) t0;have q1:=rK (b:=8) t0 (by omega);rw[aG (n:=t) (by omega) (by omega),aG (n:=1+t.tmod 8) (by omega) (by omega)];generalize hT:1+t.tmod 8=T;refine⟨by decide,?_⟩;rintro l0 p0 hc;have hB:cQ (l0,p0):=by rw[hc];exact am4 hcw
  refine⟨hB.at',?_⟩;clear hc;rintro ns ls hs l1 p1 ⟨hB1,m,D0,P0,hn⟩;have C:rQ (ns,ls,hs):=by rw[hn];exact D0.isCalm P0
  have D:DN (ns,ls,hs):=by rw[hn];exact D0.calm
  have P:∀ i:Nat,i<ns.length->0<(ay (ns.getD i default)).length:=λi hi=>by
   have e:ns=m.1.map lM:=jt (λx:aQ=>x.1) hn;rw[e] at hi ⊢;rw[mh] at hi;rw[xY hi];exact P0 i hi
  have n3:3<=ns.length:=D.n3;have hh:hs=[]:=C.h;have ck:=C.c;have W:=D.wn;have hok:=D.newOk P;clear hn;refine⟨λc hc=>(by rw[hh] at hc;cases hc),?_⟩;rw[ck,cM rfl];refine uy.2 ⟨hB1.at',?_⟩;rintro s d pr f tg tt l2 p2 ⟨hc2,-,-,hpe⟩;refine⟨hc2,?_⟩;rintro dst l3 p3 ⟨hc3,d0,d1⟩;refine⟨by decide,?_⟩;have g:da ((fe (ns,ls,hs)).1,dst,pr,f,tg,T):=by
   obtain⟨k1,k2,k3,-⟩:=lh.1 hpe;exact⟨lh.2 ⟨k1,k2,k3,by show 1<=T;omega,by show T<=255;omega⟩,Br.home P D,⟨d0,d1⟩⟩
  have hTT:1<=db ((fe (ns,ls,hs)).1,dst,pr,f,tg,T)/\db ((fe (ns,ls,hs)).1,dst,pr,f,tg,T)<=8:=⟨by show 1<=T;omega,by show T<=8;omega⟩
  have hsrc:(fe (ns,ls,hs)).1=Prod.fst ((fe (ns,ls,hs)).1,dst,pr,f,tg,T):=rfl;have hb1:=(zD.new hok).send (by decide) (at':=0) (by decide) (by decide) (Kc ((fe (ns,ls,hs)).1,dst,pr,f,tg,T)) (by have:=GW ((fe (ns,ls,hs)).1,dst,pr,f,tg,T);omega);have hbl:=GW ((fe (ns,ls,hs)).1,dst,pr,f,tg,T);rintro b be ⟨rfl,-⟩;rintro k1 k2 k3 k4 k5 ke ⟨hk,-⟩;have hk:(k1,k2,k3,k4,k5)=bc (build ((fe (ns,ls,hs)).1,dst,pr,f,tg,T)):=hk.trans (am g.ok);refine⟨P1 D.nb (by decide),?_⟩;rintro w x ⟨hw,rfl⟩;have hw:w=jr (ns,ls,hs):=hw.trans (am ck);subst hw;refine⟨.inl hok.sim,by omega,?_⟩;rintro w2 o e ⟨hw2,ho,he⟩;have he:e=0:=he.trans hb1.1;have ho:o=0:=ho.trans (am hb1.1);have hw2:w2=iH (jr (ns,ls,hs)) 0 0 (build ((fe (ns,ls,hs)).1,dst,pr,f,tg,T)):=hw2.trans (am hb1.1);have hok2:=hb1.2.ok;have hnow:=hb1.2.now;have F:=T3 C g hTT (show 0<ns.length by omega) hok hok2;rw[← hw2] at F hok2 hnow;clear hw2 hb1
  subst he ho;refine⟨.inl hok2.sim,?_⟩;rintro y z ⟨hy,hz⟩;have hq:py w2 1099511627776=0:=by unfold py;rw[hnow];decide
  have hz:z=0:=hz.trans hq;have hy:y=tC w2 1099511627776:=hy.trans (am hq);subst hz;rw[← hy] at F;clear hy hq hok2 hnow;rintro b1 rfl
  (repeat refine⟨λh_=>(by first|(simp;done)|(simp[h_];done)|(simp_all;done)),?_⟩);rintro b2 rfl
  (repeat refine⟨λh_=>(by first|(simp;done)|(simp[h_];done)|(simp_all;done)),?_⟩);refine uy.2 ⟨W,by decide,by omega,?_⟩;rintro u v e hw;have L:=aN8 D (at':=0) (who:=0) (k:=(k1,k2,k3,k4,k5)) (f8 _) (show (0:Int)<ns.length by omega);rw[← hw] at L;have hw:(u,v,e)=bd (ns,ls,hs) ((fe (ns,ls,hs)).1,dst,pr,f,tg,T):=by rw[hw,hk]
  obtain⟨e0,r,hf,F,hen,hdn,hdl⟩:=F;rw[hf];have wi:Cg (ns,ls,hs) (u,v,e):=L.i.r;refine⟨by omega,?_⟩;rintro q rfl;rintro b3 hb3;have hb3:b3=false:=by rw[hb3];exact dO (by rw[dM];omega)
  subst hb3
  (repeat refine⟨λh_=>(by first|exact⟨λ_=>h_,λ_=>h_,by omega,trivial⟩|(simp;done)|(simp[h_];done)|(simp_all;done)),?_⟩);rw[cM rfl];refine uy.2 ⟨wi,?_⟩;rintro i ok ⟨hi,hok'⟩;obtain⟨F1,F2,F3⟩:=F;rw[← hw] at F1 F2 F3;have F1:ir (ns,ls,hs) (u,v,e) T=true->_:=F1;have F2:ir (ns,ls,hs) (u,v,e) T=true->_:=F2;have F3:ir (ns,ls,hs) (u,v,e) T=true->_:=F3;have ec:vB (ns,ls,hs) ((fe (ns,ls,hs)).1,dst,pr,f,tg,T)↔((e=5/\i=(u.length:Int)-1)∨(e=2/\u.length=1)):=by
   unfold vB;rw[← hw,hi]
  have li:u.length=v.length+1:=L.i.l;cases ok with
  | false =>
   have:=Ts (w:=(u,v,e)) (T:=T) (by omega) (by omega) hok'.symm;show ∀ _,_;rintro b rfl
   (repeat refine⟨λh_=>(by first|(simp;done)|(simp[h_];done)|(simp_all;done)),?_⟩);have this:e≠1∨u.length<=1:=this;by_cases h1:e=1
   .rw[cM (show (u.length:Int)=1 by omega)];cases decide (e=1) <;> rfl
   .rw[dO h1];rfl
  | true =>
   obtain⟨i1,i2⟩:=aU0 hok'.symm;rw[← hi] at i1 i2;have i2:i+1<=u.length:=i2;have F1:=F1 hok'.symm;have F2:=F2 hok'.symm;have F3:=F3 hok'.symm;rw[ec] at F1 F2 F3;rw[show db ((fe (ns,ls,hs)).1,dst,pr,f,tg,T)=T from rfl,← hi] at F2 F3;have hm:=L.i.m;have hm:v.length<=255:=hm;have e00:getD (e0::r) (toNat 0) default=e0:=rfl;have lr:(0:Int)<((e0::r).length:Int):=by simp only[dM];omega
   rw[e00];rw[aG (n:=(u.length:Int)-1) (by omega) (by omega),aG (n:=i-1) (by omega) (by omega)];refine uy.2 ?_;rintro b4 hb4
   (repeat refine⟨λh_=>(by first|(simp;done)|(simp[h_];done)|(simp_all;done)),?_⟩);rintro b5 hb5
   (repeat refine⟨λh_=>(by first|(simp;done)|(simp[h_];done)|(simp_all;done)),?_⟩);rintro b6 hb6
   (repeat refine⟨λh_=>(by first|(simp;done)|(simp[h_];done)|(simp_all;done)),?_⟩);have hc:(bif b5 then true else bif b6 then decide ((u.length:Int)=1) else false)=decide ((e=5/\i=(u.length:Int)-1)∨(e=2/\u.length=1)):=by
    rw[hb5,hb6,hb4];by_cases h5:e=5
    .have h2:¬ e=2:=by omega
     simp[h5]
    .by_cases h2:e=2 <;> simp[h5,h2];omega
   rw[hc];refine aw (λh=>?_) (λh=>?_)
   .have hF:=F1 (aI h);refine⟨by decide,lr,?_⟩;have hF:e0.2.2.2.2=6∨e0.2.2.2.2=8:=hF;rintro b7 hb7
    (repeat refine⟨λh_=>(by first|exact⟨λ_=>h_,by decide,lr,trivial⟩|(simp;done)|(simp[h_];done)|(simp_all;done)),?_⟩);rw[hb7];rcases hF with hF|hF <;> rw[hF] <;> rfl
   .have h:=aL h;obtain⟨g1,g2,g3,g4⟩:=F2 h;have g1:e0.2.2.1=u.getD i.toNat default:=g1;have g2:e0.2.2.2.1=v.getD (i-1).toNat default:=by rw[show (i-1).toNat=i.toNat-1 by omega];exact g2
    have d2:=L.d2 D;refine⟨by decide,by omega,by omega,⟨qX (show (v.take i.toNat).length<=v.length by rw[dA];exact Nat.min_le_right _ _) d2.len,λk hk=>d2.k k (oI (i:=i.toNat) hk),d2.d⟩,?_⟩;rintro x1 x2 ⟨rfl,rfl⟩;have g3:¬ e0.2.1<my (ns,ls,hs) (cO v (toNat 0) i.toNat):=Int.not_lt.2 g3;have g4:¬ lV (ns,ls,hs) (cO v (toNat 0) i.toNat)<e0.2.1:=Int.not_lt.2 g4;refine⟨by decide,lr,by omega,by omega,?_⟩;rintro b7 hb7;have hb7:b7=false:=by rw[hb7,cM g1];rfl
    subst hb7
    (repeat refine⟨λh_=>(by first|((repeat refine⟨λ_=>h_,?_⟩);exact⟨by decide,lr,trivial⟩)|((repeat refine⟨λ_=>h_,?_⟩);exact⟨by omega,by omega,trivial⟩)|(simp;done)|(simp[h_];done)|(simp_all;done)),?_⟩);rintro b8 hb8;have hb8:b8=false:=by rw[hb8,cM g2];rfl
    subst hb8
    (repeat refine⟨λh_=>(by first|((repeat refine⟨λ_=>h_,?_⟩);exact⟨by decide,lr,trivial⟩)|(simp;done)|(simp[h_];done)|(simp_all;done)),?_⟩);rintro b9 hb9;have hb9:b9=false:=by rw[hb9,dO g3];rfl
    subst hb9
    (repeat refine⟨λh_=>(by first|((repeat refine⟨λ_=>h_,?_⟩);exact⟨by decide,lr,trivial⟩)|(simp;done)|(simp[h_];done)|(simp_all;done)),?_⟩);rw[dO g4];refine uy.2 ⟨D.okNet,wi,?_⟩;rintro fr kn ⟨hfr,hkn⟩;refine⟨by decide,lr,?_⟩;rintro b10 hb10
    (repeat refine⟨λh_=>(by first|(simp;done)|(simp[h_];done)|(simp_all;done)),?_⟩);rintro b11 hb11
    (repeat refine⟨λh_=>(by first|(simp;done)|(simp[h_];done)|(simp_all;done)),?_⟩);rintro b12 hb12
    (repeat refine⟨λh_=>(by first|(simp;done)|(simp[h_];done)|(simp_all;done)),?_⟩);refine aw (λ_=>rfl) (λhz=>?_);have hz:(e0.2.2.2.2=2/\kn=true)∧¬ (e=1/\i=(u.length:Int)-1):=by
     rw[hb12,hb11,hb10] at hz;by_cases q1:e0.2.2.2.2=2
     .rw[cM q1] at hz;cases kn with
      | false=>exact absurd hz (by simp)
      | true =>
       refine⟨⟨q1,rfl⟩,λq=>?_⟩;rw[cM q.1,cM q.2] at hz;exact absurd hz (by simp)
     .rw[dO q1] at hz;exact absurd hz (by simp)
    have F4:=F3 h hz.1.1 (hkn.symm.trans hz.1.2) (λq=>hz.2 ⟨q.1,q.2⟩);refine⟨⟨0,⟨by decide,by omega⟩,(by repeat' first|exact trivial|refine⟨trivial,?_⟩|refine⟨(by with_reducible rfl),?_⟩|refine⟨aG (by omega) (by omega),?_⟩|refine⟨rfl,?_⟩)⟩,?_⟩;rintro j ⟨j0,j1⟩;refine aw (λhj=>?_) (λ_=>rfl);have hj:j<(bM y).length:=aI hj;have hmem:=bS j0 hj;have hdl:=hdl _ hmem;have F4:=F4 _ hmem;refine⟨j0,hj,by have hdl:(((bM y).getD j.toNat default).2.2.length:Int)<=2000:=hdl
              exact Int.le_trans hdl (by decide),?_⟩
    rintro a1 a2 a3 a4 a5 a6 c1 c2 c3 c4 c5 c6 x ⟨-,hc,hx⟩;rw[show y.2.2.2.2.2.2.2.1=bM y from rfl] at hc hx;have key:x=0->c1=fr/\c2=1:=λq=>by
     by_cases hg:t5 ((bM y).getD j.toNat default).2.2
     .obtain⟨r1,r2⟩:=F4 hg;rw[← hc] at r1 r2;exact⟨r1.trans hfr.symm,r2⟩
     .rw[hx,pT,af hg] at q;cases q
    rintro b13 hb13
    (repeat refine⟨λh_=>(by first|(simp;done)|(simp[h_];done)|(simp_all;done)),?_⟩);rintro b14 hb14
    (repeat refine⟨λh_=>(by first|(simp;done)|(simp[h_];done)|(simp_all;done)),?_⟩);rintro b15 hb15
    (repeat refine⟨λh_=>(by first|(simp;done)|(simp[h_];done)|(simp_all;done)),?_⟩);rintro b16 hb16
    (repeat refine⟨λh_=>(by first|(simp;done)|(simp[h_];done)|(simp_all;done)),?_⟩);have hz:(bif b14 then bif b15 then true else bif b16 then !decide (c2=5) else false else false)=false:=by
     rw[hb16,hb15,hb14,hb13];by_cases q:x=0
     .obtain⟨k1,k2⟩:=key q;rw[cM k1,cM k2];cases (bif decide (x=0) then decide (a5=tg) else false) <;> rfl
     .rw[dO q];rfl
    rw[hz];refine uy.2 ⟨j+1,⟨by omega,by omega⟩,by omega,?_⟩
    (repeat first|refine⟨trivial,?_⟩|refine⟨(by with_reducible rfl),?_⟩|refine⟨aG (by omega) (by omega),?_⟩);trivial
theorem ok_law16_TruthTraces:aB 3 P5.spec:=aF Tryz.func3 (av (av (av (av (av (av (av (av (av (av (av (av (av (av (av (av (av (av (av (av aD as5) (Ct.named Mk)) TN) ae3) SA) Me) az5) (Ct.named aS4)) (Ct.named ZH)) (Ct.named Yg)) (Ct.named ah2)) (Ct.named Z3)) (Ct.named MY)) (Ct.named aF4)) ad5) SH) (Ct.named V5)) (Ct.named TX)) (Ct.named ab4)) (Ct.named SS)) ZF aT2
end Go.RS
