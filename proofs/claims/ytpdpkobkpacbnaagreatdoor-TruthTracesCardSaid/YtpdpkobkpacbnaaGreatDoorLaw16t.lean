/- Drawn4: drawn networks are in order. -/
import Derived.Test.YtpdpkobkpacbnaaGreatDoorSimA
import Derived.Test.YtpdpkobkpacbnaaGreatDoorLaw13c
import Derived.Test.YtpdpkobkpacbnaaGreatDoorNetdraw
import Derived.Test.YtpdpkobkpacbnaaGreatDoorSx25
set_option maxRecDepth 100000
set_option linter.unusedVariables false
open Int (toNat)
open List (length take getD set)
namespace Go.RS
open Go.SX Go.Proofs
theorem Lo(i:Int):∀(k:Nat)(ls:List aK),(∀ l∈ls,lA l≠lB l)->(portsF i k ls).Pairwise (λa b=>a.2<b.2/\a.1<b.1)∧∀ q∈portsF i k ls,(k:Int)<=q.2/\gv k<q.1
 | _,[],_=>by simp[portsF]
 | k,l::r,h=>by
  obtain⟨h1,h2⟩:=Lo i (k+1) r (λx hx=>h x (fM _ hx));have hl:=h l fY;have e:pN i k l=[]∨∃ a:Int,(a=1∨a=2)/\pN i k l=[(gv k+a,(k:Int))]:=by
   unfold pN;by_cases ha:lA l=i
   .rw[am ha,af ab];exact .inr ⟨1,.inl rfl,rfl⟩
   .rw[af ha];by_cases hb:lB l=i
    .rw[am hb];exact .inr ⟨2,.inr rfl,rfl⟩
    .rw[af hb];exact .inl rfl
  rw[portsF];unfold gv at *;rcases e with e|⟨a,ha,e⟩ <;> rw[e]
  .rw[si];exact⟨h1,λq hq=>by have:=h2 q hq;omega⟩
  .rw[List.singleton_append];refine⟨List.pairwise_cons.2 ⟨λq hq=>?_,h1⟩,λq hq=>?_⟩
   .have:=h2 q hq;simp only;omega
   .rcases dK.1 hq with rfl|hq
    .simp only;omega
    .have:=h2 q hq;omega
theorem M9{l:List pj}{q:pj->Bool}{i:Nat}(hi:i<l.length)(hq:q (l.getD i default)=true)(hn:∀ j:Nat,j<i->q (l.getD j default)=false):gX q l=i:=by
 have e:l.findIdx q=i:=by
  rw[List.findIdx_eq hi];refine⟨by rwa [bJ,cK hi,f9] at hq,λj hj=>?_⟩;have:=hn j hj
  rwa [bJ,cK ab,f9] at this
 unfold gX
 rw[e,am hi]
theorem aj6{q:Int×Int->Bool}{l:List (Int×Int)}{y:Int×Int}(hy:y∈l)(hq:q y=true):0<=gX q l:=by
 have hlt:l.findIdx q<l.length:=List.findIdx_lt_length_of_exists ⟨y,hy,hq⟩
 unfold gX;rw[am hlt];omega
theorem PT{α:Type} [Inhabited α] {R:α->α->Prop} {l:List α} (h:l.Pairwise R) {k j:Nat} (hk:k<j) (hj:j<l.length):R (l.getD k default) (l.getD j default):=by
 rw[bJ,bJ,cK hj,cK ab,f9,f9]
 exact List.pairwise_iff_getElem.1 h _ _ _ _ hk
theorem HK{a:Int}(h:167837696<=a/\a<=167903300):fB a:=by
 right
 unfold fG
 have:a/16777216=10:=ab
 rw[af ab,af ab,am (.inl this)]
theorem aH7{a n:Int}(h:n=32):jS (a,n)=true:=by
 subst h
 unfold jS
 have:sz 32=1:=bt
 rw[this]
 simp only[mh]
 omega
theorem Q2{links:ae}:∀{l:List Rt}{q:Option d9},cJ l->(∀ p,q=some p→∀ r∈l,bI p r.1)->(∀ r∈l,jS r.1=true/\lf r links)->chk links q l=0
 | [],_,_,_,_=>rfl
 | r::rs,q,hs,hq,hr=>by
  obtain⟨v,w⟩:=hr r fY;obtain⟨s1,s2⟩:=List.pairwise_cons.1 hs;rw[chk,af (by rw[v];simp)];have e:q.any (λq=>decide (0<=gB q r.1))=false:=by
   cases q with
   | none=>rfl
   | some p =>
    have:=hq p rfl r fY;simp only[Option.any_some,pn];rw[HG];exact λk=>k this
  rw[af (by rw[e];simp),af (by simpa using w)];exact Q2 s2 (λp hp x hx=>by cases hp;exact s1 x hx) (λx hx=>hr x (fM _ hx))
structure GT (m:Nat) (links:ae) (l:List Rt):Prop where
 s:cJ l
 n:l.length<=m
 r:∀ r∈l,jS r.1=true/\lf r links
theorem GT.ok{m:Nat}{links:ae}{l:List Rt}(h:GT m links l)(hm:m<=64):dL l links=0:=by
 have:=h.n
 unfold dL
 rw[af ab]
 exact Q2 h.s (λp hp=>by cases hp) h.r
theorem DN.gt{n:aQ}(h:DN n){i:Nat}(hi:i<n.1.length):GT 20 (bo (n.1.getD i default)) (aU (n.1.getD i default)):=by
 have t:=h.t i hi
 refine⟨t.1,H7 t,λr hr=>?_⟩
 have k:=t.2 r hr
 have l10:=h.l10
 have hl:=Fl k
 refine⟨aH7 k.len,⟨ab,λj hj=>⟨λh0=>?_,?_⟩⟩,k.w0,k.w1⟩
 .rw[bJ,bJ,cK hj,cK ab,f9,f9];exact List.pairwise_iff_getElem.1 k.pw _ _ _ _ ab
 .rw[(h.links hi)];rw[bJ,cK hj,f9];exact k.ln _ (List.getElem_mem hj)
theorem DN.pw{n:aQ}(h:DN n){i:Nat}(hi:i<n.1.length):(ay (n.1.getD i default)).Pairwise (λa b=>a.2<b.2/\a.1<b.1):=by
 rw[h.p i hi]
 exact (Lo i 0 n.2.1 λl hl=>(h.g l hl).2.2.1).1
theorem DN.node{n:aQ}(h:DN n){i:Nat}(hi:i<n.1.length)(hp:0<(ay (n.1.getD i default)).length):d8 (n.1.getD i default)=0:=by
 have pw:=h.pw hi
 have d:=h.d i hi
 have n7:=h.n7
 have l10:=h.l10
 have hlen:(ay (n.1.getD i default)).length<=20:=by
  rw[h.p i hi];have:=BE i 0 n.2.1;omega
 have gt:=h.gt hi
 have ports:∀ j:Nat,j<(ay (n.1.getD i default)).length->gW (n.1.getD i default) j=0:=λj hj=>by
  have hm:(ay (n.1.getD i default)).getD j default∈ay (n.1.getD i default):=n6 hj;have hadr:=h.padr hi (sr (f:=(·.1)) hm);have hlnk:=(h.links hi).1 (sr (f:=(·.2)) hm);have ne:∀ k:Nat,k<j->((ay (n.1.getD i default)).getD k default).2<((ay (n.1.getD i default)).getD j default).2/\((ay (n.1.getD i default)).getD k default).1<((ay (n.1.getD i default)).getD j default).1:=λk hk=>PT pw hk hj;have ea:jq (n.1.getD i default) ((ay (n.1.getD i default)).getD j default).1=j:=M9 hj (by simp[gZ]) (λk hk=>by have:=ne k hk;simp only[gZ,pn];omega);have el:cu (n.1.getD i default) ((ay (n.1.getD i default)).getD j default).2=j:=M9 hj (by simp[ic]) (λk hk=>by have:=ne k hk;simp only[ic,pn];omega);have hu:fB ((ay (n.1.getD i default)).getD j default).1:=HK ab;unfold gW;have:=hlnk.1;rw[ea,el,af (by rintro (k|k);exact k hu;omega),af ab]
 have hloop:¬ oo (n.1.getD i default):=by
  rintro⟨k0,k⟩;have hl:=d.loop.resolve_left k0;rcases k with k|k
  .exact k (HK ab)
  .have:=h.padr hi (NN.1 k);omega
 have hform:¬ mN (n.1.getD i default):=by
  have o:=d.own;have f:=d.first;unfold mN;rintro (k|k|⟨k1,k2⟩|⟨k1,k2⟩|⟨k1,k2⟩|k|k)
  .omega
  .rcases d.src with s|⟨s,-⟩|⟨s,-⟩ <;> omega
  .rcases d.src with s|⟨s,s2⟩|⟨s,-⟩ <;> omega
  .have:=d.fix.resolve_left k1;exact k2 (HK ab)
  .rcases d.src with s|⟨s,s2⟩|⟨s,s2⟩ <;> omega
  .omega
  .omega
 have hid:iW (n.1.getD i default)=0:=by
  unfold iW;rw[am];obtain⟨⟨a,b⟩,⟨c,e⟩,f,g⟩:=d.id;exact cM ⟨a,b,c,e,f,g⟩
 have hb:g7 (jT (n.1.getD i default))=0:=by
  unfold g7;rw[am];rcases d.lim with k|k
  .exact .inl k
  .right;omega
 rw[Iu ab (C7 ports) hloop hform,af (λk=>k hid),af (λk=>k hb)]
 exact gt.ok ab
theorem QK(ns:List au)(a:Int):∀ k:Nat,gk a (gm ns k)=true↔∃ j:Nat,j<k/\a∈cG (ns.getD j default)
 | 0=>by simp[gm,gk]
 | k+1=>by
  have e:gm ns (k+1)=nw k (cG (ns.getD k default)) (gm ns k):=by unfold gm;rw[nj,iD];rfl
  rw[e,CS.1,px,om,QK ns a k];constructor
  .rintro (h|⟨j,hj,h⟩)
   .exact⟨k,ab,h⟩
   .exact⟨j,ab,h⟩
  .rintro⟨j,hj,h⟩;by_cases e:j=k
   .subst e;exact .inl h
   .exact .inr ⟨j,ab,h⟩
theorem DN.tabs{n:aQ}(h:DN n):∀ i:Nat,i<=n.2.2.length→∀ k:Nat,k<n.1.length->GT (20+i) (bo (n.1.getD k default)) ((dH n i).getD k default)
 | 0,_,k,hk=>by
  rw[dH,y9 hk];exact h.gt hk
 | i+1,hi,k,hk=>by
  have ih:=h.tabs i ab;have hc:=h.c _ (n6 (i:=i) (xs:=n.2.2) ab);rw[dH];by_cases e:(bL (n.2.2.getD i default)).toNat=k
  .rw[e,kv (by rw[qD];omega)];have g:=ih k hk;obtain⟨r,hr,p1,p2⟩:=hc.p;rw[e] at hr;have gr:=(h.gt hk).r r hr;have hx:=hc.x;rw[e] at hx;refine⟨?_,?_,λx hx'=>?_⟩
   .unfold f7;rw[af (by rw[hc.r];simp)];exact Ib g.s
   .unfold f7;rw[af (by rw[hc.r];simp)];have:=KR ((dH n i).getD k default) (dO (n.2.2.getD i default));have:=g.n;omega
   .unfold f7 at hx';rw[af (by rw[hc.r];simp)] at hx';rcases Nj hx' with rfl|hx'
    .refine⟨by rw[p1];exact gr.1,⟨?_,by rw[p2];exact gr.2.2⟩⟩;rcases hx with q|⟨y,hy,q⟩ <;> rw[q]
     .exact⟨aA,λj hj=>absurd hj aA⟩
     .refine⟨aA,λj hj=>?_⟩;have:j=0:=by simpa using hj
      subst this;exact⟨λk=>absurd k ab,sr (f:=(·.2)) hy⟩
    .exact g.r x hx'
  .have g:=ih k hk;have e2:((dH n i).set (bL (n.2.2.getD i default)).toNat (f7 ((dH n i).getD (bL (n.2.2.getD i default)).toNat default) (n.2.2.getD i default))).getD k default=(dH n i).getD k default:=by
    exact nt e
   rw[e2];exact⟨g.s,by have:=g.n;omega,g.r⟩
theorem DN.right{n:aQ}(h:DN n)(hp:∀ i:Nat,i<n.1.length->0<(ay (n.1.getD i default)).length):eh n=0:=by
 have n3:=h.n3
 have n7:=h.n7
 have l10:=h.l10
 have h3:=h.h3
 have e1:nP n=0:=by unfold nP;rw[af ab]
 have e2:mo n=0:=by
  unfold mo;rw[am];rw[List.all_eq_true];intro l hl;obtain⟨a,b,c,d,e,f,g⟩:=h.g l hl;refine cM ?_;unfold gY;omega
 have e3:lz n=0:=C7 λi hi=>by
  unfold lp;rw[af (λk=>k (h.node hi (hp i hi))),af];rw[List.any_eq_true];rintro⟨k,hk,hs⟩;obtain⟨a,b,c⟩:=(h.links hi).1 hk;unfold mQ at hs;simp only[px,rP,mh,Bool.or_eq_false_iff,pn] at hs;rcases hs with hs|⟨s1,s2⟩
  .omega
  .rcases c with c|c
   .exact s1 c
   .exact s2 c
 have e4:nI n=0:=by
  unfold nI;rw[af];rw[List.any_eq_true];rintro⟨k,hk,hs⟩;have hk:=List.mem_range.1 hk;obtain⟨⟨a0,a1⟩,⟨b0,b1⟩,-⟩:=h.g _ (n6 hk);unfold m4 at hs;simp only[px,mh] at hs;have key:∀ i:Int,0<=i->i<n.1.length->(lA (n.2.1.getD k default)=i∨lB (n.2.1.getD k default)=i)→¬ cu (n.1.getD i.toNat default) k<0:=λi i0 i1 hq hlt=>by
   have hi:i.toNat<n.1.length:=ab;have:(k:Int)∈bo (n.1.getD i.toNat default):=(h.links hi).2 ⟨ab,ab,by rw[Int.toNat_natCast];rcases hq with q|q;left;omega;right;omega⟩;obtain⟨y,hy,e⟩:=List.mem_map.1 this;have:=aj6 (q:=ic k) hy (by simp[ic,e]);have e5:cu (n.1.getD i.toNat default) k=gX (ic k) (ay (n.1.getD i.toNat default)):=rfl;omega
  rcases hs with hs|hs
  .exact key _ a0 a1 (.inl rfl) hs
  .exact key _ b0 b1 (.inr rfl) hs
 have e5:ot n=0:=by
  unfold ot;rw[af];unfold L9;rw[List.any_eq_true];rintro⟨i,hi,hs⟩;have hi:=List.mem_range.1 hi;obtain⟨a,ha,hm⟩:=List.any_eq_true.1 hs;obtain⟨j,hj,hb⟩:=(QK n.1 a i).1 hm;have:=h.apart (i:=i) (j:=j) hi ab ha hb;omega
 have e6:n9 n=0:=by
  unfold n9;rw[af];rw[List.any_eq_true];rintro⟨l,hl,hs⟩;rw[h.o l hl] at hs;cases hs
 have e7:lN n=0:=C7 λi hi=>by
  have hc:=h.c _ (n6 (i:=i) (xs:=n.2.2) hi);have ha:=hc.at';have hw:=hc.w;have hk:(bL (n.2.2.getD i default)).toNat<n.1.length:=ab;have hs:0<i->fc (n.2.2.getD (i-1) default)<=fc (n.2.2.getD i default):=λh0=>PT h.s ab hi;have g:=h.tabs (i+1) ab _ hk;rw[dH,kv (by rw[qD];omega)] at g;unfold gU mY;rw[af ab,af (by rintro⟨k0,k1⟩;have:=hs k0;omega),af ab,af (by rintro⟨k0,-⟩;rw[hc.r] at k0;cases k0)];exact g.ok ab
 unfold eh mD
 simp[e1,e2,e3,e4,e5,e6,e7]
set_option maxHeartbeats 1000000
theorem R4{k:Int}{n:aQ}(h:L7 k n)(hk:k<=1000000):r8 n:=by
 obtain⟨h1,h2,h3,h4,h5⟩:=h
 refine⟨ab,ab,ab,λx hx=>?_,λc hc=>?_⟩
 .obtain⟨a,b,c⟩:=h4 x hx;exact⟨by show (x.1.length:Int)<=1000000;omega,ab,λr hr=>by have:=c r hr;omega⟩
 .have:=h5 c hc;show (c.2.2.2.2.1.length:Int)<=_;omega
theorem eO.new{n:aQ}{B:Int}(h:eh n=0)(ha:xV n)(hc:r8 n)(h0:0<=B)(h1:B<=549755813888):eO B (jh n):=by
 have e:jJ (jh n)=0:=rfl
 exact⟨h1,by rw[e];exact (dJ.new h).more ab,ha,hc,λx hx=>(by cases hx),by rw[e];show ((0:Nat):Int)+2*((0:Nat):Int)<=B;omega,by rw[e];show ((0:Nat):Int)+((0:Nat):Int)<=B;omega⟩
theorem Z2{n:aQ}{f:bg}(hb:bytes (f8 f)):qe n f<=1114:=by
 have:=KO hb
 unfold qe
 have h1:(if dI (n.1.getD (bn f).toNat default)=true then 1 else 0)<=1:=by split <;> omega
 have h2:(if gO f = -1 then 2 else 0)<=2:=by split <;> omega
 have h3:(if dG (f8 f) then 600 else 0)<=600:=by split <;> omega
 omega
theorem eO.send{w:aJ}{B:Int}(h:eO B w)(hB:B+4000<=549755813888){at' who:Int}{b:ae}(he:lR w at' who=0)(hb:bytes b)(hl:(b.length:Int)<=2000) :
  eO (B+4000) (iB w at' who b)/\bK (iB w at' who b)=bK w+1/\aD (iB w at' who b)=aD w:=by
 unfold lR at he
 split at he
 .cases he
 rename_i q1
 split at he
 .cases he
 rename_i q2
 split at he
 .cases he
 rename_i q3
 split at he
 .cases he
 rename_i q4
 obtain⟨s1,s2⟩:=h.sB.send ab (at':=at') (who:=who) (b:=b) ⟨ab,ab⟩ ⟨ab,ab⟩ hb hl ab
 have hp:jJ (iB w at' who b)=jJ w+qe (aD w) (at',bK w,who,-1,bK w,b):=QG _ _ _
 have hf:qe (aD w) (at',bK w,who,-1,bK w,b)<=1114:=Z2 hb
 have h1:=h.e
 have h2:=h.d
 exact⟨⟨hB,s1.more ab,h.a,h.c,h.dd,by show ((bh w).length:Int)+_<=_;omega,by show ((bM w).length:Int)+_<=_;omega⟩,s2,rfl⟩
theorem DN.newOk{n:aQ}(h:DN n)(hp:∀ i,i<n.1.length->0<(ay (n.1.getD i default)).length):eO 4000 (jh n):=eO.new (h.right hp) (λi hi=>Qw h hi) (R4 h.nb bt) bt bt
structure Az (m:Int) (w:aJ):Prop where
 ok:eO (4000+4000*m) w
 m9:0<=m/\m<=9
 now:bO w=0
 fn:((aM w).length:Int)=m
 ord:bK w=m
 en:bh w=[]
 dl:bM w=[]
 at':∀ f∈aM w,aO f<=40
 og:∀ o,0<=o->o<bK w->Ly (s8 o (aM w)) (AP o (bh w))
theorem Az.new{n:aQ}(h:eO 4000 (jh n)):Az 0 (jh n) :=
 ⟨h.more bt bt,⟨bt,bt⟩,rfl,rfl,rfl,rfl,rfl,λf hf=>(by cases hf),λo h0 h1=>by have h1:o<0:=h1;omega⟩
theorem Az.send{w:aJ}{m:Int}(h:Az m w)(hm:m+1<=9){at':Int}{b:ae}(h0:0<=at')(h1:at'<=40)(hb:bytes b)(hl:(b.length:Int)<=2000):lR w at' 0=0/\Az (m+1) (iB w at' 0 b):=by
 have hm0:=h.m9
 have he:lR w at' 0=0:=by
  have hn:=zD h.ok.s.net;have:=h.now;have:=h.fn;unfold lR;rw[af ab,af ab,af ab,af ab]
 obtain⟨k1,k2,k3⟩:=h.ok.send ab he hb hl
 have hf:∀ f∈aM w,iy f<bK w:=λf hf=>(h.ok.s.fo f hf).g.2
 obtain⟨g1,g2⟩:=Uy (w:=w) (at':=at') (who:=0) (b:=b) hf (λe he=>by rw[h.en] at he;cases he)
 have ho:=h.ord
 have hfn:=h.fn
 refine⟨he,k1.more ab ab,⟨ab,ab⟩,h.now,?_,by rw[k2];omega,h.en,h.dl,λf hf=>?_,λo o0 o1=>?_⟩
 .show ((fJ (aM w) (at',bK w,0,-1,bK w,b)).length:Int)=_;rw[Eg];omega
 .rcases zH.1 hf with rfl|hf
  .exact h1
  .exact h.at' f hf
 .by_cases e:o=bK w
  .rw[e];exact g1
  .obtain⟨e1,e2⟩:=g2 o e;rw[e1,e2];exact h.og o o0 (by rw[k2] at o1;omega)
theorem PA.step{n:aQ}{p:bz}{j:Nat}{w:aJ}(hT:1<=db p/\db p<=8)(g:da p)(C:sN n)(h:PA n p j w) :
  (∃ f,aM w=[f]/\0<=aO f/\aO f<=68719476736)/\(PA n p (j+1) (fw w)∨∃ e0 A,Cl A/\PB n e0 A (fw w)/\jD e0=0∧∀ dl,(uT e0=2→∀ d∈dl,A d.2.2)->Fin n p e0 dl):=by
 obtain⟨t,o,e,-,k3,k4⟩:=h.fl
 obtain⟨x,s,S⟩:=h.sees C g e
 have h16:=Hv h hT.2
 refine⟨⟨_,e,k3,(by show t<=_;have:(j:Int)<=16:=(by omega);omega)⟩,?_⟩
 by_cases ho:dC x p.2.1=true
 .obtain⟨a,b⟩:=h.owns hT g S ho;exact .inr ⟨_,λ_=>True,.inl λ_=>trivial,h.ends S a (λ_=>trivial) (.inr λ_=>trivial),rfl,λdl _=>b dl⟩
 by_cases hh:iG x=true/\eG n (bc (build p)) j ≠ -1
 .obtain⟨a,b⟩:=h.host hT g S ho hh;exact .inr ⟨_,λ_=>True,.inl λ_=>trivial,h.ends S (by rw[a];show (6:Int)≠0;decide) (λ_=>trivial) (.inr λ_=>trivial),rfl,λdl _=>b dl⟩
 by_cases ht:eG n (bc (build p)) j ≠ -1/\dI x=false/\db p-cX n (bd n p) j<2
 .obtain⟨A,a1,a2,a3,a4,a5⟩:=h.over hT g C S ho hh ht.1 ht.2.1 ht.2.2;exact .inr ⟨_,A,a1,h.ends S a2 a3 a4,rfl,a5⟩
 by_cases hw:fT s p.2.1=false
 .obtain⟨a,-,b⟩:=h.noway hT g S ho hh ht hw;exact .inr ⟨_,λ_=>True,.inl λ_=>trivial,h.ends S a (λ_=>trivial) (.inr λ_=>trivial),rfl,λdl _=>b dl⟩
 .exact .inl (h.fwd hT g C S ho hh ht hw)
theorem PA.run{n:aQ}{p:bz}{to:Int}(hT:1<=db p/\db p<=8)(g:da p)(C:sN n)(hto:68719476736<=to):∀(m:Nat){j:Nat}{w:aJ},PA n p j w->jJ w<=m →
  ∃ e0 r,bh (jG w to)=e0::r/\jD e0=0/\Fin n p e0 (bM (jG w to))
 | m,j,w,h,hm=>by
  obtain⟨⟨f,e,t0,t1⟩,k⟩:=h.step hT g C;have hb:jY w to=true:=by unfold jY;rw[e];simp;omega
  have k2:=(h.ok.step e).2;rw[D6 h.ok.s.weak hb];cases m with
  | zero=>omega
  | succ m =>
   rcases k with k|⟨e0,A,hA,k,ko,kf⟩
   .exact PA.run hT g C hto m k ab
   .have r:=PB.run (to:=to) hA m k ab;obtain⟨q,hq⟩:=r.en;exact⟨e0,q,hq,ko,kf _ r.dl⟩
theorem PA.start{n:aQ}{p:bz}(g:da p)(h1:1<=db p)(hn:0<n.1.length)(hk:eO 4000 (jh n))(hs:sA (iB (jh n) 0 0 (build p))):PA n p 0 (iB (jh n) 0 0 (build p)):=by
 have e0:fx p 0=p:=by unfold fx;rw[Int.sub_zero]
 have en:gK n (bc (build p)) 0=0:=by
  have h:On n (bc (build p)) 0:=⟨rfl,ab⟩
  rw[← h.at.1];rfl
 refine⟨hs,rfl,⟨rfl,ab⟩,⟨0,0,?_,⟨fZ _,fZ _⟩,fZ _,fZ _⟩,h1,λq=>absurd q ab,rfl,rfl,λm a b=>absurd b ab,?_,λi=>?_⟩
 .rw[en,show cX n (bd n p) 0=0 from rfl,e0];rfl
 .rw[show cX n (bd n p) 0=0 from rfl];split <;> decide
 .show 0<=jI ((n.1.map nK).getD i default)/\jI ((n.1.map nK).getD i default)<=0;rw[bJ,List.getElem?_map];cases n.1[i]? with
  | none=>exact⟨fZ _,fZ _⟩
  | some y=>exact⟨fZ _,fZ _⟩
def oh(r:Rt):Rt:=if r.2.2=3 then (r.1,r.2.1,1) else r
def lE(l:aK):aK:=(l.1,l.2.1,l.2.2.1,l.2.2.2.1,0,l.2.2.2.2.2)
def lQ(x:au):au:=(x.1,x.2.1,x.2.2.1,x.2.2.2.1,x.2.2.2.2.1.map oh,x.2.2.2.2.2.1,x.2.2.2.2.2.2.1,x.2.2.2.2.2.2.2.1,x.2.2.2.2.2.2.2.2.1,x.2.2.2.2.2.2.2.2.2.1,(0,0),false,x.2.2.2.2.2.2.2.2.2.2.2.2.1,x.2.2.2.2.2.2.2.2.2.2.2.2.2.1,x.2.2.2.2.2.2.2.2.2.2.2.2.2.2)
def ya(n:aQ):aQ:=(n.1.map lQ,n.2.1.map lE,[])
theorem Db(r:Rt):(oh r).1=r.1/\(oh r).2.1=r.2.1/\(oh r).2.2≠3/\(1<=r.2.2->1<=(oh r).2.2)/\(r.2.2<=3->(oh r).2.2<=3):=by
 unfold oh
 split
 .exact⟨rfl,rfl,by show (1:Int)≠3;decide,λ_=>by show (1:Int)<=1;decide,λ_=>by show (1:Int)<=3;decide⟩
 next h=>exact⟨rfl,rfl,h,id,id⟩
theorem xH{ns:List au}{i:Nat}(h:i<ns.length):(ns.map lQ).getD i default=lQ (ns.getD i default):=by
 rw[bJ,List.getElem?_map,cK h,bJ,cK h];rfl
theorem KV(i:Int):∀(k:Nat)(ls:List aK),portsF i k (ls.map lE)=portsF i k ls
 | _,[]=>rfl
 | k,l::r=>by
  rw[fF,portsF,portsF,KV i (k+1) r];rfl
theorem DN.calm{n:aQ}(h:DN n):DN (ya n):=by
 have eL:(ya n).1.length=n.1.length:=mq _
 have eK:(ya n).2.1.length=n.2.1.length:=mq _
 refine⟨by rw[eL];exact h.n3,by rw[eL];exact h.n7,by rw[eK];exact h.l2,by rw[eK];exact h.l10,by show 0<=3;omega,λx hx=>?_,λi hi=>?_,λi hi=>?_,λi hi=>?_,λx hx=>?_,λc hc=>(by cases hc),List.Pairwise.nil⟩
 .obtain⟨l,hl,rfl⟩:=List.mem_map.1 hx;obtain⟨a,b,c,d,e,-,f⟩:=h.g l hl;rw[eL];exact⟨a,b,c,d,e,⟨by show (0:Int)<=0;decide,by show (0:Int)<=65536;decide⟩,f⟩
 .rw[eL] at hi;show ay ((n.1.map lQ).getD i default)=portsF i 0 (n.2.1.map lE);rw[xH hi,KV];exact h.p i hi
 .have hi:i<n.1.length:=by rw[← eL];exact hi
  show NP i ((n.1.map lQ).getD i default);rw[xH hi];have k:=h.d i hi;exact⟨k.own,k.loop,k.src,k.fix,k.id,.inl rfl,k.first,k.seed⟩
 .rw[eL] at hi;show nE (n.2.1.map lE) BJ i (aU ((n.1.map lQ).getD i default));rw[xH hi];obtain⟨t1,t2⟩:=h.t i hi;refine⟨?_,λr hr=>?_⟩
  .show cJ ((aU (n.1.getD i default)).map oh);refine List.pairwise_map.2 (t1.imp λ{a b} q=>?_);rw[(Db a).1,(Db b).1];exact q
  .obtain⟨q,hq,rfl⟩:=List.mem_map.1 hr;have k:=t2 q hq;obtain⟨c1,c2,-,c4,c5⟩:=Db q;refine⟨by rw[c1];exact k.len,by rw[c1];exact k.mem,by rw[c2];exact k.ne,by rw[c2];exact k.pw,λz hz=>?_,c4 k.w0,c5 k.w1⟩;rw[c2] at hz;have:=k.ln z hz;unfold lnk at this ⊢;obtain⟨z0,z1,z2⟩:=this;rw[y9 (by omega),mq];exact⟨z0,z1,z2⟩
 .obtain⟨l,hl,rfl⟩:=List.mem_map.1 hx;have k:=h.o l hl;obtain⟨a,b,-⟩:=h.g l hl;unfold iS at k ⊢;show (dI ((n.1.map lQ).getD (lA l).toNat default)&&dI ((n.1.map lQ).getD (lB l).toNat default))=false;rw[xH (by omega),xH (by omega)];exact k
theorem DN.isCalm{n:aQ}(h:DN n)(hp:∀ i:Nat,i<n.1.length->0<(ay (n.1.getD i default)).length):sN (ya n):=by
 have eL:(ya n).1.length=n.1.length:=mq _
 refine⟨h.calm.right λi hi=>?_,rfl,λx hx=>?_,λx hx r hr=>?_,λi hi=>Qw h.calm hi⟩
 .rw[eL] at hi;show 0<(ay ((n.1.map lQ).getD i default)).length;rw[xH hi];exact hp i hi
 .obtain⟨l,hl,rfl⟩:=List.mem_map.1 hx;rfl
 .obtain⟨y,hy,rfl⟩:=List.mem_map.1 hx;obtain⟨q,hq,rfl⟩:=List.mem_map.1 hr;exact (Db q).2.2.1
theorem DN.wn{n:aQ}(h:DN n):WN n:=⟨h.okNet,λwho at' w0 w1 r hr k hk=>h.other (h.next w0 w1 r hr k hk)⟩
def Fz(ns:List au)(i:Int):Int:=((ay (ns.getD i.toNat default)).getD 0 default).1
def pD(ns:List au):Nat->Int
 | 0=>0
 | i+1=>if iG (ns.getD (i+1) default)=true/\0<(ay (ns.getD (i+1) default)).length then ((i+1:Nat):Int) else pD ns i
def fg(n:aQ):Int×Int:=if n.1.length=0∨(ay (n.1.getD 0 default)).length=0 then (0,0) else (Fz n.1 0,Fz n.1 (pD n.1 (n.1.length-1)))
def Ot:Ct:=⟨[.agg ib],[.val cP,.val cP],λ_=>[],λd=>(((fg d.1).1,(fg d.1).2,()),())⟩
def aU2:bw Ot.ps->ce:=(λd=>{loops:=(bp 4 (λS=>{ι:=Int,μ:=λi=>i.toNat,inv:=λi=>0<=i/\i+1<=d.1.1.length/\pD d.1.1 (d.1.1.length-1)=pD d.1.1 i.toNat,keep:=[1],slots:=λi=>[(4,.int .i64 i)],keepN:=[32]}) cC)})
def Bt(a:List au) :=
 ((length (ai a (0:Int)).1):Int)
def Em(a:List au) :=
 getD (ai a (0:Int)).1 (toNat 0) default
theorem av3 :
 ∀(a:List au)(b:List aK)(c:List aV),((a.length<=maxLen/\ ∀(d:au),d∈a->CT.wf bU d)/\(b.length<=maxLen/\ ∀(d:aK),d∈b->CT.wf fU d)/\c.length<=maxLen/\ ∀(d:aV),d∈c->CT.wf fh d)/\True->True-> ∀(d:Bool),d=decide ((ac a)=0)->(ah (! d))/\((! d)->(ar (! d))/\(0:Int)<=0/\0<(ac a)/\True)/\(ah (! d))/\(ah (! d))/\(ah (! d))/\(ah (! d))/\(aE d)/\ao (bif d then true else decide ((Bt a)=0)) (0=(fg (a,b,c)).1/\0=(fg (a,b,c)).2) ((∃(e:Int),(0<=e/\e+1<=(ac a)/\pD a (a.length -(1:Nat))=pD a e.toNat)/\aj ((ac a) -1)=e/\a=a/\b=b/\c=c/\True)/\ ∀(e:Int),0<=e/\e+1<=(ac a)/\pD a (a.length -(1:Nat))=pD a e.toNat->ao (decide (0<e)) (0<=e/\e<(ac a)/\ ∀(f:Bool),f=(ai a e).2.2.2.1->(ah f)/\(f->(ar f)/\(ar f)/\0<=e/\e<(ac a)/\True)/\(ah f)/\(ah f)/\(ah f)/\(ah f)/\(ar f)/\ao (bif f then decide (0<((length (ai a e).1):Int)) else false)
 ((0:Int)<=0/\0<(ac a)/\(0:Int)<=0/\0<(Bt a)/\0<=e/\e<(ac a)/\(0:Int)<=0/\0<((length (ai a e).1):Int)/\(Em a).1=(fg (a,b,c)).1/\(getD (ai a e).1 (toNat 0) default).1=(fg (a,b,c)).2) (∃(g:Int),(0<=g/\g+1<=(ac a)/\pD a (a.length -(1:Nat))=pD a g.toNat)/\g.toNat<e.toNat/\aj (e -1)=g/\a=a/\b=b/\c=c/\True)) ((0:Int)<=0/\0<(ac a)/\(0:Int)<=0/\0<(Bt a)/\(0:Int)<=0/\0<(ac a)/\(0:Int)<=0/\0<(Bt a)/\(Em a).1=(fg (a,b,c)).1/\(Em a).1=(fg (a,b,c)).2)):=by
  delta Bt Em ah ar aE aj ai ac;rintro ns ls hs ⟨⟨⟨hnl,-⟩,-⟩,-⟩ -;simp only[maxLen] at hnl;intro b hb
  (repeat refine⟨λh_=>(by first|exact⟨λ_=>h_,by omega,by rw[hb] at h_;have:=gH h_;omega,trivial⟩|(simp;done)|(simp[h_];done)|(simp_all;done)),?_⟩);rw[hb,kV,show toNat (0:Int)=0 from rfl];rw[show (ns.getD 0 default).1=ay (ns.getD 0 default) from rfl];refine aw (λh=>?_) (λh=>?_)
  .have h:=aI h;unfold fg;rw[am (by dsimp only;omega)];exact⟨rfl,rfl⟩
  have h:=aL h;have eH:fg (ns,ls,hs)=(Fz ns 0,Fz ns (pD ns (ns.length-1))):=by
   unfold fg;rw[af (by dsimp only;omega)]
  rw[eH,aG (n:=(ns.length:Int)-1) (by omega) (by omega)];refine⟨⟨(ns.length:Int)-1,⟨by omega,by omega,by rw[show ((ns.length:Int)-1).toNat=ns.length-1 by omega]⟩,(by repeat' first|exact trivial|refine⟨trivial,?_⟩|refine⟨(by with_reducible rfl),?_⟩|refine⟨aG (by omega) (by omega),?_⟩|refine⟨rfl,?_⟩)⟩,?_⟩;rintro i ⟨i0,i1,hI⟩;refine aw (λhi=>?_) (λhi=>?_)
  .have hi:=aI hi;have ei:i.toNat=(i.toNat-1)+1:=by omega
   have e2:(((i.toNat-1+1:Nat)):Int)=i:=by omega
   refine⟨i0,by omega,?_⟩;intro b2 hb2
   (repeat refine⟨λh_=>(by first|exact⟨λ_=>h_,λ_=>h_,i0,by omega,trivial⟩|(simp;done)|(simp[h_];done)|(simp_all;done)),?_⟩);have hI2:=hI;rw[ei,pD,← ei] at hI2;rw[show (ns.getD i.toNat default).1=ay (ns.getD i.toNat default) from rfl];refine u5 (λh1 h2=>?_) (λh1=>?_)
   .have h1:iG (ns.getD i.toNat default)=true:=hb2.symm.trans h1;have h2:=aI h2;rw[am ⟨h1,by omega⟩,show ((i.toNat:Nat):Int)=i by omega] at hI2;rw[hI2];exact⟨by omega,by omega,by omega,by omega,i0,by omega,by omega,h2,rfl,rfl⟩
   .rw[af] at hI2
    .exact⟨i-1,⟨by omega,by omega,by rw[hI2,show (i-1).toNat=i.toNat-1 by omega]⟩,by omega,(by repeat' first|exact trivial|refine⟨trivial,?_⟩|refine⟨(by with_reducible rfl),?_⟩|refine⟨aG (by omega) (by omega),?_⟩|refine⟨rfl,?_⟩)⟩
    .rintro⟨k1,k2⟩;rcases h1 with h1|h1
     .rw[hb2,show (ns.getD i.toNat default).2.2.2.1=iG (ns.getD i.toNat default) from rfl,k1] at h1;cases h1
     .have:=aL h1;omega
  .have hi:=aL hi;rw[show i.toNat=0 by omega,pD] at hI;rw[hI];exact⟨by omega,by omega,by omega,by omega,by omega,by omega,by omega,by omega,rfl,rfl⟩
theorem LJ:aB 9 Ot.spec:=aF Tryz.func9 aC aU2 av3
theorem WB:(lC (jj true ([],0)) 0 0 ((fg (jj true ([],0))).1,(fg (jj true ([],0))).2,0,0,0)).2.2=1/\(lC (jj true ([],0)) 0 0 ((fg (jj true ([],0))).1,(fg (jj true ([],0))).2,0,0,0)).1.length=3:=by decide +kernel
theorem LD:yj (jj true ([],0)) (fg (jj true ([],0))).1 (fg (jj true ([],0))).1=true/\yj (jj true ([],0)) (fg (jj true ([],0))).1 (fg (jj true ([],0))).2=false:=by decide +kernel
def al7:Ct:=⟨[],[.val .bool],λ_=>[],λ_=>((true,()),())⟩
theorem as0 :
 True->True->(0:Int)<=0/\ ∀(a:ae)(b:Int),(a,b)=(if (↑(0:Nat):Int)<=0 then ([]:ae) else take (toNat 0) ([]:ae),(0:Int))->aS (a,b)/\ ∀(c:List au)(d:List aK)(e:List aV)(f:ae)(g:Int),(c,d,e)=jj true (a,b)/\(f,g)=yk true (a,b)-> ∀(h i:Int),h=(fg (c,d,e)).1/\i=(fg (c,d,e)).2->WN (c,d,e)/\(0:Int)<=0/\0<(ac c)/\ ∀(j k:ae)(l:Int),(j,k,l)=lC (c,d,e) (0:Int) (0:Int) (h,i,(0:Int),(0:Int),(0:Int))-> ∀(m:Bool),m=decide (l=1)->(ah m)/\(ah m)/\(ah m)/\(ar m)/\ ∀(n:Bool),(n=bif m then decide ((ac j)=3) else false)->(n->(ar n)/\(ar n)/\(ar n)/\True)/\(ar n)/\ ∀(o:Bool),(o=bif n then yj (c,d,e) h h else false)->(o->(ar o)/\(ar o)/\(ar o)/\True)/\(ah o)/\(ar o)/\(bif o then ! yj (c,d,e) h i else false)=true:=by
  delta ah ar ac;rintro - -;refine⟨by omega,?_⟩;rintro l p hc;have hc:(l,p)=(([],0):aX):=hc;have hB:cT (l,p):=by rw[hc];exact⟨⟨by decide,by decide⟩,λx hx=>by cases hx⟩
  refine⟨hB.at',?_⟩;rintro ns ls hs l2 p2 ⟨hn,-⟩;have D:=D1 hB true;rw[← hn] at D;rw[hc] at hn;have h3:3<=ns.length:=D.n3;rintro x y ⟨hx,hy⟩;refine⟨D.wn,by omega,by show 0<(ns.length:Int);omega,?_⟩;rintro u v e ht;rw[hx,hy,hn] at ht;rw[hx,hy,hn];clear hx hy x y D;have t1:=WB;rw[← ht] at t1;intro b hb;have hb:b=true:=by rw[hb,cM t1.1]
  subst hb
  (repeat refine⟨λh_=>(by first|(simp;done)|(simp[h_];done)|(simp_all;done)),?_⟩);intro b hb;have hb:b=true:=by rw[hb,cond_true];exact cM (by have t2:u.length=3:=t1.2;omega)
  subst hb
  (repeat refine⟨λh_=>(by first|(simp;done)|(simp[h_];done)|(simp_all;done)),?_⟩);intro b hb;have hb:b=true:=by rw[hb,cond_true];exact LD.1
  subst hb
  (repeat refine⟨λh_=>(by first|(simp;done)|(simp[h_];done)|(simp_all;done)),?_⟩);rw[cond_true,LD.2];rfl
theorem YU:aB 4 al7.spec:=aF Tryz.func4 (av (av (av (av (av aC (Ct.named Pz)) (Ct.named PF)) (Ct.named LJ)) (Ct.named Rb)) ad8) aT as0
set_option maxHeartbeats 1000000
def vY(w:aJ)(o:Int):List fm:=(bh w).filter λe=>decide (jD e=o)
theorem NX{l:List fm}{o j:Int}(h0:0<=j)(h1:j<l.length):(l.take (j+1).toNat).filter (λe=>decide (jD e=o))=(l.take j.toNat).filter (λe=>decide (jD e=o))++(if jD (l.getD j.toNat default)=o then [l.getD j.toNat default] else []):=by
 rw[rD h0 h1,qx,List.filter_cons,List.filter_nil]
 by_cases h:jD (l.getD j.toNat default)=o
 .rw[am h,am (cM h)]
 .rw[af h,af (by simpa using h)]
theorem K4(l:List fm)(o:Int)(j:Nat):((l.take j).filter (λe=>decide (jD e=o))).length<=l.length :=
 rm (List.length_filter_le _ _) (by rw[dA];exact Nat.min_le_right _ _)
def Na:Ct:=⟨[.agg nH,.val cI],[.val (.sl pX)],λd=>[((bh d.1).length:Int)<=1099511627776],λd=>((vY d.1 d.2.1,()),())⟩
def aG8:bw Na.ps->ce:=(λd=>{loops:=(bp 3 (λS=>{ι:=Int×(List fm),qn:=ft,μ:=λi=>((bh d.1).length-i.1).toNat,inv:=λi=>0<=i.1/\i.1<=(bh d.1).length/\i.2=((bh d.1).take i.1.toNat).filter (λe=>decide (jD e=d.2.1)),keep:=[1,9,10],slots:=λi=>[(5,.own 524288 5),(11,.int .i64 i.1)],keepN:=[48],names:=λi=>[(524288,.live (.row 68 pX i.2))]}) cC)})
def me(a:(List au×List aK×List aV)×Int×Int×Int×List (List aN×Int×ae×(Int×Int)×Int)×ae×List (Int×Int×Int×Int×Int×ae)×List (Int×Int×ae)×List (Int×Int×Int×Int×Int)) :=
 ((length (bh a)):Int)
def EO(a:(List au×List aK×List aV)×Int×Int×Int×List (List aN×Int×ae×(Int×Int)×Int)×ae×List (Int×Int×Int×Int×Int×ae)×List (Int×Int×ae)×List (Int×Int×Int×Int×Int))(c:Int)(d:List fm)(e:Int)(f:List fm) :=
 aj (c+1)=e/\a.1.1=a.1.1/\a.1.2.1=a.1.2.1/\a.1.2.2=a.1.2.2/\a.2.1=a.2.1/\a.2.2.1=a.2.2.1/\a.2.2.2.1=a.2.2.2.1/\a.2.2.2.2.1=a.2.2.2.2.1/\a.2.2.2.2.2.1=a.2.2.2.2.2.1/\a.2.2.2.2.2.2.1=a.2.2.2.2.2.2.1/\a.2.2.2.2.2.2.2.1=a.2.2.2.2.2.2.2.1/\a.2.2.2.2.2.2.2.2=a.2.2.2.2.2.2.2.2/\d++[getD a.2.2.2.2.2.2.2.2 c.toNat default]=f/\True
def CF(a:(List au×List aK×List aV)×Int×Int×Int×List (List aN×Int×ae×(Int×Int)×Int)×ae×List (Int×Int×Int×Int×Int×ae)×List (Int×Int×ae)×List (Int×Int×Int×Int×Int))(d:List fm) :=
 a.1.1=a.1.1/\a.1.2.1=a.1.2.1/\a.1.2.2=a.1.2.2/\a.2.1=a.2.1/\a.2.2.1=a.2.2.1/\a.2.2.2.1=a.2.2.2.1/\a.2.2.2.2.1=a.2.2.2.2.1/\a.2.2.2.2.2.1=a.2.2.2.2.2.1/\a.2.2.2.2.2.2.1=a.2.2.2.2.2.2.1/\a.2.2.2.2.2.2.2.1=a.2.2.2.2.2.2.2.1/\a.2.2.2.2.2.2.2.2=a.2.2.2.2.2.2.2.2/\d=([]:List (Int×Int×Int×Int×Int))/\True
theorem VV :
 ∀(a:(List au×List aK×List aV)×Int×Int×Int×List (List aN×Int×ae×(Int×Int)×Int)×ae×List (Int×Int×Int×Int×Int×ae)×List (Int×Int×ae)×List (Int×Int×Int×Int×Int))(b:Int),CT.wf nH a/\aq b/\True->(me a)<=1099511627776->(∃(c:Int) (d:List fm),(0<=c/\c<=(me a)/\d=List.filter (λ(e:fm)=>decide (jD e=b)) (take c.toNat (bh a)))/\b=b/\a.2.2.2.2.2.2.2.2=a.2.2.2.2.2.2.2.2/\(ac a.2.2.2.2.2.2.2.2)=(ac a.2.2.2.2.2.2.2.2)/\0=c/\(CF a d))/\ ∀(c:Int)(d:List fm),0<=c/\c<=(me a)/\d=List.filter (λ(e:fm)=>decide (jD e=b)) (take c.toNat (bh a))->ao (decide (c<(ac a.2.2.2.2.2.2.2.2))) (0<=c/\c<(ac a.2.2.2.2.2.2.2.2)/\ao (decide ((getD a.2.2.2.2.2.2.2.2 c.toNat default).1=b)) ((d.length+length [getD a.2.2.2.2.2.2.2.2 c.toNat default])*(40:Nat)<=(140737488355328:Nat)/\ ∃(e:Int) (f:List fm),(0<=e/\e<=(me
 a)/\f=List.filter (λ(g:fm)=>decide (jD g=b)) (take e.toNat (bh a)))/\toNat ((me a) -e)<toNat ((me a) -c)/\b=b/\a.2.2.2.2.2.2.2.2=a.2.2.2.2.2.2.2.2/\(ac a.2.2.2.2.2.2.2.2)=(ac a.2.2.2.2.2.2.2.2)/\(EO a c d e f)) (∃(e:Int) (f:List fm),(0<=e/\e<=(me a)/\f=List.filter (λ(g:fm)=>decide (jD g=b)) (take e.toNat (bh a)))/\toNat ((me a) -e)<toNat ((me a) -c)/\b=b/\a.2.2.2.2.2.2.2.2=a.2.2.2.2.2.2.2.2/\(ac a.2.2.2.2.2.2.2.2)=(ac a.2.2.2.2.2.2.2.2)/\aj (c+1)=e/\a.1.1=a.1.1/\a.1.2.1=a.1.2.1/\a.1.2.2=a.1.2.2/\a.2.1=a.2.1/\a.2.2.1=a.2.2.1/\a.2.2.2.1=a.2.2.2.1/\a.2.2.2.2.1=a.2.2.2.2.1/\a.2.2.2.2.2.1=a.2.2.2.2.2.1/\a.2.2.2.2.2.2.1=a.2.2.2.2.2.2.1/\a.2.2.2.2.2.2.2.1=a.2.2.2.2.2.2.2.1/\a.2.2.2.2.2.2.2.2=a.2.2.2.2.2.2.2.2/\d=f/\True)) (d=vY a b):=by
  delta me EO CF aj ac;rintro d x-hn;rw[show d.2.2.2.2.2.2.2.2=bh d from rfl];refine⟨⟨0,[],⟨by omega,by omega,rfl⟩,(by repeat' first|exact trivial|refine⟨trivial,?_⟩|refine⟨(by with_reducible rfl),?_⟩|refine⟨aG (by omega) (by omega),?_⟩|refine⟨rfl,?_⟩)⟩,?_⟩;rintro j l ⟨j0,j1,rfl⟩;refine aw (λh=>?_) (λh=>?_)
  .have h:=aI h;have hl:=K4 (bh d) x j.toNat
   have e:=NX (o:=x) j0 h;refine⟨j0,h,aw (λhb=>?_) (λhb=>?_)⟩
   .have hb:jD ((bh d).getD j.toNat default)=x:=aI hb;rw[am hb] at e;refine⟨by simp only[gc];omega,j+1,_,⟨by omega,by omega,rfl⟩,by omega,?_⟩
    (repeat first|refine⟨trivial,?_⟩|refine⟨(by with_reducible rfl),?_⟩|refine⟨aG (by omega) (by omega),?_⟩);refine⟨e.symm,by (repeat refine⟨(by with_reducible rfl),?_⟩);trivial⟩
   .have hb:¬ jD ((bh d).getD j.toNat default)=x:=aL hb;rw[af hb,jx] at e;refine⟨j+1,_,⟨by omega,by omega,rfl⟩,by omega,?_⟩
    (repeat first|refine⟨trivial,?_⟩|refine⟨(by with_reducible rfl),?_⟩|refine⟨aG (by omega) (by omega),?_⟩);refine⟨e.symm,by (repeat refine⟨(by with_reducible rfl),?_⟩);trivial⟩
  .have h:=aL h;rw[fe (by omega)];rfl
theorem az7:aB 17 Na.spec:=aF Tryz.func17 aC aG8 VV
def Og:Ct:=⟨[.agg nH,.val cI],[.val (.sl pX)],λd=>[((bh d.1).length:Int)<=1099511627776],λd=>((vY d.1 d.2.1,()),())⟩
def aw3:bw Og.ps->ce:=(λd=>{loops:=(bp 3 (λS=>{ι:=Int×(List fm),qn:=ft,μ:=λi=>((bh d.1).length-i.1).toNat,inv:=λi=>0<=i.1/\i.1<=(bh d.1).length/\i.2=((bh d.1).take i.1.toNat).filter (λe=>decide (jD e=d.2.1)),keep:=[1,2],slots:=λi=>[(5,.own 524288 5),(6,.int .i64 i.1)],keepN:=[48],names:=λi=>[(524288,.live (.row 68 pX i.2))]}) cC)})
theorem ai0 :
 ∀(a:(List au×List aK×List aV)×Int×Int×Int×List (List aN×Int×ae×(Int×Int)×Int)×ae×List (Int×Int×Int×Int×Int×ae)×List (Int×Int×ae)×List (Int×Int×Int×Int×Int))(b:Int),CT.wf nH a/\aq b/\True->(me a)<=1099511627776->(∃(c:Int) (d:List fm),(0<=c/\c<=(me a)/\d=List.filter (λ(e:fm)=>decide (jD e=b)) (take c.toNat (bh a)))/\b=b/\0=c/\(CF a d))/\ ∀(c:Int)(d:List fm),0<=c/\c<=(me a)/\d=List.filter (λ(e:fm)=>decide (jD e=b)) (take c.toNat (bh a))->ao (decide (c<(ac a.2.2.2.2.2.2.2.2))) (0<=c/\c<(ac a.2.2.2.2.2.2.2.2)/\ao (decide ((getD a.2.2.2.2.2.2.2.2 c.toNat default).1=b)) (0<=c/\c<(ac a.2.2.2.2.2.2.2.2)/\(d.length+length [getD a.2.2.2.2.2.2.2.2 c.toNat default])*(40:Nat)<=(140737488355328:Nat)/\ ∃(e:Int) (f:List fm),(0<=e/\e<=(me a)/\f=List.filter (λ(g:fm)=>decide (jD g=b)) (take
 e.toNat (bh a)))/\toNat ((me a) -e)<toNat ((me a) -c)/\b=b/\(EO a c d e f)) (∃(e:Int) (f:List fm),(0<=e/\e<=(me a)/\f=List.filter (λ(g:fm)=>decide (jD g=b)) (take e.toNat (bh a)))/\toNat ((me a) -e)<toNat ((me a) -c)/\b=b/\aj (c+1)=e/\a.1.1=a.1.1/\a.1.2.1=a.1.2.1/\a.1.2.2=a.1.2.2/\a.2.1=a.2.1/\a.2.2.1=a.2.2.1/\a.2.2.2.1=a.2.2.2.1/\a.2.2.2.2.1=a.2.2.2.2.1/\a.2.2.2.2.2.1=a.2.2.2.2.2.1/\a.2.2.2.2.2.2.1=a.2.2.2.2.2.2.1/\a.2.2.2.2.2.2.2.1=a.2.2.2.2.2.2.2.1/\a.2.2.2.2.2.2.2.2=a.2.2.2.2.2.2.2.2/\d=f/\True)) (d=vY a b):=by
  delta me EO CF aj ac;rintro d x-hn;rw[show d.2.2.2.2.2.2.2.2=bh d from rfl];refine⟨⟨0,[],⟨by omega,by omega,rfl⟩,(by repeat' first|exact trivial|refine⟨trivial,?_⟩|refine⟨(by with_reducible rfl),?_⟩|refine⟨aG (by omega) (by omega),?_⟩|refine⟨rfl,?_⟩)⟩,?_⟩;rintro j l ⟨j0,j1,rfl⟩;refine aw (λh=>?_) (λh=>?_)
  .have h:=aI h;have hl:=K4 (bh d) x j.toNat
   have e:=NX (o:=x) j0 h;refine⟨j0,h,aw (λhb=>?_) (λhb=>?_)⟩
   .have hb:jD ((bh d).getD j.toNat default)=x:=aI hb;rw[am hb] at e;refine⟨j0,h,by simp only[gc];omega,j+1,_,⟨by omega,by omega,rfl⟩,by omega,?_⟩
    (repeat first|refine⟨trivial,?_⟩|refine⟨(by with_reducible rfl),?_⟩|refine⟨aG (by omega) (by omega),?_⟩);refine⟨e.symm,by (repeat refine⟨(by with_reducible rfl),?_⟩);trivial⟩
   .have hb:¬ jD ((bh d).getD j.toNat default)=x:=aL hb;rw[af hb,jx] at e;refine⟨j+1,_,⟨by omega,by omega,rfl⟩,by omega,?_⟩
    (repeat first|refine⟨trivial,?_⟩|refine⟨(by with_reducible rfl),?_⟩|refine⟨aG (by omega) (by omega),?_⟩);refine⟨e.symm,by (repeat refine⟨(by with_reducible rfl),?_⟩);trivial⟩
  .have h:=aL h;rw[fe (by omega)];rfl
theorem Zi:aB 19 Og.spec:=aF Tryz.func19 aC aw3 ai0
def Cf(n:aQ):Prop:=∃ m,DN m/\(∀ i:Nat,i<m.1.length->0<(ay (m.1.getD i default)).length)/\n=ya m
def ix{α:Type}(f:α->α)(l:List α)(j:Nat):List α:=(l.take j).map f++l.drop j
theorem wJ{α:Type}(f:α->α)(l:List α)(j:Nat):(ix f l j).length=l.length:=by
 unfold ix;rw[cA,mq,dA,fy];omega
theorem Ju{α:Type}(f:α->α)(l:List α):l=ix f l (toNat 0):=rfl
theorem JH{α:Type}(f:α->α)(l:List α){j:Nat}(h:l.length<=j):ix f l j=l.map f:=by
 unfold ix;rw[fe h,List.drop_eq_nil_of_le h,jx]
theorem FT{α:Type} [Inhabited α] (f:α->α) (l:List α) {i:Int} (h0:0<=i) (h1:i<l.length):(ix f l i.toNat).getD i.toNat default=l.getD i.toNat default:=by
 unfold ix
 rw[bJ,kw (by rw[mq,dA];omega),mq,dA,show i.toNat-min i.toNat l.length=0 by omega,pV,ip,bJ]
theorem EG{α:Type} [Inhabited α] {f:α->α} {l:List α} {i:Int} (h0:0<=i) (h1:i<l.length) {y:α} (hy:y=f (l.getD i.toNat default)):(ix f l i.toNat).set i.toNat y=ix f l (i+1).toNat:=by
 unfold ix
 rw[rD h0 h1,lG,hy,show (i+1).toNat=i.toNat+1 by omega,iL]
 have hl:((l.take i.toNat).map f).length=i.toNat:=by rw[mq,dA];omega
 rw[List.set_append_right _ _ (by omega),hl,Nat.sub_self,sm (i:=i.toNat) (by omega)]
 rfl
theorem aE8{α:Type} [Inhabited α] {f:α->α} {l:List α} {i:Int} (h0:0<=i) (h1:i<l.length) (e:f (l.getD i.toNat default)=l.getD i.toNat default):ix f l i.toNat=ix f l (i+1).toNat:=by
 rw[← EG h0 h1 rfl,e]
 conv=>rhs;rw[← FT f l h0 h1]
 rw[bJ,cK (by rw[wJ];omega)]
 exact (List.set_getElem_self _).symm
def FE(c:aX):aQ:=jj (decide ((ax c 3).1=0)) (ax c 3).2
def kz(c:aX):List au:=(FE c).1
def jB(c:aX):List aK:=(FE c).2.1
def Ad(x:au):au:=(x.1,x.2.1,x.2.2.1,x.2.2.2.1,x.2.2.2.2.1,x.2.2.2.2.2.1,x.2.2.2.2.2.2.1,x.2.2.2.2.2.2.2.1,x.2.2.2.2.2.2.2.2.1,x.2.2.2.2.2.2.2.2.2.1,(0,0),false,x.2.2.2.2.2.2.2.2.2.2.2.2)
def Ov:Cn:=⟨[.box 83 jW],[.agg ib],λd=>[aS d.1],λd y=>cT y.2.1/\Cf y.1.1,λd h=>⟨((ya (jj false ([],0)),()),(([],0),())),⟨⟨by decide,by decide⟩,λx hx=>by cases hx⟩,jj false ([],0),D1 ⟨⟨by decide,by decide⟩,λx hx=>by cases hx⟩ false,λi hi=>Pi ⟨⟨by decide,by decide⟩,λx hx=>by cases hx⟩ false hi,rfl⟩⟩
def ay0:bw Ov.ps->ce:=(λd=>{loops:=(bp 5 (λS=>{ι:=Int×(List aK),qn:=ft,μ:=λi=>((jB d.1).length-i.1).toNat,inv:=λi=>0<=i.1/\i.1<=(jB d.1).length/\i.2=ix lE (jB d.1) i.1.toNat,keep:=[2,3],slots:=λi=>[(4,.int .i64 i.1)],keepN:=[48,272,1048576],names:=λi=>[(64,.live (.cells 30 [.own 272 16,.own 524288 6,.nilsl])),(524288,.live (.row 86 fU i.2))]}) (bp 9 (λS=>{ι:=Int×(List au),qn:=ft,μ:=λi=>((kz d.1).length-i.1).toNat,inv:=λi=>0<=i.1/\i.1<=(kz d.1).length/\i.2=ix lQ (kz d.1) i.1.toNat,keep:=[2,3],slots:=λi=>[(5,.int .i64 i.1)],keepN:=[48,1048576],names:=λi=>[(64,.live (.cells 30 [.own 524288 16,.own 524289 6,.nilsl])),(524288,.live (.row 92 bU i.2)),(524289,.live (.row 86 fU ((jB d.1).map lE)))]}) (bp 14 (λS=>{ι:=Int×(List Rt),qn:=ft,μ:=λi=>((aU ((kz d.1).getD (S.i 5).toNat default)).length-i.1).toNat,inv:=λi=>0<=i.1/\i.1<=(aU ((kz d.1).getD (S.i 5).toNat default)).length/\i.2=ix oh (aU ((kz d.1).getD (S.i 5).toNat default)) i.1.toNat,keep:=[2,3,5],slots:=λi=>[(6,.own 524290 4),(7,.int .i64 i.1)],keepN:=[48,64,524288,524289,1048576],names:=λi=>[(524290,.live (.row 96 dh i.2))]}) cC))),cuts:=(bp 12 (λS=>{ι:=(List au),inv:=λi=>i=(ix lQ (kz d.1) (S.i 5).toNat).set (S.i 5).toNat (Ad ((kz d.1).getD (S.i 5).toNat default)),keep:=[2,3,5],slots:=λi=>[],keepN:=[48,524289,1048576],names:=λi=>[(64,.live (.cells 30 [.own 524288 16,.own 524289 6,.nilsl])),(524288,.live (.row 92 bU i))]}) cC)})
def FJ(j:Int)(k:List au) :=
 set k j.toNat ((ai k j).1,(ai k j).2.1,(ai k j).2.2.1,(ai k j).2.2.2.1,(ai k j).2.2.2.2.1,(ai k j).2.2.2.2.2.1,(ai k j).2.2.2.2.2.2.1,(ai k j).2.2.2.2.2.2.2.1,(ai k j).2.2.2.2.2.2.2.2.1,(ai k j).2.2.2.2.2.2.2.2.2.1,(ai k j).2.2.2.2.2.2.2.2.2.2.1,false,(ai k j).2.2.2.2.2.2.2.2.2.2.2.2)
def zP(a:ae)(b j:Int) :=
 aU (getD (kz (a,b)) j.toNat default)
def rp(j:Int)(k:List au) :=
 getD (FJ j k) j.toNat default
def vf(a:ae)(b j:Int) :=
 ((length (zP a b j)):Int)
theorem an0 :
 ∀(a:ae)(b:Int),((a.length<=maxLen/\ ∀(c:Int),c∈a->0<=c/\c<=255)/\aq b)/\True->0<=b/\b<=(ac a)->aS (a,b)/\aS (ax (a,b) (3:Int)).2/\ ∀(c:List au)(d:List aK)(e:List aV)(f:ae)(g:Int),(c,d,e)=jj (decide ((ax (a,b) (3:Int)).1=0)) (ax (a,b) (3:Int)).2/\(f,g)=yk (decide ((ax (a,b) (3:Int)).1=0)) (ax (a,b) (3:Int)).2->c.length*(152:Nat)<=(140737488355328:Nat)/\d.length*(48:Nat)<=(140737488355328:Nat)/\(∃(h:Int) (i:List aK),(0<=h/\h<=((length (jB (a,b))):Int)/\i=ix lE (jB (a,b)) h.toNat)/\0=h/\c=c/\f=f/\g=g/\d=i/\True)/\ ∀(h:Int)(i:List aK),0<=h/\h<=((length (jB (a,b))):Int)/\i=ix lE (jB (a,b)) h.toNat->ao (decide (h<(ac i))) (0<=h/\h<(ac i)/\ ∃(j:Int) (k:List aK),(0<=j/\j<=((length (jB (a,b))):Int)/\k=ix lE (jB (a,b)) j.toNat)/\toNat (((length (jB (a,b))):Int) -j)<toNat
 (((length (jB (a,b))):Int) -h)/\aj (h+1)=j/\c=c/\f=f/\g=g/\set i h.toNat ((ai i h).1,(ai i h).2.1,(ai i h).2.2.1,(ai i h).2.2.2.1,(0:Int),(ai i h).2.2.2.2.2)=k/\True) ((∃(j:Int) (k:List au),(0<=j/\j<=((length (kz (a,b))):Int)/\k=ix lQ (kz (a,b)) j.toNat)/\0=j/\f=f/\g=g/\c=k/\i=List.map lE (jB (a,b))/\True)/\ ∀(j:Int)(k:List au),0<=j/\j<=((length (kz (a,b))):Int)/\k=ix lQ (kz (a,b)) j.toNat->ao (decide (j<(ac k))) ((0<=j/\j<(ac k)/\0<=j/\j<((length (FJ j k)):Int)/\ ∃(l:List au),l=set (ix lQ (kz (a,b)) j.toNat) j.toNat (Ad (getD (kz (a,b)) j.toNat default))/\j=j/\List.map lE (jB (a,b))=List.map lE (jB (a,b))/\f=f/\g=g/\set (FJ j k) j.toNat ((rp j k).1,(rp j k).2.1,(rp j k).2.2.1,(rp j k).2.2.2.1,(rp j k).2.2.2.2.1,(rp j k).2.2.2.2.2.1,(rp j k).2.2.2.2.2.2.1,(rp j
 k).2.2.2.2.2.2.2.1,(rp j k).2.2.2.2.2.2.2.2.1,(rp j k).2.2.2.2.2.2.2.2.2.1,((0:Int),(0:Int)),(rp j k).2.2.2.2.2.2.2.2.2.2.2)=l/\True)/\ ∀(l:List au),l=set (ix lQ (kz (a,b)) j.toNat) j.toNat (Ad (getD (kz (a,b)) j.toNat default))->0<=j/\j<(ac l)/\length (ai l j).2.2.2.2.1*(48:Nat)<=(140737488355328:Nat)/\(∃(m:Int) (n:List Rt),(0<=m/\m<=(vf a b j)/\n=ix oh (zP a b j) m.toNat)/\j=j/\0=m/\l=l/\List.map lE (jB (a,b))=List.map lE (jB (a,b))/\f=f/\g=g/\(ai l j).2.2.2.2.1=n/\True)/\ ∀(m:Int)(n:List Rt),0<=m/\m<=(vf a b j)/\n=ix oh (zP a b j) m.toNat->ao (decide (m<(ac n))) (0<=m/\m<(ac n)/\ao (decide ((ai n m).2.2=3)) (0<=m/\m<(ac n)/\ ∃(o:Int) (p:List Rt),(0<=o/\o<=(vf a b j)/\p=ix oh (zP a b j) o.toNat)/\toNat ((vf a b j) -o)<toNat ((vf a b j) -m)/\j=j/\aj (m+1)=o/\l=l/\List.map lE (jB
 (a,b))=List.map lE (jB (a,b))/\f=f/\g=g/\set n m.toNat ((ai n m).1,(ai n m).2.1,(1:Int))=p/\True) (∃(o:Int) (p:List Rt),(0<=o/\o<=(vf a b j)/\p=ix oh (zP a b j) o.toNat)/\toNat ((vf a b j) -o)<toNat ((vf a b j) -m)/\j=j/\aj (m+1)=o/\l=l/\List.map lE (jB (a,b))=List.map lE (jB (a,b))/\f=f/\g=g/\n=p/\True)) (0<=j/\j<(ac l)/\ ∃(o:Int) (p:List au),(0<=o/\o<=((length (kz (a,b))):Int)/\p=ix lQ (kz (a,b)) o.toNat)/\toNat (((length (kz (a,b))):Int) -o)<toNat (((length (kz (a,b))):Int) -j)/\aj (j+1)=o/\f=f/\g=g/\set l j.toNat ((ai l j).1,(ai l j).2.1,(ai l j).2.2.1,(ai l j).2.2.2.1,n,(ai l j).2.2.2.2.2)=p/\List.map lE (jB (a,b))=List.map lE (jB (a,b))/\True)) (cT (f,g)/\Cf (k,List.map lE (jB (a,b)),([]:List aV)))):=by
  delta FJ zP rp vf aj ai ac;rintro l p ⟨⟨⟨-,hw⟩,-⟩,-⟩ hc;have hB:cT (l,p):=⟨hc,hw⟩
  have hB1:=(dq hB 3).1;refine⟨hc,hB1.at',?_⟩;rintro ns ls hs l1 p1 ⟨hnet,hcod⟩;have D:=D1 hB1 (decide ((ax (l,p) 3).1=0));have P:=λi=>Pi hB1 (decide ((ax (l,p) 3).1=0)) (i:=i);have C:=aU7 hB1 (decide ((ax (l,p) 3).1=0));have en:kz (l,p)=ns:=by unfold kz FE;rw[← hnet]
  have el:jB (l,p)=ls:=by unfold jB FE;rw[← hnet]
  rw[← hnet] at D P;rw[← hcod] at C;have n7:ns.length<=7:=D.n7;have l10:ls.length<=10:=D.l10;have hr:∀ x∈ns,(aU x).length<=1000:=λx hx=>by
   have h:=(D.nb.2.2.2.1 x hx).2.1;omega
  rw[en,el];clear hnet hcod;refine⟨by omega,by omega,⟨0,ls,⟨by omega,by omega,Ju _ _⟩,(by repeat' first|exact trivial|refine⟨trivial,?_⟩|refine⟨(by with_reducible rfl),?_⟩|refine⟨aG (by omega) (by omega),?_⟩|refine⟨rfl,?_⟩)⟩,?_⟩;rintro i _ ⟨i0,i1,rfl⟩;rw[wJ];refine aw (λh=>?_) (λh=>?_)
  .have h:=aI h;refine⟨i0,h,i+1,_,⟨by omega,by omega,rfl⟩,by omega,?_⟩
   (repeat first|refine⟨trivial,?_⟩|refine⟨(by with_reducible rfl),?_⟩|refine⟨aG (by omega) (by omega),?_⟩);refine⟨EG i0 h ?_,by (repeat refine⟨(by with_reducible rfl),?_⟩);trivial⟩;rw[FT _ _ i0 h];rfl
  have h:=aL h;rw[JH lE ls (by omega)];refine⟨⟨0,ns,⟨by omega,by omega,Ju _ _⟩,(by repeat' first|exact trivial|refine⟨trivial,?_⟩|refine⟨(by with_reducible rfl),?_⟩|refine⟨aG (by omega) (by omega),?_⟩|refine⟨rfl,?_⟩)⟩,?_⟩;clear h i0 i1;rintro i _ ⟨i0,i1,rfl⟩;rw[wJ];refine aw (λh=>?_) (λh=>?_)
  .have h:=aI h;refine⟨⟨i0,h,i0,by rw[gC,wJ];exact h,_,rfl,?_⟩,?_⟩
   ·(repeat first|refine⟨trivial,?_⟩|refine⟨(by with_reducible rfl),?_⟩|refine⟨aG (by omega) (by omega),?_⟩);refine⟨?_,by (repeat refine⟨(by with_reducible rfl),?_⟩);trivial⟩;have hl:i.toNat<(ix lQ ns i.toNat).length:=by rw[wJ];omega
    rw[List.set_set,FT _ _ i0 h];rw[bJ,List.getElem?_set_self hl];rfl
   rintro x7 rfl;have hl:i.toNat<(ix lQ ns i.toNat).length:=by rw[wJ];omega
   have hq:((ix lQ ns i.toNat).set i.toNat (Ad (ns.getD i.toNat default))).getD i.toNat default=Ad (ns.getD i.toNat default):=by
    rw[bJ,List.getElem?_set_self hl];rfl
   have hx:=hr _ (bR i0 h);have hq2:(Ad (ns.getD i.toNat default)).2.2.2.2.1=aU (ns.getD i.toNat default):=rfl;rw[hq,gC,wJ,hq2];refine⟨i0,h,by omega,⟨0,_,⟨by omega,by omega,Ju _ _⟩,(by repeat' first|exact trivial|refine⟨trivial,?_⟩|refine⟨(by with_reducible rfl),?_⟩|refine⟨aG (by omega) (by omega),?_⟩|refine⟨rfl,?_⟩)⟩,?_⟩;rintro k _ ⟨k0,k1,rfl⟩;rw[wJ];refine aw (λhk=>?_) (λhk=>?_)
   .have hk:=aI hk;rw[FT _ _ k0 hk];refine⟨k0,hk,aw (λhb=>?_) (λhb=>?_)⟩
    .have hb:=aI hb;refine⟨k0,hk,k+1,_,⟨by omega,by omega,rfl⟩,by omega,?_⟩
     (repeat first|refine⟨trivial,?_⟩|refine⟨(by with_reducible rfl),?_⟩|refine⟨aG (by omega) (by omega),?_⟩);refine⟨EG k0 hk ?_,by (repeat refine⟨(by with_reducible rfl),?_⟩);trivial⟩;unfold oh;rw[am hb]
    .have hb:=aL hb;refine⟨k+1,_,⟨by omega,by omega,rfl⟩,by omega,?_⟩
     (repeat first|refine⟨trivial,?_⟩|refine⟨(by with_reducible rfl),?_⟩|refine⟨aG (by omega) (by omega),?_⟩);refine⟨aE8 k0 hk ?_,by (repeat refine⟨(by with_reducible rfl),?_⟩);trivial⟩;unfold oh;rw[af hb]
   .have hk:=aL hk;rw[JH oh _ (by omega)];refine⟨i0,h,i+1,_,⟨by omega,by omega,rfl⟩,by omega,?_⟩
    (repeat first|refine⟨trivial,?_⟩|refine⟨(by with_reducible rfl),?_⟩|refine⟨aG (by omega) (by omega),?_⟩);rw[List.set_set];refine⟨EG i0 h rfl,by (repeat refine⟨(by with_reducible rfl),?_⟩);trivial⟩
  have h:=aL h;rw[JH lQ ns (by omega)];exact⟨C,(ns,ls,hs),D,λi hi=>P i hi,rfl⟩
theorem V0:aB 6 Ov.spec:=qw Tryz.func6 (Zp (Xt (av (av aC xo) (Ct.named PF))) (d:=5) (n:=524288)) ay0 an0
structure xj (s t:Int) (dn:List aV) (l:ae):Prop where
 ne:0<l.length
 el:∀ x∈l,s<=x/\x<=t/\(x=s∨∃ c∈dn,x=fc c)
 cov:∀ τ,s<=τ->τ<=t→∃ x∈l,x<=τ∧∀ c∈dn,¬ (x<fc c/\fc c<=τ)
theorem xj.next{s t:Int}{dn:List aV}{l:ae}(h:xj s t dn l){c:aV}(hs:∀ d∈dn,fc d<=fc c):xj s t (dn++[c]) (AB s t l c):=by
 have hl:=Dd h.ne
 have el:=h.el _ hl
 refine⟨aI7 h.ne,λx hx=>?_,λτ t0 t1=>?_⟩
 .unfold AB at hx;split at hx
  .rename_i k;rcases dB.1 hx with hx|hx
   .obtain⟨a,b,e⟩:=h.el x hx;exact⟨a,b,e.imp id λ⟨d,hd,e⟩=>⟨d,gu _ hd,e⟩⟩
   .rw[iI.1 hx];exact⟨by omega,k.2.1,.inr ⟨c,by simp,rfl⟩⟩
  .obtain⟨a,b,e⟩:=h.el x hx;exact⟨a,b,e.imp id λ⟨d,hd,e⟩=>⟨d,gu _ hd,e⟩⟩
 .obtain⟨x,hx,x1,hc⟩:=h.cov τ t0 t1;unfold AB;by_cases hτ:fc c<=τ
  .split
   .refine⟨fc c,by simp,hτ,λd hd=>?_⟩;rcases dB.1 hd with hd|hd
    .have:=hs d hd;omega
    .rw[iI.1 hd];omega
   .rename_i k;by_cases hcs:fc c<=s
    .refine⟨x,hx,x1,λd hd=>?_⟩;rcases dB.1 hd with hd|hd
     .exact hc d hd
     .rw[iI.1 hd];have:=(h.el x hx).1;omega
    .have e:fc c=gS l:=by
      rcases el.2.2 with e|⟨d,hd,e⟩
      .omega
      .have:=hs d hd;omega
     refine⟨gS l,hl,by omega,λd hd=>?_⟩;rcases dB.1 hd with hd|hd
     .have:=hs d hd;omega
     .rw[iI.1 hd];omega
  .have hx':∀ d∈dn++[c],¬ (x<fc d/\fc d<=τ):=λd hd=>by
    rcases dB.1 hd with hd|hd
    .exact hc d hd
    .rw[iI.1 hd];omega
   split
   .exact⟨x,gu _ hx,x1,hx'⟩
   .exact⟨x,hx,x1,hx'⟩
theorem xj.all{s t:Int}:∀(rest dn:List aV)(l:ae),(dn++rest).Pairwise (λa b=>fc a<=fc b)->xj s t dn l->xj s t (dn++rest) (rest.foldl (AB s t) l)
 | [],dn,l,_,h=>by simpa using h
 | c::r,dn,l,hp,h=>by
  rw[List.foldl_cons,show dn++c::r=(dn++[c])++r by simp];refine xj.all r (dn++[c]) _ (by simpa using hp) (h.next λd hd=>?_);exact (List.pairwise_append.1 hp).2.2 d hd c fY
theorem XM{ls:List aK}{i k:Int}(h:lnk ls i k)(hne:lA (ls.getD k.toNat default)≠lB (ls.getD k.toNat default)):lnk ls (fD ls k i) k:=by
 obtain⟨k0,k1,e⟩:=h
 refine⟨k0,k1,?_⟩
 rcases e with e|e
 .subst e;rw[PV k0 k1];exact .inr rfl
 .subst e;rw[ND k0 k1 hne];exact .inl rfl
structure WL (n:aQ) (w:Way):Prop where
 i:WI n w
 k:∀ i:Nat,i<w.2.1.length->lnk n.2.1 (w.1.getD (i+1) default) (w.2.1.getD i default)
theorem WL.step{n:aQ}(D:DN n){at':Int}{k:d6}{w:Way}(h:WL n w):WL n (lH n at' k w):=by
 refine⟨h.i.step D.wn,?_⟩
 have hl:=h.i.l
 have hr:=h.i.r _ (Dd (ns:=w.1) (by omega))
 have lm:=HU (l:=d5 n (gS w.1) at') (a:=k.2.1)
 have nx:=D.next (at':=at') hr.1 hr.2
 unfold lH qH
 split
 .exact h.k
 split
 .exact h.k
 split
 .exact h.k
 rename_i h2
 split
 .exact h.k
 split
 .exact h.k
 have hok:ia (d5 n (gS w.1) at') k.2.1=true:=by
  cases hh:ia (d5 n (gS w.1) at') k.2.1
  .exact absurd (.inl hh) h2
  .rfl
 have pr:=JX (r:=bf (d5 n (gS w.1) at') k.2.1) (seed:=rG (n.1.getD (gS w.1).toNat default)) (k:=k) (by
  have:¬ (bf (d5 n (gS w.1) at') k.2.1).2.1.length=0:=λe=>h2 (.inr e);omega)
 have ho:=nx _ (lm hok) _ (bR pr.1 pr.2)
 have hg:=D.g _ (bR ho.1 ho.2.1)
 have ho2:=XM ho hg.2.2.1
 intro i hi
 dsimp only at hi ⊢
 rw[cA,gc] at hi
 by_cases e:i<w.2.1.length
 .rw[CD (by omega),CD (by omega)];exact h.k i e
 .have e:i=w.2.1.length:=by omega
  subst e;rw[ER,← hl,ER];exact ho2
theorem WL.run{n:aQ}(D:DN n){at':Int}{k:d6}:∀(f:Nat){w:Way},WL n w->WL n (ld n at' k f w)
 | 0,w,h=>h
 | f+1,w,h=>by
  rw[ld];split
  .exact WL.run D f (h.step D)
  .exact h
theorem aH8{n:aQ}(D:DN n){at' who:Int}{k:d6}(w0:0<=who)(w1:who<n.1.length):WL n (lC n at' who k) :=
 WL.run D 257 ⟨⟨rfl,Nat.zero_le _,λx hx=>by rw[iI.1 hx];exact⟨w0,w1⟩⟩,λi hi=>absurd hi (Nat.not_lt_zero _)⟩
theorem WL.d2{n:aQ}(D:DN n){w:Way}(h:WL n w):Eh n w.2.1 where
 len:=by have:=h.i.m;omega
 k:=λk hk=>by
  obtain⟨i,hi,rfl⟩:=xp hk;have:=h.k i hi;exact⟨this.1,this.2.1⟩
 d:=λx hx=>by
  have:=D.g x hx;omega
set_option maxHeartbeats 1000000
theorem UD{n:aQ}{w:Way}{T:Int}(h:iz n w T=true):1<=iF n w T/\iF n w T+1<=w.1.length:=by
 unfold iF
 rw[am h]
 unfold iz at h
 have h:=aI (Bool.and_eq_true_iff.1 h).2
 omega
theorem aX5{n:aQ}{p:bz}(C:sN n)(g:da p)(hT:1<=db p/\db p<=8)(hn:0<n.1.length)(hk:eO 4000 (jh n))(hs:eO 8000 (iB (jh n) 0 0 (build p))) :
  ∃ e0 r,vY (tZ (iB (jh n) 0 0 (build p)) 1099511627776) 0=e0::r/\Fin n p e0 (bM (tZ (iB (jh n) 0 0 (build p)) 1099511627776)) ∧
   ((bh (tZ (iB (jh n) 0 0 (build p)) 1099511627776)).length:Int)<=8000/\((bM (tZ (iB (jh n) 0 0 (build p)) 1099511627776)).length:Int)<=8000∧∀ x∈bM (tZ (iB (jh n) 0 0 (build p)) 1099511627776),(x.2.2.length:Int)<=2000:=by
 obtain⟨e0,r,h1,h2,h3⟩:=(PA.start g hT.1 hn hk hs.sim).run hT g C (to:=1099511627776) (by decide) _ (ir _)
 have hr:=(hs.run (to:=1099511627776) _ (ir _)).1
 have e:tZ (iB (jh n) 0 0 (build p)) 1099511627776=dr (fL (jG (iB (jh n) 0 0 (build p)) 1099511627776) 1099511627776):=rfl
 obtain⟨-,-,k3,k4,-⟩:=AX (fL (jG (iB (jh n) 0 0 (build p)) 1099511627776) 1099511627776)
 have k3:bh (tZ (iB (jh n) 0 0 (build p)) 1099511627776)=bh (jG (iB (jh n) 0 0 (build p)) 1099511627776):=k3
 have k4:bM (tZ (iB (jh n) 0 0 (build p)) 1099511627776)=bM (jG (iB (jh n) 0 0 (build p)) 1099511627776):=k4
 rw[k3,k4]
 refine⟨e0,r.filter (λe=>decide (jD e=0)),?_,h3,?_,by have:=hr.d;omega,hr.dd⟩
 .unfold vY;rw[k3,h1,List.filter_cons,am (cM h2)]
 .have:=hr.e;omega
theorem Cf.home{n:aQ}(h:∀ i:Nat,i<n.1.length->0<(ay (n.1.getD i default)).length)(D:DN n):u32 (fg n).1:=by
 have n3:=D.n3
 have hp:=h 0 (by omega)
 unfold fg
 rw[af (by omega)]
 have:=D.padr (i:=0) (by omega) (a:=((ay (n.1.getD 0 default)).getD 0 default).1) (List.mem_map.2 ⟨_,n6 hp,rfl⟩)
 unfold u32
 show 0<=((ay (n.1.getD 0 default)).getD 0 default).1/\((ay (n.1.getD 0 default)).getD 0 default).1<=4294967295
 omega
abbrev ae1:o7:=[(false,.sl bN),(false,bN)]
def QW:Ct:=CA ae1
def aS1:bw QW.ps->ce:=(λd=>{loops:=(bp 33 (λS=>{ι:=Int,μ:=λi=>((bM (S.c nH 288)).length-i).toNat,inv:=λi=>0<=i/\i<=(bM (S.c nH 288)).length,keep:=[7,17,25],slots:=λi=>[(27,.int .i64 i)],keepN:=[128,288]}) cC)})
def uQ(b:Int) :=
 (1:Int)+Int.tmod (aj b) (8:Int)
def Jr(H:(List au×List aK×List aV)×Int×Int×Int×List (List aN×Int×ae×(Int×Int)×Int)×ae×List (Int×Int×Int×Int×Int×ae)×List (Int×Int×ae)×List (Int×Int×Int×Int×Int))(b:Int) :=
 aj (uQ b)=aj (uQ b)/\H.1.1=H.1.1/\H.1.2.1=H.1.2.1/\H.1.2.2=H.1.2.2/\H.2.1=H.2.1/\H.2.2.1=H.2.2.1/\H.2.2.2.1=H.2.2.2.1/\H.2.2.2.2.1=H.2.2.2.2.1/\H.2.2.2.2.2.1=H.2.2.2.2.2.1/\H.2.2.2.2.2.2.1=H.2.2.2.2.2.2.1/\H.2.2.2.2.2.2.2.1=H.2.2.2.2.2.2.2.1/\H.2.2.2.2.2.2.2.2=H.2.2.2.2.2.2.2.2/\True
theorem aQ9 :
 ∀(a:ae)(b:Int),(a.length<=maxLen/\ ∀(c:Int),c∈a->0<=c/\c<=255)/\(0<=b/\b<=255)/\True->True->(0:Int)<=500/\ ∀(c:ae)(d:Int),(c,d)=(if (ac a)<=500 then a else take (toNat 500) a,(0:Int))->aS (c,d)/\ ∀(e:List au)(f:List aK)(g:List aV)(h:ae)(i:Int),cT (h,i)/\Cf (e,f,g)->(∀(j:aV),j∈g->((length (dO j).2.1):Int)<=1099511627776)/\ao (! decide (eh (e,f,g)=0)) (false=true) (aS (h,i)/\ ∀(j k l m n o:Int)(p:ae)(q:Int),aS (p,q)/\u32 j/\u32 k/\cf (j,k,l,m,n,o)=0->aS (p,q)/\ ∀(r:Int)(s:ae)(t:Int),aS (s,t)/\0<=r/\r<=4294967295->(8:Int)≠(0:Int)/\ ∀(u:ae)(v:Int),u=build ((fg (e,f,g)).1,r,l,m,n,aj (uQ b))/\v=cf ((fg (e,f,g)).1,r,l,m,n,aj (uQ b))-> ∀(w x y z A B:Int),(w,x,y,z,A)=zF ((fg (e,f,g)).1,r,l,m,n,aj (uQ b))/\B=zx ((fg (e,f,g)).1,r,l,m,n,aj (uQ b))->r8 (e,f,g)/\
 ∀(C:(List au×List aK×List aV)×Int×Int×Int×List (List aN×Int×ae×(Int×Int)×Int)×ae×List (Int×Int×Int×Int×Int×ae)×List (Int×Int×ae)×List (Int×Int×Int×Int×Int))(D:Int),C=zf (e,f,g)/\D=eh (e,f,g)->oO C/\(ac u)<=1000000/\ ∀(E:(List au×List aK×List aV)×Int×Int×Int×List (List aN×Int×ae×(Int×Int)×Int)×ae×List (Int×Int×Int×Int×Int×ae)×List (Int×Int×ae)×List (Int×Int×Int×Int×Int))(F G:Int),E=qT C (0:Int) (0:Int) u/\F=rx C (0:Int) (0:Int)/\G=lR C (0:Int) (0:Int)->oO E/\ ∀(H:(List au×List aK×List aV)×Int×Int×Int×List (List aN×Int×ae×(Int×Int)×Int)×ae×List (Int×Int×Int×Int×Int×ae)×List (Int×Int×ae)×List (Int×Int×Int×Int×Int))(I:Int),H=vH E (1099511627776:Int)/\I=pk E (1099511627776:Int)-> ∀(J:Bool),J= ! decide (D=0)->(ah (! J))/\(aE J)/\ ∀(K:Bool),(K=bif J then true else
 ! decide (G=0))->(ah (! K))/\(aE K)/\ao (bif K then true else ! decide (I=0)) (false=true) (WN (e,f,g)/\(0:Int)<=0/\0<(ac e)/\ ∀(L M:ae)(N:Int),(L,M,N)=lC (e,f,g) (0:Int) (0:Int) (w,x,y,z,A)->((length (bh H)):Int)<=1099511627776/\ ∀(O:List (Int×Int×Int×Int×Int)),O=vY H F-> ∀(P:Bool),P=decide ((ac O)=0)->((! P)->(ar (! P))/\(ar (! P))/\((length (bh H)):Int)<=1099511627776/\True)/\((! P)->(ar (! P))/\(ar (! P))/\True)/\(ah (! P))/\(aE P)/\ao (bif P then true else ! decide (O=vY H F)) (false=true) (B2 (e,f,g) (L,M,N)/\ ∀(Q:Int)(R:Bool),Q=iF (e,f,g) (L,M,N) (aj (uQ b))/\R=iz (e,f,g) (L,M,N) (aj (uQ b))->ao (! R) (∀(S:Bool),S= ! decide (N=1)->(ah (! S))/\(ah (! S))/\(ah (! S))/\(aE S)/\(bif S then true else decide ((ac L)=1))=true) (∀(S:Bool),S=decide (N=5)->(ah S)/\(ah S)/\(ah S)/\(S->(ar S)/\(ar S)/\True)/\(ar S)/\
 ∀(T:Bool),(T=bif S then decide (Q=aj ((ac L) -1)) else false)->(ah (! T))/\(ah (! T))/\(ah (! T))/\ ∀(U:Bool),U=decide (N=2)->(ah (! T&&U))/\(ah (! T&&U))/\(ah (! T&&U))/\((! T)->(ar (! T))/\(U->(! T&&U))/\True)/\(aE T)/\ao (bif T then true else bif U then decide ((ac L)=1) else false) ((0:Int)<=0/\0<(ac O)/\ ∀(V:Bool),V=decide ((ai O (0:Int)).2.2.2.2=6)->((! V)->(ar (! V))/\(0:Int)<=0/\0<(ac O)/\True)/\(ah (! V))/\(ah (! V))/\(ah (! V))/\(aE V)/\(bif V then true else decide ((ai O (0:Int)).2.2.2.2=8))=true) ((0:Int)<=0/\0<=Q/\Q<=(ac M)/\Eh (e,f,g) (cL M (toNat 0) Q.toNat)/\ ∀(V W:Int),V=lW (e,f,g) (cL M (toNat 0) Q.toNat)/\W=ma (e,f,g) (cL M (toNat 0) Q.toNat)->(0:Int)<=0/\0<(ac O)/\0<=Q/\Q<(ac L)/\ ∀(X:Bool),X= ! decide ((ai O (0:Int)).2.2.1=ai L Q)->((! X)->(ar (! X))/\(0:Int)<=0/\0<(ac O)/\True)/\(ah (! X))/\(ah (! X))/\(ah (!
 X))/\(ah (! X))/\((! X)->(ar (! X))/\(ar (! X))/\0<=aj (Q -1)/\aj (Q -1)<(ac M)/\True)/\(ah (! X))/\((! X)->(ar (! X))/\(ar (! X))/\True)/\(aE X)/\ ∀(Y:Bool),(Y=bif X then true else ! decide ((ai O (0:Int)).2.2.2.1=ai M (aj (Q -1))))->((! Y)->(ar (! Y))/\(0:Int)<=0/\0<(ac O)/\True)/\(ah (! Y))/\(ah (! Y))/\((! Y)->(ar (! Y))/\(ar (! Y))/\True)/\(aE Y)/\ ∀(Z:Bool),(Z=bif Y then true else decide ((ai O (0:Int)).2.1<V))->((! Z)->(ar (! Z))/\(0:Int)<=0/\0<(ac O)/\True)/\(ah (! Z))/\(ah (! Z))/\((! Z)->(ar (! Z))/\(ar (! Z))/\True)/\(aE Z)/\ao (bif Z then true else decide (W<(ai O (0:Int)).2.1)) (false=true) (okNet (e,f,g)/\B2 (e,f,g) (L,M,N)/\ ∀(a1:Int)(b1:Bool),a1=nT (e,f,g) (0:Int) (L,M,N) Q (fg (e,f,g)).1/\b1=lw (e,f,g) (0:Int) (L,M,N) Q (fg (e,f,g)).1->(0:Int)<=0/\0<(ac O)/\ ∀(c1:Bool),c1= ! decide ((ai O (0:Int)).2.2.2.2=2)->(ah (!
 c1))/\(aE c1)/\ ∀(d1:Bool),(d1=bif c1 then true else ! b1)->(ah (! d1))/\(ah (! d1))/\(ah (! d1))/\ ∀(e1:Bool),e1=decide (N=1)->(ah (! d1&&e1))/\(ah (! d1&&e1))/\(ah (! d1&&e1))/\((! d1&&e1)->(ar (! d1&&e1))/\(ar (! d1&&e1))/\True)/\((! d1)->(ar (! d1))/\(e1->(! d1&&e1))/\True)/\(aE d1)/\ao (bif d1 then true else bif e1 then decide (Q=aj ((ac L) -1)) else false) (true=true) ((∃(f1:Int),(0<=f1/\f1<=((length (bM H)):Int))/\a1=a1/\0=f1/\(fg (e,f,g)).1=(fg (e,f,g)).1/\r=r/\l=l/\m=m/\n=n/\(Jr H b))/\ ∀(f1:Int),0<=f1/\f1<=((length (bM H)):Int)->ao (decide (f1<(ac H.2.2.2.2.2.2.2.1))) (0<=f1/\f1<(ac H.2.2.2.2.2.2.2.1)/\((length (getD H.2.2.2.2.2.2.2.1 f1.toNat default).2.2):Int)<=1000000/\ ∀(g1 h1 i1 j1 k1 l1 m1 n1 o1 p1 q1 r1 s1:Int),(g1,h1,i1,j1,k1,l1)=(jO (getD H.2.2.2.2.2.2.2.1 f1.toNat default).2.2).1/\(m1,n1,o1,p1,q1,r1)=(jO
 (getD H.2.2.2.2.2.2.2.1 f1.toNat default).2.2).2/\s1=pF (getD H.2.2.2.2.2.2.2.1 f1.toNat default).2.2-> ∀(t1:Bool),t1=decide (s1=0)->(ah t1)/\(ah t1)/\(t1->(ar t1)/\(ar t1)/\True)/\(ar t1)/\ ∀(u1:Bool),(u1=bif t1 then decide (k1=n) else false)->(ah u1)/\(u1->(ar u1)/\(ar u1)/\True)/\(ah u1)/\ ∀(v1:Bool),v1= ! decide (m1=a1)->(ah (u1&& ! v1))/\(ah (u1&& ! v1))/\(ah (u1&& ! v1))/\ ∀(w1:Bool),w1= ! decide (n1=1)->(ah (u1&& ! v1&&w1))/\(ah (u1&& ! v1&&w1))/\((u1&& ! v1)->(ar (u1&& ! v1))/\(w1->(u1&& ! v1&&w1))/\True)/\(u1->(ar u1)/\(v1=false->(u1&& ! v1))/\True)/\(ar u1)/\ao (bif u1 then bif v1 then true else bif w1 then ! decide (n1=5) else false else false) (false=true) (∃(x1:Int),(0<=x1/\x1<=((length (bM H)):Int))/\toNat (((length (bM H)):Int) -x1)<toNat (((length (bM H)):Int) -f1)/\a1=a1/\aj (f1+1)=x1/\(fg (e,f,g)).1=(fg
 (e,f,g)).1/\r=r/\l=l/\m=m/\n=n/\(Jr H b))) (true=true)))))))):=by
  delta uQ Jr ah ar aE aj ai ac;rintro cl t ⟨⟨hcl,hcw⟩,⟨t0,t1⟩,-⟩ -;have q0:=r5 (b:=8) t0;have q1:=rY (b:=8) t0 (by omega);rw[aG (n:=t) (by omega) (by omega),aG (n:=1+t.tmod 8) (by omega) (by omega)];generalize hT:1+t.tmod 8=T;refine⟨by decide,?_⟩;rintro l0 p0 hc;have hB:cT (l0,p0):=by rw[hc];exact aL3 hcw
  refine⟨hB.at',?_⟩;clear hc;rintro ns ls hs l1 p1 ⟨hB1,m,D0,P0,hn⟩;have C:sN (ns,ls,hs):=by rw[hn];exact D0.isCalm P0
  have D:DN (ns,ls,hs):=by rw[hn];exact D0.calm
  have P:∀ i:Nat,i<ns.length->0<(ay (ns.getD i default)).length:=λi hi=>by
   have e:ns=m.1.map lQ:=jn (λx:aQ=>x.1) hn;rw[e] at hi ⊢;rw[mq] at hi;rw[xH hi];exact P0 i hi
  have n3:3<=ns.length:=D.n3;have hh:hs=[]:=C.h;have ck:=C.c;have W:=D.wn;have hok:=D.newOk P;clear hn;refine⟨λc hc=>(by rw[hh] at hc;cases hc),?_⟩;rw[ck,cM rfl];refine uM.2 ⟨hB1.at',?_⟩;rintro s d pr f tg tt l2 p2 ⟨hc2,-,-,hpe⟩;refine⟨hc2,?_⟩;rintro dst l3 p3 ⟨hc3,d0,d1⟩;refine⟨by decide,?_⟩;have g:da ((fg (ns,ls,hs)).1,dst,pr,f,tg,T):=by
   obtain⟨k1,k2,k3,-⟩:=lq.1 hpe;exact⟨lq.2 ⟨k1,k2,k3,by show 1<=T;omega,by show T<=255;omega⟩,Cf.home P D,⟨d0,d1⟩⟩
  have hTT:1<=db ((fg (ns,ls,hs)).1,dst,pr,f,tg,T)/\db ((fg (ns,ls,hs)).1,dst,pr,f,tg,T)<=8:=⟨by show 1<=T;omega,by show T<=8;omega⟩
  have hsrc:(fg (ns,ls,hs)).1=Prod.fst ((fg (ns,ls,hs)).1,dst,pr,f,tg,T):=rfl;have hb1:=(Az.new hok).send (by decide) (at':=0) (by decide) (by decide) (IR ((fg (ns,ls,hs)).1,dst,pr,f,tg,T)) (by have:=Jw ((fg (ns,ls,hs)).1,dst,pr,f,tg,T);omega);have hbl:=Jw ((fg (ns,ls,hs)).1,dst,pr,f,tg,T);rintro b be ⟨rfl,-⟩;rintro k1 k2 k3 k4 k5 ke ⟨hk,-⟩;have hk:(k1,k2,k3,k4,k5)=bc (build ((fg (ns,ls,hs)).1,dst,pr,f,tg,T)):=hk.trans (am g.ok);refine⟨R4 D.nb (by decide),?_⟩;rintro w x ⟨hw,rfl⟩;have hw:w=jh (ns,ls,hs):=hw.trans (am ck);subst hw;refine⟨.inl hok.sim,by omega,?_⟩;rintro w2 o e ⟨hw2,ho,he⟩;have he:e=0:=he.trans hb1.1;have ho:o=0:=ho.trans (am hb1.1);have hw2:w2=iB (jh (ns,ls,hs)) 0 0 (build ((fg (ns,ls,hs)).1,dst,pr,f,tg,T)):=hw2.trans (am hb1.1);have hok2:=hb1.2.ok;have hnow:=hb1.2.now;have F:=aX5 C g hTT (show 0<ns.length by omega) hok hok2;rw[← hw2] at F hok2 hnow;clear hw2 hb1
  subst he ho;refine⟨.inl hok2.sim,?_⟩;rintro y z ⟨hy,hz⟩;have hq:pk w2 1099511627776=0:=by unfold pk;rw[hnow];decide
  have hz:z=0:=hz.trans hq;have hy:y=tZ w2 1099511627776:=hy.trans (am hq);subst hz;rw[← hy] at F;clear hy hq hok2 hnow;rintro b1 rfl
  (repeat refine⟨λh_=>(by first|(simp;done)|(simp[h_];done)|(simp_all;done)),?_⟩);rintro b2 rfl
  (repeat refine⟨λh_=>(by first|(simp;done)|(simp[h_];done)|(simp_all;done)),?_⟩);refine uM.2 ⟨W,by decide,by omega,?_⟩;rintro u v e hw;have L:=aH8 D (at':=0) (who:=0) (k:=(k1,k2,k3,k4,k5)) (fZ _) (show (0:Int)<ns.length by omega);rw[← hw] at L;have hw:(u,v,e)=bd (ns,ls,hs) ((fg (ns,ls,hs)).1,dst,pr,f,tg,T):=by rw[hw,hk]
  obtain⟨e0,r,hf,F,hen,hdn,hdl⟩:=F;rw[hf];have wi:B2 (ns,ls,hs) (u,v,e):=L.i.r;refine⟨by omega,?_⟩;rintro q rfl;rintro b3 hb3;have hb3:b3=false:=by rw[hb3];exact dP (by rw[dN];omega)
  subst hb3
  (repeat refine⟨λh_=>(by first|exact⟨λ_=>h_,λ_=>h_,by omega,trivial⟩|(simp;done)|(simp[h_];done)|(simp_all;done)),?_⟩);rw[cM rfl];refine uM.2 ⟨wi,?_⟩;rintro i ok ⟨hi,hok'⟩;obtain⟨F1,F2,F3⟩:=F;rw[← hw] at F1 F2 F3;have F1:iz (ns,ls,hs) (u,v,e) T=true->_:=F1;have F2:iz (ns,ls,hs) (u,v,e) T=true->_:=F2;have F3:iz (ns,ls,hs) (u,v,e) T=true->_:=F3;have ec:vT (ns,ls,hs) ((fg (ns,ls,hs)).1,dst,pr,f,tg,T)↔((e=5/\i=(u.length:Int)-1)∨(e=2/\u.length=1)):=by
   unfold vT;rw[← hw,hi]
  have li:u.length=v.length+1:=L.i.l;cases ok with
  | false =>
   have:=aT5 (w:=(u,v,e)) (T:=T) (by omega) (by omega) hok'.symm;show ∀ _,_;rintro b rfl
   (repeat refine⟨λh_=>(by first|(simp;done)|(simp[h_];done)|(simp_all;done)),?_⟩);have this:e≠1∨u.length<=1:=this;by_cases h1:e=1
   .rw[cM (show (u.length:Int)=1 by omega)];cases decide (e=1) <;> rfl
   .rw[dP h1];rfl
  | true =>
   obtain⟨i1,i2⟩:=UD hok'.symm;rw[← hi] at i1 i2;have i2:i+1<=u.length:=i2;have F1:=F1 hok'.symm;have F2:=F2 hok'.symm;have F3:=F3 hok'.symm;rw[ec] at F1 F2 F3;rw[show db ((fg (ns,ls,hs)).1,dst,pr,f,tg,T)=T from rfl,← hi] at F2 F3;have hm:=L.i.m;have hm:v.length<=255:=hm;have e00:getD (e0::r) (toNat 0) default=e0:=rfl;have lr:(0:Int)<((e0::r).length:Int):=by simp only[dN];omega
   rw[e00];rw[aG (n:=(u.length:Int)-1) (by omega) (by omega),aG (n:=i-1) (by omega) (by omega)];refine uM.2 ?_;rintro b4 hb4
   (repeat refine⟨λh_=>(by first|(simp;done)|(simp[h_];done)|(simp_all;done)),?_⟩);rintro b5 hb5
   (repeat refine⟨λh_=>(by first|(simp;done)|(simp[h_];done)|(simp_all;done)),?_⟩);rintro b6 hb6
   (repeat refine⟨λh_=>(by first|(simp;done)|(simp[h_];done)|(simp_all;done)),?_⟩);have hc:(bif b5 then true else bif b6 then decide ((u.length:Int)=1) else false)=decide ((e=5/\i=(u.length:Int)-1)∨(e=2/\u.length=1)):=by
    rw[hb5,hb6,hb4];by_cases h5:e=5
    .have h2:¬ e=2:=by omega
     simp[h5]
    .by_cases h2:e=2 <;> simp[h5,h2];omega
   rw[hc];refine aw (λh=>?_) (λh=>?_)
   .have hF:=F1 (aI h);refine⟨by decide,lr,?_⟩;have hF:e0.2.2.2.2=6∨e0.2.2.2.2=8:=hF;rintro b7 hb7
    (repeat refine⟨λh_=>(by first|exact⟨λ_=>h_,by decide,lr,trivial⟩|(simp;done)|(simp[h_];done)|(simp_all;done)),?_⟩);rw[hb7];rcases hF with hF|hF <;> rw[hF] <;> rfl
   .have h:=aL h;obtain⟨g1,g2,g3,g4⟩:=F2 h;have g1:e0.2.2.1=u.getD i.toNat default:=g1;have g2:e0.2.2.2.1=v.getD (i-1).toNat default:=by rw[show (i-1).toNat=i.toNat-1 by omega];exact g2
    have d2:=L.d2 D;refine⟨by decide,by omega,by omega,⟨rm (show (v.take i.toNat).length<=v.length by rw[dA];exact Nat.min_le_right _ _) d2.len,λk hk=>d2.k k (oP (i:=i.toNat) hk),d2.d⟩,?_⟩;rintro x1 x2 ⟨rfl,rfl⟩;have g3:¬ e0.2.1<lW (ns,ls,hs) (cL v (toNat 0) i.toNat):=Int.not_lt.2 g3;have g4:¬ ma (ns,ls,hs) (cL v (toNat 0) i.toNat)<e0.2.1:=Int.not_lt.2 g4;refine⟨by decide,lr,by omega,by omega,?_⟩;rintro b7 hb7;have hb7:b7=false:=by rw[hb7,cM g1];rfl
    subst hb7
    (repeat refine⟨λh_=>(by first|((repeat refine⟨λ_=>h_,?_⟩);exact⟨by decide,lr,trivial⟩)|((repeat refine⟨λ_=>h_,?_⟩);exact⟨by omega,by omega,trivial⟩)|(simp;done)|(simp[h_];done)|(simp_all;done)),?_⟩);rintro b8 hb8;have hb8:b8=false:=by rw[hb8,cM g2];rfl
    subst hb8
    (repeat refine⟨λh_=>(by first|((repeat refine⟨λ_=>h_,?_⟩);exact⟨by decide,lr,trivial⟩)|(simp;done)|(simp[h_];done)|(simp_all;done)),?_⟩);rintro b9 hb9;have hb9:b9=false:=by rw[hb9,dP g3];rfl
    subst hb9
    (repeat refine⟨λh_=>(by first|((repeat refine⟨λ_=>h_,?_⟩);exact⟨by decide,lr,trivial⟩)|(simp;done)|(simp[h_];done)|(simp_all;done)),?_⟩);rw[dP g4];refine uM.2 ⟨D.okNet,wi,?_⟩;rintro fr kn ⟨hfr,hkn⟩;refine⟨by decide,lr,?_⟩;rintro b10 hb10
    (repeat refine⟨λh_=>(by first|(simp;done)|(simp[h_];done)|(simp_all;done)),?_⟩);rintro b11 hb11
    (repeat refine⟨λh_=>(by first|(simp;done)|(simp[h_];done)|(simp_all;done)),?_⟩);rintro b12 hb12
    (repeat refine⟨λh_=>(by first|(simp;done)|(simp[h_];done)|(simp_all;done)),?_⟩);refine aw (λ_=>rfl) (λhz=>?_);have hz:(e0.2.2.2.2=2/\kn=true)∧¬ (e=1/\i=(u.length:Int)-1):=by
     rw[hb12,hb11,hb10] at hz;by_cases q1:e0.2.2.2.2=2
     .rw[cM q1] at hz;cases kn with
      | false=>exact absurd hz (by simp)
      | true =>
       refine⟨⟨q1,rfl⟩,λq=>?_⟩;rw[cM q.1,cM q.2] at hz;exact absurd hz (by simp)
     .rw[dP q1] at hz;exact absurd hz (by simp)
    have F4:=F3 h hz.1.1 (hkn.symm.trans hz.1.2) (λq=>hz.2 ⟨q.1,q.2⟩);refine⟨⟨0,⟨by decide,by omega⟩,(by repeat' first|exact trivial|refine⟨trivial,?_⟩|refine⟨(by with_reducible rfl),?_⟩|refine⟨aG (by omega) (by omega),?_⟩|refine⟨rfl,?_⟩)⟩,?_⟩;rintro j ⟨j0,j1⟩;refine aw (λhj=>?_) (λ_=>rfl);have hj:j<(bM y).length:=aI hj;have hmem:=bR j0 hj;have hdl:=hdl _ hmem;have F4:=F4 _ hmem;have hdl:(((bM y).getD j.toNat default).2.2.length:Int)<=2000:=hdl;refine⟨j0,hj,Int.le_trans hdl (by decide),?_⟩;rintro a1 a2 a3 a4 a5 a6 c1 c2 c3 c4 c5 c6 x ⟨-,hc,hx⟩;rw[show y.2.2.2.2.2.2.2.1=bM y from rfl] at hc hx;have key:x=0->c1=fr/\c2=1:=λq=>by
     by_cases hg:uc ((bM y).getD j.toNat default).2.2
     .obtain⟨r1,r2⟩:=F4 hg;rw[← hc] at r1 r2;exact⟨r1.trans hfr.symm,r2⟩
     .rw[hx,pF,af hg] at q;cases q
    rintro b13 hb13
    (repeat refine⟨λh_=>(by first|(simp;done)|(simp[h_];done)|(simp_all;done)),?_⟩);rintro b14 hb14
    (repeat refine⟨λh_=>(by first|(simp;done)|(simp[h_];done)|(simp_all;done)),?_⟩);rintro b15 hb15
    (repeat refine⟨λh_=>(by first|(simp;done)|(simp[h_];done)|(simp_all;done)),?_⟩);rintro b16 hb16
    (repeat refine⟨λh_=>(by first|(simp;done)|(simp[h_];done)|(simp_all;done)),?_⟩);have hz:(bif b14 then bif b15 then true else bif b16 then !decide (c2=5) else false else false)=false:=by
     rw[hb16,hb15,hb14,hb13];by_cases q:x=0
     .obtain⟨k1,k2⟩:=key q;rw[cM k1,cM k2];cases (bif decide (x=0) then decide (a5=tg) else false) <;> rfl
     .rw[dP q];rfl
    rw[hz];refine uM.2 ⟨j+1,⟨by omega,by omega⟩,by omega,?_⟩
    (repeat first|refine⟨trivial,?_⟩|refine⟨(by with_reducible rfl),?_⟩|refine⟨aG (by omega) (by omega),?_⟩);trivial
theorem ok_law16_TruthTraces:aB 3 QW.spec:=aF Tryz.func3 (av (av (av (av (av (av (av (av (av (av (av (av (av (av (av (av (av (av (av (av aC YU) (Ct.named Pz)) V0) Ux) Yn) LJ) aN2) (Ct.named az0)) (Ct.named as9)) (Ct.named WZ)) (Ct.named aa8)) (Ct.named ZK)) (Ct.named Rb)) (Ct.named az7)) YB) Zi) (Ct.named an3)) (Ct.named Ve)) (Ct.named al4)) (Ct.named az8)) aS1 aQ9
end Go.RS
