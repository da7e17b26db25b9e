/- Drawn: what holds of drawn networks: their nodes, links, routes and changes. -/
import Derived.Test.YtpdpkobkpacbnaaGreatDoorNode2
import Derived.Test.YtpdpkobkpacbnaaGreatDoorNetdraw
import Derived.Test.YtpdpkobkpacbnaaGreatDoorNodec
set_option maxRecDepth 100000
set_option linter.unusedVariables false
open List (length replicate range)
namespace Go.RS
open Go.SX Go.Proofs
structure NP (i:Int) (x:au):Prop where
 own:Gl x=1+i/3
 loop:fA x=0∨fA x=167903232+i
 src:(fX x=1∨fX x=2)∨(fX x=3/\fA x=167903232+i)∨(fX x=4/\167837696<=oD x)
 fix:oD x=0∨(167837696<=oD x/\oD x<167837736)
 id:(0<=qK x/\qK x<=5)/\(0<=mZ x/\mZ x<=65535)/\0<=wP x/\wP x<=1000000
 lim:jT x=(0,0)∨(1<=(jT x).1/\(jT x).1<=3/\1<=(jT x).2/\(jT x).2<=200)
 first:iE x=64∨iE x=255∨iE x=128
 seed:0<=rG x/\rG x<=255
theorem NP.new{i:Int}{host:Bool}{f sd:Int}(hf:f=64∨f=255∨f=128)(h0:0<=sd)(h1:sd<=255):NP i (sk i host f sd) :=
 ⟨rfl,.inl rfl,.inl (.inl rfl),.inl rfl,⟨⟨by show (0:Int)<=0;decide,by show (0:Int)<=5;decide⟩,⟨by show (0:Int)<=0;decide,by show (0:Int)<=65535;decide⟩,by show (0:Int)<=0;decide,by show (0:Int)<=1000000;decide⟩,.inl rfl,hf,h0,h1⟩
theorem NP.same{i:Int}{x y:au}(h:NP i x)(e:x.2=y.2):NP i y:=by
 obtain⟨p,x⟩:=x
 obtain⟨q,y⟩:=y
 cases e
 exact⟨h.own,h.loop,h.src,h.fix,h.id,h.lim,h.first,h.seed⟩
theorem NP.routes{i:Int}{x y:au}(h:NP i x)(e:zm x []=zm y []):NP i y:=by
 have k:NP i (zm x []):=⟨h.own,h.loop,h.src,h.fix,h.id,h.lim,h.first,h.seed⟩
 rw[e] at k
 exact⟨k.own,k.loop,k.src,k.fix,k.id,k.lim,k.first,k.seed⟩
theorem NP.way{i:Int}{x:au}(h:NP i x){c:aX}(hc:cT c):NP i (iw x i c).1:=by
 have a:=fu hc (n:=10) ab
 have ca:=(dq hc 10).1
 have b:=fu ca (n:=3) ab
 have cb:=(dq ca 3).1
 have e:=fu cb (n:=200) ab
 have f:=fu ca (n:=40) ab
 unfold iw
 dsimp only
 split
 .exact⟨h.own,h.loop,h.src,h.fix,h.id,h.lim,h.first,h.seed⟩
 split
 .refine⟨h.own,h.loop,h.src,h.fix,h.id,.inr ?_,h.first,h.seed⟩;show 1<=1+_/\1+_<=(3:Int)/\1<=1+_/\1+_<=(200:Int)
  omega
 split
 .exact⟨h.own,h.loop,h.src,h.fix,h.id,h.lim,h.first,h.seed⟩
 split
 .exact⟨h.own,h.loop,.inl (.inr rfl),h.fix,h.id,h.lim,h.first,h.seed⟩
 split
 .exact⟨h.own,.inr rfl,.inr (.inl ⟨rfl,rfl⟩),h.fix,h.id,h.lim,h.first,h.seed⟩
 split
 .refine⟨h.own,h.loop,.inr (.inr ⟨rfl,?_⟩),.inr ⟨?_,?_⟩,h.id,h.lim,h.first,h.seed⟩
  .show 167837696<=167837696+_;omega
  .show 167837696<=167837696+_;omega
  .show 167837696+_<167837736;omega
 .exact h
theorem NP.od{i:Int}{x:au}(h:NP i x){c:aX}(hc:cT c):NP i (xO x i c).1:=by
 have k:=h.way hc
 have kc:=Ko (x:=x) (i:=i) hc
 have a:=fu kc (n:=6) ab
 have ca:=(dq kc 6).1
 have b:=fu ca (n:=65536) ab
 have cb:=(dq ca 65536).1
 have e:=fu cb (n:=1000) ab
 refine⟨k.own,k.loop,k.src,k.fix,?_,k.lim,k.first,k.seed⟩
 show (0<=(ax (iw x i c).2 6).1/\(ax (iw x i c).2 6).1<=5)/\(0<=(ax (ax (iw x i c).2 6).2 65536).1/\(ax (ax (iw x i c).2 6).2 65536).1<=65535)/\0<=(ax (ax (ax (iw x i c).2 6).2 65536).2 1000).1/\(ax (ax (ax (iw x i c).2 6).2 65536).2 1000).1<=1000000
 omega
theorem NP.opq{i:Int}{x:au}(h:NP i x)(b:Bool):NP i (Ff x b):=⟨h.own,h.loop,h.src,h.fix,h.id,h.lim,h.first,h.seed⟩
def sM(ns:List au):Prop:=∀ i:Nat,i<ns.length->NP i (ns.getD i default)
theorem sM.set{ns:List au}(h:sM ns){i:Nat}{x:au}(hx:i<ns.length->NP i x):sM (ns.set i x):=λj hj=>by
 rw[gC] at hj
 by_cases e:i=j
 .subst e;rw[kv hj];exact hx hj
 .rw[nt e];exact h j hj
structure LK (l0 l:aK):Prop where
 a:lA l=lA l0
 b:lB l=lB l0
 d:gQ l=gQ l0
 s:wD l=wD l0
 j:0<=fO l/\fO l<=9
 o:0<=oF l/\oF l<=65536
theorem LK.od{l0 l:aK}(h:LK l0 l){c:aX}(hc:cT c):LK l0 (odLink l c).1:=by
 have a:=fu hc (n:=6) ab
 have ca:=(dq hc 6).1
 have b:=fu ca (n:=10) ab
 have e:=fu ca (n:=3) ab
 unfold odLink
 dsimp only
 split
 .refine⟨h.a,h.b,h.d,h.s,?_,h.o⟩;show 0<=(ax (ax c 6).2 10).1/\(ax (ax c 6).2 10).1<=9;omega
 split
 .refine⟨h.a,h.b,h.d,h.s,h.j,?_⟩;show 0<=([65536,20000,3]:ae).getD (ax (ax c 6).2 3).1.toNat default/\([65536,20000,3]:ae).getD (ax (ax c 6).2 3).1.toNat default<=65536;rcases (show (ax (ax c 6).2 3).1=0∨(ax (ax c 6).2 3).1=1∨(ax (ax c 6).2 3).1=2 by omega) with e|e|e <;> rw[e] <;> decide
 .exact h
structure qg (ls0 ls:List aK):Prop where
 n:ls.length=ls0.length
 k:∀ i:Nat,i<ls0.length->LK (ls0.getD i default) (ls.getD i default)
theorem qg.set{ls0 ls:List aK}(h:qg ls0 ls){i:Nat}{x:aK}(hx:i<ls0.length->LK (ls0.getD i default) x):qg ls0 (ls.set i x):=by
 refine⟨by rw[gC];exact h.n,λj hj=>?_⟩
 by_cases e:i=j
 .subst e;rw[kv (by rw[h.n];exact hj)];exact hx hj
 .rw[nt e];exact h.k j hj
theorem qg.mem{ls0 ls:List aK}(h:qg ls0 ls){l:aK}(hl:l∈ls):∃ l0∈ls0,LK l0 l:=by
 obtain⟨i,hi,e⟩:=List.mem_iff_getElem.1 hl
 have:=h.k i (by rw[← h.n];exact hi)
 rw[bJ (l:=ls),cK hi,e] at this
 exact⟨_,n6 (by rw[← h.n];exact hi),this⟩
theorem qg.lnk{ls0 ls:List aK}(h:qg ls0 ls){i k:Int}(hk:lnk ls0 i k):lnk ls i k:=by
 obtain⟨k0,k1,k2⟩:=hk
 have e:=h.k k.toNat ab
 exact⟨k0,by rw[h.n];exact k1,by rw[e.a,e.b];exact k2⟩
theorem QI(i:Int):∀(k:Nat)(ls ls':List aK),ls'.length=ls.length->(∀ j:Nat,j<ls.length->lA (ls'.getD j default)=lA (ls.getD j default)/\lB (ls'.getD j default)=lB (ls.getD j default))->portsF i k ls'=portsF i k ls
 | k,[],[],_,_=>rfl
 | k,x::r,[],h,_=>by cases h
 | k,[],x::r,h,_=>by cases h
 | k,x::r,y::t,h,e=>by
  have e0:=e 0 aA;rw[List.getD_cons_zero,List.getD_cons_zero] at e0;rw[portsF,portsF,pN,pN,e0.1,e0.2,QI i (k+1) r t (by simpa using h) λj hj=>by
   have:=e (j+1) (by simp;omega);rw[List.getD_cons_succ,List.getD_cons_succ] at this;exact this]
theorem qg.portsF{ls0 ls:List aK}(h:qg ls0 ls)(i:Int)(k:Nat):portsF i k ls=Go.RS.portsF i k ls0 :=
 QI i k ls0 ls h.n λj hj=>⟨(h.k j hj).a,(h.k j hj).b⟩
theorem nE.lk{ls0 ls:List aK}(h:qg ls0 ls){aa:ae}{i:Int}{t:List Rt}(k:nE ls0 aa i t):nE ls aa i t :=
 ⟨k.1,λr hr=>by
  have q:=k.2 r hr;exact⟨q.len,q.mem,q.ne,q.pw,λx hx=>h.lnk (q.ln x hx),q.w0,q.w1⟩⟩
structure CH (ns:List au) (c:aV):Prop where
 at':0<=fc c/\fc c<=180
 w:0<=bL c/\bL c<ns.length
 r:qj c=false
 p:∃ r∈aU (ns.getD (bL c).toNat default),(dO c).1=r.1/\(dO c).2.2=r.2.2
 x:(dO c).2.1=[]∨∃ q∈ay (ns.getD (bL c).toNat default),(dO c).2.1=[q.2]
def BJ:ae:=(range 10).flatMap λ(k:Nat)=>[gv k+1,gv k+2]
theorem N8{a:Int}{k:Nat}(hk:k<10)(h:a=gv k+1∨a=gv k+2):a∈BJ:=by
 refine List.mem_flatMap.2 ⟨k,List.mem_range.2 hk,?_⟩
 rcases h with h|h <;> rw[h] <;> simp
theorem nE.sub{ls:List aK}{aa bb:ae}{i:Int}{t:List Rt}(h:nE ls aa i t)(hs:∀ a∈aa,a∈bb):nE ls bb i t :=
 ⟨h.1,λr hr=>by
  have q:=h.2 r hr;exact⟨q.len,hs _ q.mem,q.ne,q.pw,q.ln,q.w0,q.w1⟩⟩
structure DN (n:aQ):Prop where
 n3:3<=n.1.length
 n7:n.1.length<=7
 l2:2<=n.2.1.length
 l10:n.2.1.length<=10
 h3:n.2.2.length<=3
 g:∀ x∈n.2.1,(0<=lA x/\lA x<n.1.length)/\(0<=lB x/\lB x<n.1.length)/\lA x≠lB x/\(1<=gQ x/\gQ x<=20)/\(0<=fO x/\fO x<=9)/\(0<=oF x/\oF x<=65536)/\0<=wD x/\wD x<=255
 p:∀ i:Nat,i<n.1.length->ay (n.1.getD i default)=portsF i 0 n.2.1
 d:sM n.1
 t:∀ i:Nat,i<n.1.length->nE n.2.1 BJ i (aU (n.1.getD i default))
 o:∀ x∈n.2.1,iS n.1 x=false
 c:∀ x∈n.2.2,CH n.1 x
 s:n.2.2.Pairwise λa b=>fc a<=fc b
theorem L6{s:bu}(h:sM s.1.1)(hc:cT s.2):∀{i:Nat},i<=s.1.1.length->sM (oN s i).1
 | 0,_=>h
 | i+1,hi=>by
  have k:=L6 h hc (i:=i) ab;have b:=(Gt s hc (i:=i) ab).2;rw[show ((i+1:Nat):Int)=(i:Int)+1 by omega,Mh s ab];unfold xP;refine k.set λhl=>?_;have e:((i:Int).toNat:Nat)=i:=ab;rw[e] at hl ⊢;exact (k i hl).od b
theorem ab0{ns:List au}(h:sM ns){l:aK}(hl:0<=lB l):sM (sy ns l):=by
 unfold sy
 split
 .exact h.set λhi=>(h _ hi).opq _
 .exact h
theorem WW{ns:List au}{l:aK}(hb:0<=lB l/\lB l<ns.length):iS (sy ns l) l=false:=by
 unfold sy
 split
 .unfold iS;rw[kv ab];exact Bool.and_false _
 next h=>unfold iS;cases h1:dI (ns.getD (lA l).toNat default) <;> cases h2:dI (ns.getD (lB l).toNat default) <;> simp_all
theorem aB4{ns:List au}{l m:aK}(h:iS ns m=false):iS (sy ns l) m=false:=by
 unfold sy
 split
 .have set_op:∀(i j:Nat),dI (ns.getD j default)=false->dI ((ns.set i (Ff (ns.getD i default) false)).getD j default)=false:=λi j hj=>by
   by_cases e:i=j
   .subst e;by_cases hl:i<ns.length
    .rw[kv hl];rfl
    .rw[List.set_eq_of_length_le ab];exact hj
   .rw[nt e];exact hj
  unfold iS at h ⊢;rw[Bool.and_eq_false_iff] at h ⊢;exact h.imp (set_op _ _) (set_op _ _)
 .exact h
theorem LN{ns:List au}{l m:aK}(ha:lA l=lA m)(hb:lB l=lB m):iS ns l=iS ns m:=by unfold iS;rw[ha,hb]
structure MA (s:bu) (i:Nat):Prop where
 np:sM (oL s i).1.1
 lk:qg s.1.2.1 (oL s i).1.2
 df:∀ k:Nat,k<i->iS (oL s i).1.1 (s.1.2.1.getD k default)=false
theorem Hx{s:bu}(h:sM s.1.1)(hc:cT s.2)(hg:iQ s.1.1.length s.1.2.1)(hl:qg s.1.2.1 s.1.2.1):∀{i:Nat},i<=s.1.2.1.length->MA s i
 | 0,_=>⟨L6 h hc (ir _),hl,λk hk=>ab⟩
 | i+1,hi=>by
  have k:=Hx h hc hg hl (i:=i) ab;obtain⟨ag,cb,ge,ll⟩:=ym s hc hg (i:=i) ab;have hb:=hg.at' (k:=i) ab;have e:((i:Int).toNat:Nat)=i:=ab;have lk1:=(k.lk.k i ab).od cb;have hn:=ag.n;have step:oL s ((i+1:Nat):Int)=uk (oL s i) i:=by
   rw[show ((i+1:Nat):Int)=(i:Int)+1 by omega,LL s ab,e]
  have fin:MA s (i+1):=by
   refine⟨?_,?_,λj hj=>?_⟩
   .rw[step];unfold uk;dsimp only;refine ab0 k.np ?_;rw[lk1.b];exact hb.2.1
   .rw[step];unfold uk;dsimp only;exact k.lk.set λ_=>lk1
   .rw[step];unfold uk;dsimp only;by_cases q:j=i
    .subst q;rw[← LN (l:=(odLink ((oL s j).1.2.getD j default) (oL s j).2).1) lk1.a lk1.b];refine WW ?_;rw[lk1.b,hn];exact hb.2
    .exact aB4 (k.df j ab)
  exact fin
structure C0 (ns:List au) (m:Nat) (x:List aV×Int×aX):Prop where
 c:cT x.2.2
 a:0<=x.2.1/\x.2.1<=60*m
 n:x.1.length<=m
 h:∀ y∈x.1,CH ns y/\fc y<=x.2.1
 s:x.1.Pairwise λa b=>fc a<=fc b
theorem C0.next{ns:List au}{m:Nat}{x:List aV×Int×aX}(h:C0 ns m x)(hm:m<3)(h0:0<ns.length)(hp:∀ x∈ns,aU x≠[]->0<(ay x).length):C0 ns (m+1) (pU ns x):=by
 have a:=fu h.c (n:=60) ab
 have k1:=(dq h.c 60).1
 have w:=fu k1 (n:=(ns.length:Int)) ab
 have k2:=(dq k1 (ns.length:Int)).1
 have ha:=h.a
 have hn:=h.n
 unfold pU
 dsimp only
 have hX:=bR (xs:=ns) w.1 w.2
 generalize eX:ns.getD (ax (ax x.2.2 60).2 (ns.length:Int)).1.toNat default=X at hX ⊢
 split
 .refine⟨k2,?_,?_,λy hy=>⟨(h.h y hy).1,?_⟩,h.s⟩
  .show 0<=x.2.1+_/\x.2.1+_<=60*((m+1:Nat):Int);omega
  .show x.1.length<=m+1;omega
  .have:=(h.h y hy).2;show fc y<=x.2.1+_;omega
 next hr=>
  have hr':aU X≠[]:=λe=>hr (by rw[e];rfl);have q3:=fu k2 (n:=((aU X).length:Int)) ab;have b3:=(dq k2 ((aU X).length:Int)).1;have hpp:=hp X hX hr';have q4:=fu b3 (n:=((ay X).length:Int)) ab;have b4:=(dq b3 ((ay X).length:Int)).1;have b5:=(dq b4 4).1;refine⟨b5,?_,?_,λy hy=>?_,?_⟩
  .show 0<=x.2.1+_/\x.2.1+_<=60*((m+1:Nat):Int);omega
  .show (x.1++[_]).length<=m+1;rw[cA,gc];omega
  .rcases dB.1 hy with hy|hy
   .refine⟨(h.h y hy).1,?_⟩;have:=(h.h y hy).2;show fc y<=x.2.1+_;omega
   .rw[iI.1 hy];refine⟨⟨?_,w,rfl,?_,?_⟩,fZ _⟩
    .show 0<=x.2.1+_/\x.2.1+_<=180;omega
    .refine⟨(aU X).getD (ax (ax (ax x.2.2 60).2 (ns.length:Int)).2 ((aU X).length:Int)).1.toNat default,?_,rfl,rfl⟩;show _∈aU (ns.getD (ax (ax x.2.2 60).2 (ns.length:Int)).1.toNat default);rw[eX];exact bR q3.1 q3.2
    .by_cases hz:(ax (ax (ax (ax (ax x.2.2 60).2 (ns.length:Int)).2 ((aU X).length:Int)).2 ((ay X).length:Int)).2 4).1=3
     .exact .inl (am hz)
     .refine .inr ⟨(ay X).getD (ax (ax (ax (ax x.2.2 60).2 (ns.length:Int)).2 ((aU X).length:Int)).2 ((ay X).length:Int)).1.toNat default,?_,af hz⟩;show _∈ay (ns.getD (ax (ax x.2.2 60).2 (ns.length:Int)).1.toNat default);rw[eX];exact bR q4.1 q4.2
  .refine List.pairwise_append.2 ⟨h.s,List.pairwise_singleton _ _,λy hy z hz=>?_⟩;have:=(h.h y hy).2;rw[iI.1 hz];show fc y<=x.2.1+_;omega
theorem xp{α:Type} [Inhabited α] {l:List α} {x:α} (h:x∈l):∃ i:Nat,i<l.length/\l.getD i default=x:=by
 obtain⟨i,hi,e⟩:=List.mem_iff_getElem.1 h
 exact⟨i,hi,by rw[bJ,cK hi,e];rfl⟩
theorem RS.np{s r:bu}{nn nl:Nat}(h:RS s nn nl r):sM r.1.1:=λi hi=>by
 have hi':i<nn:=by have:=h.i.n;have:=h.g.n;omega
 obtain⟨host,f,sd,hd,hf,h0,h1⟩:=h.g.d i hi'
 have e:=h.i.e i (by rw[h.g.n];exact hi')
 exact NP.routes (NP.same (NP.new (host:=host) hf h0 h1) hd.symm) e.symm
theorem RS.opq{s r:bu}{nn nl:Nat}(h:RS s nn nl r){i:Nat}(hi:i<nn):dI (r.1.1.getD i default)=false:=by
 obtain⟨host,f,sd,hd,-⟩:=h.g.d i hi
 have e:=jn dI (h.i.e i (by rw[h.g.n];exact hi))
 have e2:dI (s.1.1.getD i default)=dI (sk i host f sd):=jn (λz=>dI (([]:List (Int×Int)),z)) hd
 exact e.trans e2
theorem RS.adr{s r:bu}{nn nl:Nat}(h:RS s nn nl r)(hl:nl<=10):∀ a∈i5 s.1.1,a∈BJ:=λa ha=>by
 unfold i5 at ha
 obtain⟨x,hx,ha⟩:=List.mem_flatMap.1 ha
 obtain⟨q,hq,rfl⟩:=List.mem_map.1 ha
 obtain⟨i,hi,rfl⟩:=xp hx
 rw[h.g.p i (by rw[← h.g.n];exact hi)] at hq
 obtain⟨j,hj,e⟩:=A0.1 hq
 rw[h.g.l] at hj
 rw[gh] at e
 rcases e with⟨-,rfl⟩|⟨-,rfl⟩
 .exact N8 (k:=j) ab (.inl rfl)
 .exact N8 (k:=j) ab (.inr rfl)
theorem RS.links{s r:bu}{nn nl:Nat}(h:RS s nn nl r):r.1.2.1=s.1.2.1:=jn Prod.fst h.l
theorem RS.lk{s r:bu}{nn nl:Nat}(h:RS s nn nl r):qg r.1.2.1 r.1.2.1:=⟨rfl,λi hi=>by
 rw[h.links] at hi ⊢
 have:=h.g.g _ (n6 hi)
 exact⟨rfl,rfl,rfl,rfl,ab,ab⟩⟩
theorem RS.dn{s r:bu}{nn nl:Nat}(h:RS s nn nl r)(n3:3<=nn)(n7:nn<=7)(l2:2<=nl)(l10:nl<=10):DN r.1:=by
 have rn:r.1.1.length=nn:=h.i.n.trans h.g.n
 have rl:=h.links
 have rh:r.1.2.2=[]:=(jn Prod.snd h.l).trans h.g.h
 refine⟨ab,ab,by rw[rl,h.g.l];exact l2,by rw[rl,h.g.l];exact l10,by rw[rh];exact Nat.zero_le _,λx hx=>?_,λi hi=>?_,h.np,λi hi=>?_,λx hx=>?_,λx hx=>?_,?_⟩
 .rw[rl] at hx;have:=h.g.g x hx;rw[rn];omega
 .rw[rl];exact h.ports ab
 .rw[rl];exact (h.tab ab).sub (h.adr l10)
 .rw[rl] at hx;have g:=h.g.g x hx;unfold iS;rw[h.opq (i:=(lA x).toNat) ab];rfl
 .rw[rh] at hx;cases hx
 .rw[rh];exact List.Pairwise.nil
theorem NE{s:bu}(h:cT s.2)(hg:iQ s.1.1.length s.1.2.1)(h0:0<s.1.1.length)(hp:∀ x∈(oL s s.1.2.1.length).1.1,aU x≠[]->0<(ay x).length):∀ i:Nat,i<=3->C0 (oL s s.1.2.1.length).1.1 i (oC s i)
 | 0,_=>⟨(dq (ym s h hg (fZ _)).2.1 4).1,⟨fZ _,fZ _⟩,ir _,λy hy=>(by cases hy),List.Pairwise.nil⟩
 | i+1,hi=>by
  rw[IG];exact (NE h hg h0 hp i ab).next ab (by rw[(ym s h hg (fZ _)).1.n];exact h0) hp
theorem RS.odd{s r:bu}{nn nl:Nat}(h:RS s nn nl r)(n3:3<=nn)(n7:nn<=7)(l2:2<=nl)(l10:nl<=10):DN (o6 r).1:=by
 have rn:r.1.1.length=nn:=h.i.n.trans h.g.n
 have rl:=h.links
 have pre:=h.preO ab ab ab
 have ok:=ym r h.c pre.g (i:=r.1.2.1.length) (fZ _)
 have inv:=Hx h.np h.c pre.g h.lk (i:=r.1.2.1.length) (ir _)
 have ag:=ok.1
 have e:(o6 r).1=((oL r r.1.2.1.length).1.1,(oL r r.1.2.1.length).1.2,(oC r (oK r).toNat).1):=by
  unfold o6 oC oK oL oN;rfl
 have kk:=fu ok.2.1 (n:=4) ab
 have hp:∀ x∈(oL r r.1.2.1.length).1.1,aU x≠[]->0<(ay x).length:=λx hx hr=>by
  obtain⟨i,hi,rfl⟩:=xp hx;have q:=ag.e i (by rw[← ag.n];exact hi);rw[q.1];rw[q.2] at hr;exact (pre.p _ (n6 (by rw[← ag.n];exact hi)) hr).1
 have oc:=NE h.c pre.g pre.n0 hp (oK r).toNat (by unfold oK;omega)
 rw[e]
 have ln:(oL r r.1.2.1.length).1.1.length=nn:=ag.n.trans rn
 have ll:(oL r r.1.2.1.length).1.2.length=nl:=by rw[inv.lk.n,rl,h.g.l]
 refine⟨by rw[ln];exact n3,by rw[ln];exact n7,by rw[ll];exact l2,by rw[ll];exact l10,?_,λx hx=>?_,λi hi=>?_,inv.np,λi hi=>?_,λx hx=>?_,λx hx=>(oc.h x hx).1,oc.s⟩
 .have:=oc.n;have:(oK r).toNat<=3:=by unfold oK;omega
  dsimp only;omega
 .obtain⟨l0,hl0,k⟩:=inv.lk.mem hx;rw[rl] at hl0;have g:=h.g.g l0 hl0;have ka:=k.a;have kb:=k.b;have kd:=k.d;have ks:=k.s;have kj:=k.j;have ko:=k.o;rw[ln,ka,kb,kd,ks];omega
 .dsimp only at hi ⊢;rw[(ag.e i ab).1,h.ports ab,inv.lk.portsF,rl]
 .dsimp only at hi ⊢;rw[(ag.e i ab).2];refine nE.sub (nE.lk inv.lk ?_) (h.adr l10);rw[rl];exact h.tab ab
 .dsimp only at hx ⊢;obtain⟨i,hi,rfl⟩:=xp hx;have hi':i<r.1.2.1.length:=by rw[← inv.lk.n];exact hi
  have k:=inv.lk.k i hi';rw[LN k.a k.b];exact inv.df i hi'
theorem D1{c:aX}(h:cT c)(plain:Bool):DN (jj plain c):=by
 have hn:=vz h
 obtain⟨m,m2,m10,G⟩:=DW h plain
 have R:=G.rs plain
 unfold jj BV
 cases plain with
 | true=>exact R.dn ab ab m2 m10
 | false=>exact R.odd ab ab m2 m10
theorem aU7{c:aX}(h:cT c)(plain:Bool):cT (yk plain c):=by
 obtain⟨m,m2,m10,G⟩:=DW h plain
 have R:=G.rs plain
 unfold yk BV
 cases plain with
 | true=>exact R.c
 | false =>
  have hn:=vz h;have pre:=R.preO ab ab ab;exact (GH _ R.c pre.g _).1
theorem aL3{l:ae}{m:Int}(h:∀ x∈l,0<=x/\x<=255):cT (if (l.length:Int)<=m then l else l.take m.toNat,0):=by
 refine⟨⟨fZ _,by dsimp only;omega⟩,λx hx=>?_⟩
 dsimp only at hx
 split at hx
 .exact h x hx
 .exact h x (oP hx)
theorem DN.port{n:aQ}(h:DN n){i:Nat}(hi:i<n.1.length){q:pj}:q∈ay (n.1.getD i default)↔∃ j:Nat,j<n.2.1.length/\((lA (n.2.1.getD j default)=i/\q=(gv j+1,(j:Int)))∨(lB (n.2.1.getD j default)=i/\q=(gv j+2,(j:Int)))):=by
 rw[h.p i hi,A0];simp only[gh]
theorem DN.links{n:aQ}(h:DN n){i:Nat}(hi:i<n.1.length){k:Int}:k∈bo (n.1.getD i default)↔lnk n.2.1 i k:=by
 unfold bo lnk
 rw[List.mem_map]
 constructor
 .rintro⟨q,hq,rfl⟩;obtain⟨j,hj,e⟩:=(h.port hi).1 hq;rcases e with⟨e,rfl⟩|⟨e,rfl⟩
  .exact⟨by dsimp only;omega,by dsimp only;omega,.inl (by simpa using e)⟩
  .exact⟨by dsimp only;omega,by dsimp only;omega,.inr (by simpa using e)⟩
 .rintro⟨k0,k1,e⟩;have ek:((k.toNat:Nat):Int)=k:=ab;rcases e with e|e
  .exact⟨_,(h.port hi).2 ⟨k.toNat,ab,.inl ⟨e,rfl⟩⟩,ek⟩
  .exact⟨_,(h.port hi).2 ⟨k.toNat,ab,.inr ⟨e,rfl⟩⟩,ek⟩
theorem DN.uniq{n:aQ}(h:DN n){i j:Nat}(hi:i<n.1.length)(hj:j<n.1.length){q p:pj}(hq:q∈ay (n.1.getD i default))(hp:p∈ay (n.1.getD j default))(e:q.1=p.1):i=j/\q.2=p.2:=by
 obtain⟨a,ha,ea⟩:=(h.port hi).1 hq
 obtain⟨b,hb,eb⟩:=(h.port hj).1 hp
 unfold gv at ea eb
 rcases ea with⟨ea,rfl⟩|⟨ea,rfl⟩ <;> rcases eb with⟨eb,rfl⟩|⟨eb,rfl⟩ <;> dsimp only at e ⊢
 .have:a=b:=ab;subst this;omega
 .omega
 .omega
 .have:a=b:=ab;subst this;omega
theorem DN.padr{n:aQ}(h:DN n){i:Nat}(hi:i<n.1.length){a:Int}(ha:a∈mg (n.1.getD i default)):167837697<=a/\a<=167837734:=by
 obtain⟨q,hq,rfl⟩:=List.mem_map.1 ha
 obtain⟨b,hb,eb⟩:=(h.port hi).1 hq
 have:=h.l10
 unfold gv at eb
 rcases eb with⟨eb,rfl⟩|⟨eb,rfl⟩ <;> dsimp only <;> omega
theorem DN.loop{n:aQ}(h:DN n){i:Nat}(hi:i<n.1.length):fA (n.1.getD i default)=0∨fA (n.1.getD i default)=167903232+i:=(h.d i hi).loop
theorem aF9{x:au}{a:Int}:a∈cG x↔a∈mg x∨(fA x≠0/\a=fA x):=by
 unfold cG
 rw[dB]
 by_cases e:fA x=0
 .rw[am e];simp[e]
 .rw[af e];simp[e]
theorem DN.apart{n:aQ}(h:DN n){i j:Nat}(hi:i<n.1.length)(hj:j<n.1.length){a:Int}(ha:a∈cG (n.1.getD i default))(hb:a∈cG (n.1.getD j default)):i=j:=by
 rw[aF9] at ha hb
 have li:=h.loop hi
 have lj:=h.loop hj
 rcases ha with ha|ha <;> rcases hb with hb|hb
 .obtain⟨q,hq,e⟩:=List.mem_map.1 ha;obtain⟨p,hp,e2⟩:=List.mem_map.1 hb;exact (h.uniq hi hj hq hp (e.trans e2.symm)).1
 .have:=h.padr hi ha;omega
 .have:=h.padr hj hb;omega
 .omega
theorem H7{ls:List aK}{i:Int}{t:List Rt}(h:nE ls BJ i t):t.length<=20:=G5 h
theorem DN.okNet{n:aQ}(h:DN n):okNet n:=by
 refine⟨λx hx=>?_,by have:=h.h3;omega,λc hc=>?_⟩
 .obtain⟨i,hi,rfl⟩:=xp hx;have t:=h.t i hi;have:=H7 t;refine⟨t.1,ab,λr hr=>?_⟩;have:=Fl (t.2 r hr);have:=h.l10;omega
 .rcases (h.c c hc).x with e|⟨q,-,e⟩ <;> rw[e] <;> simp
theorem PV{ls:List aK}{k:Int}(k0:0<=k)(k1:k<ls.length):fD ls k (lA (ls.getD k.toNat default))=lB (ls.getD k.toNat default):=by
 unfold fD;rw[af ab,am rfl]
theorem ND{ls:List aK}{k:Int}(k0:0<=k)(k1:k<ls.length)(hn:lA (ls.getD k.toNat default)≠lB (ls.getD k.toNat default)):fD ls k (lB (ls.getD k.toNat default))=lA (ls.getD k.toNat default):=by
 unfold fD;rw[af ab,af (λe=>hn e.symm),am rfl]
theorem XE{l:List Rt}{c:aV}{r:Rt}(h:r∈f7 l c):r=dO c∨r∈l:=by
 unfold f7 at h
 split at h
 .exact .inr (List.mem_filter.1 h).1
 .rcases K0.1 h with h|h
  .exact .inl h
  .exact .inr h.1
theorem aI0{n:aQ}{who at':Int}(w0:0<=who)(w1:who<n.1.length){P:Rt->Prop}(h0:∀ r∈aU (n.1.getD who.toNat default),P r)(hc:∀ c∈n.2.2,bL c=who->P (dO c)):∀ r∈d5 n who at',P r:=by
 unfold d5 qW
 rw[af ab]
 have e:∀(l:List aV)(t:List Rt),(∀ c∈l,bL c=who->P (dO c))->(∀ r∈t,P r)→∀ r∈l.foldl (Cd who at') t,P r:=by
  intro l
  induction l with
  | nil=>intro t _ h;exact h
  | cons c l ih =>
   intro t hl ht;rw[List.foldl_cons];refine ih _ (λx hx=>hl x (fM _ hx)) λr hr=>?_;unfold Cd at hr;split at hr
   .rename_i q;rcases XE hr with rfl|hr
    .exact hl c fY q.1
    .exact ht r hr
   .exact ht r hr
 exact e _ _ (λc hc'=>hc c (oP hc')) h0
theorem DN.next{n:aQ}(h:DN n){who at':Int}(w0:0<=who)(w1:who<n.1.length):∀ r∈d5 n who at',∀ k∈r.2.1,lnk n.2.1 who k:=by
 have ew:((who.toNat:Nat):Int)=who:=ab
 refine aI0 w0 w1 (λr hr k hk=>?_) (λc hc hw k hk=>?_)
 .have:=((h.t who.toNat ab).2 r hr).ln k hk;rw[ew] at this;exact this
 .have q:=(h.c c hc).x;rw[hw] at q;rcases q with e|⟨q,hq,e⟩
  .rw[e] at hk;cases hk
  .rw[e] at hk;rw[iI.1 hk];have:=(h.links (i:=who.toNat) ab).1 (List.mem_map.2 ⟨q,hq,rfl⟩);rw[ew] at this;exact this
theorem DN.other{n:aQ}(h:DN n){who k:Int}(hk:lnk n.2.1 who k):0<=fD n.2.1 k who/\fD n.2.1 k who<n.1.length:=by
 obtain⟨k0,k1,e⟩:=hk
 have g:=h.g _ (bR k0 k1)
 rcases e with e|e
 .rw[← e,PV k0 k1];exact g.2.1
 .rw[← e,ND k0 k1 g.2.2.1];exact g.1
def kQ(ls:List aK)(i:Int):Prop:=∃ l∈ls,lA l=i∨lB l=i
theorem kQ.app{ls:List aK}{i:Int}(h:kQ ls i)(m:List aK):kQ (ls++m) i:=by
 obtain⟨l,hl,e⟩:=h
 exact⟨l,gu _ hl,e⟩
theorem kQ.link{s:bu}{i:Int}(h:kQ s.1.2.1 i)(a b:Int):kQ (js s a b).1.2.1 i:=h.app _
theorem Pw(s:bu)(a b:Int):kQ (js s a b).1.2.1 a:=⟨_,jd _ fY,.inl rfl⟩
theorem au1(s:bu)(a b:Int):kQ (js s a b).1.2.1 b:=⟨_,jd _ fY,.inr rfl⟩
theorem MK(s:bu):∀ k j:Nat,j<k->kQ ((range k).foldl rH s).1.2.1 j
 | 0,j,h=>absurd h (Nat.not_lt_zero _)
 | k+1,j,h=>by
  rw[nj,iD];by_cases e:j<k
  .exact (MK s k j e).link (s:=kx ((range k).foldl rH s) false) _ _
  .have:j=k:=ab;subst this;exact Pw _ _ _
theorem aj8{c:aX}(h:cT c){j:Nat}(hj:j<(bW c).toNat+2):kQ (nZ c).2.1.2.1 j:=by
 have hn:=vz h
 rw[Jl]
 by_cases e:j<(bW c).toNat
 .exact (MK _ _ _ e).link (s:=kx ((range (bW c).toNat).foldl rH (vS c)) true) _ _
 by_cases e2:j=(bW c).toNat
 .rw[show ((j:Nat):Int)=bW c by omega];exact Pw _ _ _
 .rw[show ((j:Nat):Int)=bW c+1 by omega];exact au1 _ _ _
theorem UJ{s:bu}{i:Int}(h:kQ s.1.2.1 i)(n:Int):kQ (tw n s).1.2.1 i:=by
 unfold tw
 dsimp only
 split
 .exact h
 .exact kQ.app h _
theorem Li{n i:Int}:∀(k:Nat){s:bu},kQ s.1.2.1 i->kQ ((range k).foldl (λs _=>tw n s) s).1.2.1 i
 | 0,s,h=>h
 | k+1,s,h=>by
  rw[nj,iD];exact UJ (Li k h) n
theorem V1{s:bu}{i:Int}(h:kQ s.1.2.1 i)(plain:Bool)(n:Int):kQ (zt plain n s).1.2.1 i:=by
 rw[Gf]
 dsimp only
 have h1:kQ (qS plain n s (ax s.2 4).1.toNat).1.2.1 i:=by
  unfold qS;split
  .exact Li _ h
  .exact h
 generalize qS plain n s (ax s.2 4).1.toNat=t at h1 ⊢
 split
 .split
  .exact kQ.app h1 _
  .exact h1
 .exact h1
theorem ab2{s r:bu}{nn nl:Nat}(h:RS s nn nl r)(n3:3<=nn)(n7:nn<=7)(l10:nl<=10){i:Int}(ht:kQ r.1.2.1 i):kQ (o6 r).1.2.1 i:=by
 have pre:=h.preO ab ab ab
 have inv:=Hx h.np h.c pre.g h.lk (i:=r.1.2.1.length) (ir _)
 have e:(o6 r).1.2.1=(oL r r.1.2.1.length).1.2:=by
  unfold o6 oL oN;rfl
 rw[e]
 obtain⟨l,hl,q⟩:=ht
 obtain⟨j,hj,rfl⟩:=xp hl
 have k:=inv.lk.k j hj
 refine⟨_,n6 (by rw[inv.lk.n];exact hj),?_⟩
 rw[k.a,k.b];exact q
theorem SR{s r:bu}{nn nl:Nat}(h:RS s nn nl r)(n3:3<=nn)(n7:nn<=7)(l10:nl<=10):(o6 r).1.1.length=r.1.1.length:=by
 have pre:=h.preO ab ab ab
 have ok:=ym r h.c pre.g (i:=r.1.2.1.length) (fZ _)
 have e:(o6 r).1.1=(oL r r.1.2.1.length).1.1:=by
  unfold o6 oL oN;rfl
 rw[e]
 exact ok.1.n
theorem WJ{c:aX}(h:cT c)(plain:Bool){i:Nat}(hi:i<(jj plain c).1.length):kQ (jj plain c).2.1 i:=by
 have hn:=vz h
 obtain⟨m,m2,m10,G⟩:=DW h plain
 have R:=G.rs plain
 have rn:=R.i.n.trans R.g.n
 have t:=λj=>λ(hj:j<(bW c).toNat+2)=>V1 (aj8 h hj) plain (nZ c).1
 unfold jj BV at hi ⊢
 dsimp only at hi ⊢
 cases plain with
 | true =>
  rw[am rfl] at hi ⊢;rw[R.links];exact t i (by rw[← rn];exact hi)
 | false =>
  rw[af bt] at hi ⊢;have ol:=SR R ab ab m10;refine ab2 R ab ab m10 ?_;rw[R.links];exact t i (by rw[← rn];omega)
theorem Pi{c:aX}(h:cT c)(plain:Bool){i:Nat}(hi:i<(jj plain c).1.length):0<(ay ((jj plain c).1.getD i default)).length:=by
 have D:=D1 h plain
 obtain⟨l,hl,q⟩:=WJ h plain hi
 obtain⟨j,hj,rfl⟩:=xp hl
 rcases q with q|q
 .exact List.length_pos_of_mem ((D.port hi).2 ⟨j,hj,.inl ⟨q,rfl⟩⟩)
 .exact List.length_pos_of_mem ((D.port hi).2 ⟨j,hj,.inr ⟨q,rfl⟩⟩)
def uV(x:au):Prop:=(∀ y∈ay x,u32 y.1)/\u32 (fA x)/\u32 (oD x)
theorem Qw{n:aQ}(h:DN n){i:Nat}(hi:i<n.1.length):uV (n.1.getD i default):=by
 have d:=h.d i hi
 have l10:=h.l10
 have n7:=h.n7
 refine⟨λy hy=>?_,?_,?_⟩
 .obtain⟨j,hj,q⟩:=(h.port hi).1 hy;unfold gv at q;rcases q with⟨-,rfl⟩|⟨-,rfl⟩ <;> (constructor <;> simp only <;> omega)
 .rcases d.loop with q|q <;> (rw[q];constructor <;> omega)
 .rcases d.fix with q|q
  .rw[q];constructor <;> omega
  .constructor <;> omega
def ay6:Ct:=⟨[.agg pT],[.val (.sl bN),.val cI],λd=>[],λd=>((build d.1,cf d.1,()),())⟩
theorem Uu :
 ∀(a b c d e f:Int),((0<=a/\a<=4294967295)/\(0<=b/\b<=4294967295)/\aq c/\aq d/\aq e/\aq f)/\True->True->ao (! decide (cf (a,b,c,d,e,f)=0)) (([]:ae)=build (a,b,c,d,e,f)/\cf (a,b,c,d,e,f)=cf (a,b,c,d,e,f)) (cf (a,b,c,d,e,f)=0/\((length (fq (a,b,c,d,e,f))):Int)<=1073741824/\d7 (((0:Int),e,f,c,true,a,b),fq (a,b,c,d,e,f))=build (a,b,c,d,e,f)/\fv (((0:Int),e,f,c,true,a,b),fq (a,b,c,d,e,f))=cf (a,b,c,d,e,f)):=by
  rintro s d pr f t l - -;refine aw (λh=>?_) (λh=>?_)
  .have h:¬ cf (s,d,pr,f,t,l)=0:=by simpa using h
   rw[build,af h];exact⟨rfl,rfl⟩
  have h:cf (s,d,pr,f,t,l)=0:=by simpa using h
  have e0:=Kj h;have hl:=xA h;refine⟨h,ab,?_⟩;rw[build,am h,h];exact⟨rfl,e0⟩
theorem az0:aB 11 ay6.spec:=aF Tryz.func11 (av (av (av aC GD) Rl) Lp) aT Uu
theorem Of{B:Int->Int->ae}{F:Int->Int}{w:dQ}{own:Int}(h:F 0≠0):(dD B F w own).2.2≠2:=by
 by_cases k:own=0/\j4 w.1=true
 .rw[xk k];show (4:Int)≠2;decide
 .rw[yd k h];show (6:Int)≠2;decide
theorem Fg{b:ae}(h:¬ dG b)(k c i t:Int):fR b k c i t≠0:=by
 unfold fR
 by_cases g:pI k c i t
 .rw[af (by simpa using g),af h];decide
 .rw[am g];decide
theorem K7{b:ae}(h:¬ dG b)(i t:Int):gR b i t≠0:=by
 unfold gR
 by_cases g:iU i t
 .rw[af (by simpa using g),af (λk=>h k.1)];decide
 .rw[am g];decide
theorem QD{x:au}{s:ct}{lk t:Int}{b:ae}(h:¬ dG b):(fP x s lk t b).2.2≠2:=by
 unfold fP gg
 split
 .show (6:Int)≠2;decide
 split
 .unfold ig;rw[am (.inr (by exact K7 h _ _))];show (1:Int)≠2;decide
 split
 .show (6:Int)≠2;decide
 unfold fH
 split
 .exact Of (Fg h _ _ _ _)
 split
 .split
  .show (8:Int)≠2;decide
  .exact Of (Fg h _ _ _ _)
 .show (0:Int)≠2;decide
theorem Av{B:Int->Int->ae}{F:Int->Int}{w:dQ}{own:Int}:(dD B F w own).2.2≠0/\(dD B F w own).2.2≠1:=by
 by_cases k:own=0/\j4 w.1=true
 .rw[xk k];exact⟨(by show (4:Int)≠0;decide),(by show (4:Int)≠1;decide)⟩
 by_cases k1:F 0≠0
 .rw[yd k k1];exact⟨(by show (6:Int)≠0;decide),(by show (6:Int)≠1;decide)⟩
 by_cases k2:fT w.2.1 (kP w.2.2.2.2.2)=false
 .rw[Ak k k1 k2];exact⟨(by show (8:Int)≠0;decide),(by show (8:Int)≠1;decide)⟩
 by_cases k3:(mw w).2=false
 .rw[Ao k k1 k2 k3];exact⟨(by show (5:Int)≠0;decide),(by show (5:Int)≠1;decide)⟩
 .rw[zN k k1 k2 k3];exact⟨(by show (2:Int)≠0;decide),(by show (2:Int)≠1;decide)⟩
structure G4 (x:au) (s:ct) (lk:Int) (b:ae):Prop where
 dec:bY b=0
 own:¬ dC x (jo (aY b).1)=true
 host:¬ (iG x=true/\lk ≠ -1)
 ttl:¬ (lk ≠ -1/\dI x=false/\sV (aY b).1<2)
 way:¬ fT s (jo (aY b).1)=false
def zw(s:ct)(b:ae):Rt:=bf (bS s) (jo (aY b).1)
theorem Bj{x:au}{s:ct}{lk t:Int}{b:ae}(h:G4 x s lk b):fP x s lk t b=(gD s (zw s b),(jg x s (zw s b) (bc b),if lk ≠ -1/\dI x=false then io b else b),0):=by
 show gg (x,s,lk,t,b,pC)=_
 unfold gg
 rw[af (by simpa using h.dec),af h.own,af h.host]
 have e:∀ w:dQ,w.1=x->w.2.1=s->w.2.2.1=lk->w.2.2.2.2.1=b->w.2.2.2.2.2=(aY b).1->fH w=(gD s (zw s b),(jg x s (zw s b) (bc b),if lk ≠ -1/\dI x=false then io b else b),0):=by
  intro w e1 e2 e3 e4 e5;unfold fH;rw[e1,e2,e3,e4,e5,af h.ttl,af h.way];rfl
 exact e _ rfl rfl rfl rfl rfl
theorem Dw{x:au}{s:ct}{lk t:Int}{b:ae}(h:(fP x s lk t b).2.2=0):G4 x s lk b:=by
 have h:(gg (x,s,lk,t,b,pC)).2.2=0:=h
 unfold gg at h
 by_cases k1:bY b≠0
 .rw[am k1] at h;exact absurd h (by show (6:Int)≠0;decide)
 rw[af k1] at h
 by_cases k2:dC x (jo (aY b).1)=true
 .rw[am k2] at h;unfold ig at h;split at h
  .exact absurd h (by show (1:Int)≠0;decide)
  .exact absurd h Av.1
 rw[af k2] at h
 by_cases k4:iG x=true/\lk ≠ -1
 .rw[am k4] at h;exact absurd h (by show (6:Int)≠0;decide)
 rw[af k4] at h
 unfold fH at h
 split at h
 .exact absurd h Av.1
 rename_i k5
 split at h
 .split at h
  .exact absurd h (by show (8:Int)≠0;decide)
  .exact absurd h Av.1
 rename_i k6
 exact⟨by simpa using k1,k2,k4,k5,k6⟩
theorem Bv{p:bz}(g:da p):bY (build p)=0/\(aY (build p)).1=sI p:=by
 have h:=Dv g.ok g.s g.d
 exact⟨h.2.1,by rw[aY,am h.2.1];exact h.1⟩
def GP(x:au)(s s':ct)(t why:Int):Prop :=
 bS s'=bS s/\(lI s').length=(lI s).length ∧
  ((why≠2/\pL s'=pL s/\(tq s'=tq s∨(tq s'=(kH (jT x) (tq s) t).1/\(kH (jT x) (tq s) t).2=false))) ∨
    (why=2/\pL s'=IntKind.i64.wrap (pL s+1)/\tq s'=(kH (jT x) (tq s) t).1/\(kH (jT x) (tq s) t).2=true))
theorem wL{x:au}{s:ct}{t why:Int}(h:why≠2):GP x s s t why:=⟨rfl,rfl,.inl ⟨h,rfl,.inl rfl⟩⟩
theorem aO4(l:ae)(i:Int):(qV l i).length=l.length:=by
 unfold qV;split
 .exact gC
 .rfl
theorem Im{B:Int->Int->ae}{F:Int->Int}{w:dQ}{own:Int}:GP w.1 w.2.1 (dD B F w own).1 w.2.2.2.1 (dD B F w own).2.2:=by
 by_cases k:own=0/\j4 w.1=true
 .rw[xk k];exact wL (by show (4:Int)≠2;decide)
 by_cases k1:F 0≠0
 .rw[yd k k1];exact wL (by show (6:Int)≠2;decide)
 by_cases k2:fT w.2.1 (kP w.2.2.2.2.2)=false
 .rw[Ak k k1 k2];exact wL (by show (8:Int)≠2;decide)
 by_cases k3:(mw w).2=false
 .rw[Ao k k1 k2 k3];exact⟨rfl,rfl,.inl ⟨(by show (5:Int)≠2;decide),rfl,.inr ⟨rfl,k3⟩⟩⟩
 .rw[zN k k1 k2 k3];have k4:(mw w).2=true:=by simpa using k3
  refine⟨?_,?_,.inr ⟨rfl,?_,?_,k4⟩⟩
  .rw[zS];rfl
  .rw[zS];exact aO4 _ _
  .rw[zS];rfl
  .rw[zS];rfl
theorem Ox(x:au)(s:ct)(lk t:Int)(b:ae):GP x s (fP x s lk t b).1 t (fP x s lk t b).2.2:=by
 unfold fP gg
 split
 .exact wL (by show (6:Int)≠2;decide)
 split
 .unfold ig;split
  .exact wL (by show (1:Int)≠2;decide)
  .exact Im (w:=vy (x,s,lk,t,b,pC) (aY b).1)
 split
 .exact wL (by show (6:Int)≠2;decide)
 unfold fH
 split
 .exact Im (w:=vy (x,s,lk,t,b,pC) (aY b).1)
 split
 .split
  .exact wL (by show (8:Int)≠2;decide)
  .exact Im (w:=vy (x,s,lk,t,b,pC) (aY b).1)
 .refine⟨?_,?_,.inl ⟨(by show (0:Int)≠2;decide),?_,.inl ?_⟩⟩ <;> (rw[zS];rfl)
theorem Rc{n:au}{s:ct}{port a asked dst:Int}(hb:0<=mZ n/\mZ n<=65535)(ha:0<=asked/\asked<=65535):0<=mJ n s port a asked dst/\mJ n s port a asked dst<=65535:=by
 have hc:∀ x,0<=rV n x a/\rV n x a<=65535:=λx=>by unfold rV;omega
 have hh:0<=nU (mZ n) (0,dst,0,pL s,0)%65536/\nU (mZ n) (0,dst,0,pL s,0)%65536<=65535:=ab
 unfold mJ
 split
 .exact hb
 split
 .exact hc _
 split
 .split <;> exact hc _
 split
 .exact ha
 split
 .exact hh
 .omega
theorem Du{x:au}(A:uV x){i:Int}(h0:0<=i)(h1:i<(ay x).length):u32 (adr x i)/\dC x (adr x i)=true:=by
 have hm:=bR h0 h1
 rw[Pp h0 h1]
 refine⟨A.1 _ hm,?_⟩
 have:0<=jq x ((ay x).getD i.toNat default).1:=Oc hm (by simp[gZ])
 unfold dC
 rw[cM this];rfl
theorem aW9{x:au}{lk L:Int}(N:n8 x)(A:uV x)(hi:0<=cu x lk)(hL:0<=cu x L) :
  u32 (kI x (cj x lk) L)/\(dC x (kI x (cj x lk) L)=true∨(fX x=4/\kI x (cj x lk) L=oD x))/\(fX x=1->kI x (cj x lk) L=((ay x).getD (cu x lk).toNat default).1):=by
 have e:cj x lk=cu x lk:=by unfold cj;omega
 have i1:cu x lk<(ay x).length:=(tR hi).1
 have l1:cu x L<(ay x).length:=(tR hL).1
 rw[e]
 unfold kI
 by_cases s2:fX x=2
 .rw[am s2];have k:=Du A hL l1;exact⟨k.1,.inl k.2,λq=>ab⟩
 rw[af s2]
 by_cases s3:fX x=3
 .rw[am s3];have hne:fA x≠0:=λq=>N.form (.inr (.inr (.inl ⟨s3,q⟩)));refine⟨A.2.1,.inl ?_,λq=>ab⟩;unfold dC;simp[hne]
 rw[af s3]
 by_cases s4:fX x=4
 .rw[am s4];exact⟨A.2.2,.inr ⟨s4,rfl⟩,λq=>ab⟩
 rw[af s4]
 have k:=Du A hi i1
 exact⟨k.1,.inl k.2,λ_=>Pp hi i1⟩
theorem CY{B:Int->Int->ae}{F:Int->Int}{w:dQ}{own:Int}(h:(dD B F w own).2.2=2) :
  F 0=0∧¬ fT w.2.1 (kP w.2.2.2.2.2)=false/\dD B F w own=(gD (j9 w) (ku w),(kg B w,B (kq B w own) (iq w)),2):=by
 by_cases k:own=0/\j4 w.1=true
 .rw[xk k] at h;exact absurd h (by show (4:Int)≠2;decide)
 by_cases k1:F 0≠0
 .rw[yd k k1] at h;exact absurd h (by show (6:Int)≠2;decide)
 by_cases k2:fT w.2.1 (kP w.2.2.2.2.2)=false
 .rw[Ak k k1 k2] at h;exact absurd h (by show (8:Int)≠2;decide)
 by_cases k3:(mw w).2=false
 .rw[Ao k k1 k2 k3] at h;exact absurd h (by show (5:Int)≠2;decide)
 .exact⟨by simpa using k1,k2,zN k k1 k2 k3⟩
theorem GQ{x:au}{s:ct}{lk t:Int}{b:ae}(h:(fP x s lk t b).2.2=2) :
  ∃ ki,fP x s lk t b=tK (i7 x s lk t b) ki/\((ki=0/\dC x (jo (aY b).1)=true/\BW (aY b).1≠17)∨(ki=1/\BW (aY b).1=17)∨ki=2∨ki=3):=by
 have e0:fP x s lk t b=gg (x,s,lk,t,b,pC):=rfl
 rw[e0] at h ⊢
 unfold gg at h ⊢
 by_cases k1:bY b≠0
 .rw[am k1] at h;exact absurd h (by show (6:Int)≠2;decide)
 rw[af k1] at h ⊢
 by_cases k2:dC x (jo (aY b).1)=true
 .rw[am k2] at h ⊢;unfold ig at h ⊢;split at h
  .exact absurd h (by show (1:Int)≠2;decide)
  rename_i k3;rw[af k3];by_cases k4:BW (aY b).1=17
  .exact⟨1,by rw[af1];exact jn (dD _ _ _) (am k4),.inr (.inl ⟨rfl,k4⟩)⟩
  .exact⟨0,by rw[TU];exact jn (dD _ _ _) (af k4),.inl ⟨rfl,k2,k4⟩⟩
 rw[af k2] at h ⊢
 by_cases k4:iG x=true/\lk ≠ -1
 .rw[am k4] at h;exact absurd h (by show (6:Int)≠2;decide)
 rw[af k4] at h ⊢
 unfold fH at h ⊢
 split at h
 next k5=>exact⟨2,by rw[am k5,aX2];rfl,.inr (.inr (.inl rfl))⟩
 rename_i k5
 rw[af k5]
 split at h
 next k6=>
  rw[am k6];split at h
  .exact absurd h (by show (8:Int)≠2;decide)
  rename_i k7;exact⟨3,by rw[af k7,Xx];rfl,.inr (.inr (.inr rfl))⟩
 .exact absurd h (by show (0:Int)≠2;decide)
theorem Is{w:dQ}{ki:Int}(h:kE ki w 0=0):dG w.2.2.2.2.1:=fj λk=>by
 unfold kE at h
 split at h
 .exact Fg k _ _ _ _ h
 split at h
 .exact Fg k _ _ _ _ h
 .exact K7 k _ _ h
structure aP7 (x:au) (lk:Int) (p:bz) (a:rT) (r:oI):Prop where
 is:BY p a r.2.1.2
 left:a.2.2.2.1=iE x
 quoted:a.2.2.2.2.2=0∨a.2.2.2.2.2=p.2.2.2.2.2
 out:0<=cu x r.2.1.1
 exc:a.2.1=1->fX x=1->a.1=((ay x).getD (cu x lk).toNat default).1
 own:dC x a.1=true∨(fX x=4/\a.1=oD x)
 cnt:(lI r.1).getD (cu x lk).toNat default=1
theorem ZO{x:au}{lk:Int}{p:bz}(N:n8 x)(A:uV x)(g:da p)(hlk:lk∈bo x)(h:(fP x (nK x) lk 0 (build p)).2.2=2):∃ a,aP7 x lk p a (fP x (nK x) lk 0 (build p)):=by
 have st:=OS N
 obtain⟨ki,e,hk⟩:=GQ h
 rw[e] at h ⊢
 obtain⟨d1,d2⟩:=Bv g
 obtain⟨w,hw⟩:∃ w,w=i7 x (nK x) lk 0 (build p):=⟨_,rfl⟩
 rw[← hw] at h ⊢
 obtain⟨a1,a2,a3⟩:=CY h
 have w1:w.1=x:=by rw[hw];rfl
 have w2:w.2.1=nK x:=by rw[hw];rfl
 have w3:w.2.2.1=lk:=by rw[hw];rfl
 have w5:w.2.2.2.2.1=build p:=by rw[hw];rfl
 have w6:w.2.2.2.2.2=sI p:=by rw[hw];exact d2
 have hu:fB p.1:=by
  have:=Is a1;rw[w5] at this;exact (FX g).1 this
 have hi:=JJ hlk
 have hin:cj x lk=cu x lk:=by unfold cj;omega
 have i1:cu x lk<(ay x).length:=(tR hi).1
 have hL:0<=cu x (kg (kB ki w) w):=by
  have:=UR st (a:=kP w.2.2.2.2.2) (by rw[← w2];exact a2) (j9 w) (bc (kB ki w (adr w.1 (cj w.1 w.2.2.1)) 0));unfold kg ku;rw[w1,w2];rw[w1] at this;exact this
 obtain⟨s1,s2,s3⟩:=aW9 N A hi hL
 have hr:=(lq.1 g.ok).2
 obtain⟨hf,ht,-⟩:=id hr
 have hb:0<=mZ x/\mZ x<=65535:=by
  have h:=N.id;unfold iW at h;split at h
  next k=>have:=aI k;omega
  .cases h
 have hid:iU (iq w) (iE x):=by
  have f:=N.form;unfold mN at f;refine⟨?_,ab,ab⟩;unfold iq;rw[w1,w6];exact Rc hb ⟨by show 0<=p.2.2.2.2.1;omega,by show p.2.2.2.2.1<=65535;omega⟩
 have hc:(lI (tK w ki).1).getD (cu x lk).toNat default=1:=by
  have e1:(tK w ki).1=gD (j9 w) (ku w):=jn (λr:oI=>r.1) a3;have e2:lI (tK w ki).1=qV (replicate (ay x).length 0) (cu x lk):=by
   rw[e1,zS];show qV (lI w.2.1) (cj w.1 w.2.2.1)=_;rw[w1,w2,w3,hin];rfl
  rw[e2,HW (by rw[uh];exact i1)];have:(cu x lk).toNat<(replicate (ay x).length (0:Int)).length:=by rw[uh];omega
  rw[bJ,List.getElem?_set_self this,f9,bJ,cK this,f9,List.getElem_replicate];decide
 have ho:(tK w ki).2.1=(kg (kB ki w) w,kB ki w (kq (kB ki w) w (pi ki w)) (iq w)):=jn (λr:oI=>r.2.1) a3
 have hsrc:kI w.1 (cj w.1 w.2.2.1) (kg (kB ki w) w)=kI x (cj x lk) (kg (kB ki w) w):=by rw[w1,w3]
 have hF:pi ki w=0->kq (kB ki w) w (pi ki w)=kI x (cj x lk) (kg (kB ki w) w):=λq=>by unfold kq;rw[am q,hsrc]
 generalize hid2:iq w=id at hid ho
 generalize hLL:kg (kB ki w) w=L at hL s1 s2 s3 ho hF
 generalize kI x (cj x lk) L=F at s1 s2 s3 hF
 have hp17:BW (aY (build p)).1=p.2.2.1:=by rw[d2];rfl
 rcases hk with⟨rfl,q1,q2⟩|⟨rfl,q1⟩|rfl|rfl
 .have hd:jo (aY (build p)).1=p.2.1:=by rw[d2];rfl
  have ko:pi 0 w=p.2.1:=by show jo w.2.2.2.2.2=_;rw[w6];rfl
  rw[hd] at q1;have hne:=U2 N q1;have ef:kq (kB 0 w) w (pi 0 w)=p.2.1:=by unfold kq;rw[ko,af hne]
  rw[ef] at ho;have eB:kB 0 w p.2.1 id=ji (build p) p.2.1 id (iE x):=by show fW w _ _=_;unfold fW;rw[w5,w1]
  rw[eB] at ho;have I:=(Pu g hu hid).2;refine⟨ue p id (iE x),by rw[ho];exact I,?_,?_,by rw[ho];exact hL,?_,.inl ?_,hc⟩
  .unfold ue;split
   .rfl
   .split <;> rfl
  .unfold ue;split
   .exact .inl rfl
   .split
    .exact .inr rfl
    .exact .inl rfl
  .intro k;exfalso;unfold ue at k;split at k
   .exact absurd k (by show (4:Int)≠1;decide)
   .split at k
    .exact absurd k (by show (3:Int)≠1;decide)
    .exact absurd k (by show (2:Int)≠1;decide)
  .have:(ue p id (iE x)).1=p.2.1:=by unfold ue;split;rfl;split <;> rfl
   rw[this];exact q1
 .rw[hF rfl] at ho;rw[hp17] at q1;have hpr:dk (build p)=17:=by rw[dk,g.dec.1];exact q1
  have eB:kB 1 w F id=jr (build p) F 3 3 id (iE x):=by
   show fW w _ _=_;unfold fW ji;rw[w5,w1,am (Pu g hu hid).1,af (by rw[hpr];decide),am hpr]
  rw[eB] at ho;have I:=(DL g hu s1 (kind:=3) (code:=3) ⟨.inr rfl,ab,hid⟩).2.1;exact⟨(F,vo 3 3,3,iE x,id,p.2.2.2.2.2),by rw[ho];exact I,rfl,.inr rfl,by rw[ho];exact hL,λk=>absurd k (by show vo 3 3≠1;decide),s2,hc⟩
 .rw[hF rfl] at ho;have eB:kB 2 w F id=jr (build p) F 11 0 id (iE x):=by show dW w 11 0 _ _=_;unfold dW;rw[w5,w1]
  rw[eB] at ho;have I:=(DL g hu s1 (kind:=11) (code:=0) ⟨.inl rfl,ab,hid⟩).2.1;exact⟨(F,vo 11 0,0,iE x,id,p.2.2.2.2.2),by rw[ho];exact I,rfl,.inr rfl,by rw[ho];exact hL,λ_ k=>s3 k,s2,hc⟩
 .rw[hF rfl] at ho;have eB:kB 3 w F id=jr (build p) F 3 0 id (iE x):=by show dW w 3 0 _ _=_;unfold dW;rw[w5,w1]
  rw[eB] at ho;have I:=(DL g hu s1 (kind:=3) (code:=0) ⟨.inr rfl,ab,hid⟩).2.1;exact⟨(F,vo 3 0,0,iE x,id,p.2.2.2.2.2),by rw[ho];exact I,rfl,.inr rfl,by rw[ho];exact hL,λk=>absurd k (by show vo 3 0≠1;decide),s2,hc⟩
theorem Js{B:Int->Int->ae}{F:Int->Int}{w:dQ}{own:Int}(h:(dD B F w own).2.2≠2):(dD B F w own).2.1=iK:=by
 by_cases k:own=0/\j4 w.1=true
 .rw[xk k]
 by_cases k1:F 0≠0
 .rw[yd k k1]
 by_cases k2:fT w.2.1 (kP w.2.2.2.2.2)=false
 .rw[Ak k k1 k2]
 by_cases k3:(mw w).2=false
 .rw[Ao k k1 k2 k3]
 .rw[zN k k1 k2 k3] at h;exact absurd rfl h
theorem QO{x:au}{s:ct}{lk t:Int}{b:ae}(h:(fP x s lk t b).2.2≠2)(h0:(fP x s lk t b).2.2≠0):(fP x s lk t b).2.1=iK:=by
 unfold fP gg at h h0 ⊢
 split at h
 next k=>rw[am k]
 rename_i k1
 rw[af k1] at h0 ⊢
 split at h
 next k2=>
  rw[am k2];unfold ig at h ⊢;split at h
  next k=>rw[am k]
  next k=>rw[af k];exact Js h
 rename_i k2
 rw[af k2] at h0 ⊢
 split at h
 next k=>rw[am k]
 rename_i k3
 rw[af k3] at h0 ⊢
 unfold fH at h h0 ⊢
 split at h
 next k=>rw[am k];exact Js h
 rename_i k4
 rw[af k4] at h0 ⊢
 split at h
 next k=>
  rw[am k];split at h
  next k=>rw[am k]
  next k=>rw[af k];exact Js h
 rename_i k5
 rw[af k5] at h0
 exact absurd rfl h0
theorem CK{p:ra}(h:fv p=0):(d7 p).length=20+p.2.length/\(bytes p.2->bytes (d7 p)):=by
 rw[d7,am h]
 refine⟨by rw[cA,r0],λhb=>iZ (H4 ?_) hb⟩
 exact fj λk=>by rw[fv,am k] at h;cases h
theorem yq{b:ae}(hb:bytes b)(h:bY b=0):kW (bH b)/\20<=b.length/\b.length<=1500:=by
 have hp:=El h
 have hl:=AQ hp
 have hd:=vO h
 have w:=nS hb 4
 have g:∀ i:Nat,0<=b.getD i default/\b.getD i default<=255:=λi=>by
  by_cases k:i<b.length
  .have:=hb _ (bR (i:=(i:Int)) ab ab);simpa using this
  .rw[bJ,yb ab];decide
 exact⟨⟨g 1,g 8,g 9,w.1,w.2⟩,ab,ab⟩
theorem Ou{b:ae}(hb:bytes b)(h:gw b=0):(io b).length=b.length/\bytes (io b):=by
 have hd:bY b=0:=fj λk=>by rw[gw,am k] at h;exact k h
 have ht:¬ (bH b).2.2.1<2:=λk=>by rw[gw,af (λq=>q hd),am k] at h;cases h
 obtain⟨⟨h1,⟨h2,h2'⟩,h3,h4,h5⟩,l1,l2⟩:=yq hb hd
 have e:fv (yB (bH b),b.drop 20)=0:=by
  rw[fv,af,af (by simp only[fy];omega)];rw[o8];exact⟨h1,⟨by show 0<=(bH b).2.2.1-1;omega,by show (bH b).2.2.1-1<=255;omega⟩,h3,h4,h5⟩
 have k:=CK e
 rw[io,am h]
 refine⟨?_,k.2 (vu hb)⟩
 rw[k.1];simp only[fy];omega
theorem Dx{b:ae}{f kind code id ttl:Int}(hb:bytes b)(h:fR b kind code id ttl=0):0<(jr b f kind code id ttl).length/\bytes (jr b f kind code id ttl):=by
 have hg:pI kind code id ttl:=fj λk=>by rw[fR,am k] at h;cases h
 have ha:dG b:=fj λk=>by rw[fR,af (λq=>q hg),af k] at h;cases h
 obtain⟨-,e,en,ei⟩:=Bn (src:=f) hg ha
 have k:=CK ei
 rw[e]
 exact⟨by rw[k.1];omega,k.2 (Dc en (FI hb))⟩
theorem Ni{e:nO}(h:bytes e.2.2.2)(hl:(e.2.2.2.length:Int)<=1472):((fN e).length:Int)<=1480/\bytes (fN e):=by
 unfold fN
 split
 .exact⟨by rw[mP,C1];omega,tI (xl h)⟩
 .exact⟨aA,nM⟩
theorem QV{s d:Int}{e:mL}(h:e.2.2.2.2.2.2=[]):((fI s d e).length:Int)<=1480/\bytes (fI s d e):=by
 unfold fI
 split
 next k=>
  have ok:pd e:=fj λq=>by rw[lJ,am q] at k;cases k
  exact⟨by rw[mP,Al,h];simp,tI (Ag ok (by rw[h];exact nM))⟩
 .exact⟨aA,nM⟩
theorem az5{b:ae}{f id ttl:Int}(hb:bytes b)(h:gR b id ttl=0):0<(ji b f id ttl).length/\bytes (ji b f id ttl):=by
 have hn:iU id ttl:=fj λk=>by rw[gR,am k] at h;cases h
 have hg:tX b:=fj λk=>by rw[gR,af (λq=>q hn),af k] at h;cases h
 obtain⟨-,l1,l2⟩:=yq hb hg.1.1
 have hd:=vu (n:=20) hb
 rcases hg with⟨ha,⟨g1,g2⟩|⟨g1,g2⟩|⟨g1,g2,g3,g4⟩⟩
 .rw[(E0 (src:=f) hn ha g1 g2).1];have hl:=OC (b.drop 20);have hE:((fN (true,(gn (b.drop 20)).2)).length:Int)<=1480/\bytes (fN (true,(gn (b.drop 20)).2)):=by
   have e:(gn (b.drop 20)).2.2.2=(b.drop 20).drop 8:=by unfold gn;rw[am g2]
   refine Ni ?_ ?_
   .show bytes (gn (b.drop 20)).2.2.2;rw[e];exact vu hd
   .show ((gn (b.drop 20)).2.2.2.length:Int)<=1472;rw[e];simp only[fy];omega
  have k:=CK (Af (src:=f) (dst:=cO b) hn (proto:=1) ab hE.1);exact⟨by rw[k.1];omega,k.2 hE.2⟩
 .rw[(Dz (src:=f) hn ha g1 g2).1];exact Dx hb (IS hn ha)
 .rw[(EJ (src:=f) hn ha g1 g2 g3 g4).1];have hE:((fI f (cO b) (md (fV (cO b) (gf b) (b.drop 20)))).length:Int)<=1480/\bytes (fI f (cO b) (md (fV (cO b) (gf b) (b.drop 20)))):=QV rfl;have k:=CK (Af (src:=f) (dst:=cO b) hn (proto:=6) ab hE.1);exact⟨by rw[k.1];omega,k.2 hE.2⟩
theorem aC7{ki:Int}{w:dQ}{f id:Int}(hb:bytes w.2.2.2.2.1)(hn:iU id (iE w.1))(h:kE ki w 0=0):0<(kB ki w f id).length/\bytes (kB ki w f id):=by
 have ha:=Is h
 unfold kB
 split
 .exact Dx hb (by rw[fR,af (λk=>k ⟨.inl rfl,ab,hn⟩),am ha])
 split
 .exact Dx hb (by rw[fR,af (λk=>k ⟨.inr rfl,ab,hn⟩),am ha])
 next k2 k3=>
  have h:gR w.2.2.2.2.1 0 (iE w.1)=0:=by
   unfold kE at h;rw[af k2,af k3] at h;exact h
  have hg:tX w.2.2.2.2.1:=fj λq=>by
   rw[gR] at h;split at h
   .cases h
   .cases h
  exact az5 hb (B1 hn hg)
structure R5 (x:au) (s:ct) (r:oI):Prop where
 some:r.2.2=0∨r.2.2=2->0<r.2.1.2.length/\r.2.1.2.length<=1500/\0<=cu x r.2.1.1
 none:r.2.2≠0->r.2.2≠2->r.2.1=iK
 byt:bytes r.2.1.2
 rt:bS r.1=bS s
theorem HE{w:dQ}(hid:iW w.1=0)(hf:¬ mN w.1)(hI:0<=qc w.2.2.2.2.2/\qc w.2.2.2.2.2<=65535):iU (iq w) (iE w.1):=by
 have hb:0<=mZ w.1/\mZ w.1<=65535:=by
  unfold iW at hid;split at hid
  next k=>have:=aI k;omega
  .cases hid
 unfold mN at hf
 refine⟨?_,ab,ab⟩
 unfold iq
 exact Rc hb hI
theorem C3{x:au}{s:ct}(hrt:∀ r∈bS s,lf r (bo x)){a:Int}(hw:¬ fT s a=false)(s':ct)(k:d6):0<=cu x (jg x s' (bf (bS s) a) k) :=
 JJ (PC (hrt _ (Jz hw)) _ (QR (BD hw)))
theorem Kc{x:au}{s:ct}{lk t:Int}{b:ae}(N:n8 x)(hs:∀ r∈bS s,lf r (bo x))(hb:bytes b):R5 x s (fP x s lk t b):=by
 have T:=(Ox x s lk t b).1
 by_cases h0:(fP x s lk t b).2.2=0
 .have F:=Dw h0;have e:=Bj (t:=t) F;obtain⟨-,l1,l2⟩:=yq hb F.dec;have hlow:lk ≠ -1/\dI x=false->gw b=0:=λk=>by
   have ht:=F.ttl;have e1:(aY b).1=bH b:=by rw[aY,am F.dec]
   rw[e1] at ht;rw[gw,af (λq=>q F.dec)];exact af (λq=>ht ⟨k.1,k.2,q⟩)
  have key:(if lk ≠ -1/\dI x=false then io b else b).length=b.length/\bytes (if lk ≠ -1/\dI x=false then io b else b):=by
   split
   next k=>exact Ou hb (hlow k)
   .exact⟨rfl,hb⟩
  refine⟨λ_=>?_,λk=>absurd h0 k,?_,T⟩
  .rw[e];exact⟨by show 0<length _;rw[key.1];omega,by show length _<=1500;rw[key.1];omega,C3 hs F.way _ _⟩
  .rw[e];exact key.2
 by_cases h2:(fP x s lk t b).2.2=2
 .obtain⟨ki,e,hk⟩:=GQ h2;rw[e] at h2;obtain⟨w,hw⟩:∃ w,w=i7 x s lk t b:=⟨_,rfl⟩
  rw[← hw] at h2 e;obtain⟨a1,a2,a3⟩:=CY h2;have w1:w.1=x:=by rw[hw];rfl
  have w2:w.2.1=s:=by rw[hw];rfl
  have w5:w.2.2.2.2.1=b:=by rw[hw];rfl
  have hI:0<=qc w.2.2.2.2.2/\qc w.2.2.2.2.2<=65535:=by
   have:w.2.2.2.2.2=(aY b).1:=by rw[hw];rfl
   rw[this];unfold aY;split
   .exact nS hb 4
   .exact⟨by show (0:Int)<=0;omega,by show (0:Int)<=65535;omega⟩
  have hn:=HE (w:=w) (by rw[w1];exact N.id) (by rw[w1];exact N.form) hI;have ho:(fP x s lk t b).2.1=(kg (kB ki w) w,kB ki w (kq (kB ki w) w (pi ki w)) (iq w)):=by rw[e];exact jn (λr:oI=>r.2.1) a3
  have k:=aC7 (f:=kq (kB ki w) w (pi ki w)) (by rw[w5];exact hb) hn a1;have kl:=Yc ki w (kq (kB ki w) w (pi ki w)) (iq w);have hL:0<=cu x (kg (kB ki w) w):=by
   have:=C3 hs (a:=kP w.2.2.2.2.2) (by rw[← w2];exact a2) (j9 w) (bc (kB ki w (adr w.1 (cj w.1 w.2.2.1)) 0));unfold kg ku;rw[w1,w2];rw[w1] at this;exact this
  refine⟨λ_=>?_,λ_ q=>absurd (by rw[e];exact h2) q,?_,T⟩
  .rw[ho];exact⟨k.1,by have:((kB ki w (kq (kB ki w) w (pi ki w)) (iq w)).length:Int)<=1500:=kl;show (kB ki w (kq (kB ki w) w (pi ki w)) (iq w)).length<=1500;omega,hL⟩
  .rw[ho];exact k.2
 .have e:=QO h2 h0;refine⟨λk=>?_,λ_ _=>e,by rw[e];exact nM,T⟩;rcases k with k|k
  .exact absurd k h0
  .exact absurd k h2
abbrev nB:CT := .pair cI (.pair cI (.pair cI (.pair cI (.pair cI (.sl bN)))))
abbrev bg:Type:=Int×Int×Int×Int×Int×ae
abbrev yx:CT := .pair cI (.pair cI (.sl bN))
abbrev rq:Type:=Int×Int×ae
abbrev pX:CT := .pair cI (.pair cI (.pair cI (.pair cI cI)))
abbrev fm:Type:=Int×Int×Int×Int×Int
abbrev nH:CT := .pair ib (.pair cI (.pair cI (.pair cI (.pair (.sl qh) (.pair (.sl cI) (.pair (.sl nB) (.pair (.sl yx) (.sl pX))))))))
abbrev aJ:Type:=aQ×Int×Int×Int×List ct×ae×List bg×List rq×List fm
def aO(f:bg):Int:=f.1
def j7(f:bg):Int:=f.2.1
def bn(f:bg):Int:=f.2.2.1
def gO(f:bg):Int:=f.2.2.2.1
def iy(f:bg):Int:=f.2.2.2.2.1
def f8(f:bg):ae:=f.2.2.2.2.2
def aD(w:aJ):aQ:=w.1
def bO(w:aJ):Int:=w.2.1
def bK(w:aJ):Int:=w.2.2.1
def dm(w:aJ):Int:=w.2.2.2.1
def cq(w:aJ):List ct:=w.2.2.2.2.1
def gp(w:aJ):ae:=w.2.2.2.2.2.1
def aM(w:aJ):List bg:=w.2.2.2.2.2.2.1
def bM(w:aJ):List rq:=w.2.2.2.2.2.2.2.1
def bh(w:aJ):List fm:=w.2.2.2.2.2.2.2.2
def fL(w:aJ)(t:Int):aJ:=(w.1,t,w.2.2)
def iN(w:aJ)(l:List ct):aJ:=(w.1,w.2.1,w.2.2.1,w.2.2.2.1,l,w.2.2.2.2.2)
def qo(w:aJ)(k:Int):aJ:=(w.1,w.2.1,w.2.2.1,k,w.2.2.2.2)
def vd(w:aJ)(l:ae):aJ:=(w.1,w.2.1,w.2.2.1,w.2.2.2.1,w.2.2.2.2.1,l,w.2.2.2.2.2.2)
def hV(w:aJ)(l:List bg):aJ:=(w.1,w.2.1,w.2.2.1,w.2.2.2.1,w.2.2.2.2.1,w.2.2.2.2.2.1,l,w.2.2.2.2.2.2.2)
def vQ(w:aJ)(l:List rq):aJ:=(w.1,w.2.1,w.2.2.1,w.2.2.2.1,w.2.2.2.2.1,w.2.2.2.2.2.1,w.2.2.2.2.2.2.1,l,w.2.2.2.2.2.2.2.2)
def I5(w:aJ)(l:List fm):aJ:=(w.1,w.2.1,w.2.2.1,w.2.2.2.1,w.2.2.2.2.1,w.2.2.2.2.2.1,w.2.2.2.2.2.2.1,w.2.2.2.2.2.2.2.1,l)
def aF2(w:aJ)(k:Int):aJ:=(w.1,w.2.1,k,w.2.2.2)
def H0(s:ct)(l:List Rt):ct:=(l,s.2)
def fJ(l:List bg)(f:bg):List bg:=(l.takeWhile λx=>decide (aO x<=aO f))++f::l.dropWhile λx=>decide (aO x<=aO f)
def yV(w:aJ)(f:bg):aJ:=hV (aF2 w (IntKind.i64.wrap (bK w+1))) (fJ (aM w) (aO f,bK w,f.2.2))
def kL(w:aJ):aV:=(aD w).2.2.getD (dm w).toNat default
def o4(w:aJ):Bool:=decide (dm w<(aD w).2.2.length)&&decide (fc (kL w)<=bO w)
def nD(w:aJ):aJ :=
 qo (iN w ((cq w).set (bL (kL w)).toNat (H0 ((cq w).getD (bL (kL w)).toNat default) (f7 (bS ((cq w).getD (bL (kL w)).toNat default)) (kL w))))) (IntKind.i64.wrap (dm w+1))
def jw:Nat->aJ->aJ
 | 0,w=>w
 | n+1,w=>if o4 w=true then jw n (nD w) else w
def dr(w:aJ):aJ:=jw ((aD w).2.2.length-(dm w).toNat) w
def nV(w:aJ)(f:bg)(link why:Int):aJ:=I5 w (bh w++[(iy f,aO f,bn f,link,why)])
def oA(l:aK)(c:Int):Int:=mG (bits .xor .u64 (mG (IntKind.wrap .u64 (wD l))) (IntKind.wrap .u64 c))
def cU(w:aJ)(k:Int):aK:=(aD w).2.1.getD k.toNat default
def ky(w:aJ)(k:Int):Int:=(gp w).getD k.toNat default
def wa(w:aJ)(k:Int):Int:=IntKind.i64.wrap (Int.tmod (Int.tdiv (oA (cU w k) (ky w k)) 65536) (IntKind.wrap .u64 (IntKind.i64.wrap (fO (cU w k)+1))))
def jA(w:aJ)(k:Int):Int:=IntKind.i64.wrap (IntKind.i64.wrap (bO w+gQ (cU w k))+wa w k)
def eI(w:aJ)(f:bg)(out:Int×ae):aJ :=
 let v:=vd w ((gp w).set out.1.toNat (IntKind.i64.wrap (ky w out.1+1)))
 if Int.tmod (oA (cU w out.1) (ky w out.1)) 65536<IntKind.wrap .u64 (oF (cU w out.1)) then nV v f out.1 3
 else if 1125899906842624<jA w out.1∨(4096:Int)<=(aM w).length then nV v f out.1 7
 else yV v (jA w out.1,0,fD (aD w).2.1 out.1 (bn f),out.1,iy f,out.2)
def bm(w:aJ)(f:bg):oI:=fP ((aD w).1.getD (bn f).toNat default) ((cq w).getD (bn f).toNat default) (gO f) (aO f) (f8 f)
def jf(w:aJ)(f:bg):aJ :=
 let r:=bm w f
 let a:=iN w ((cq w).set (bn f).toNat r.1)
 let b:=if r.2.2=1 then vQ a (bM a++[(aO f,bn f,f8 f)]) else a
 let c:=if r.2.2≠0 then nV b f (gO f) r.2.2 else b
 if 0<r.2.1.2.length then eI c f r.2.1 else c
def fw(w:aJ):aJ:=jf (dr (fL (hV w (aM w).tail) (aO ((aM w).headD default)))) ((aM w).headD default)
def jY(w:aJ)(to:Int):Bool:=match aM w with
 | []=>false
 | f::_=>decide (aO f<=to)
def mv:Nat->aJ->Int->aJ
 | 0,w,_=>w
 | n+1,w,to=>if jY w to=true then mv n (fw w) to else w
def kR(to:Int)(l:List bg):Nat:=(l.map λf=>(to+1-aO f).toNat).sum
def tZ(w:aJ)(to:Int):aJ:=dr (fL (mv (kR to (aM w)) w to) to)
theorem zH{l:List bg}{f x:bg}:x∈fJ l f↔x=f∨x∈l:=by
 unfold fJ
 rw[dB,dK]
 have e:=sD (p:=λx=>decide (aO x<=aO f)) (l:=l)
 constructor
 .rintro (h|h|h)
  .right;rw[← e];exact gu _ h
  .exact .inl h
  .right;rw[← e];exact jd _ h
 .rintro (h|h)
  .exact .inr (.inl h)
  .rw[← e] at h;rcases dB.1 h with h|h
   .exact .inl h
   .exact .inr (.inr h)
theorem Eg(l:List bg)(f:bg):(fJ l f).length=l.length+1:=by
 have e:=jn length (sD (p:=λx=>decide (aO x<=aO f)) (l:=l))
 rw[cA] at e
 unfold fJ
 rw[cA,dN];omega
theorem Pv(to:Int)(l:List bg)(f:bg):kR to (fJ l f)=kR to l+(to+1-aO f).toNat:=by
 have e:kR to l=kR to ((l.takeWhile λx=>decide (aO x<=aO f))++(l.dropWhile λx=>decide (aO x<=aO f))):=by rw[sD]
 rw[e]
 unfold kR fJ
 simp only[lG,fF,List.sum_append,List.sum_cons]
 omega
def gJ(a b:bg):Prop:=aO a<aO b∨aO a=aO b/\j7 a<j7 b
theorem Sh{l:List bg}{f:bg}(h:l.Pairwise gJ)(hn:∀ x∈l,j7 x<j7 f):(fJ l f).Pairwise gJ:=by
 have e:=sD (p:=λx=>decide (aO x<=aO f)) (l:=l)
 have h2:=h
 rw[← e] at h2
 obtain⟨a,b,c⟩:=List.pairwise_append.1 h2
 have hd:∀ x∈l.dropWhile (λx=>decide (aO x<=aO f)),aO f<aO x:=by
  intro x hx;cases hh:l.dropWhile (λx=>decide (aO x<=aO f)) with
  | nil=>rw[hh] at hx;cases hx
  | cons y r =>
   have hy:¬ aO y<=aO f:=by
    have:=List.head_dropWhile_not (p:=λx=>decide (aO x<=aO f)) (l:=l) (by rw[hh];simp);simp only[hh,List.head_cons] at this;simpa using this
   rw[hh] at hx b;rcases dK.1 hx with rfl|hx
   .omega
   .rcases (List.pairwise_cons.1 b).1 x hx with k|k <;> omega
 unfold fJ
 refine List.pairwise_append.2 ⟨a,List.pairwise_cons.2 ⟨λx hx=>.inl (hd x hx),b⟩,λx hx y hy=>?_⟩
 have hxl:x∈l:=by rw[← e];exact gu _ hx
 have hxf:aO x<=aO f:=by
  have:=List.all_eq_true.1 (List.all_takeWhile (p:=λx=>decide (aO x<=aO f)) (l:=l)) x hx;simpa using this
 rcases dK.1 hy with rfl|hy
 .have:=hn x hxl;unfold gJ;omega
 .exact .inl (by have:=hd y hy;omega)
theorem C5{n:aQ}(h:eh n=0):nP n=0/\mo n=0/\lz n=0/\nI n=0/\lN n=0:=by
 unfold eh at h
 obtain⟨h1,h⟩:=qp h
 obtain⟨h2,h⟩:=qp h
 obtain⟨h3,h⟩:=qp h
 obtain⟨h4,h⟩:=qp h
 obtain⟨h5,h⟩:=qp h
 obtain⟨h6,h⟩:=qp h
 exact⟨h1,h2,h3,h4,h⟩
theorem uJ{n:aQ}(h:eh n=0){i:Nat}(hi:i<n.1.length):n8 (n.1.getD i default):=by
 have hb:=vw (C5 h).2.2.1 i hi
 unfold lp at hb
 split at hb
 next k=>exact absurd hb k
 next k=>exact KU (o8.1 k)
theorem zD{n:aQ}(h:eh n=0):1<=n.1.length/\n.1.length<=64/\n.2.1.length<=128/\n.2.2.length<=64:=by
 have:=(C5 h).1
 unfold nP at this
 split at this
 .cases this
 .omega
theorem DO{n:aQ}(h:eh n=0){k:Nat}(hk:k<n.2.2.length):(0<=fc (n.2.2.getD k default)/\fc (n.2.2.getD k default)<=1125899906842624)/\(0<=bL (n.2.2.getD k default)/\bL (n.2.2.getD k default)<n.1.length) ∧
  dL (f7 ((dH n k).getD (bL (n.2.2.getD k default)).toNat default) (n.2.2.getD k default)) (bo (n.1.getD (bL (n.2.2.getD k default)).toNat default))=0:=by
 have hs:=vw (C5 h).2.2.2.2 k hk
 unfold gU mY at hs
 split at hs
 .cases hs
 rename_i a1
 split at hs
 .cases hs
 split at hs
 .cases hs
 rename_i a3
 split at hs
 .cases hs
 exact⟨ab,ab,hs⟩
theorem LX{n:aQ}(h:eh n=0):∀ k:Nat,k<=n.2.2.length→∀ i:Nat,i<n.1.length->dL ((dH n k).getD i default) (bo (n.1.getD i default))=0
 | 0,_,i,hi=>by rw[dH,y9 hi];exact (uJ h hi).rt
 | k+1,hk,i,hi=>by
  obtain⟨-,h2,h3⟩:=DO h (k:=k) ab;rw[dH];by_cases e:(bL (n.2.2.getD k default)).toNat=i
  .rw[← e,kv (by rw[qD];omega)];exact h3
  .rw[nt e];exact LX h k ab i hi
structure uC (n:aQ) (now ord:Int) (f:bg):Prop where
 t:now<=aO f/\aO f<=1125899906842624
 o:0<=j7 f/\j7 f<ord
 nd:0<=bn f/\bn f<n.1.length
 l:gO f = -1∨gO f∈bo (n.1.getD (bn f).toNat default)
 g:0<=iy f/\iy f<ord
 b:bytes (f8 f)
 d:((f8 f).length:Int)<=2000
structure dJ (w:aJ) (K:Int):Prop where
 net:eh (aD w)=0
 now:0<=bO w/\bO w<=1125899906842624
 ord:0<=bK w/\bK w<=K
 done:0<=dm w/\dm w<=(aD w).2.2.length
 len:(cq w).length=(aD w).1.length
 st:∀ i:Nat,i<(aD w).1.length->iT ((aD w).1.getD i default) ((cq w).getD i default) K/\bS ((cq w).getD i default)=(dH (aD w) (dm w).toNat).getD i default
 cl:(gp w).length=(aD w).2.1.length
 cr:∀ c∈gp w,0<=c/\c<=K
 fl:(aM w).Pairwise gJ
 fo:∀ f∈aM w,uC (aD w) (bO w) (bK w) f
 fn:(aM w).length<=4096
theorem dJ.more{w:aJ}{K K':Int}(h:dJ w K)(hk:K<=K'):dJ w K' :=
 ⟨h.net,h.now,by have:=h.ord;omega,h.done,h.len,λi hi=>⟨(h.st i hi).1.more hk,(h.st i hi).2⟩,h.cl,λc hc=>by have:=h.cr c hc;omega,h.fl,h.fo,h.fn⟩
theorem iT.rts{x:au}{s:ct}{K:Int}(h:iT x s K){l:List Rt}(hc:dL l (bo x)=0):iT x (H0 s l) K:=by
 obtain⟨h1,h2⟩:=xR hc
 obtain⟨-,-,h3⟩:=B8 hc
 exact⟨h1,h2,λr hr=>(h3 r hr).2,h.ps,h.tk,h.cn,h.cp⟩
theorem dJ.chg{w:aJ}{K:Int}(h:dJ w K)(hd:o4 w=true):dJ (nD w) K/\dm (nD w)=dm w+1:=by
 unfold o4 at hd
 rw[dM,om,om] at hd
 have hk:(dm w).toNat<(aD w).2.2.length:=by have:=h.done;omega
 obtain⟨-,⟨w0,w1⟩,hc⟩:=DO h.net hk
 have sz:=zD h.net
 have e1:IntKind.i64.wrap (dm w+1)=dm w+1:=aG (by have:=h.done;omega) (by have:=h.done;omega)
 have eD:dm (nD w)=dm w+1:=e1
 have eN:aD (nD w)=aD w:=rfl
 have hwho:bL (kL w)=bL ((aD w).2.2.getD (dm w).toNat default):=rfl
 have hlt:(bL (kL w)).toNat<(aD w).1.length:=ab
 have hst:=(h.st _ hlt)
 have hc:dL (f7 ((dH (aD w) (dm w).toNat).getD (bL (kL w)).toNat default) (kL w)) (bo ((aD w).1.getD (bL (kL w)).toNat default))=0:=hc
 rw[← hst.2] at hc
 refine⟨⟨h.net,h.now,h.ord,by have:=h.done;rw[eD,eN];omega,?_,λi hi=>?_,h.cl,h.cr,h.fl,h.fo,h.fn⟩,eD⟩
 .show ((cq w).set _ _).length=_;rw[gC];exact h.len
 .have hi:i<(aD w).1.length:=hi;rw[eD,eN,show (dm w+1).toNat=(dm w).toNat+1 by have:=h.done;omega,dH];show iT _ (((cq w).set (bL (kL w)).toNat _).getD i default) K/\bS (((cq w).set (bL (kL w)).toNat _).getD i default)=_;by_cases e:(bL (kL w)).toNat=i
  .subst e;rw[kv (by rw[h.len];exact hlt),show ((aD w).2.2.getD (dm w).toNat default)=kL w from rfl,kv (by rw[qD];exact hlt),← hst.2];exact⟨hst.1.rts hc,rfl⟩
  .rw[nt e,show ((aD w).2.2.getD (dm w).toNat default)=kL w from rfl,nt e];exact h.st i hi
theorem Jh{K:Int}:∀(n:Nat){w:aJ},dJ w K->dJ (jw n w) K/\(jw n w).1=w.1/\(jw n w).2.1=w.2.1/\(jw n w).2.2.1=w.2.2.1/\(jw n w).2.2.2.2.2=w.2.2.2.2.2
 | 0,w,h=>⟨h,rfl,rfl,rfl,rfl⟩
 | n+1,w,h=>by
  rw[jw];split
  next hd=>have k:=Jh n (h.chg hd).1;exact⟨k.1,k.2.1.trans rfl,k.2.2.1.trans rfl,k.2.2.2.1.trans rfl,k.2.2.2.2.trans rfl⟩
  .exact⟨h,rfl,rfl,rfl,rfl⟩
theorem dJ.change{w:aJ}{K:Int}(h:dJ w K):dJ (dr w) K:=(Jh _ h).1
theorem yH{n:aQ}(h:eh n=0){i:Nat}(hi:i<n.1.length){k:Int}(hk:k∈bo (n.1.getD i default)) :
  (0<=k/\k<n.2.1.length)/\gY n.1.length (n.2.1.getD k.toNat default)/\(0<=fD n.2.1 k i/\fD n.2.1 k i<n.1.length)/\k∈bo (n.1.getD (fD n.2.1 k i).toNat default):=by
 obtain⟨-,hc,hb,hp,-⟩:=C5 h
 have b:=vw hb i hi
 unfold lp at b
 split at b
 next q=>exact absurd b q
 rename_i hv
 have N:n8 (n.1.getD i default):=KU (o8.1 hv)
 split at b
 .cases b
 rename_i hs
 have hst:mQ n i k=false:=by
  cases q:mQ n i k with
  | false=>rfl
  | true=>exact absurd (List.any_eq_true.2 ⟨k,hk,q⟩) hs
 unfold mQ at hst
 simp only[Bool.or_eq_false_iff,pn,vK,px,mh] at hst
 obtain⟨h1,h2⟩:=hst
 obtain⟨q,hq,rfl⟩:=List.mem_map.1 hk
 obtain⟨j,hj,rfl⟩:=List.mem_iff_getElem.1 hq
 have k0:0<=((ay (n.1.getD i default))[j]).2:=by
  have:=(Lg (N.ports j hj)).2;rw[bJ (l:=ay _),cK hj,f9] at this;omega
 generalize ((ay (n.1.getD i default))[j]).2=k at hk h1 h2 k0
 have hkl:k.toNat<n.2.1.length:=ab
 have snd:gY n.1.length (n.2.1.getD k.toNat default):=by
  unfold mo at hc;split at hc
  next z=>exact aI (List.all_eq_true.1 z _ (n6 hkl))
  .cases hc
 have lo:m4 n k.toNat=false:=by
  unfold nI at hp;split at hp
  .cases hp
  .rename_i z;cases q:m4 n k.toNat with
   | false=>rfl
   | true=>exact absurd (List.any_eq_true.2 ⟨k.toNat,List.mem_range.2 hkl,q⟩) z
 unfold m4 at lo
 simp only[Bool.or_eq_false_iff,pn] at lo
 obtain⟨l1,l2⟩:=lo
 rw[show ((k.toNat:Nat):Int)=k by omega] at l1 l2
 have mem:∀ x:au,¬ cu x k<0->k∈bo x:=λx hx=>by
  obtain⟨a,b⟩:=tR (q:=ic k) (l:=ay x) (by unfold cu at hx;omega);have hm:=n6 (xs:=ay x) (i:=(gX (ic k) (ay x)).toNat) (by unfold cu at hx;omega);exact List.mem_map.2 ⟨_,hm,aI b⟩
 refine⟨⟨k0,ab⟩,snd,?_⟩
 obtain⟨s1,s2,s3,s4,s5,-⟩:=snd
 unfold fD
 rw[af ab]
 by_cases e:(i:Int)=lA (n.2.1.getD k.toNat default)
 .rw[am e];exact⟨⟨s3,s4⟩,mem _ l2⟩
 .have e2:lB (n.2.1.getD k.toNat default)=i:=by
   rcases h2 with z|z
   .exact absurd z.symm e
   .exact z
  rw[af e,am e2.symm];exact⟨⟨s1,s2⟩,mem _ l1⟩
theorem CL{n:Int}(h0:0<=n)(h1:n<=9223372036854775807):IntKind.u64.wrap n=n:=by
 obtain⟨m,rfl⟩:∃ m:Nat,n=m:=⟨n.toNat,ab⟩
 rw[FY];omega
theorem GE(x:Int):0<=mG x:=Int.natCast_nonneg _
theorem Ba{w:aJ}{k:Int}(hs:gY (aD w).1.length (cU w k))(hn:0<=bO w/\bO w<=1125899906842624):bO w+1<=jA w k/\jA w k<=bO w+gQ (cU w k)+fO (cU w k):=by
 obtain⟨-,-,-,-,-,d1,d2,j1,j2,-⟩:=hs
 have hh:0<=oA (cU w k) (ky w k):=GE _
 have e1:IntKind.i64.wrap (fO (cU w k)+1)=fO (cU w k)+1:=aG ab ab
 have e2:IntKind.u64.wrap (fO (cU w k)+1)=fO (cU w k)+1:=CL ab ab
 have hd:0<=Int.tdiv (oA (cU w k) (ky w k)) 65536:=Int.tdiv_nonneg hh ab
 have t0:=Int.tmod_nonneg (fO (cU w k)+1) hd
 have t1:=Int.tmod_lt_of_pos (Int.tdiv (oA (cU w k) (ky w k)) 65536) (show 0<fO (cU w k)+1 by omega)
 have el:wa w k=Int.tmod (Int.tdiv (oA (cU w k) (ky w k)) 65536) (fO (cU w k)+1):=by
  unfold wa;rw[e1,e2,aG ab ab]
 have e3:IntKind.i64.wrap (bO w+gQ (cU w k))=bO w+gQ (cU w k):=aG ab ab
 have e4:jA w k=bO w+gQ (cU w k)+wa w k:=by
  unfold jA;rw[e3,aG ab ab]
 omega
theorem dJ.ends{w:aJ}{K:Int}(h:dJ w K)(f:bg)(link why:Int):dJ (nV w f link why) K:=⟨h.net,h.now,h.ord,h.done,h.len,h.st,h.cl,h.cr,h.fl,h.fo,h.fn⟩
theorem dJ.dels{w:aJ}{K:Int}(h:dJ w K)(l:List rq):dJ (vQ w l) K:=⟨h.net,h.now,h.ord,h.done,h.len,h.st,h.cl,h.cr,h.fl,h.fo,h.fn⟩
theorem dJ.crosses{w:aJ}{K:Int}(h:dJ w K)(hK:K<=2199023255552){f:bg}{out:Int×ae}(hf:0<=bn f/\bn f<(aD w).1.length)(hg:0<=iy f/\iy f<bK w)
  (hk:out.1∈bo ((aD w).1.getD (bn f).toNat default)) (hb:bytes out.2) (hl:(out.2.length:Int)<=2000):dJ (eI w f out) (K+1):=by
 have hi:(bn f).toNat<(aD w).1.length:=ab
 obtain⟨⟨k0,k1⟩,snd,o1,o2⟩:=yH h.net hi hk
 rw[show (((bn f).toNat:Nat):Int)=bn f by omega] at o1 o2
 have ov:=Ba (w:=w) (k:=out.1) snd h.now
 have hcl:out.1.toNat<(gp w).length:=by rw[h.cl];omega
 have hc0:ky w out.1∈gp w:=n6 hcl
 have hc1:=h.cr _ hc0
 have hord:=h.ord
 have base:dJ (vd w ((gp w).set out.1.toNat (IntKind.i64.wrap (ky w out.1+1)))) (K+1):=by
  have h':=h.more (K':=K+1) ab;refine⟨h'.net,h'.now,h'.ord,h'.done,h'.len,h'.st,?_,λc hc=>?_,h'.fl,h'.fo,h'.fn⟩
  .show ((gp w).set _ _).length=_;rw[gC];exact h.cl
  .have hc:c∈(gp w).set out.1.toNat (IntKind.i64.wrap (ky w out.1+1)):=hc;rcases AW hc with hc|rfl
   .have:=h.cr c hc;omega
   .rw[aG ab ab];omega
 unfold eI
 dsimp only
 split
 .exact base.ends _ _ _
 split
 .exact base.ends _ _ _
 rename_i q
 have ew:IntKind.i64.wrap (bK w+1)=bK w+1:=aG ab ab
 refine⟨base.net,base.now,?_,base.done,base.len,base.st,base.cl,base.cr,?_,?_,?_⟩
 .show 0<=IntKind.i64.wrap (bK w+1)/\IntKind.i64.wrap (bK w+1)<=K+1;rw[ew];omega
 .exact Sh h.fl λx hx=>(h.fo x hx).o.2
 .intro x hx;have hx:x∈fJ (aM w) (jA w out.1,bK w,fD (aD w).2.1 out.1 (bn f),out.1,iy f,out.2):=hx;show uC (aD w) (bO w) (IntKind.i64.wrap (bK w+1)) x;rw[ew];rcases zH.1 hx with rfl|hx
  .exact⟨⟨by show bO w<=jA w out.1;omega,by show jA w out.1<=_;omega⟩,⟨by show 0<=bK w;omega,by show bK w<bK w+1;omega⟩,o1,.inr o2,⟨hg.1,by show iy f<bK w+1;omega⟩,hb,hl⟩
  .have k:=h.fo x hx;exact⟨k.t,⟨k.o.1,by have:=k.o.2;omega⟩,k.nd,k.l,⟨k.g.1,by have:=k.g.2;omega⟩,k.b,k.d⟩
 .show (fJ (aM w) _).length<=4096;rw[Eg];omega
theorem dJ.land{w:aJ}{K:Int}(h:dJ w K)(hK:K<=1099511627776){f:bg}(hf:uC (aD w) (bO w) (bK w) f)(ht:aO f=bO w):dJ (jf w f) (K+2):=by
 have hi:(bn f).toNat<(aD w).1.length:=by have:=hf.nd;omega
 obtain⟨st,rt⟩:=h.st _ hi
 have N:=uJ h.net hi
 have O:=Kc (lk:=gO f) (t:=aO f) N st.rt hf.b
 have S:=Wo (link:=gO f) (b:=f8 f) (at':=aO f) N st ⟨by have:=h.ord;omega,ab⟩ ⟨by have:=h.now;omega,by have:=h.now;omega⟩
 have eH:bm w f=fP ((aD w).1.getD (bn f).toNat default) ((cq w).getD (bn f).toNat default) (gO f) (aO f) (f8 f):=rfl
 rw[← eH] at O S
 have ha:dJ (iN w ((cq w).set (bn f).toNat (bm w f).1)) (K+1):=by
  have h':=h.more (K':=K+1) ab;refine⟨h'.net,h'.now,h'.ord,h'.done,?_,λi hl=>?_,h'.cl,h'.cr,h'.fl,h'.fo,h'.fn⟩
  .show ((cq w).set _ _).length=_;rw[gC];exact h.len
  .have hl:i<(aD w).1.length:=hl;show iT _ (((cq w).set (bn f).toNat (bm w f).1).getD i default) _/\bS (((cq w).set (bn f).toNat (bm w f).1).getD i default)=_;by_cases e:(bn f).toNat=i
   .subst e;rw[kv (by rw[h.len];exact hi)];exact⟨S,O.rt.trans rt⟩
   .rw[nt e];exact h'.st i hl
 have hb:dJ (if (bm w f).2.2=1 then vQ (iN w ((cq w).set (bn f).toNat (bm w f).1)) (bM (iN w ((cq w).set (bn f).toNat (bm w f).1))++[(aO f,bn f,f8 f)]) else iN w ((cq w).set (bn f).toNat (bm w f).1)) (K+1):=by
  split
  .exact ha.dels _
  .exact ha
 unfold jf
 dsimp only
 generalize hB:(if (bm w f).2.2=1 then vQ (iN w ((cq w).set (bn f).toNat (bm w f).1)) (bM (iN w ((cq w).set (bn f).toNat (bm w f).1))++[(aO f,bn f,f8 f)]) else iN w ((cq w).set (bn f).toNat (bm w f).1))=B at hb
 have eB:aD B=aD w/\bK B=bK w:=by rw[← hB];split <;> exact⟨rfl,rfl⟩
 have hc:dJ (if (bm w f).2.2≠0 then nV B f (gO f) (bm w f).2.2 else B) (K+1):=by
  split
  .exact hb.ends _ _ _
  .exact hb
 have eC:aD (if (bm w f).2.2≠0 then nV B f (gO f) (bm w f).2.2 else B)=aD w/\bK (if (bm w f).2.2≠0 then nV B f (gO f) (bm w f).2.2 else B)=bK w:=by
  split
  .exact eB
  .exact eB
 generalize (if (bm w f).2.2≠0 then nV B f (gO f) (bm w f).2.2 else B)=C at hc eC
 split
 next hp=>
  have hr:(bm w f).2.2=0∨(bm w f).2.2=2:=by
   by_cases z0:(bm w f).2.2=0
   .exact .inl z0
   by_cases z2:(bm w f).2.2=2
   .exact .inr z2
   .have:=O.none z0 z2;rw[this] at hp;exact absurd hp (by simp[iK])
  obtain⟨p1,p2,p3⟩:=O.some hr;have hm:(bm w f).2.1.1∈bo ((aD w).1.getD (bn f).toNat default):=by
   obtain⟨a,b⟩:=tR (q:=ic (bm w f).2.1.1) (l:=ay ((aD w).1.getD (bn f).toNat default)) p3;have hm:=n6 (xs:=ay ((aD w).1.getD (bn f).toNat default)) (i:=(gX (ic (bm w f).2.1.1) (ay ((aD w).1.getD (bn f).toNat default))).toNat) (by unfold cu at p3;omega);exact List.mem_map.2 ⟨_,hm,aI b⟩
  have z:=dJ.crosses hc ab (by rw[eC.1];exact hf.nd) (by rw[eC.2];exact hf.g) (by rw[eC.1];exact hm) O.byt ab
  rwa [show K+1+1=K+2 by omega] at z
 .exact hc.more ab
theorem Nh(w:aJ)(f:bg)(out:Int×ae):aD (eI w f out)=aD w/\bO (eI w f out)=bO w ∧
  (aM (eI w f out)=aM w∨∃ g,aO g=jA w out.1/\aM (eI w f out)=fJ (aM w) g):=by
 unfold eI
 dsimp only
 split
 .exact⟨rfl,rfl,.inl rfl⟩
 split
 .exact⟨rfl,rfl,.inl rfl⟩
 .exact⟨rfl,rfl,.inr ⟨_,rfl,rfl⟩⟩
theorem A5{n:aQ}(h:eh n=0){i:Nat}(hi:i<n.1.length){k:Int}(hp:0<=cu (n.1.getD i default) k):k∈bo (n.1.getD i default):=by
 obtain⟨a,b⟩:=tR (q:=ic k) (l:=ay (n.1.getD i default)) hp
 have hm:=n6 (xs:=ay (n.1.getD i default)) (i:=(gX (ic k) (ay (n.1.getD i default))).toNat) (by unfold cu at hp;omega)
 exact List.mem_map.2 ⟨_,hm,aI b⟩
theorem aA2{w:aJ}{K:Int}(h:dJ w K){f:bg}(hf:uC (aD w) (bO w) (bK w) f):aD (jf w f)=aD w/\bO (jf w f)=bO w ∧
  (aM (jf w f)=aM w∨∃ g,bO w+1<=aO g/\aM (jf w f)=fJ (aM w) g):=by
 have hi:(bn f).toNat<(aD w).1.length:=by have:=hf.nd;omega
 obtain⟨st,rt⟩:=h.st _ hi
 have N:=uJ h.net hi
 have O:=Kc (lk:=gO f) (t:=aO f) N st.rt hf.b
 have eH:bm w f=fP ((aD w).1.getD (bn f).toNat default) ((cq w).getD (bn f).toNat default) (gO f) (aO f) (f8 f):=rfl
 rw[← eH] at O
 unfold jf
 dsimp only
 have key:∀ B:aJ,aD B=aD w->bO B=bO w->aM B=aM w->gp B=gp w →
   (aD (if 0<(bm w f).2.1.2.length then eI B f (bm w f).2.1 else B)=aD w/\bO (if 0<(bm w f).2.1.2.length then eI B f (bm w f).2.1 else B)=bO w ∧
    (aM (if 0<(bm w f).2.1.2.length then eI B f (bm w f).2.1 else B)=aM w∨∃ g,bO w+1<=aO g/\aM (if 0<(bm w f).2.1.2.length then eI B f (bm w f).2.1 else B)=fJ (aM w) g)):=by
  intro B b1 b2 b3 b4;split
  .rename_i hp;obtain⟨c1,c2,c3⟩:=Nh B f (bm w f).2.1;refine⟨c1.trans b1,c2.trans b2,?_⟩;rcases c3 with c3|⟨g,g1,g2⟩
   .exact .inl (c3.trans b3)
   .have hr:(bm w f).2.2=0∨(bm w f).2.2=2:=by
     by_cases z0:(bm w f).2.2=0
     .exact .inl z0
     by_cases z2:(bm w f).2.2=2
     .exact .inr z2
     .have:=O.none z0 z2;rw[this] at hp;exact absurd hp (by simp[iK])
    have hl:=A5 h.net hi (O.some hr).2.2;obtain⟨-,snd,-⟩:=yH h.net hi hl;have ov:=Ba (w:=B) (k:=(bm w f).2.1.1) (by unfold cU;rw[b1];exact snd) (by rw[b2];exact h.now);refine .inr ⟨g,by rw[g1,← b2];exact ov.1,by rw[g2,b3]⟩
  .exact⟨b1,b2,.inl b3⟩
 apply key
 all_goals (split <;> (split <;> rfl))
theorem zn(to:Int)(f:bg)(r:List bg):kR to (f::r)=(to+1-aO f).toNat+kR to r:=by
 unfold kR;rw[fF,List.sum_cons]
theorem dJ.step{w:aJ}{K:Int}(h:dJ w K)(hK:K<=1099511627776){f:bg}{r:List bg}(e:aM w=f::r) :
  dJ (fw w) (K+2)/\aD (fw w)=aD w/\bO (fw w)=aO f∧∀ to,aO f<=to->kR to (aM (fw w))+1<=kR to (aM w):=by
 have hp:=h.fl
 rw[e] at hp
 obtain⟨p1,p2⟩:=List.pairwise_cons.1 hp
 have hf:=h.fo f (by rw[e];exact fY)
 have hle:∀ x∈r,aO f<=aO x:=λx hx=>by rcases p1 x hx with k|k <;> omega
 have ed:(aM w).headD default=f:=by rw[e];rfl
 have et:(aM w).tail=r:=by rw[e];rfl
 have hb:dJ (fL (hV w r) (aO f)) K:=by
  refine⟨h.net,⟨by show 0<=aO f;have:=h.now;have:=hf.t;omega,hf.t.2⟩,h.ord,h.done,h.len,h.st,h.cl,h.cr,p2,λx hx=>?_,?_⟩
  .have hx:x∈r:=hx;have k:=h.fo x (by rw[e];exact fM _ hx);exact⟨⟨hle x hx,k.t.2⟩,k.o,k.nd,k.l,k.g,k.b,k.d⟩
  .show r.length<=4096;have:=h.fn;rw[e,dN] at this;omega
 have hc:=Jh ((aD w).2.2.length-(dm w).toNat) hb
 have es:fw w=jf (dr (fL (hV w r) (aO f))) f:=by unfold fw;rw[ed,et]
 have ec:dr (fL (hV w r) (aO f))=jw ((aD w).2.2.length-(dm w).toNat) (fL (hV w r) (aO f)):=rfl
 rw[← ec] at hc
 obtain⟨c1,c2,c3,c4,c5⟩:=hc
 generalize dr (fL (hV w r) (aO f))=v at c1 c2 c3 c4 c5 es
 have n1:aD v=aD w:=c2
 have n2:bO v=aO f:=c3
 have n3:bK v=bK w:=c4
 have n4:aM v=r:=jn (λx:ae×List bg×List rq×List fm=>x.2.1) c5
 have hfv:uC (aD v) (bO v) (bK v) f:=by
  rw[n1,n2,n3];exact⟨⟨fZ _,hf.t.2⟩,hf.o,hf.nd,hf.l,hf.g,hf.b,hf.d⟩
 have L:=aA2 c1 hfv
 rw[es]
 refine⟨c1.land hK hfv n2.symm,L.1.trans n1,L.2.1.trans n2,λto hto=>?_⟩
 rw[e,zn]
 rcases L.2.2 with q|⟨g,g1,g2⟩
 .rw[q,n4];omega
 .rw[g2,n4,Pv];rw[n2] at g1;omega
theorem dJ.run{to:Int}:∀(n:Nat){w:aJ}{K:Int},dJ w K->kR to (aM w)<=n->K+2*n<=1099511627776->dJ (mv n w to) (K+2*n)/\jY (mv n w to) to=false/\aD (mv n w to)=aD w
 | 0,w,K,h,hw,hK=>by
  refine⟨by simpa[mv] using h,?_,rfl⟩;show jY w to=false;unfold jY;cases e:aM w with
  | nil=>rfl
  | cons f r =>
   rw[e,zn] at hw;exact dP ab
 | n+1,w,K,h,hw,hK=>by
  rw[mv];split
  .rename_i hb;unfold jY at hb;cases e:aM w with
   | nil=>rw[e] at hb;cases hb
   | cons f r =>
    rw[e] at hb;have hb:=aI hb;obtain⟨s1,s2,-,s4⟩:=h.step ab e;have:=s4 to hb;obtain⟨t1,t2,t3⟩:=dJ.run (to:=to) n s1 ab ab;rw[show K+2+2*(n:Int)=K+2*((n+1:Nat):Int) by omega] at t1;exact⟨t1,t2,t3.trans s2⟩
  next hb=>exact⟨h.more ab,by simpa using hb,rfl⟩
def okDn(w:aJ):Prop:=0<=dm w/\((aD w).2.2.length:Int)<=1099511627776
def ux(w:aJ):Nat:=(aD w).2.2.length-(dm w).toNat
theorem Lc{w:aJ}(h:okDn w)(hd:o4 w=true):dm (nD w)=dm w+1/\okDn (nD w)/\ux (nD w)+1=ux w:=by
 unfold o4 at hd
 rw[dM,om,om] at hd
 obtain⟨h0,h1⟩:=h
 have e:dm (nD w)=dm w+1:=aG (n:=dm w+1) ab ab
 refine⟨e,⟨by rw[e];omega,h1⟩,?_⟩
 unfold ux
 rw[e]
 show (aD w).2.2.length-_+1=_
 omega
theorem L0{w:aJ}(h:okDn w)(hd:o4 w=true):0<ux w:=by
 unfold o4 at hd
 rw[dM,om,om] at hd
 have:=h.1
 unfold ux;omega
theorem Qc:∀(n m:Nat){w:aJ},okDn w->ux w<=n->ux w<=m->jw n w=jw m w
 | 0,0,_,_,_,_=>rfl
 | 0,m+1,w,h,hn,_=>by
  rw[jw,jw,af];intro hd;have:=L0 h hd;omega
 | n+1,0,w,h,_,hm=>by
  rw[jw,jw,af];intro hd;have:=L0 h hd;omega
 | n+1,m+1,w,h,hn,hm=>by
  rw[jw,jw];split
  next hd=>obtain⟨-,o,r⟩:=Lc h hd;exact Qc n m o ab ab
  .rfl
theorem VK{w:aJ}(h:okDn w){n:Nat}(hn:ux w<=n):dr w=jw n w:=Qc _ _ h (ir _) hn
theorem B9:∀(n:Nat)(w:aJ),(jw n w).1=w.1/\(jw n w).2.1=w.2.1/\(jw n w).2.2.1=w.2.2.1/\(jw n w).2.2.2.2.2=w.2.2.2.2.2
 | 0,w=>⟨rfl,rfl,rfl,rfl⟩
 | n+1,w=>by
  rw[jw];split
  .have k:=B9 n (nD w);exact⟨k.1.trans rfl,k.2.1.trans rfl,k.2.2.1.trans rfl,k.2.2.2.trans rfl⟩
  .exact⟨rfl,rfl,rfl,rfl⟩
theorem Zu(w:aJ):aM (dr w)=aM w/\bO (dr w)=bO w:=⟨jn (λx:ae×List bg×List rq×List fm=>x.2.1) (B9 _ w).2.2.2,(B9 _ w).2.1⟩
def jG(w:aJ)(to:Int):aJ:=mv (kR to (aM w)) w to
theorem aO6{w:aJ}{to:Int}(hb:jY w to=false):∀ n:Nat,mv n w to=w
 | 0=>rfl
 | n+1=>by rw[mv,af (by rw[hb];simp)]
theorem dJ.okDn{w:aJ}{K:Int}(h:dJ w K):okDn w:=⟨h.done.1,by have:=zD h.net;omega⟩
theorem dJ.wait{w:aJ}{K a:Int}(h:dJ w K)(hb:jY w a=false)(ha:0<=a/\a<=1125899906842624):dJ (fL w a) K:=by
 refine⟨h.net,ha,h.ord,h.done,h.len,h.st,h.cl,h.cr,h.fl,λx hx=>?_,h.fn⟩
 have hx:x∈aM w:=hx
 have k:=h.fo x hx
 refine⟨⟨?_,k.t.2⟩,k.o,k.nd,k.l,k.g,k.b,k.d⟩
 show a<=aO x
 have hp:=h.fl
 unfold jY at hb
 cases e:aM w with
 | nil=>rw[e] at hx;cases hx
 | cons f r =>
  rw[e] at hb hx hp;have hb:=aL hb;rcases dK.1 hx with rfl|hx
  .omega
  .rcases (List.pairwise_cons.1 hp).1 x hx with q|q <;> omega
def Pa(f:bg):Int×Int×Int×Int×ae:=(f.1,f.2.2)
def Lr(c:Int)(l l':List bg):Prop:=∃ (g:bg) (pre post:List bg),l'=pre++g::post/\(pre++post).map Pa=l.map Pa/\c<aO g/\(∀ y∈pre,aO y<=aO g)∧∀ y∈post,aO g<=aO y
theorem Lr.len{c:Int}{l l':List bg}(h:Lr c l l'):l'.length=l.length+1:=by
 obtain⟨g,pre,post,rfl,h1,-⟩:=h
 have:=jn length h1
 rw[mq,mq,cA] at this
 rw[cA,dN];omega
structure vJ (n:aQ) (now:Int) (f:bg):Prop where
 t:now<=aO f/\aO f<=1125899906842624
 nd:0<=bn f/\bn f<n.1.length
 l:gO f = -1∨gO f∈bo (n.1.getD (bn f).toNat default)
 b:bytes (f8 f)
 d:((f8 f).length:Int)<=2000
structure gb (w:aJ):Prop where
 net:eh (aD w)=0
 now:0<=bO w/\bO w<=1125899906842624
 done:0<=dm w/\dm w<=(aD w).2.2.length
 len:(cq w).length=(aD w).1.length
 st:∀ i:Nat,i<(aD w).1.length->bS ((cq w).getD i default)=(dH (aD w) (dm w).toNat).getD i default/\(lI ((cq w).getD i default)).length=(ay ((aD w).1.getD i default)).length
 cl:(gp w).length=(aD w).2.1.length
 fl:(aM w).Pairwise λa b=>aO a<=aO b
 fo:∀ f∈aM w,vJ (aD w) (bO w) f
 fn:(aM w).length<=4096
theorem dJ.weak{w:aJ}{K:Int}(h:dJ w K):gb w :=
 ⟨h.net,h.now,h.done,h.len,λi hi=>⟨(h.st i hi).2,(h.st i hi).1.ps⟩,h.cl,h.fl.imp λq=>by rcases q with q|q <;> omega,
  λf hf=>by have k:=h.fo f hf;exact⟨k.t,k.nd,k.l,k.b,k.d⟩,h.fn⟩
theorem gb.chk{w:aJ}(h:gb w){i:Nat}(hi:i<(aD w).1.length):dL (bS ((cq w).getD i default)) (bo ((aD w).1.getD i default))=0:=by
 rw[(h.st i hi).1]
 exact LX h.net _ (by have:=h.done;omega) i hi
theorem gb.chg{w:aJ}(h:gb w)(hd:o4 w=true):gb (nD w):=by
 have hd0:=hd
 unfold o4 at hd
 rw[dM,om,om] at hd
 have hk:(dm w).toNat<(aD w).2.2.length:=by have:=h.done;omega
 obtain⟨-,⟨w0,w1⟩,-⟩:=DO h.net hk
 have sz:=zD h.net
 have eD:dm (nD w)=dm w+1:=aG (n:=dm w+1) (by have:=h.done;omega) (by have:=h.done;omega)
 have eN:aD (nD w)=aD w:=rfl
 have hwho:bL (kL w)=bL ((aD w).2.2.getD (dm w).toNat default):=rfl
 have hlt:(bL (kL w)).toNat<(aD w).1.length:=ab
 have hst:=h.st _ hlt
 refine⟨h.net,h.now,by have:=h.done;rw[eD,eN];omega,?_,λi hi=>?_,h.cl,h.fl,h.fo,h.fn⟩
 .show ((cq w).set _ _).length=_;rw[gC];exact h.len
 .have hi:i<(aD w).1.length:=hi;rw[eD,eN,show (dm w+1).toNat=(dm w).toNat+1 by have:=h.done;omega,dH];show bS (((cq w).set (bL (kL w)).toNat _).getD i default)=_/\(lI (((cq w).set (bL (kL w)).toNat _).getD i default)).length=_;by_cases e:(bL (kL w)).toNat=i
  .subst e;rw[kv (by rw[h.len];exact hlt),show ((aD w).2.2.getD (dm w).toNat default)=kL w from rfl,kv (by rw[qD];exact hlt),← hst.1];exact⟨rfl,hst.2⟩
  .rw[nt e,show ((aD w).2.2.getD (dm w).toNat default)=kL w from rfl,nt e];exact h.st i hi
theorem JP:∀(n:Nat){w:aJ},gb w->gb (jw n w)
 | 0,w,h=>h
 | n+1,w,h=>by
  rw[jw];split
  next hd=>exact JP n (h.chg hd)
  .exact h
theorem aX3{l:List bg}{f:bg}(h:l.Pairwise λa b=>aO a<=aO b):(fJ l f).Pairwise λa b=>aO a<=aO b:=by
 induction l with
 | nil=>simp[fJ]
 | cons x l ih =>
  obtain⟨a,b⟩:=List.pairwise_cons.1 h;have ih:=ih b;by_cases c:aO x<=aO f
  .have e:fJ (x::l) f=x::fJ l f:=by
    unfold fJ;rw[List.takeWhile_cons_of_pos (by simpa using c),List.dropWhile_cons_of_pos (by simpa using c)];rfl
   rw[e];refine List.pairwise_cons.2 ⟨λy hy=>?_,ih⟩;rcases zH.1 hy with rfl|hy
   .exact c
   .exact a y hy
  .have e:fJ (x::l) f=f::x::l:=by
    unfold fJ;rw[List.takeWhile_cons_of_neg (by simpa using c),List.dropWhile_cons_of_neg (by simpa using c)];rfl
   rw[e];refine List.pairwise_cons.2 ⟨λy hy=>?_,h⟩;rcases dK.1 hy with rfl|hy
   .omega
   .have:=a y hy;omega
theorem gb.crosses{w:aJ}(h:gb w){f:bg}{out:Int×ae}(hf:0<=bn f/\bn f<(aD w).1.length)
  (hk:out.1∈bo ((aD w).1.getD (bn f).toNat default)) (hb:bytes out.2) (hl:(out.2.length:Int)<=2000):gb (eI w f out):=by
 have hi:(bn f).toNat<(aD w).1.length:=ab
 obtain⟨⟨k0,k1⟩,snd,o1,o2⟩:=yH h.net hi hk
 rw[show (((bn f).toNat:Nat):Int)=bn f by omega] at o1 o2
 have ov:=Ba (w:=w) (k:=out.1) snd h.now
 have base:gb (vd w ((gp w).set out.1.toNat (IntKind.i64.wrap (ky w out.1+1)))):=by
  refine⟨h.net,h.now,h.done,h.len,h.st,?_,h.fl,h.fo,h.fn⟩;show ((gp w).set _ _).length=_;rw[gC];exact h.cl
 unfold eI
 dsimp only
 split
 .exact⟨base.net,base.now,base.done,base.len,base.st,base.cl,base.fl,base.fo,base.fn⟩
 split
 .exact⟨base.net,base.now,base.done,base.len,base.st,base.cl,base.fl,base.fo,base.fn⟩
 rename_i q
 refine⟨base.net,base.now,base.done,base.len,base.st,base.cl,aX3 h.fl,?_,?_⟩
 .intro x hx;have hx:x∈fJ (aM w) (jA w out.1,bK w,fD (aD w).2.1 out.1 (bn f),out.1,iy f,out.2):=hx;rcases zH.1 hx with rfl|hx
  .exact⟨⟨by show bO w<=jA w out.1;omega,by show jA w out.1<=_;omega⟩,o1,.inr o2,hb,hl⟩
  .exact h.fo x hx
 .show (fJ (aM w) _).length<=4096;rw[Eg];omega
theorem gb.out{w:aJ}(h:gb w){f:bg}(hf:vJ (aD w) (bO w) f) :
  R5 ((aD w).1.getD (bn f).toNat default) ((cq w).getD (bn f).toNat default) (bm w f):=by
 have hi:(bn f).toNat<(aD w).1.length:=by have:=hf.nd;omega
 obtain⟨-,-,h3⟩:=B8 (h.chk hi)
 exact Kc (lk:=gO f) (t:=aO f) (uJ h.net hi) (λr hr=>(h3 r hr).2) hf.b
theorem gb.land{w:aJ}(h:gb w){f:bg}(hf:vJ (aD w) (bO w) f):gb (jf w f):=by
 have hi:(bn f).toNat<(aD w).1.length:=by have:=hf.nd;omega
 have O:=h.out hf
 have T:=(Ox ((aD w).1.getD (bn f).toNat default) ((cq w).getD (bn f).toNat default) (gO f) (aO f) (f8 f)).2.1
 have eH:bm w f=fP ((aD w).1.getD (bn f).toNat default) ((cq w).getD (bn f).toNat default) (gO f) (aO f) (f8 f):=rfl
 rw[← eH] at T
 have ha:gb (iN w ((cq w).set (bn f).toNat (bm w f).1)):=by
  refine⟨h.net,h.now,h.done,?_,λi hl=>?_,h.cl,h.fl,h.fo,h.fn⟩
  .show ((cq w).set _ _).length=_;rw[gC];exact h.len
  .have hl:i<(aD w).1.length:=hl;show bS (((cq w).set (bn f).toNat (bm w f).1).getD i default)=_/\(lI (((cq w).set (bn f).toNat (bm w f).1).getD i default)).length=_;by_cases e:(bn f).toNat=i
   .subst e;rw[kv (by rw[h.len];exact hi)];exact⟨O.rt.trans (h.st _ hi).1,T.trans (h.st _ hi).2⟩
   .rw[nt e];exact h.st i hl
 unfold jf
 dsimp only
 have key:∀ B:aJ,gb B->aD B=aD w->gb (if 0<(bm w f).2.1.2.length then eI B f (bm w f).2.1 else B):=by
  intro B hB b1;split
  .rename_i hp;have hr:(bm w f).2.2=0∨(bm w f).2.2=2:=by
    by_cases z0:(bm w f).2.2=0
    .exact .inl z0
    by_cases z2:(bm w f).2.2=2
    .exact .inr z2
    .have:=O.none z0 z2;rw[this] at hp;exact absurd hp (by simp[iK])
   obtain⟨p1,p2,p3⟩:=O.some hr;exact hB.crosses (by rw[b1];exact hf.nd) (by rw[b1];exact A5 h.net hi p3) O.byt ab
  .exact hB
 apply key
 .split <;> (split <;> exact⟨ha.net,ha.now,ha.done,ha.len,ha.st,ha.cl,ha.fl,ha.fo,ha.fn⟩)
 .split <;> (split <;> rfl)
theorem Us{w:aJ}(h:gb w){f:bg}(hf:vJ (aD w) (bO w) f):aD (jf w f)=aD w/\bO (jf w f)=bO w ∧
  (aM (jf w f)=aM w∨∃ g,bO w+1<=aO g/\aM (jf w f)=fJ (aM w) g):=by
 have hi:(bn f).toNat<(aD w).1.length:=by have:=hf.nd;omega
 have O:=h.out hf
 unfold jf
 dsimp only
 have key:∀ B:aJ,aD B=aD w->bO B=bO w->aM B=aM w →
   (aD (if 0<(bm w f).2.1.2.length then eI B f (bm w f).2.1 else B)=aD w/\bO (if 0<(bm w f).2.1.2.length then eI B f (bm w f).2.1 else B)=bO w ∧
    (aM (if 0<(bm w f).2.1.2.length then eI B f (bm w f).2.1 else B)=aM w∨∃ g,bO w+1<=aO g/\aM (if 0<(bm w f).2.1.2.length then eI B f (bm w f).2.1 else B)=fJ (aM w) g)):=by
  intro B b1 b2 b3;split
  .rename_i hp;obtain⟨c1,c2,c3⟩:=Nh B f (bm w f).2.1;refine⟨c1.trans b1,c2.trans b2,?_⟩;rcases c3 with c3|⟨g,g1,g2⟩
   .exact .inl (c3.trans b3)
   .have hr:(bm w f).2.2=0∨(bm w f).2.2=2:=by
     by_cases z0:(bm w f).2.2=0
     .exact .inl z0
     by_cases z2:(bm w f).2.2=2
     .exact .inr z2
     .have:=O.none z0 z2;rw[this] at hp;exact absurd hp (by simp[iK])
    obtain⟨-,snd,-⟩:=yH h.net hi (A5 h.net hi (O.some hr).2.2);have ov:=Ba (w:=B) (k:=(bm w f).2.1.1) (by unfold cU;rw[b1];exact snd) (by rw[b2];exact h.now);exact .inr ⟨g,by rw[g1,← b2];exact ov.1,by rw[g2,b3]⟩
  .exact⟨b1,b2,.inl b3⟩
 apply key
 all_goals (split <;> (split <;> rfl))
theorem gb.step{w:aJ}(h:gb w){f:bg}{r:List bg}(e:aM w=f::r) :
  gb (fw w)/\aD (fw w)=aD w/\bO (fw w)=aO f∧∀ to,aO f<=to->kR to (aM (fw w))+1<=kR to (aM w):=by
 have hp:=h.fl
 rw[e] at hp
 obtain⟨p1,p2⟩:=List.pairwise_cons.1 hp
 have hf:=h.fo f (by rw[e];exact fY)
 have hb:gb (fL (hV w r) (aO f)):=by
  refine⟨h.net,⟨by show 0<=aO f;have:=h.now;have:=hf.t;omega,hf.t.2⟩,h.done,h.len,h.st,h.cl,p2,λx hx=>?_,?_⟩
  .have hx:x∈r:=hx;have k:=h.fo x (by rw[e];exact fM _ hx);exact⟨⟨p1 x hx,k.t.2⟩,k.nd,k.l,k.b,k.d⟩
  .show r.length<=4096;have:=h.fn;rw[e,dN] at this;omega
 have es:fw w=jf (dr (fL (hV w r) (aO f))) f:=by unfold fw;rw[e];rfl
 have c1:gb (dr (fL (hV w r) (aO f))):=JP _ hb
 have c2:=B9 ((aD w).2.2.length-(dm w).toNat) (fL (hV w r) (aO f))
 have n1:aD (dr (fL (hV w r) (aO f)))=aD w:=c2.1
 have n2:bO (dr (fL (hV w r) (aO f)))=aO f:=c2.2.1
 have n4:aM (dr (fL (hV w r) (aO f)))=r:=(Zu _).1
 generalize dr (fL (hV w r) (aO f))=v at c1 n1 n2 n4 es
 have hfv:vJ (aD v) (bO v) f:=by
  rw[n1,n2];exact⟨⟨fZ _,hf.t.2⟩,hf.nd,hf.l,hf.b,hf.d⟩
 have L:=Us c1 hfv
 rw[es]
 refine⟨c1.land hfv,L.1.trans n1,L.2.1.trans n2,λto hto=>?_⟩
 rw[e,zn]
 rcases L.2.2 with q|⟨g,g1,g2⟩
 .rw[q,n4];omega
 .rw[g2,n4,Pv];rw[n2] at g1;omega
theorem HD{b:ae}(hb:bytes b)(h:gw b=0):bH (io b)=yB (bH b)/\bY (io b)=0/\(io b).drop 20=b.drop 20:=by
 have hd:bY b=0:=fj λk=>by rw[gw,am k] at h;exact k h
 have ht:¬ (bH b).2.2.1<2:=λk=>by rw[gw,af (λq=>q hd),am k] at h;cases h
 obtain⟨⟨h1,⟨h2,h2'⟩,h3,h4,h5⟩,l1,l2⟩:=yq hb hd
 have hk:kW (yB (bH b)):=⟨h1,⟨by show 0<=(bH b).2.2.1-1;omega,by show (bH b).2.2.1-1<=255;omega⟩,h3,h4,h5⟩
 have hl:((b.drop 20).length:Int)<=1480:=by rw[fy];omega
 have e:fv (yB (bH b),b.drop 20)=0:=by
  rw[fv,af (by rw[o8];exact hk),af (by simp only;omega)]
 rw[io,am h,d7,am e]
 exact Iy hk (rW hb 12) (rW hb 16) hl (vu hb)
theorem LF{b:ae}(hb:bytes b)(hn:¬ dG b):¬ dG (if gw b=0 then io b else b):=by
 split
 next h=>
  obtain⟨e1,e2,e3⟩:=HD hb h;have hd:bY b=0:=fj λk=>by rw[gw,am k] at h;exact k h
  rintro⟨-,k⟩;apply hn;refine⟨hd,?_⟩;rw[aY,am e2,e1,e3] at k;rw[aY,am hd];exact k
 .exact hn
theorem DF{b:ae}{f kind code id ttl:Int}(hb:bytes b)(hf:u32 f)(h:fR b kind code id ttl=0):¬ dG (jr b f kind code id ttl):=by
 have hg:pI kind code id ttl:=fj λk=>by rw[fR,am k] at h;cases h
 have ha:dG b:=fj λk=>by rw[fR,af (λq=>q hg),af k] at h;cases h
 obtain⟨-,e,en,ei⟩:=Bn (src:=f) hg ha
 have hk:=hg.1
 rw[e]
 obtain⟨s1,s2,s3,s4⟩:=yr (src:=f) (dst:=cO b) (proto:=1) (data:=iO (kind,code,b.take 28)) hg.2.2 ab hf (rW hb 12) (CE _) (Dc en (FI hb))
 intro k
 have hp1:dk (d7 (jc f (cO b) 1 id ttl (iO (kind,code,b.take 28))))=1:=by rw[dk,s2]
 have:=(qA k).2.2.1 hp1
 rw[s3,(Ij en).1] at this
 simp only at this
 omega
theorem ZS{b:ae}{f id ttl:Int}(hb:bytes b)(hf:u32 f)(h:gR b id ttl=0):¬ dG (ji b f id ttl):=by
 have hn:iU id ttl:=fj λk=>by rw[gR,am k] at h;cases h
 have hg:tX b:=fj λk=>by rw[gR,af (λq=>q hn),af k] at h;cases h
 obtain⟨-,l1,l2⟩:=yq hb hg.1.1
 have hd:=vu (n:=20) hb
 rcases hg with⟨ha,⟨g1,g2⟩|⟨g1,g2⟩|⟨g1,g2,g3,g4⟩⟩
 .rw[(E0 (src:=f) hn ha g1 g2).1];have hE:((fN (true,(gn (b.drop 20)).2)).length:Int)<=1480/\bytes (fN (true,(gn (b.drop 20)).2)):=by
   have e:(gn (b.drop 20)).2.2.2=(b.drop 20).drop 8:=by unfold gn;rw[am g2]
   refine Ni ?_ ?_
   .show bytes (gn (b.drop 20)).2.2.2;rw[e];exact vu hd
   .show ((gn (b.drop 20)).2.2.2.length:Int)<=1472;rw[e];simp only[fy];omega
  obtain⟨s1,s2,s3,s4⟩:=yr (src:=f) (dst:=cO b) (proto:=1) hn ab hf (rW hb 12) hE.1 hE.2;intro k;have h8:=(qA k).2.2.1 (by rw[dk,s2]);have h28:=(qA k).2.1;rw[s3] at h8;rw[s4] at h28;unfold fN at h8 h28;split at h8
  .have:(cR (cV (true,(gn (b.drop 20)).2)) 2 (de (cV (true,(gn (b.drop 20)).2)))).getD 0 default=0:=rfl;rw[this] at h8;cases h8
  next z=>rw[af z] at h28;simp at h28
 .rw[(Dz (src:=f) hn ha g1 g2).1];exact DF hb hf (IS hn ha)
 .rw[(EJ (src:=f) hn ha g1 g2 g3 g4).1];have hE:((fI f (cO b) (md (fV (cO b) (gf b) (b.drop 20)))).length:Int)<=1480/\bytes (fI f (cO b) (md (fV (cO b) (gf b) (b.drop 20)))):=QV rfl;obtain⟨s1,s2,s3,s4⟩:=yr (src:=f) (dst:=cO b) (proto:=6) hn ab hf (rW hb 12) hE.1 hE.2;intro k;have h28:=(qA k).2.1;rw[s4] at h28;unfold fI at h28;split at h28
  next z=>have hfl:=(qA k).2.2.2.1 (by rw[dk,s2]);rw[s3] at hfl;unfold fI at hfl;rw[am z] at hfl;have h13:(cR (kC (md (fV (cO b) (gf b) (b.drop 20)))) 16 (fQ f (cO b) 6 (kC (md (fV (cO b) (gf b) (b.drop 20)))))).getD 13 default=20:=rfl;rw[h13,mP,Al] at hfl;have:=hfl (by show 14<=20+_;omega);exact absurd this bt
  .simp at h28
theorem PZ{x:au}{lk L:Int}(N:n8 x)(A:uV x)(hL:0<=cu x L):u32 (kI x (cj x lk) L):=by
 have l1:cu x L<(ay x).length:=(tR hL).1
 unfold kI
 split
 .exact (Du A hL l1).1
 split
 .exact A.2.1
 split
 .exact A.2.2
 .exact (Du A (D5 x lk) (aO1 N lk)).1
theorem Zt{ki:Int}{w:dQ}{f id:Int}(hb:bytes w.2.2.2.2.1)(hf:u32 f)(hn:iU id (iE w.1))(h:kE ki w 0=0):¬ dG (kB ki w f id):=by
 have ha:=Is h
 unfold kB
 split
 .exact DF hb hf (by rw[fR,af (λk=>k ⟨.inl rfl,ab,hn⟩),am ha])
 split
 .exact DF hb hf (by rw[fR,af (λk=>k ⟨.inr rfl,ab,hn⟩),am ha])
 next k2 k3=>
  have h:gR w.2.2.2.2.1 0 (iE w.1)=0:=by
   unfold kE at h;rw[af k2,af k3] at h;exact h
  have hg:tX w.2.2.2.2.1:=fj λq=>by
   rw[gR] at h;split at h
   .cases h
   .cases h
  exact ZS hb hf (B1 hn hg)
theorem Zc{x:au}{s:ct}{lk t:Int}{b:ae}(N:n8 x)(A:uV x)(hrt:∀ r∈bS s,lf r (bo x))(hb:bytes b) :
  ((fP x s lk t b).2.2=2->dG b∧¬ dG (fP x s lk t b).2.1.2)/\((fP x s lk t b).2.2=0→¬ dG b→¬ dG (fP x s lk t b).2.1.2):=by
 constructor
 .intro h2;have hbo:dG b:=fj λk=>QD k h2;refine⟨hbo,?_⟩;obtain⟨ki,e,hk⟩:=GQ h2;rw[e] at h2 ⊢;obtain⟨w,hw⟩:∃ w,w=i7 x s lk t b:=⟨_,rfl⟩
  rw[← hw] at h2 ⊢;obtain⟨a1,a2,a3⟩:=CY h2;have w1:w.1=x:=by rw[hw];rfl
  have w2:w.2.1=s:=by rw[hw];rfl
  have w3:w.2.2.1=lk:=by rw[hw];rfl
  have w5:w.2.2.2.2.1=b:=by rw[hw];rfl
  have w6:w.2.2.2.2.2=bH b:=by
   have:w.2.2.2.2.2=(aY b).1:=by rw[hw];rfl
   rw[this,aY,am hbo.1]
  have hn:=HE (w:=w) (by rw[w1];exact N.id) (by rw[w1];exact N.form) (by rw[w6];exact nS hb 4);have hL:0<=cu x (kg (kB ki w) w):=by
   have:=C3 hrt (a:=kP w.2.2.2.2.2) (by rw[← w2];exact a2) (j9 w) (bc (kB ki w (adr w.1 (cj w.1 w.2.2.1)) 0));unfold kg ku;rw[w1,w2];rw[w1] at this;exact this
  have hf:u32 (kq (kB ki w) w (pi ki w)):=by
   unfold kq;split
   .rw[w1,w3];exact PZ N A hL
   .rename_i k;unfold pi at k ⊢;split
    .rw[w6];exact rW hb 16
    next z=>rw[af z] at k;exact absurd rfl k
  have ho:(tK w ki).2.1.2=kB ki w (kq (kB ki w) w (pi ki w)) (iq w):=jn (λr:oI=>r.2.1.2) a3;rw[ho];exact Zt (by rw[w5];exact hb) hf hn a1
 .intro h0 hno;have F:=Dw h0;rw[Bj (t:=t) F];show ¬ dG (if lk ≠ -1/\dI x=false then io b else b);split
  .rename_i k;have ht:=F.ttl;have e1:(aY b).1=bH b:=by rw[aY,am F.dec]
   rw[e1] at ht;have hl:gw b=0:=by
    rw[gw,af (λq=>q F.dec)];exact af (λq=>ht ⟨k.1,k.2,q⟩)
   have:=LF hb hno
   rwa [am hl] at this
  .exact hno
def jD(e:fm):Int:=e.1
def IX(e:fm):Int:=e.2.1
def uT(e:fm):Int:=e.2.2.2.2
def Ly(fl:List bg)(en:List fm):Prop :=
 (∃ f,fl=[f]/\en=[])∨(∃ f e,fl=[f]/\en=[e]/\uT e=2/\IX e<=aO f∧¬ dG (f8 f)) ∨
  (fl=[]∧∃ e,en=[e]/\uT e≠2)∨(fl=[]∧∃ a e,en=[a,e]/\uT a=2/\uT e≠2/\IX a<=IX e)
def s8(o:Int)(l:List bg):List bg:=l.filter λf=>decide (iy f=o)
def AP(o:Int)(l:List fm):List fm:=l.filter λe=>decide (jD e=o)
theorem az9{o:Int}{l:List bg}{g:bg}(h:iy g≠o):s8 o (fJ l g)=s8 o l:=by
 unfold s8 fJ
 rw[qx,List.filter_cons_of_neg (by simpa using h),← qx,sD]
theorem YD{o:Int}{l:List bg}{g:bg}(h:iy g=o)(hl:s8 o l=[]):s8 o (fJ l g)=[g]:=by
 unfold s8 at hl ⊢
 rw[← sD (p:=λx=>decide (aO x<=aO g)) (l:=l),qx] at hl
 obtain⟨h1,h2⟩:=List.append_eq_nil_iff.1 hl
 unfold fJ
 rw[qx,List.filter_cons_of_pos (by simpa using h),h1,h2];rfl
theorem ae4(w:aJ)(f:bg)(out:Int×ae) :
  (∃ why,(why=3∨why=7)/\bh (eI w f out)=bh w++[(iy f,aO f,bn f,out.1,why)]/\aM (eI w f out)=aM w) ∨
   (∃ g,iy g=iy f/\f8 g=out.2/\aO g=jA w out.1/\bh (eI w f out)=bh w/\aM (eI w f out)=fJ (aM w) g):=by
 unfold eI
 dsimp only
 split
 .exact .inl ⟨3,.inl rfl,rfl,rfl⟩
 split
 .exact .inl ⟨7,.inr rfl,rfl,rfl⟩
 .exact .inr ⟨(jA w out.1,bK w,fD (aD w).2.1 out.1 (bn f),out.1,iy f,out.2),rfl,rfl,rfl,rfl,rfl⟩
theorem au4{o:Int}{es:List fm}(h:∀ e∈es,jD e≠o):AP o es=[]:=List.filter_eq_nil_iff.2 λe he=>by simpa using h e he
def iB(w:aJ)(at' who:Int)(b:ae):aJ:=yV w (at',0,who,-1,bK w,b)
theorem dJ.send{w:aJ}{K:Int}(h:dJ w K)(hK:K<=2199023255552){at' who:Int}{b:ae}(ha:bO w<=at'∧at'<=1125899906842624)(hw:0<=who/\who<(aD w).1.length)(hb:bytes b)(hl:(b.length:Int)<=2000)
  (hf:(aM w).length<4096):dJ (iB w at' who b) (K+1)/\bK (iB w at' who b)=bK w+1:=by
 have hord:=h.ord
 have ew:IntKind.i64.wrap (bK w+1)=bK w+1:=aG ab ab
 have eo:bK (iB w at' who b)=bK w+1:=ew
 have h':=h.more (K':=K+1) ab
 refine⟨⟨h'.net,h'.now,by rw[eo];omega,h'.done,h'.len,h'.st,h'.cl,h'.cr,?_,?_,?_⟩,eo⟩
 .exact Sh h.fl λx hx=>(h.fo x hx).o.2
 .intro x hx;have hx:x∈fJ (aM w) (at',bK w,who,-1,bK w,b):=hx;show uC (aD w) (bO w) (bK (iB w at' who b)) x;rw[eo];rcases zH.1 hx with rfl|hx
  .exact⟨ha,⟨by show 0<=bK w;omega,by show bK w<bK w+1;omega⟩,hw,.inl rfl,⟨by show 0<=bK w;omega,by show bK w<bK w+1;omega⟩,hb,hl⟩
  .have k:=h.fo x hx;exact⟨k.t,⟨k.o.1,by have:=k.o.2;omega⟩,k.nd,k.l,⟨k.g.1,by have:=k.g.2;omega⟩,k.b,k.d⟩
 .show (fJ (aM w) _).length<=4096;rw[Eg];omega
def jh(n:aQ):aJ:=(n,0,0,0,n.1.map nK,replicate n.2.1.length 0,[],[],[])
theorem dJ.new{n:aQ}(h:eh n=0):dJ (jh n) 0:=by
 refine⟨h,⟨by show (0:Int)<=0;omega,by show (0:Int)<=_;omega⟩,⟨by show (0:Int)<=0;omega,by show (0:Int)<=0;omega⟩,⟨by show (0:Int)<=0;omega,by show (0:Int)<=_;omega⟩,?_,λi hi=>?_,?_,λc hc=>?_,List.Pairwise.nil,λf hf=>(by cases hf),by show (0:Nat)<=4096;omega⟩
 .show (n.1.map nK).length=_;rw[mq];rfl
 .have hi:i<n.1.length:=hi;show iT (n.1.getD i default) ((n.1.map nK).getD i default) 0/\bS ((n.1.map nK).getD i default)=(dH n (0:Int).toNat).getD i default;rw[y9 hi];refine⟨OS (uJ h hi),?_⟩;show aU (n.1.getD i default)=(n.1.map aU).getD i default;rw[y9 hi]
 .show (replicate n.2.1.length (0:Int)).length=_;rw[uh];rfl
 .have hc:c∈replicate n.2.1.length (0:Int):=hc;rw[List.eq_of_mem_replicate hc];omega
theorem Uy{w:aJ}{at' who:Int}{b:ae}(hf:∀ f∈aM w,iy f<bK w)(he:∀ e∈bh w,jD e<bK w) :
  Ly (s8 (bK w) (aM (iB w at' who b))) (AP (bK w) (bh (iB w at' who b))) ∧
   ∀ o,o≠bK w->s8 o (aM (iB w at' who b))=s8 o (aM w)/\AP o (bh (iB w at' who b))=AP o (bh w):=by
 refine⟨.inl ⟨(at',bK w,who,-1,bK w,b),YD rfl ?_,au4 λe h=>?_⟩,λo ho=>⟨az9 (λk=>ho k.symm),rfl⟩⟩
 .exact List.filter_eq_nil_iff.2 λf h=>by have:=hf f h;simp;omega
 .have:=he e h;omega
theorem Lr.one{c:Int}{l:List bg}{g:bg}(h:l.Pairwise λa b=>aO a<=aO b)(hg:c<aO g):Lr c l (fJ l g):=by
 refine⟨g,l.takeWhile λx=>decide (aO x<=aO g),l.dropWhile λx=>decide (aO x<=aO g),rfl,by rw[sD],hg,λy hy=>?_,?_⟩
 .simpa using List.all_eq_true.1 (List.all_takeWhile (p:=λx=>decide (aO x<=aO g)) (l:=l)) y hy
 .intro x hx;have h2:=h;rw[← sD (p:=λx=>decide (aO x<=aO g)) (l:=l)] at h2;obtain⟨-,b,-⟩:=List.pairwise_append.1 h2;cases hh:l.dropWhile (λx=>decide (aO x<=aO g)) with
  | nil=>rw[hh] at hx;cases hx
  | cons y r =>
   have hy:¬ aO y<=aO g:=by
    have:=List.head_dropWhile_not (p:=λx=>decide (aO x<=aO g)) (l:=l) (by rw[hh];simp);simp only[hh,List.head_cons] at this;simpa using this
   rw[hh] at hx b;rcases dK.1 hx with rfl|hx
   .omega
   .have:=(List.pairwise_cons.1 b).1 x hx;omega
def xt(b:ae):Nat:=if bY b=0 then (bH b).2.2.1.toNat else 0
def qe(n:aQ)(f:bg):Nat:=1+2*xt (f8 f)+(if dI (n.1.getD (bn f).toNat default)=true then 1 else 0)+(if gO f = -1 then 2 else 0)+(if dG (f8 f) then 600 else 0)
def rF(n:aQ)(l:List bg):Nat:=(l.map (qe n)).sum
def jJ(w:aJ):Nat:=rF (aD w) (aM w)
def xV(n:aQ):Prop:=∀ i:Nat,i<n.1.length->uV (n.1.getD i default)
theorem KO{b:ae}(hb:bytes b):xt b<=255:=by
 unfold xt
 split
 next h=>obtain⟨⟨-,⟨h1,h2⟩,-⟩,-⟩:=yq hb h;omega
 .omega
theorem Xa{n:aQ}(h:eh n=0):∀ l∈n.2.1,iS n.1 l=false:=by
 unfold eh at h
 obtain⟨-,h⟩:=qp h
 obtain⟨-,h⟩:=qp h
 obtain⟨-,h⟩:=qp h
 obtain⟨-,h⟩:=qp h
 obtain⟨-,h⟩:=qp h
 obtain⟨h,-⟩:=qp h
 unfold n9 at h
 intro l hl
 split at h
 .cases h
 next k=>
  cases e:iS n.1 l with
  | false=>rfl
  | true=>exact absurd (List.any_eq_true.2 ⟨l,hl,e⟩) k
theorem MM{n:aQ}(h:eh n=0){k x:Int}(hk:0<=k/\k<n.2.1.length)(hx:dI (n.1.getD x.toNat default)=true)(ho:0<=fD n.2.1 k x):dI (n.1.getD (fD n.2.1 k x).toNat default)=false:=by
 have hd:=Xa h (n.2.1.getD k.toNat default) (bR hk.1 hk.2)
 unfold iS at hd
 unfold fD at ho ⊢
 rw[af ab] at ho ⊢
 split at ho
 next e=>rw[am e];rw[← e,hx,Bool.true_and] at hd;exact hd
 .split at ho
  next e0 e=>rw[af e0,am e];rw[← e,hx,Bool.and_true] at hd;exact hd
  .omega
theorem Tn{b:ae}(hb:bytes b)(h:gw b=0):xt (io b)+1=xt b:=by
 obtain⟨e1,e2,-⟩:=HD hb h
 have hd:bY b=0:=fj λk=>by rw[gw,am k] at h;exact k h
 have ht:¬ (bH b).2.2.1<2:=λk=>by rw[gw,af (λq=>q hd),am k] at h;cases h
 unfold xt
 rw[am e2,am hd,e1]
 show ((bH b).2.2.1-1).toNat+1=_
 omega
theorem aq6{v:aJ}(h:gb v){f:bg}(hf:vJ (aD v) (bO v) f)(A:xV (aD v))(hp:0<(bm v f).2.1.2.length)(t o og:Int) :
  qe (aD v) (t,o,fD (aD v).2.1 (bm v f).2.1.1 (bn f),(bm v f).2.1.1,og,(bm v f).2.1.2)+1<=qe (aD v) f:=by
 have hi:(bn f).toNat<(aD v).1.length:=by have:=hf.nd;omega
 have N:=uJ h.net hi
 have O:=h.out hf
 obtain⟨-,-,h3⟩:=B8 (h.chk hi)
 have Z:=Zc (lk:=gO f) (t:=aO f) N (A _ hi) (λr hr=>(h3 r hr).2) hf.b
 have eH:bm v f=fP ((aD v).1.getD (bn f).toNat default) ((cq v).getD (bn f).toNat default) (gO f) (aO f) (f8 f):=rfl
 have hr:(bm v f).2.2=0∨(bm v f).2.2=2:=by
  by_cases z0:(bm v f).2.2=0
  .exact .inl z0
  by_cases z2:(bm v f).2.2=2
  .exact .inr z2
  .have:=O.none z0 z2;rw[this] at hp;exact absurd hp (by simp[iK])
 obtain⟨⟨k0,k1⟩,-,⟨o1,-⟩,-⟩:=yH h.net hi (A5 h.net hi (O.some hr).2.2)
 rw[show (((bn f).toNat:Nat):Int)=bn f by have:=hf.nd;omega] at o1
 have hk:¬ (bm v f).2.1.1 = -1:=ab
 show 1+2*xt (bm v f).2.1.2+(if dI ((aD v).1.getD (fD (aD v).2.1 (bm v f).2.1.1 (bn f)).toNat default)=true then 1 else 0)+(if (bm v f).2.1.1 = -1 then 2 else 0)+(if dG (bm v f).2.1.2 then 600 else 0)+1<=_
 rw[af hk]
 have hD:=MM (x:=bn f) h.net ⟨k0,k1⟩
 rw[← eH] at Z
 have hob:=O.byt
 have t1:=KO hob
 unfold qe
 generalize dI ((aD v).1.getD (fD (aD v).2.1 (bm v f).2.1.1 (bn f)).toNat default)=oy at *
 rcases hr with hr|hr
 .have F:=Dw (by rw[← eH];exact hr);have e:=Bj (t:=aO f) F;rw[← eH] at e;have e2:(bm v f).2.1.2=if gO f ≠ -1/\dI ((aD v).1.getD (bn f).toNat default)=false then io (f8 f) else f8 f:=by rw[e]
  have ha:(if dG (bm v f).2.1.2 then 600 else 0)<=(if dG (f8 f) then 600 else 0):=by
   split
   next q=>rw[am (fj λk=>Z.2 hr k q)];omega
   .omega
  generalize (if dG (bm v f).2.1.2 then 600 else 0)=a1 at *;generalize (if dG (f8 f) then 600 else 0)=a2 at *;cases ox:dI ((aD v).1.getD (bn f).toNat default) with
  | true =>
   have:=hD ox o1;rw[this] at *;rw[e2,af (by rw[ox];simp)];simp;omega
  | false =>
   by_cases hl:gO f = -1
   .rw[e2,af (λq=>q.1 hl),am hl];cases oy <;> simp <;> omega
   .have hlow:gw (f8 f)=0:=by
     have ht:=F.ttl;rw[aY,am F.dec] at ht;unfold gw;rw[af (λk=>k F.dec),af];intro q;exact ht ⟨hl,ox,q⟩
    have:=Tn hf.b hlow;rw[e2,am ⟨hl,ox⟩,af hl];cases oy <;> simp <;> omega
 .obtain⟨z1,z2⟩:=Z.1 hr;rw[af z2,am z1];cases oy <;> simp <;> omega
theorem QG(n:aQ)(l:List bg)(f:bg):rF n (fJ l f)=rF n l+qe n f:=by
 have e:rF n l=rF n ((l.takeWhile λx=>decide (aO x<=aO f))++(l.dropWhile λx=>decide (aO x<=aO f))):=by rw[sD]
 rw[e]
 unfold rF fJ
 simp only[lG,fF,List.sum_append,List.sum_cons]
 omega
theorem GN(w:aJ)(f:bg)(out:Int×ae):(bh (eI w f out)).length<=(bh w).length+1/\bM (eI w f out)=bM w ∧
  (aM (eI w f out)=aM w∨∃ t o,aM (eI w f out)=fJ (aM w) (t,o,fD (aD w).2.1 out.1 (bn f),out.1,iy f,out.2)):=by
 unfold eI
 dsimp only
 split
 .exact⟨by show ((bh w)++[_]).length<=_;simp,rfl,.inl rfl⟩
 .split
  .exact⟨by show ((bh w)++[_]).length<=_;simp,rfl,.inl rfl⟩
  .exact⟨by show (bh w).length<=_;omega,rfl,.inr ⟨_,_,rfl⟩⟩
theorem W6{v:aJ}(h:gb v){f:bg}(hf:vJ (aD v) (bO v) f)(A:xV (aD v)) :
  (bh (jf v f)).length<=(bh v).length+2/\(bM (jf v f)).length<=(bM v).length+1/\rF (aD v) (aM (jf v f))+1<=rF (aD v) (aM v)+qe (aD v) f:=by
 have h1:1<=qe (aD v) f:=by unfold qe;omega
 unfold jf
 dsimp only
 generalize hb:(if (bm v f).2.2=1 then vQ (iN v ((cq v).set (bn f).toNat (bm v f).1)) (bM (iN v ((cq v).set (bn f).toNat (bm v f).1))++[(aO f,bn f,f8 f)]) else iN v ((cq v).set (bn f).toNat (bm v f).1))=B
 have eB:aD B=aD v/\aM B=aM v/\bh B=bh v/\(bM B).length<=(bM v).length+1:=by
  rw[← hb];split
  .exact⟨rfl,rfl,rfl,by show ((bM v)++[_]).length<=_;simp⟩
  .exact⟨rfl,rfl,rfl,by show (bM v).length<=_;omega⟩
 clear hb
 obtain⟨b1,b2,b3,b4⟩:=eB
 generalize hc:(if (bm v f).2.2≠0 then nV B f (gO f) (bm v f).2.2 else B)=C
 have eC:aD C=aD v/\aM C=aM v/\(bh C).length<=(bh v).length+1/\bM C=bM B:=by
  rw[← hc];split
  .exact⟨b1,b2,by show ((bh B)++[_]).length<=_;rw[b3];simp,rfl⟩
  .exact⟨b1,b2,by rw[b3];omega,rfl⟩
 clear hc
 obtain⟨c1,c2,c3,c4⟩:=eC
 split
 next hp=>
  obtain⟨d1,d2,d3⟩:=GN C f (bm v f).2.1;refine⟨ab,by rw[d2,c4];exact b4,?_⟩;rcases d3 with d3|⟨t,o,d3⟩
  .rw[d3,c2];omega
  .rw[d3,c2,QG,c1];have:=aq6 h hf A hp t o (iy f);omega
 .exact⟨ab,by rw[c4];exact b4,by rw[c2];omega⟩
theorem gb.okDn{w:aJ}(h:gb w):okDn w:=⟨h.done.1,by have:=zD h.net;omega⟩
theorem aU6{w:aJ}(h:gb w)(hd:o4 w=true):dr w=dr (nD w):=by
 obtain⟨h1,h2,h3⟩:=Lc h.okDn hd
 have e:=VK h.okDn (n:=ux (nD w)+1) ab
 rw[e,jw,am hd]
 rfl
theorem ae2{w:aJ}(hd:¬ o4 w=true):dr w=w:=by
 unfold dr
 cases (aD w).2.2.length-(dm w).toNat with
 | zero=>rfl
 | succ n=>rw[jw,af hd]
theorem AX(w:aJ):(dr w).1=w.1/\aM (dr w)=aM w/\bh (dr w)=bh w/\bM (dr w)=bM w/\bK (dr w)=bK w/\bO (dr w)=bO w:=by
 have k:=B9 ((aD w).2.2.length-(dm w).toNat) w
 have e:=k.2.2.2
 exact⟨k.1,jn (λx:ae×List bg×List rq×List fm=>x.2.1) e,jn (λx:ae×List bg×List rq×List fm=>x.2.2.2) e,jn (λx:ae×List bg×List rq×List fm=>x.2.2.1) e,k.2.2.1,k.2.1⟩
theorem Wd(n:aQ)(f:bg)(l:List bg):rF n (f::l)=qe n f+rF n l:=by unfold rF;rw[fF,List.sum_cons]
theorem uC.wk{n:aQ}{t o:Int}{f:bg}(h:uC n t o f):vJ n t f:=⟨h.t,h.nd,h.l,h.b,h.d⟩
def r8(n:aQ):Prop:=(n.1.length:Int)<=1000000/\(n.2.1.length:Int)<=1000000/\(n.2.2.length:Int)<=1000000/\(∀ x∈n.1,((ay x).length:Int)<=1000000/\okL (aU x))∧∀ c∈n.2.2,((dO c).2.1.length:Int)<=1099511627776
def zj(w:aJ):Prop:=r8 (aD w)/\((cq w).length:Int)<=1000000/\((gp w).length:Int)<=1000000/\((aM w).length:Int)<=1000000/\((bM w).length:Int)<=1000000000000/\((bh w).length:Int)<=1000000000000 ∧
 (∀ s∈cq w,((lI s).length:Int)<=1000000/\okL (bS s))/\(∀ f∈aM w,((f8 f).length:Int)<=1000000)∧∀ e∈bM w,(e.2.2.length:Int)<=1000000
theorem aI5(v:aJ)(f:bg):bM (jf v f)=bM v∨bM (jf v f)=bM v++[(aO f,bn f,f8 f)]:=by
 unfold jf
 dsimp only
 generalize hb:(if (bm v f).2.2=1 then vQ (iN v ((cq v).set (bn f).toNat (bm v f).1)) (bM (iN v ((cq v).set (bn f).toNat (bm v f).1))++[(aO f,bn f,f8 f)]) else iN v ((cq v).set (bn f).toNat (bm v f).1))=B
 have eB:bM B=bM v∨bM B=bM v++[(aO f,bn f,f8 f)]:=by
  rw[← hb];split
  .exact .inr rfl
  .exact .inl rfl
 clear hb
 generalize hc:(if (bm v f).2.2≠0 then nV B f (gO f) (bm v f).2.2 else B)=C
 have eC:bM C=bM B:=by rw[← hc];split <;> rfl
 split
 .rw[(GN C f _).2.1,eC];exact eB
 .rw[eC];exact eB
structure eO (B:Int) (w:aJ):Prop where
 b:B<=549755813888
 sB:dJ w (B-2*jJ w)
 a:xV (aD w)
 c:r8 (aD w)
 dd:∀ x∈bM w,(x.2.2.length:Int)<=2000
 e:((bh w).length:Int)+2*jJ w<=B
 d:((bM w).length:Int)+jJ w<=B
abbrev sA(w:aJ):Prop:=eO 549755813888 w
theorem eO.s{B:Int}{w:aJ}(h:eO B w):dJ w (549755813888-2*jJ w):=h.sB.more (by have:=h.b;omega)
theorem eO.more{B B':Int}{w:aJ}(h:eO B w)(h1:B<=B')(h2:B'<=549755813888):eO B' w:=⟨h2,h.sB.more ab,h.a,h.c,h.dd,by have:=h.e;omega,by have:=h.d;omega⟩
theorem eO.sim{B:Int}{w:aJ}(h:eO B w):sA w:=h.more h.b (fZ _)
theorem eO.change{B:Int}{w:aJ}(h:eO B w):eO B (dr w):=by
 obtain⟨k1,k2,k3,k4,-⟩:=AX w
 have ep:jJ (dr w)=jJ w:=by unfold jJ;rw[k2];show rF (dr w).1 _=_;rw[k1];rfl
 exact⟨h.b,by rw[ep];exact h.sB.change,by show xV (dr w).1;rw[k1];exact h.a,by show r8 (dr w).1;rw[k1];exact h.c,by rw[k4];exact h.dd,by rw[ep,k3];exact h.e,by rw[ep,k4];exact h.d⟩
theorem eO.cp{B:Int}{w:aJ}(h:eO B w):zj w:=by
 have h1:=h.s.len
 have h2:=zD h.s.net
 have h3:=h.s.cl
 have h4:=h.s.fn
 have h5:=h.e
 have h6:=h.d
 have h7:=h.b
 refine⟨h.c,ab,ab,ab,ab,ab,λs hs=>?_,λf hf=>by have:=(h.s.fo f hf).d;omega,λx hx=>by have:=h.dd x hx;omega⟩
 obtain⟨i,hi,rfl⟩:=List.mem_iff_getElem.1 hs
 have hi2:i<(aD w).1.length:=ab
 obtain⟨st,-⟩:=h.s.st i hi2
 have e:(cq w).getD i default=(cq w)[i]:=by rw[bJ,cK hi];rfl
 rw[e] at st
 have:=st.ps
 have:=(uJ h.s.net hi2).n32
 exact⟨ab,st.okl⟩
theorem aQ3{w:aJ}(h:gb w)(A:xV (aD w)){f:bg}{r:List bg}(e:aM w=f::r) :
  jJ (fw w)+1<=jJ w/\(bh (fw w)).length<=(bh w).length+2/\(bM (fw w)).length<=(bM w).length+1:=by
 obtain⟨-,s2,-⟩:=h.step e
 have es:fw w=jf (dr (fL (hV w r) (aO f))) f:=by unfold fw;rw[e];rfl
 obtain⟨k1,k2,k3,k4,-,k6⟩:=AX (fL (hV w r) (aO f))
 have k2:aM (dr (fL (hV w r) (aO f)))=r:=k2
 have k6:bO (dr (fL (hV w r) (aO f)))=aO f:=k6
 have k1:aD (dr (fL (hV w r) (aO f)))=aD w:=k1
 have hf:=h.fo f (by rw[e];exact fY ..)
 have hp:=h.fl
 rw[e] at hp
 have h0:gb (fL (hV w r) (aO f)):=by
  refine⟨h.net,⟨by have:=hf.t;have:=h.now;show 0<=aO f;omega,hf.t.2⟩,h.done,h.len,h.st,h.cl,(List.pairwise_cons.1 hp).2,λx hx=>?_,?_⟩
  .have k:=h.fo x (by rw[e];exact fM _ hx);exact⟨⟨(List.pairwise_cons.1 hp).1 x hx,k.t.2⟩,k.nd,k.l,k.b,k.d⟩
  .have:=h.fn;rw[e] at this;simp at this;show r.length<=4096;omega
 have h1:gb (dr (fL (hV w r) (aO f))):=JP _ h0
 obtain⟨l1,l2,l3⟩:=W6 h1 (f:=f) (by rw[k1,k6];exact⟨⟨fZ _,hf.t.2⟩,hf.nd,hf.l,hf.b,hf.d⟩) (by rw[k1];exact A)
 rw[← es] at l1 l2 l3
 rw[k3] at l1
 rw[k4] at l2
 rw[k1,k2] at l3
 refine⟨?_,l1,l2⟩
 unfold jJ
 rw[s2,e,Wd]
 omega
theorem eO.step{B:Int}{w:aJ}(h:eO B w){f:bg}{r:List bg}(e:aM w=f::r):eO B (fw w)/\jJ (fw w)+1<=jJ w:=by
 obtain⟨p1,p2,p3⟩:=aQ3 h.s.weak h.a e
 obtain⟨s1,s2,-⟩:=h.sB.step (by have:=h.b;omega) e
 have h1:=h.e
 have h2:=h.d
 refine⟨⟨h.b,s1.more ab,by rw[s2];exact h.a,by rw[s2];exact h.c,?_,ab,ab⟩,p1⟩
 have es:fw w=jf (dr (fL (hV w r) (aO f))) f:=by unfold fw;rw[e];rfl
 have k4:bM (dr (fL (hV w r) (aO f)))=bM w:=(AX _).2.2.2.1
 have hf:=h.s.fo f (by rw[e];exact fY ..)
 rw[es]
 rcases aI5 (dr (fL (hV w r) (aO f))) f with q|q
 .rw[q,k4];exact h.dd
 .rw[q,k4];intro x hx;rcases dB.1 hx with hx|hx
  .exact h.dd x hx
  .rw[iI.1 hx];exact hf.d
theorem aI2{to:Int}:∀(n m:Nat){w:aJ},gb w->kR to (aM w)<=n->kR to (aM w)<=m->mv n w to=mv m w to:=by
 have stop:∀{w:aJ},kR to (aM w)=0->jY w to=false:=by
  intro w hw;unfold jY;cases e:aM w with
  | nil=>rfl
  | cons f r =>
   rw[e,zn] at hw;exact dP ab
 intro n
 induction n with
 | zero =>
  intro m w h hn hm;have hb:=stop (w:=w) ab;cases m with
  | zero=>rfl
  | succ m=>rw[mv,mv,af (by rw[hb];simp)]
 | succ n ih =>
  intro m w h hn hm;cases m with
  | zero =>
   have hb:=stop (w:=w) ab;rw[mv,mv,af (by rw[hb];simp)]
  | succ m =>
   rw[mv,mv];split
   .rename_i hb;unfold jY at hb;cases e:aM w with
    | nil=>rw[e] at hb;cases hb
    | cons f r =>
     rw[e] at hb;have hb:=aI hb;have hpos:1<=kR to (aM w):=by rw[e,zn];omega
     obtain⟨s1,-,-,s4⟩:=h.step e;have:=s4 to hb;exact ih m s1 ab ab
   .rfl
theorem D6{w:aJ}{to:Int}(h:gb w)(hb:jY w to=true):jG w to=jG (fw w) to:=by
 have hb0:=hb
 unfold jY at hb
 cases e:aM w with
 | nil=>rw[e] at hb;cases hb
 | cons f r =>
  rw[e] at hb;have hb:=aI hb;have hpos:1<=kR to (aM w):=by rw[e,zn];omega
  obtain⟨s1,-,-,s4⟩:=h.step e;have:=s4 to hb;obtain⟨k,hk⟩:∃ k,kR to (aM w)=k+1:=⟨kR to (aM w)-1,ab⟩
  have e1:jG w to=mv k (fw w) to:=by unfold jG;rw[hk,mv,am hb0]
  rw[e1];exact aI2 _ _ s1 ab (ir _)
theorem He{w:aJ}{to:Int}(hb:jY w to=false):jG w to=w:=aO6 hb _
theorem eO.run{B to:Int}:∀(n:Nat){w:aJ},eO B w->jJ w<=n->eO B (jG w to)/\jY (jG w to) to=false/\aD (jG w to)=aD w/\jJ (jG w to)<=jJ w
 | n,w,h,hn=>by
  cases hb:jY w to with
  | false=>rw[He hb];exact⟨h,hb,rfl,ir _⟩
  | true =>
   rw[D6 h.s.weak hb];cases e:aM w with
   | nil=>unfold jY at hb;rw[e] at hb;cases hb
   | cons f r =>
    obtain⟨k1,k2⟩:=h.step e;obtain⟨-,s2,-⟩:=h.s.weak.step e;cases n with
    | zero=>omega
    | succ n =>
     obtain⟨a,b,c,d⟩:=eO.run n k1 ab;exact⟨a,b,c.trans s2,ab⟩
def DZ:aJ:=(([],[],[]),0,0,0,[],[],[],[],[])
def sF(w:aJ):Prop:=w=fL DZ (bO w)/\0<=bO w/\bO w<=1125899906842624
def oO(w:aJ):Prop:=sA w∨sF w
theorem sF.fl{w:aJ}(h:sF w):aM w=[]:=by rw[h.1];rfl
theorem sF.cp{w:aJ}(h:sF w):zj w:=by
 rw[h.1]
 have Z:∀{b:Int},0<=b->((0:Nat):Int)<=b:=λh=>h
 exact⟨⟨Z bt,Z bt,Z bt,λx hx=>(by cases hx),λx hx=>(by cases hx)⟩,Z bt,Z bt,Z bt,Z bt,Z bt,λx hx=>(by cases hx),λx hx=>(by cases hx),λx hx=>(by cases hx)⟩
theorem oO.cp{w:aJ}(h:oO w):zj w:=h.elim eO.cp sF.cp
theorem oO.fl{w:aJ}(h:oO w)(hf:aM w≠[]):sA w:=h.resolve_right λq=>hf q.fl
def uu(w:aJ):Prop:=gb w∨((aD w).2.2=[]/\dm w=0)
theorem sF.ch{w:aJ}(h:sF w)(t:Int):uu (fL w t) := .inr (by rw[h.1];exact⟨rfl,rfl⟩)
theorem sF.chg{w:aJ}(h:sF w)(t:Int):dr (fL w t)=fL w t:=by rw[h.1];rfl
def iJ(w:aJ):bg:=(aM w).headD default
def dY(w:aJ):aJ:=dr (fL (hV w (aM w).tail) (aO (iJ w)))
def cS(w:aJ):oI:=bm (dY w) (iJ w)
def uN(w:aJ):aJ:=iN (dY w) ((cq (dY w)).set (bn (iJ w)).toNat (cS w).1)
def mX(w:aJ):aJ:=if (cS w).2.2=1 then vQ (uN w) (bM (uN w)++[(aO (iJ w),bn (iJ w),f8 (iJ w))]) else uN w
def eZ(w:aJ):aJ:=if (cS w).2.2≠0 then nV (mX w) (iJ w) (gO (iJ w)) (cS w).2.2 else mX w
theorem Fv(w:aJ):fw w=if 0<(cS w).2.1.2.length then eI (eZ w) (iJ w) (cS w).2.1 else eZ w:=by
 have e:fw w=jf (dY w) (iJ w):=by unfold fw dY iJ;rfl
 rw[e]
 unfold jf eZ mX uN cS
 rfl
theorem te(w:aJ):mX w=vQ (uN w) (if (cS w).2.2=1 then bM (dY w)++[(aO (iJ w),bn (iJ w),f8 (iJ w))] else bM (dY w)):=by unfold mX;split <;> rfl
theorem uG(w:aJ):eZ w=I5 (mX w) (if (cS w).2.2≠0 then bh (dY w)++[(iy (iJ w),aO (iJ w),bn (iJ w),gO (iJ w),(cS w).2.2)] else bh (dY w)):=by
 unfold eZ
 rw[te]
 split <;> rfl
structure At (w:aJ) (f:bg) (r:List bg):Prop where
 s:dJ (dY w) (549755813888-2*jJ w)
 fk:uC (aD (dY w)) (bO (dY w)) (bK (dY w)) f
 eF:iJ w=f
 net:aD (dY w)=aD w
 now:bO (dY w)=aO f
 fl:aM (dY w)=r
 en:bh (dY w)=bh w
 dl:bM (dY w)=bM w
 h0:dJ (fL (hV w (aM w).tail) (aO (iJ w))) (549755813888-2*jJ w)
theorem eO.at{B:Int}{w:aJ}(h:eO B w){f:bg}{r:List bg}(e:aM w=f::r):At w f r:=by
 have hs:=h.s
 have hp:=hs.fl
 rw[e] at hp
 obtain⟨p1,p2⟩:=List.pairwise_cons.1 hp
 have hf:=hs.fo f (by rw[e];exact fY)
 have hle:∀ x∈r,aO f<=aO x:=λx hx=>by rcases p1 x hx with k|k <;> omega
 have ed:iJ w=f:=by unfold iJ;rw[e];rfl
 have et:(aM w).tail=r:=by rw[e];rfl
 have hb:dJ (fL (hV w r) (aO f)) (549755813888-2*jJ w):=by
  refine⟨hs.net,⟨by show 0<=aO f;have:=hs.now;have:=hf.t;omega,hf.t.2⟩,hs.ord,hs.done,hs.len,hs.st,hs.cl,hs.cr,p2,λx hx=>?_,?_⟩
  .have hx:x∈r:=hx;have k:=hs.fo x (by rw[e];exact fM _ hx);exact⟨⟨hle x hx,k.t.2⟩,k.o,k.nd,k.l,k.g,k.b,k.d⟩
  .show r.length<=4096;have:=hs.fn;rw[e,dN] at this;omega
 obtain⟨k1,k2,k3,k4,k5,k6⟩:=AX (fL (hV w r) (aO f))
 have es:dY w=dr (fL (hV w r) (aO f)):=by unfold dY;rw[ed,et]
 have n1:aD (dY w)=aD w:=by rw[es];exact k1
 have n2:bO (dY w)=aO f:=by rw[es];exact k6
 have n3:bK (dY w)=bK w:=by rw[es];exact k5
 refine⟨by rw[es];exact hb.change,?_,ed,n1,n2,by rw[es];exact k2,by rw[es];exact k3,by rw[es];exact k4,by rw[ed,et];exact hb⟩
 rw[n1,n2,n3]
 exact⟨⟨fZ _,hf.t.2⟩,hf.o,hf.nd,hf.l,hf.g,hf.b,hf.d⟩
theorem At.out{w:aJ}{f:bg}{r:List bg}(h:At w f r)(hp:0<(cS w).2.1.2.length) :
  0<=(cS w).2.1.1/\(cS w).2.1.1<(aD w).2.1.length/\gY (aD w).1.length ((aD w).2.1.getD (cS w).2.1.1.toNat default):=by
 have hi:(bn f).toNat<(aD (dY w)).1.length:=by have:=h.fk.nd;omega
 have O:=h.s.weak.out h.fk.wk
 have eH:cS w=bm (dY w) f:=by unfold cS;rw[h.eF]
 rw[eH] at hp ⊢
 have hr:(bm (dY w) f).2.2=0∨(bm (dY w) f).2.2=2:=by
  by_cases z0:(bm (dY w) f).2.2=0
  .exact .inl z0
  by_cases z2:(bm (dY w) f).2.2=2
  .exact .inr z2
  .have:=O.none z0 z2;rw[this] at hp;exact absurd hp (by simp[iK])
 obtain⟨⟨k0,k1⟩,k2,-⟩:=yH h.s.net hi (A5 h.s.net hi (O.some hr).2.2)
 rw[h.net] at k1 k2
 exact⟨k0,k1,k2⟩
end Go.RS
