/- Drawn: what holds of drawn networks: their nodes, links, routes and changes. -/
import Derived.Test.YtpdpkobkpacbnaaGreatDoorNode2
import Derived.Test.YtpdpkobkpacbnaaGreatDoorNetdraw
import Derived.Test.YtpdpkobkpacbnaaGreatDoorNodec
set_option maxRecDepth 100000
set_option linter.unusedVariables false
open List (length replicate range)
namespace Go.RS
open Go.SX Go.Proofs
structure NP (i:Int) (x:au):Prop where
 own:JJ x=1+i/3
 loop:fy x=0∨fy x=167903232+i
 src:(fS x=1∨fS x=2)∨(fS x=3/\fy x=167903232+i)∨(fS x=4/\167837696<=oB x)
 fix:oB x=0∨(167837696<=oB x/\oB x<167837736)
 id:(0<=qF x/\qF x<=5)/\(0<=mY x/\mY x<=65535)/\0<=xB x/\xB x<=1000000
 lim:jV x=(0,0)∨(1<=(jV x).1/\(jV x).1<=3/\1<=(jV x).2/\(jV x).2<=200)
 first:iM x=64∨iM x=255∨iM x=128
 seed:0<=sw x/\sw x<=255
theorem NP.new{i:Int}{host:Bool}{f sd:Int}(hf:f=64∨f=255∨f=128)(h0:0<=sd)(h1:sd<=255):NP i (r6 i host f sd) :=
 ⟨rfl,.inl rfl,.inl (.inl rfl),.inl rfl,⟨⟨by show (0:Int)<=0;decide,by show (0:Int)<=5;decide⟩,⟨by show (0:Int)<=0;decide,by show (0:Int)<=65535;decide⟩,by show (0:Int)<=0;decide,by show (0:Int)<=1000000;decide⟩,.inl rfl,hf,h0,h1⟩
theorem NP.same{i:Int}{x y:au}(h:NP i x)(e:x.2=y.2):NP i y:=by
 obtain⟨p,x⟩:=x
 obtain⟨q,y⟩:=y
 cases e
 exact⟨h.own,h.loop,h.src,h.fix,h.id,h.lim,h.first,h.seed⟩
theorem NP.routes{i:Int}{x y:au}(h:NP i x)(e:Ao x []=Ao y []):NP i y:=by
 have k:NP i (Ao x []):=⟨h.own,h.loop,h.src,h.fix,h.id,h.lim,h.first,h.seed⟩
 rw[e] at k
 exact⟨k.own,k.loop,k.src,k.fix,k.id,k.lim,k.first,k.seed⟩
theorem NP.way{i:Int}{x:au}(h:NP i x){c:aX}(hc:cQ c):NP i (ik x i c).1:=by
 have a:=ft hc (n:=10) ab
 have ca:=(dr hc 10).1
 have b:=ft ca (n:=3) ab
 have cb:=(dr ca 3).1
 have e:=ft cb (n:=200) ab
 have f:=ft ca (n:=40) ab
 unfold ik
 dsimp only
 split
 .exact⟨h.own,h.loop,h.src,h.fix,h.id,h.lim,h.first,h.seed⟩
 split
 .refine⟨h.own,h.loop,h.src,h.fix,h.id,.inr ?_,h.first,h.seed⟩;show 1<=1+_/\1+_<=(3:Int)/\1<=1+_/\1+_<=(200:Int)
  omega
 split
 .exact⟨h.own,h.loop,h.src,h.fix,h.id,h.lim,h.first,h.seed⟩
 split
 .exact⟨h.own,h.loop,.inl (.inr rfl),h.fix,h.id,h.lim,h.first,h.seed⟩
 split
 .exact⟨h.own,.inr rfl,.inr (.inl ⟨rfl,rfl⟩),h.fix,h.id,h.lim,h.first,h.seed⟩
 split
 .refine⟨h.own,h.loop,.inr (.inr ⟨rfl,?_⟩),.inr ⟨?_,?_⟩,h.id,h.lim,h.first,h.seed⟩
  .show 167837696<=167837696+_;omega
  .show 167837696<=167837696+_;omega
  .show 167837696+_<167837736;omega
 .exact h
theorem NP.od{i:Int}{x:au}(h:NP i x){c:aX}(hc:cQ c):NP i (wO x i c).1:=by
 have k:=h.way hc
 have kc:=Gs (x:=x) (i:=i) hc
 have a:=ft kc (n:=6) ab
 have ca:=(dr kc 6).1
 have b:=ft ca (n:=65536) ab
 have cb:=(dr ca 65536).1
 have e:=ft cb (n:=1000) ab
 refine⟨k.own,k.loop,k.src,k.fix,?_,k.lim,k.first,k.seed⟩
 show (0<=(ax (ik x i c).2 6).1/\(ax (ik x i c).2 6).1<=5)/\(0<=(ax (ax (ik x i c).2 6).2 65536).1/\(ax (ax (ik x i c).2 6).2 65536).1<=65535)/\0<=(ax (ax (ax (ik x i c).2 6).2 65536).2 1000).1/\(ax (ax (ax (ik x i c).2 6).2 65536).2 1000).1<=1000000
 omega
theorem NP.opq{i:Int}{x:au}(h:NP i x)(b:Bool):NP i (D4 x b):=⟨h.own,h.loop,h.src,h.fix,h.id,h.lim,h.first,h.seed⟩
def sA(ns:List au):Prop:=∀ i:Nat,i<ns.length->NP i (ns.getD i default)
theorem sA.set{ns:List au}(h:sA ns){i:Nat}{x:au}(hx:i<ns.length->NP i x):sA (ns.set i x):=λj hj=>by
 rw[gB] at hj
 by_cases e:i=j
 .subst e;rw[kw hj];exact hx hj
 .rw[nA e];exact h j hj
structure LK (l0 l:aK):Prop where
 a:lA l=lA l0
 b:lB l=lB l0
 d:gS l=gS l0
 s:vK l=vK l0
 j:0<=fK l/\fK l<=9
 o:0<=oo l/\oo l<=65536
theorem LK.od{l0 l:aK}(h:LK l0 l){c:aX}(hc:cQ c):LK l0 (odLink l c).1:=by
 have a:=ft hc (n:=6) ab
 have ca:=(dr hc 6).1
 have b:=ft ca (n:=10) ab
 have e:=ft ca (n:=3) ab
 unfold odLink
 dsimp only
 split
 .refine⟨h.a,h.b,h.d,h.s,?_,h.o⟩;show 0<=(ax (ax c 6).2 10).1/\(ax (ax c 6).2 10).1<=9;omega
 split
 .refine⟨h.a,h.b,h.d,h.s,h.j,?_⟩;show 0<=([65536,20000,3]:ae).getD (ax (ax c 6).2 3).1.toNat default/\([65536,20000,3]:ae).getD (ax (ax c 6).2 3).1.toNat default<=65536;rcases (show (ax (ax c 6).2 3).1=0∨(ax (ax c 6).2 3).1=1∨(ax (ax c 6).2 3).1=2 by omega) with e|e|e <;> rw[e] <;> decide
 .exact h
structure pP (ls0 ls:List aK):Prop where
 n:ls.length=ls0.length
 k:∀ i:Nat,i<ls0.length->LK (ls0.getD i default) (ls.getD i default)
theorem pP.set{ls0 ls:List aK}(h:pP ls0 ls){i:Nat}{x:aK}(hx:i<ls0.length->LK (ls0.getD i default) x):pP ls0 (ls.set i x):=by
 refine⟨by rw[gB];exact h.n,λj hj=>?_⟩
 by_cases e:i=j
 .subst e;rw[kw (by rw[h.n];exact hj)];exact hx hj
 .rw[nA e];exact h.k j hj
theorem pP.mem{ls0 ls:List aK}(h:pP ls0 ls){l:aK}(hl:l∈ls):∃ l0∈ls0,LK l0 l:=by
 obtain⟨i,hi,e⟩:=List.mem_iff_getElem.1 hl
 have:=h.k i (by rw[← h.n];exact hi)
 rw[bL (l:=ls),cK hi,e] at this
 exact⟨_,nX (by rw[← h.n];exact hi),this⟩
theorem pP.lnk{ls0 ls:List aK}(h:pP ls0 ls){i k:Int}(hk:lnk ls0 i k):lnk ls i k:=by
 obtain⟨k0,k1,k2⟩:=hk
 have e:=h.k k.toNat ab
 exact⟨k0,by rw[h.n];exact k1,by rw[e.a,e.b];exact k2⟩
theorem Np(i:Int):∀(k:Nat)(ls ls':List aK),ls'.length=ls.length->(∀ j:Nat,j<ls.length->lA (ls'.getD j default)=lA (ls.getD j default)/\lB (ls'.getD j default)=lB (ls.getD j default))->portsF i k ls'=portsF i k ls
 | k,[],[],_,_=>rfl
 | k,x::r,[],h,_=>by cases h
 | k,[],x::r,h,_=>by cases h
 | k,x::r,y::t,h,e=>by
  have e0:=e 0 aA;rw[List.getD_cons_zero,List.getD_cons_zero] at e0;rw[portsF,portsF,pG,pG,e0.1,e0.2,Np i (k+1) r t (by simpa using h) λj hj=>by
   have:=e (j+1) (by simp;omega);rw[List.getD_cons_succ,List.getD_cons_succ] at this;exact this]
theorem pP.portsF{ls0 ls:List aK}(h:pP ls0 ls)(i:Int)(k:Nat):portsF i k ls=Go.RS.portsF i k ls0 :=
 Np i k ls0 ls h.n λj hj=>⟨(h.k j hj).a,(h.k j hj).b⟩
theorem ny.lk{ls0 ls:List aK}(h:pP ls0 ls){aa:ae}{i:Int}{t:List Rt}(k:ny ls0 aa i t):ny ls aa i t :=
 ⟨k.1,λr hr=>by
  have q:=k.2 r hr;exact⟨q.len,q.mem,q.ne,q.pw,λx hx=>h.lnk (q.ln x hx),q.w0,q.w1⟩⟩
structure CH (ns:List au) (c:aV):Prop where
 at':0<=fc c/\fc c<=180
 w:0<=bJ c/\bJ c<ns.length
 r:pQ c=false
 p:∃ r∈aU (ns.getD (bJ c).toNat default),(dN c).1=r.1/\(dN c).2.2=r.2.2
 x:(dN c).2.1=[]∨∃ q∈ay (ns.getD (bJ c).toNat default),(dN c).2.1=[q.2]
def Bk:ae:=(range 10).flatMap λ(k:Nat)=>[gp k+1,gp k+2]
theorem Pm{a:Int}{k:Nat}(hk:k<10)(h:a=gp k+1∨a=gp k+2):a∈Bk:=by
 refine List.mem_flatMap.2 ⟨k,List.mem_range.2 hk,?_⟩
 rcases h with h|h <;> rw[h] <;> simp
theorem ny.sub{ls:List aK}{aa bb:ae}{i:Int}{t:List Rt}(h:ny ls aa i t)(hs:∀ a∈aa,a∈bb):ny ls bb i t :=
 ⟨h.1,λr hr=>by
  have q:=h.2 r hr;exact⟨q.len,hs _ q.mem,q.ne,q.pw,q.ln,q.w0,q.w1⟩⟩
structure DN (n:aQ):Prop where
 n3:3<=n.1.length
 n7:n.1.length<=7
 l2:2<=n.2.1.length
 l10:n.2.1.length<=10
 h3:n.2.2.length<=3
 g:∀ x∈n.2.1,(0<=lA x/\lA x<n.1.length)/\(0<=lB x/\lB x<n.1.length)/\lA x≠lB x/\(1<=gS x/\gS x<=20)/\(0<=fK x/\fK x<=9)/\(0<=oo x/\oo x<=65536)/\0<=vK x/\vK x<=255
 p:∀ i:Nat,i<n.1.length->ay (n.1.getD i default)=portsF i 0 n.2.1
 d:sA n.1
 t:∀ i:Nat,i<n.1.length->ny n.2.1 Bk i (aU (n.1.getD i default))
 o:∀ x∈n.2.1,iV n.1 x=false
 c:∀ x∈n.2.2,CH n.1 x
 s:n.2.2.Pairwise λa b=>fc a<=fc b
theorem Md{s:bu}(h:sA s.1.1)(hc:cQ s.2):∀{i:Nat},i<=s.1.1.length->sA (oN s i).1
 | 0,_=>h
 | i+1,hi=>by
  have k:=Md h hc (i:=i) ab;have b:=(KB s hc (i:=i) ab).2;rw[show ((i+1:Nat):Int)=(i:Int)+1 by omega,Of s ab];unfold wS;refine k.set λhl=>?_;have e:((i:Int).toNat:Nat)=i:=ab;rw[e] at hl ⊢;exact (k i hl).od b
theorem UC{ns:List au}(h:sA ns){l:aK}(hl:0<=lB l):sA (r8 ns l):=by
 unfold r8
 split
 .exact h.set λhi=>(h _ hi).opq _
 .exact h
theorem Xv{ns:List au}{l:aK}(hb:0<=lB l/\lB l<ns.length):iV (r8 ns l) l=false:=by
 unfold r8
 split
 .unfold iV;rw[kw ab];exact Bool.and_false _
 next h=>unfold iV;cases h1:dJ (ns.getD (lA l).toNat default) <;> cases h2:dJ (ns.getD (lB l).toNat default) <;> simp_all
theorem WS{ns:List au}{l m:aK}(h:iV ns m=false):iV (r8 ns l) m=false:=by
 unfold r8
 split
 .have set_op:∀(i j:Nat),dJ (ns.getD j default)=false->dJ ((ns.set i (D4 (ns.getD i default) false)).getD j default)=false:=λi j hj=>by
   by_cases e:i=j
   .subst e;by_cases hl:i<ns.length
    .rw[kw hl];rfl
    .rw[List.set_eq_of_length_le ab];exact hj
   .rw[nA e];exact hj
  unfold iV at h ⊢;rw[Bool.and_eq_false_iff] at h ⊢;exact h.imp (set_op _ _) (set_op _ _)
 .exact h
theorem PM{ns:List au}{l m:aK}(ha:lA l=lA m)(hb:lB l=lB m):iV ns l=iV ns m:=by unfold iV;rw[ha,hb]
structure Pk (s:bu) (i:Nat):Prop where
 np:sA (oL s i).1.1
 lk:pP s.1.2.1 (oL s i).1.2
 df:∀ k:Nat,k<i->iV (oL s i).1.1 (s.1.2.1.getD k default)=false
theorem Ky{s:bu}(h:sA s.1.1)(hc:cQ s.2)(hg:iX s.1.1.length s.1.2.1)(hl:pP s.1.2.1 s.1.2.1):∀{i:Nat},i<=s.1.2.1.length->Pk s i
 | 0,_=>⟨Md h hc (iq _),hl,λk hk=>ab⟩
 | i+1,hi=>by
  have k:=Ky h hc hg hl (i:=i) ab;obtain⟨ag,cb,ge,ll⟩:=yc s hc hg (i:=i) ab;have hb:=hg.at' (k:=i) ab;have e:((i:Int).toNat:Nat)=i:=ab;have lk1:=(k.lk.k i ab).od cb;have hn:=ag.n;have step:oL s ((i+1:Nat):Int)=th (oL s i) i:=by
   rw[show ((i+1:Nat):Int)=(i:Int)+1 by omega,QL s ab,e]
  have fin:Pk s (i+1):=by
   refine⟨?_,?_,λj hj=>?_⟩
   .rw[step];unfold th;dsimp only;refine UC k.np ?_;rw[lk1.b];exact hb.2.1
   .rw[step];unfold th;dsimp only;exact k.lk.set λ_=>lk1
   .rw[step];unfold th;dsimp only;by_cases q:j=i
    .subst q;rw[← PM (l:=(odLink ((oL s j).1.2.getD j default) (oL s j).2).1) lk1.a lk1.b];refine Xv ?_;rw[lk1.b,hn];exact hb.2
    .exact WS (k.df j ab)
  exact fin
structure DT (ns:List au) (m:Nat) (x:List aV×Int×aX):Prop where
 c:cQ x.2.2
 a:0<=x.2.1/\x.2.1<=60*m
 n:x.1.length<=m
 h:∀ y∈x.1,CH ns y/\fc y<=x.2.1
 s:x.1.Pairwise λa b=>fc a<=fc b
theorem DT.next{ns:List au}{m:Nat}{x:List aV×Int×aX}(h:DT ns m x)(hm:m<3)(h0:0<ns.length)(hp:∀ x∈ns,aU x≠[]->0<(ay x).length):DT ns (m+1) (pL ns x):=by
 have a:=ft h.c (n:=60) ab
 have k1:=(dr h.c 60).1
 have w:=ft k1 (n:=(ns.length:Int)) ab
 have k2:=(dr k1 (ns.length:Int)).1
 have ha:=h.a
 have hn:=h.n
 unfold pL
 dsimp only
 have hX:=bS (xs:=ns) w.1 w.2
 generalize eX:ns.getD (ax (ax x.2.2 60).2 (ns.length:Int)).1.toNat default=X at hX ⊢
 split
 .refine⟨k2,?_,?_,λy hy=>⟨(h.h y hy).1,?_⟩,h.s⟩
  .show 0<=x.2.1+_/\x.2.1+_<=60*((m+1:Nat):Int);omega
  .show x.1.length<=m+1;omega
  .have:=(h.h y hy).2;show fc y<=x.2.1+_;omega
 next hr=>
  have hr':aU X≠[]:=λe=>hr (by rw[e];rfl);have q3:=ft k2 (n:=((aU X).length:Int)) ab;have b3:=(dr k2 ((aU X).length:Int)).1;have hpp:=hp X hX hr';have q4:=ft b3 (n:=((ay X).length:Int)) ab;have b4:=(dr b3 ((ay X).length:Int)).1;have b5:=(dr b4 4).1;refine⟨b5,?_,?_,λy hy=>?_,?_⟩
  .show 0<=x.2.1+_/\x.2.1+_<=60*((m+1:Nat):Int);omega
  .show (x.1++[_]).length<=m+1;rw[cu,ga];omega
  .rcases dw.1 hy with hy|hy
   .refine⟨(h.h y hy).1,?_⟩;have:=(h.h y hy).2;show fc y<=x.2.1+_;omega
   .rw[iP.1 hy];refine⟨⟨?_,w,rfl,?_,?_⟩,f8 _⟩
    .show 0<=x.2.1+_/\x.2.1+_<=180;omega
    .refine⟨(aU X).getD (ax (ax (ax x.2.2 60).2 (ns.length:Int)).2 ((aU X).length:Int)).1.toNat default,?_,rfl,rfl⟩;show _∈aU (ns.getD (ax (ax x.2.2 60).2 (ns.length:Int)).1.toNat default);rw[eX];exact bS q3.1 q3.2
    .by_cases hz:(ax (ax (ax (ax (ax x.2.2 60).2 (ns.length:Int)).2 ((aU X).length:Int)).2 ((ay X).length:Int)).2 4).1=3
     .exact .inl (am hz)
     .refine .inr ⟨(ay X).getD (ax (ax (ax (ax x.2.2 60).2 (ns.length:Int)).2 ((aU X).length:Int)).2 ((ay X).length:Int)).1.toNat default,?_,af hz⟩;show _∈ay (ns.getD (ax (ax x.2.2 60).2 (ns.length:Int)).1.toNat default);rw[eX];exact bS q4.1 q4.2
  .refine List.pairwise_append.2 ⟨h.s,List.pairwise_singleton _ _,λy hy z hz=>?_⟩;have:=(h.h y hy).2;rw[iP.1 hz];show fc y<=x.2.1+_;omega
theorem xp{α:Type} [Inhabited α] {l:List α} {x:α} (h:x∈l):∃ i:Nat,i<l.length/\l.getD i default=x:=by
 obtain⟨i,hi,e⟩:=List.mem_iff_getElem.1 h
 exact⟨i,hi,by rw[bL,cK hi,e];rfl⟩
theorem RS.np{s r:bu}{nn nl:Nat}(h:RS s nn nl r):sA r.1.1:=λi hi=>by
 have hi':i<nn:=by have:=h.i.n;have:=h.g.n;omega
 obtain⟨host,f,sd,hd,hf,h0,h1⟩:=h.g.d i hi'
 have e:=h.i.e i (by rw[h.g.n];exact hi')
 exact NP.routes (NP.same (NP.new (host:=host) hf h0 h1) hd.symm) e.symm
theorem RS.opq{s r:bu}{nn nl:Nat}(h:RS s nn nl r){i:Nat}(hi:i<nn):dJ (r.1.1.getD i default)=false:=by
 obtain⟨host,f,sd,hd,-⟩:=h.g.d i hi
 have e:=jt dJ (h.i.e i (by rw[h.g.n];exact hi))
 have e2:dJ (s.1.1.getD i default)=dJ (r6 i host f sd):=jt (λz=>dJ (([]:List (Int×Int)),z)) hd
 exact e.trans e2
theorem RS.adr{s r:bu}{nn nl:Nat}(h:RS s nn nl r)(hl:nl<=10):∀ a∈je s.1.1,a∈Bk:=λa ha=>by
 unfold je at ha
 obtain⟨x,hx,ha⟩:=List.mem_flatMap.1 ha
 obtain⟨q,hq,rfl⟩:=List.mem_map.1 ha
 obtain⟨i,hi,rfl⟩:=xp hx
 rw[h.g.p i (by rw[← h.g.n];exact hi)] at hq
 obtain⟨j,hj,e⟩:=Ci.1 hq
 rw[h.g.l] at hj
 rw[gk] at e
 rcases e with⟨-,rfl⟩|⟨-,rfl⟩
 .exact Pm (k:=j) ab (.inl rfl)
 .exact Pm (k:=j) ab (.inr rfl)
theorem RS.links{s r:bu}{nn nl:Nat}(h:RS s nn nl r):r.1.2.1=s.1.2.1:=jt Prod.fst h.l
theorem RS.lk{s r:bu}{nn nl:Nat}(h:RS s nn nl r):pP r.1.2.1 r.1.2.1:=⟨rfl,λi hi=>by
 rw[h.links] at hi ⊢
 have:=h.g.g _ (nX hi)
 exact⟨rfl,rfl,rfl,rfl,ab,ab⟩⟩
theorem RS.dn{s r:bu}{nn nl:Nat}(h:RS s nn nl r)(n3:3<=nn)(n7:nn<=7)(l2:2<=nl)(l10:nl<=10):DN r.1:=by
 have rn:r.1.1.length=nn:=h.i.n.trans h.g.n
 have rl:=h.links
 have rh:r.1.2.2=[]:=(jt Prod.snd h.l).trans h.g.h
 refine⟨ab,ab,by rw[rl,h.g.l];exact l2,by rw[rl,h.g.l];exact l10,by rw[rh];exact Nat.zero_le _,λx hx=>?_,λi hi=>?_,h.np,λi hi=>?_,λx hx=>?_,λx hx=>?_,?_⟩
 .rw[rl] at hx;have:=h.g.g x hx;rw[rn];omega
 .rw[rl];exact h.ports ab
 .rw[rl];exact (h.tab ab).sub (h.adr l10)
 .rw[rl] at hx;have g:=h.g.g x hx;unfold iV;rw[h.opq (i:=(lA x).toNat) ab];rfl
 .rw[rh] at hx;cases hx
 .rw[rh];exact List.Pairwise.nil
theorem Sm{s:bu}(h:cQ s.2)(hg:iX s.1.1.length s.1.2.1)(h0:0<s.1.1.length)(hp:∀ x∈(oL s s.1.2.1.length).1.1,aU x≠[]->0<(ay x).length):∀ i:Nat,i<=3->DT (oL s s.1.2.1.length).1.1 i (oC s i)
 | 0,_=>⟨(dr (yc s h hg (f8 _)).2.1 4).1,⟨f8 _,f8 _⟩,iq _,λy hy=>(by cases hy),List.Pairwise.nil⟩
 | i+1,hi=>by
  rw[Kw];exact (Sm h hg h0 hp i ab).next ab (by rw[(yc s h hg (f8 _)).1.n];exact h0) hp
theorem RS.odd{s r:bu}{nn nl:Nat}(h:RS s nn nl r)(n3:3<=nn)(n7:nn<=7)(l2:2<=nl)(l10:nl<=10):DN (pC r).1:=by
 have rn:r.1.1.length=nn:=h.i.n.trans h.g.n
 have rl:=h.links
 have pre:=h.preO ab ab ab
 have ok:=yc r h.c pre.g (i:=r.1.2.1.length) (f8 _)
 have inv:=Ky h.np h.c pre.g h.lk (i:=r.1.2.1.length) (iq _)
 have ag:=ok.1
 have e:(pC r).1=((oL r r.1.2.1.length).1.1,(oL r r.1.2.1.length).1.2,(oC r (oK r).toNat).1):=by
  unfold pC oC oK oL oN;rfl
 have kk:=ft ok.2.1 (n:=4) ab
 have hp:∀ x∈(oL r r.1.2.1.length).1.1,aU x≠[]->0<(ay x).length:=λx hx hr=>by
  obtain⟨i,hi,rfl⟩:=xp hx;have q:=ag.e i (by rw[← ag.n];exact hi);rw[q.1];rw[q.2] at hr;exact (pre.p _ (nX (by rw[← ag.n];exact hi)) hr).1
 have oc:=Sm h.c pre.g pre.n0 hp (oK r).toNat (by unfold oK;omega)
 rw[e]
 have ln:(oL r r.1.2.1.length).1.1.length=nn:=ag.n.trans rn
 have ll:(oL r r.1.2.1.length).1.2.length=nl:=by rw[inv.lk.n,rl,h.g.l]
 refine⟨by rw[ln];exact n3,by rw[ln];exact n7,by rw[ll];exact l2,by rw[ll];exact l10,?_,λx hx=>?_,λi hi=>?_,inv.np,λi hi=>?_,λx hx=>?_,λx hx=>(oc.h x hx).1,oc.s⟩
 .have:=oc.n;have:(oK r).toNat<=3:=by unfold oK;omega
  dsimp only;omega
 .obtain⟨l0,hl0,k⟩:=inv.lk.mem hx;rw[rl] at hl0;have g:=h.g.g l0 hl0;have ka:=k.a;have kb:=k.b;have kd:=k.d;have ks:=k.s;have kj:=k.j;have ko:=k.o;rw[ln,ka,kb,kd,ks];omega
 .dsimp only at hi ⊢;rw[(ag.e i ab).1,h.ports ab,inv.lk.portsF,rl]
 .dsimp only at hi ⊢;rw[(ag.e i ab).2];refine ny.sub (ny.lk inv.lk ?_) (h.adr l10);rw[rl];exact h.tab ab
 .dsimp only at hx ⊢;obtain⟨i,hi,rfl⟩:=xp hx;have hi':i<r.1.2.1.length:=by rw[← inv.lk.n];exact hi
  have k:=inv.lk.k i hi';rw[PM k.a k.b];exact inv.df i hi'
theorem Di{c:aX}(h:cQ c)(plain:Bool):DN (ji plain c):=by
 have hn:=vU h
 obtain⟨m,m2,m10,G⟩:=Dg h plain
 have R:=G.rs plain
 unfold ji A8
 cases plain with
 | true=>exact R.dn ab ab m2 m10
 | false=>exact R.odd ab ab m2 m10
theorem aj0{c:aX}(h:cQ c)(plain:Bool):cQ (xc plain c):=by
 obtain⟨m,m2,m10,G⟩:=Dg h plain
 have R:=G.rs plain
 unfold xc A8
 cases plain with
 | true=>exact R.c
 | false =>
  have hn:=vU h;have pre:=R.preO ab ab ab;exact (G5 _ R.c pre.g _).1
theorem am4{l:ae}{m:Int}(h:∀ x∈l,0<=x/\x<=255):cQ (if (l.length:Int)<=m then l else l.take m.toNat,0):=by
 refine⟨⟨f8 _,by dsimp only;omega⟩,λx hx=>?_⟩
 dsimp only at hx
 split at hx
 .exact h x hx
 .exact h x (oI hx)
theorem DN.port{n:aQ}(h:DN n){i:Nat}(hi:i<n.1.length){q:pi}:q∈ay (n.1.getD i default)↔∃ j:Nat,j<n.2.1.length/\((lA (n.2.1.getD j default)=i/\q=(gp j+1,(j:Int)))∨(lB (n.2.1.getD j default)=i/\q=(gp j+2,(j:Int)))):=by
 rw[h.p i hi,Ci];simp only[gk]
theorem DN.links{n:aQ}(h:DN n){i:Nat}(hi:i<n.1.length){k:Int}:k∈bj (n.1.getD i default)↔lnk n.2.1 i k:=by
 unfold bj lnk
 rw[List.mem_map]
 constructor
 .rintro⟨q,hq,rfl⟩;obtain⟨j,hj,e⟩:=(h.port hi).1 hq;rcases e with⟨e,rfl⟩|⟨e,rfl⟩
  .exact⟨by dsimp only;omega,by dsimp only;omega,.inl (by simpa using e)⟩
  .exact⟨by dsimp only;omega,by dsimp only;omega,.inr (by simpa using e)⟩
 .rintro⟨k0,k1,e⟩;have ek:((k.toNat:Nat):Int)=k:=ab;rcases e with e|e
  .exact⟨_,(h.port hi).2 ⟨k.toNat,ab,.inl ⟨e,rfl⟩⟩,ek⟩
  .exact⟨_,(h.port hi).2 ⟨k.toNat,ab,.inr ⟨e,rfl⟩⟩,ek⟩
theorem DN.uniq{n:aQ}(h:DN n){i j:Nat}(hi:i<n.1.length)(hj:j<n.1.length){q p:pi}(hq:q∈ay (n.1.getD i default))(hp:p∈ay (n.1.getD j default))(e:q.1=p.1):i=j/\q.2=p.2:=by
 obtain⟨a,ha,ea⟩:=(h.port hi).1 hq
 obtain⟨b,hb,eb⟩:=(h.port hj).1 hp
 unfold gp at ea eb
 rcases ea with⟨ea,rfl⟩|⟨ea,rfl⟩ <;> rcases eb with⟨eb,rfl⟩|⟨eb,rfl⟩ <;> dsimp only at e ⊢
 .have:a=b:=ab;subst this;omega
 .omega
 .omega
 .have:a=b:=ab;subst this;omega
theorem DN.padr{n:aQ}(h:DN n){i:Nat}(hi:i<n.1.length){a:Int}(ha:a∈md (n.1.getD i default)):167837697<=a/\a<=167837734:=by
 obtain⟨q,hq,rfl⟩:=List.mem_map.1 ha
 obtain⟨b,hb,eb⟩:=(h.port hi).1 hq
 have:=h.l10
 unfold gp at eb
 rcases eb with⟨eb,rfl⟩|⟨eb,rfl⟩ <;> dsimp only <;> omega
theorem DN.loop{n:aQ}(h:DN n){i:Nat}(hi:i<n.1.length):fy (n.1.getD i default)=0∨fy (n.1.getD i default)=167903232+i:=(h.d i hi).loop
theorem aX5{x:au}{a:Int}:a∈cG x↔a∈md x∨(fy x≠0/\a=fy x):=by
 unfold cG
 rw[dw]
 by_cases e:fy x=0
 .rw[am e];simp[e]
 .rw[af e];simp[e]
theorem DN.apart{n:aQ}(h:DN n){i j:Nat}(hi:i<n.1.length)(hj:j<n.1.length){a:Int}(ha:a∈cG (n.1.getD i default))(hb:a∈cG (n.1.getD j default)):i=j:=by
 rw[aX5] at ha hb
 have li:=h.loop hi
 have lj:=h.loop hj
 rcases ha with ha|ha <;> rcases hb with hb|hb
 .obtain⟨q,hq,e⟩:=List.mem_map.1 ha;obtain⟨p,hp,e2⟩:=List.mem_map.1 hb;exact (h.uniq hi hj hq hp (e.trans e2.symm)).1
 .have:=h.padr hi ha;omega
 .have:=h.padr hj hb;omega
 .omega
theorem Jm{ls:List aK}{i:Int}{t:List Rt}(h:ny ls Bk i t):t.length<=20:=Kj h
theorem DN.okNet{n:aQ}(h:DN n):okNet n:=by
 refine⟨λx hx=>?_,by have:=h.h3;omega,λc hc=>?_⟩
 .obtain⟨i,hi,rfl⟩:=xp hx;have t:=h.t i hi;have:=Jm t;refine⟨t.1,ab,λr hr=>?_⟩;have:=Ei (t.2 r hr);have:=h.l10;omega
 .rcases (h.c c hc).x with e|⟨q,-,e⟩ <;> rw[e] <;> simp
theorem Mf{ls:List aK}{k:Int}(k0:0<=k)(k1:k<ls.length):fB ls k (lA (ls.getD k.toNat default))=lB (ls.getD k.toNat default):=by
 unfold fB;rw[af ab,am rfl]
theorem Ra{ls:List aK}{k:Int}(k0:0<=k)(k1:k<ls.length)(hn:lA (ls.getD k.toNat default)≠lB (ls.getD k.toNat default)):fB ls k (lB (ls.getD k.toNat default))=lA (ls.getD k.toNat default):=by
 unfold fB;rw[af ab,af (λe=>hn e.symm),am rfl]
theorem aH1{l:List Rt}{c:aV}{r:Rt}(h:r∈f9 l c):r=dN c∨r∈l:=by
 unfold f9 at h
 split at h
 .exact .inr (List.mem_filter.1 h).1
 .rcases MV.1 h with h|h
  .exact .inl h
  .exact .inr h.1
theorem WA{n:aQ}{who at':Int}(w0:0<=who)(w1:who<n.1.length){P:Rt->Prop}(h0:∀ r∈aU (n.1.getD who.toNat default),P r)(hc:∀ c∈n.2.2,bJ c=who->P (dN c)):∀ r∈d5 n who at',P r:=by
 unfold d5 rm
 rw[af ab]
 have e:∀(l:List aV)(t:List Rt),(∀ c∈l,bJ c=who->P (dN c))->(∀ r∈t,P r)→∀ r∈l.foldl (BJ who at') t,P r:=by
  intro l
  induction l with
  | nil=>intro t _ h;exact h
  | cons c l ih =>
   intro t hl ht;rw[List.foldl_cons];refine ih _ (λx hx=>hl x (fL _ hx)) λr hr=>?_;unfold BJ at hr;split at hr
   .rename_i q;rcases aH1 hr with rfl|hr
    .exact hl c fW q.1
    .exact ht r hr
   .exact ht r hr
 exact e _ _ (λc hc'=>hc c (oI hc')) h0
theorem DN.next{n:aQ}(h:DN n){who at':Int}(w0:0<=who)(w1:who<n.1.length):∀ r∈d5 n who at',∀ k∈r.2.1,lnk n.2.1 who k:=by
 have ew:((who.toNat:Nat):Int)=who:=ab
 refine WA w0 w1 (λr hr k hk=>?_) (λc hc hw k hk=>?_)
 .have:=((h.t who.toNat ab).2 r hr).ln k hk;rw[ew] at this;exact this
 .have q:=(h.c c hc).x;rw[hw] at q;rcases q with e|⟨q,hq,e⟩
  .rw[e] at hk;cases hk
  .rw[e] at hk;rw[iP.1 hk];have:=(h.links (i:=who.toNat) ab).1 (List.mem_map.2 ⟨q,hq,rfl⟩);rw[ew] at this;exact this
theorem DN.other{n:aQ}(h:DN n){who k:Int}(hk:lnk n.2.1 who k):0<=fB n.2.1 k who/\fB n.2.1 k who<n.1.length:=by
 obtain⟨k0,k1,e⟩:=hk
 have g:=h.g _ (bS k0 k1)
 rcases e with e|e
 .rw[← e,Mf k0 k1];exact g.2.1
 .rw[← e,Ra k0 k1 g.2.2.1];exact g.1
def lf(ls:List aK)(i:Int):Prop:=∃ l∈ls,lA l=i∨lB l=i
theorem lf.app{ls:List aK}{i:Int}(h:lf ls i)(m:List aK):lf (ls++m) i:=by
 obtain⟨l,hl,e⟩:=h
 exact⟨l,gv _ hl,e⟩
theorem lf.link{s:bu}{i:Int}(h:lf s.1.2.1 i)(a b:Int):lf (jn s a b).1.2.1 i:=h.app _
theorem Rc(s:bu)(a b:Int):lf (jn s a b).1.2.1 a:=⟨_,i5 _ fW,.inl rfl⟩
theorem SP(s:bu)(a b:Int):lf (jn s a b).1.2.1 b:=⟨_,i5 _ fW,.inr rfl⟩
theorem OS(s:bu):∀ k j:Nat,j<k->lf ((range k).foldl r9 s).1.2.1 j
 | 0,j,h=>absurd h (Nat.not_lt_zero _)
 | k+1,j,h=>by
  rw[m3,iG];by_cases e:j<k
  .exact (OS s k j e).link (s:=kH ((range k).foldl r9 s) false) _ _
  .have:j=k:=ab;subst this;exact Rc _ _ _
theorem Uo{c:aX}(h:cQ c){j:Nat}(hj:j<(bW c).toNat+2):lf (n6 c).2.1.2.1 j:=by
 have hn:=vU h
 rw[F6]
 by_cases e:j<(bW c).toNat
 .exact (OS _ _ _ e).link (s:=kH ((range (bW c).toNat).foldl r9 (wt c)) true) _ _
 by_cases e2:j=(bW c).toNat
 .rw[show ((j:Nat):Int)=bW c by omega];exact Rc _ _ _
 .rw[show ((j:Nat):Int)=bW c+1 by omega];exact SP _ _ _
theorem YV{s:bu}{i:Int}(h:lf s.1.2.1 i)(n:Int):lf (sU n s).1.2.1 i:=by
 unfold sU
 dsimp only
 split
 .exact h
 .exact lf.app h _
theorem Pl{n i:Int}:∀(k:Nat){s:bu},lf s.1.2.1 i->lf ((range k).foldl (λs _=>sU n s) s).1.2.1 i
 | 0,s,h=>h
 | k+1,s,h=>by
  rw[m3,iG];exact YV (Pl k h) n
theorem aq3{s:bu}{i:Int}(h:lf s.1.2.1 i)(plain:Bool)(n:Int):lf (Aa plain n s).1.2.1 i:=by
 rw[GX]
 dsimp only
 have h1:lf (rD plain n s (ax s.2 4).1.toNat).1.2.1 i:=by
  unfold rD;split
  .exact Pl _ h
  .exact h
 generalize rD plain n s (ax s.2 4).1.toNat=t at h1 ⊢
 split
 .split
  .exact lf.app h1 _
  .exact h1
 .exact h1
theorem Xx{s r:bu}{nn nl:Nat}(h:RS s nn nl r)(n3:3<=nn)(n7:nn<=7)(l10:nl<=10){i:Int}(ht:lf r.1.2.1 i):lf (pC r).1.2.1 i:=by
 have pre:=h.preO ab ab ab
 have inv:=Ky h.np h.c pre.g h.lk (i:=r.1.2.1.length) (iq _)
 have e:(pC r).1.2.1=(oL r r.1.2.1.length).1.2:=by
  unfold pC oL oN;rfl
 rw[e]
 obtain⟨l,hl,q⟩:=ht
 obtain⟨j,hj,rfl⟩:=xp hl
 have k:=inv.lk.k j hj
 refine⟨_,nX (by rw[inv.lk.n];exact hj),?_⟩
 rw[k.a,k.b];exact q
theorem aL4{s r:bu}{nn nl:Nat}(h:RS s nn nl r)(n3:3<=nn)(n7:nn<=7)(l10:nl<=10):(pC r).1.1.length=r.1.1.length:=by
 have pre:=h.preO ab ab ab
 have ok:=yc r h.c pre.g (i:=r.1.2.1.length) (f8 _)
 have e:(pC r).1.1=(oL r r.1.2.1.length).1.1:=by
  unfold pC oL oN;rfl
 rw[e]
 exact ok.1.n
theorem YE{c:aX}(h:cQ c)(plain:Bool){i:Nat}(hi:i<(ji plain c).1.length):lf (ji plain c).2.1 i:=by
 have hn:=vU h
 obtain⟨m,m2,m10,G⟩:=Dg h plain
 have R:=G.rs plain
 have rn:=R.i.n.trans R.g.n
 have t:=λj=>λ(hj:j<(bW c).toNat+2)=>aq3 (Uo h hj) plain (n6 c).1
 unfold ji A8 at hi ⊢
 dsimp only at hi ⊢
 cases plain with
 | true =>
  rw[am rfl] at hi ⊢;rw[R.links];exact t i (by rw[← rn];exact hi)
 | false =>
  rw[af bt] at hi ⊢;have ol:=aL4 R ab ab m10;refine Xx R ab ab m10 ?_;rw[R.links];exact t i (by rw[← rn];omega)
theorem RA{c:aX}(h:cQ c)(plain:Bool){i:Nat}(hi:i<(ji plain c).1.length):0<(ay ((ji plain c).1.getD i default)).length:=by
 have D:=Di h plain
 obtain⟨l,hl,q⟩:=YE h plain hi
 obtain⟨j,hj,rfl⟩:=xp hl
 rcases q with q|q
 .exact List.length_pos_of_mem ((D.port hi).2 ⟨j,hj,.inl ⟨q,rfl⟩⟩)
 .exact List.length_pos_of_mem ((D.port hi).2 ⟨j,hj,.inr ⟨q,rfl⟩⟩)
def uq(x:au):Prop:=(∀ y∈ay x,u32 y.1)/\u32 (fy x)/\u32 (oB x)
theorem KW{n:aQ}(h:DN n){i:Nat}(hi:i<n.1.length):uq (n.1.getD i default):=by
 have d:=h.d i hi
 have l10:=h.l10
 have n7:=h.n7
 refine⟨λy hy=>?_,?_,?_⟩
 .obtain⟨j,hj,q⟩:=(h.port hi).1 hy;unfold gp at q;rcases q with⟨-,rfl⟩|⟨-,rfl⟩ <;> (constructor <;> simp only <;> omega)
 .rcases d.loop with q|q <;> (rw[q];constructor <;> omega)
 .rcases d.fix with q|q
  .rw[q];constructor <;> omega
  .constructor <;> omega
def as2:Ct:=⟨[.agg pM],[.val (.sl bP),.val cI],λd=>[],λd=>((build d.1,cf d.1,()),())⟩
theorem at7 :
 ∀(a b c d e f:Int),((0<=a/\a<=4294967295)/\(0<=b/\b<=4294967295)/\aq c/\aq d/\aq e/\aq f)/\True->True->ao (! decide (cf (a,b,c,d,e,f)=0)) (([]:ae)=build (a,b,c,d,e,f)/\cf (a,b,c,d,e,f)=cf (a,b,c,d,e,f)) (cf (a,b,c,d,e,f)=0/\((length (fu (a,b,c,d,e,f))):Int)<=1073741824/\d8 (((0:Int),e,f,c,true,a,b),fu (a,b,c,d,e,f))=build (a,b,c,d,e,f)/\fA (((0:Int),e,f,c,true,a,b),fu (a,b,c,d,e,f))=cf (a,b,c,d,e,f)):=by
  rintro s d pr f t l - -;refine aw (λh=>?_) (λh=>?_)
  .have h:¬ cf (s,d,pr,f,t,l)=0:=by simpa using h
   rw[build,af h];exact⟨rfl,rfl⟩
  have h:cf (s,d,pr,f,t,l)=0:=by simpa using h
  have e0:=H8 h;have hl:=xN h;refine⟨h,ab,?_⟩;rw[build,am h,h];exact⟨rfl,e0⟩
theorem aS4:aB 11 as2.spec:=aF Tryz.func11 (av (av (av aD HH) MF) QC) aT at7
theorem Ns{B:Int->Int->ae}{F:Int->Int}{w:dQ}{own:Int}(h:F 0≠0):(dD B F w own).2.2≠2:=by
 by_cases k:own=0/\ku w.1=true
 .rw[xE k];show (4:Int)≠2;decide
 .rw[wU k h];show (6:Int)≠2;decide
theorem CK{b:ae}(h:¬ dH b)(k c i t:Int):fY b k c i t≠0:=by
 unfold fY
 by_cases g:pF k c i t
 .rw[af (by simpa using g),af h];decide
 .rw[am g];decide
theorem PZ{b:ae}(h:¬ dH b)(i t:Int):gI b i t≠0:=by
 unfold gI
 by_cases g:iW i t
 .rw[af (by simpa using g),af (λk=>h k.1)];decide
 .rw[am g];decide
theorem PF{x:au}{s:ct}{lk t:Int}{b:ae}(h:¬ dH b):(fI x s lk t b).2.2≠2:=by
 unfold fI gb
 split
 .show (6:Int)≠2;decide
 split
 .unfold iy;rw[am (.inr (by exact PZ h _ _))];show (1:Int)≠2;decide
 split
 .show (6:Int)≠2;decide
 unfold fO
 split
 .exact Ns (CK h _ _ _ _)
 split
 .split
  .show (8:Int)≠2;decide
  .exact Ns (CK h _ _ _ _)
 .show (0:Int)≠2;decide
theorem yW{B:Int->Int->ae}{F:Int->Int}{w:dQ}{own:Int}:(dD B F w own).2.2≠0/\(dD B F w own).2.2≠1:=by
 by_cases k:own=0/\ku w.1=true
 .rw[xE k];exact⟨(by show (4:Int)≠0;decide),(by show (4:Int)≠1;decide)⟩
 by_cases k1:F 0≠0
 .rw[wU k k1];exact⟨(by show (6:Int)≠0;decide),(by show (6:Int)≠1;decide)⟩
 by_cases k2:fV w.2.1 (lE w.2.2.2.2.2)=false
 .rw[zm k k1 k2];exact⟨(by show (8:Int)≠0;decide),(by show (8:Int)≠1;decide)⟩
 by_cases k3:(lT w).2=false
 .rw[zW k k1 k2 k3];exact⟨(by show (5:Int)≠0;decide),(by show (5:Int)≠1;decide)⟩
 .rw[ze k k1 k2 k3];exact⟨(by show (2:Int)≠0;decide),(by show (2:Int)≠1;decide)⟩
structure JM (x:au) (s:ct) (lk:Int) (b:ae):Prop where
 dec:bX b=0
 own:¬ dC x (jm (aY b).1)=true
 host:¬ (iL x=true/\lk ≠ -1)
 ttl:¬ (lk ≠ -1/\dJ x=false/\tI (aY b).1<2)
 way:¬ fV s (jm (aY b).1)=false
def zH(s:ct)(b:ae):Rt:=bf (bT s) (jm (aY b).1)
theorem AV{x:au}{s:ct}{lk t:Int}{b:ae}(h:JM x s lk b):fI x s lk t b=(gz s (zH s b),(ja x s (zH s b) (bc b),if lk ≠ -1/\dJ x=false then ig b else b),0):=by
 show gb (x,s,lk,t,b,oY)=_
 unfold gb
 rw[af (by simpa using h.dec),af h.own,af h.host]
 have e:∀ w:dQ,w.1=x->w.2.1=s->w.2.2.1=lk->w.2.2.2.2.1=b->w.2.2.2.2.2=(aY b).1->fO w=(gz s (zH s b),(ja x s (zH s b) (bc b),if lk ≠ -1/\dJ x=false then ig b else b),0):=by
  intro w e1 e2 e3 e4 e5;unfold fO;rw[e1,e2,e3,e4,e5,af h.ttl,af h.way];rfl
 exact e _ rfl rfl rfl rfl rfl
theorem DU{x:au}{s:ct}{lk t:Int}{b:ae}(h:(fI x s lk t b).2.2=0):JM x s lk b:=by
 have h:(gb (x,s,lk,t,b,oY)).2.2=0:=h
 unfold gb at h
 by_cases k1:bX b≠0
 .rw[am k1] at h;exact absurd h (by show (6:Int)≠0;decide)
 rw[af k1] at h
 by_cases k2:dC x (jm (aY b).1)=true
 .rw[am k2] at h;unfold iy at h;split at h
  .exact absurd h (by show (1:Int)≠0;decide)
  .exact absurd h yW.1
 rw[af k2] at h
 by_cases k4:iL x=true/\lk ≠ -1
 .rw[am k4] at h;exact absurd h (by show (6:Int)≠0;decide)
 rw[af k4] at h
 unfold fO at h
 split at h
 .exact absurd h yW.1
 rename_i k5
 split at h
 .split at h
  .exact absurd h (by show (8:Int)≠0;decide)
  .exact absurd h yW.1
 rename_i k6
 exact⟨by simpa using k1,k2,k4,k5,k6⟩
theorem AM{p:bz}(g:da p):bX (build p)=0/\(aY (build p)).1=sj p:=by
 have h:=EY g.ok g.s g.d
 exact⟨h.2.1,by rw[aY,am h.2.1];exact h.1⟩
def IU(x:au)(s s':ct)(t why:Int):Prop :=
 bT s'=bT s/\(lP s').length=(lP s).length ∧
  ((why≠2/\qa s'=qa s/\(sR s'=sR s∨(sR s'=(kF (jV x) (sR s) t).1/\(kF (jV x) (sR s) t).2=false))) ∨
    (why=2/\qa s'=IntKind.i64.wrap (qa s+1)/\sR s'=(kF (jV x) (sR s) t).1/\(kF (jV x) (sR s) t).2=true))
theorem ye{x:au}{s:ct}{t why:Int}(h:why≠2):IU x s s t why:=⟨rfl,rfl,.inl ⟨h,rfl,.inl rfl⟩⟩
theorem aN1(l:ae)(i:Int):(qK l i).length=l.length:=by
 unfold qK;split
 .exact gB
 .rfl
theorem Jf{B:Int->Int->ae}{F:Int->Int}{w:dQ}{own:Int}:IU w.1 w.2.1 (dD B F w own).1 w.2.2.2.1 (dD B F w own).2.2:=by
 by_cases k:own=0/\ku w.1=true
 .rw[xE k];exact ye (by show (4:Int)≠2;decide)
 by_cases k1:F 0≠0
 .rw[wU k k1];exact ye (by show (6:Int)≠2;decide)
 by_cases k2:fV w.2.1 (lE w.2.2.2.2.2)=false
 .rw[zm k k1 k2];exact ye (by show (8:Int)≠2;decide)
 by_cases k3:(lT w).2=false
 .rw[zW k k1 k2 k3];exact⟨rfl,rfl,.inl ⟨(by show (5:Int)≠2;decide),rfl,.inr ⟨rfl,k3⟩⟩⟩
 .rw[ze k k1 k2 k3];have k4:(lT w).2=true:=by simpa using k3
  refine⟨?_,?_,.inr ⟨rfl,?_,?_,k4⟩⟩
  .rw[yM];rfl
  .rw[yM];exact aN1 _ _
  .rw[yM];rfl
  .rw[yM];rfl
theorem NY(x:au)(s:ct)(lk t:Int)(b:ae):IU x s (fI x s lk t b).1 t (fI x s lk t b).2.2:=by
 unfold fI gb
 split
 .exact ye (by show (6:Int)≠2;decide)
 split
 .unfold iy;split
  .exact ye (by show (1:Int)≠2;decide)
  .exact Jf (w:=vC (x,s,lk,t,b,oY) (aY b).1)
 split
 .exact ye (by show (6:Int)≠2;decide)
 unfold fO
 split
 .exact Jf (w:=vC (x,s,lk,t,b,oY) (aY b).1)
 split
 .split
  .exact ye (by show (8:Int)≠2;decide)
  .exact Jf (w:=vC (x,s,lk,t,b,oY) (aY b).1)
 .refine⟨?_,?_,.inl ⟨(by show (0:Int)≠2;decide),?_,.inl ?_⟩⟩ <;> (rw[yM];rfl)
theorem MS{n:au}{s:ct}{port a asked dst:Int}(hb:0<=mY n/\mY n<=65535)(ha:0<=asked/\asked<=65535):0<=mD n s port a asked dst/\mD n s port a asked dst<=65535:=by
 have hc:∀ x,0<=r7 n x a/\r7 n x a<=65535:=λx=>by unfold r7;omega
 have hh:0<=nU (mY n) (0,dst,0,qa s,0)%65536/\nU (mY n) (0,dst,0,qa s,0)%65536<=65535:=ab
 unfold mD
 split
 .exact hb
 split
 .exact hc _
 split
 .split <;> exact hc _
 split
 .exact ha
 split
 .exact hh
 .omega
theorem Da{x:au}(A:uq x){i:Int}(h0:0<=i)(h1:i<(ay x).length):u32 (adr x i)/\dC x (adr x i)=true:=by
 have hm:=bS h0 h1
 rw[Qr h0 h1]
 refine⟨A.1 _ hm,?_⟩
 have:0<=jl x ((ay x).getD i.toNat default).1:=Po hm (by simp[gV])
 unfold dC
 rw[cM this];rfl
theorem aA9{x:au}{lk L:Int}(N:nP x)(A:uq x)(hi:0<=cy x lk)(hL:0<=cy x L) :
  u32 (kO x (ci x lk) L)/\(dC x (kO x (ci x lk) L)=true∨(fS x=4/\kO x (ci x lk) L=oB x))/\(fS x=1->kO x (ci x lk) L=((ay x).getD (cy x lk).toNat default).1):=by
 have e:ci x lk=cy x lk:=by unfold ci;omega
 have i1:cy x lk<(ay x).length:=(sW hi).1
 have l1:cy x L<(ay x).length:=(sW hL).1
 rw[e]
 unfold kO
 by_cases s2:fS x=2
 .rw[am s2];have k:=Da A hL l1;exact⟨k.1,.inl k.2,λq=>ab⟩
 rw[af s2]
 by_cases s3:fS x=3
 .rw[am s3];have hne:fy x≠0:=λq=>N.form (.inr (.inr (.inl ⟨s3,q⟩)));refine⟨A.2.1,.inl ?_,λq=>ab⟩;unfold dC;simp[hne]
 rw[af s3]
 by_cases s4:fS x=4
 .rw[am s4];exact⟨A.2.2,.inr ⟨s4,rfl⟩,λq=>ab⟩
 rw[af s4]
 have k:=Da A hi i1
 exact⟨k.1,.inl k.2,λ_=>Qr hi i1⟩
theorem FN{B:Int->Int->ae}{F:Int->Int}{w:dQ}{own:Int}(h:(dD B F w own).2.2=2) :
  F 0=0∧¬ fV w.2.1 (lE w.2.2.2.2.2)=false/\dD B F w own=(gz (kg w) (kq w),(j8 B w,B (j5 B w own) (iu w)),2):=by
 by_cases k:own=0/\ku w.1=true
 .rw[xE k] at h;exact absurd h (by show (4:Int)≠2;decide)
 by_cases k1:F 0≠0
 .rw[wU k k1] at h;exact absurd h (by show (6:Int)≠2;decide)
 by_cases k2:fV w.2.1 (lE w.2.2.2.2.2)=false
 .rw[zm k k1 k2] at h;exact absurd h (by show (8:Int)≠2;decide)
 by_cases k3:(lT w).2=false
 .rw[zW k k1 k2 k3] at h;exact absurd h (by show (5:Int)≠2;decide)
 .exact⟨by simpa using k1,k2,ze k k1 k2 k3⟩
theorem Kf{x:au}{s:ct}{lk t:Int}{b:ae}(h:(fI x s lk t b).2.2=2) :
  ∃ ki,fI x s lk t b=t9 (jc x s lk t b) ki/\((ki=0/\dC x (jm (aY b).1)=true/\Ba (aY b).1≠17)∨(ki=1/\Ba (aY b).1=17)∨ki=2∨ki=3):=by
 have e0:fI x s lk t b=gb (x,s,lk,t,b,oY):=rfl
 rw[e0] at h ⊢
 unfold gb at h ⊢
 by_cases k1:bX b≠0
 .rw[am k1] at h;exact absurd h (by show (6:Int)≠2;decide)
 rw[af k1] at h ⊢
 by_cases k2:dC x (jm (aY b).1)=true
 .rw[am k2] at h ⊢;unfold iy at h ⊢;split at h
  .exact absurd h (by show (1:Int)≠2;decide)
  rename_i k3;rw[af k3];by_cases k4:Ba (aY b).1=17
  .exact⟨1,by rw[az6];exact jt (dD _ _ _) (am k4),.inr (.inl ⟨rfl,k4⟩)⟩
  .exact⟨0,by rw[aE8];exact jt (dD _ _ _) (af k4),.inl ⟨rfl,k2,k4⟩⟩
 rw[af k2] at h ⊢
 by_cases k4:iL x=true/\lk ≠ -1
 .rw[am k4] at h;exact absurd h (by show (6:Int)≠2;decide)
 rw[af k4] at h ⊢
 unfold fO at h ⊢
 split at h
 next k5=>exact⟨2,by rw[am k5,Vy];rfl,.inr (.inr (.inl rfl))⟩
 rename_i k5
 rw[af k5]
 split at h
 next k6=>
  rw[am k6];split at h
  .exact absurd h (by show (8:Int)≠2;decide)
  rename_i k7;exact⟨3,by rw[af k7,UU];rfl,.inr (.inr (.inr rfl))⟩
 .exact absurd h (by show (0:Int)≠2;decide)
theorem Jh{w:dQ}{ki:Int}(h:kE ki w 0=0):dH w.2.2.2.2.1:=fq λk=>by
 unfold kE at h
 split at h
 .exact CK k _ _ _ _ h
 split at h
 .exact CK k _ _ _ _ h
 .exact PZ k _ _ h
structure ab0 (x:au) (lk:Int) (p:bz) (a:rR) (r:oP):Prop where
 is:CC p a r.2.1.2
 left:a.2.2.2.1=iM x
 quoted:a.2.2.2.2.2=0∨a.2.2.2.2.2=p.2.2.2.2.2
 out:0<=cy x r.2.1.1
 exc:a.2.1=1->fS x=1->a.1=((ay x).getD (cy x lk).toNat default).1
 own:dC x a.1=true∨(fS x=4/\a.1=oB x)
 cnt:(lP r.1).getD (cy x lk).toNat default=1
theorem aC7{x:au}{lk:Int}{p:bz}(N:nP x)(A:uq x)(g:da p)(hlk:lk∈bj x)(h:(fI x (nB x) lk 0 (build p)).2.2=2):∃ a,ab0 x lk p a (fI x (nB x) lk 0 (build p)):=by
 have st:=OF N
 obtain⟨ki,e,hk⟩:=Kf h
 rw[e] at h ⊢
 obtain⟨d1,d2⟩:=AM g
 obtain⟨w,hw⟩:∃ w,w=jc x (nB x) lk 0 (build p):=⟨_,rfl⟩
 rw[← hw] at h ⊢
 obtain⟨a1,a2,a3⟩:=FN h
 have w1:w.1=x:=by rw[hw];rfl
 have w2:w.2.1=nB x:=by rw[hw];rfl
 have w3:w.2.2.1=lk:=by rw[hw];rfl
 have w5:w.2.2.2.2.1=build p:=by rw[hw];rfl
 have w6:w.2.2.2.2.2=sj p:=by rw[hw];exact d2
 have hu:fC p.1:=by
  have:=Jh a1;rw[w5] at this;exact (Ib g).1 this
 have hi:=Ih hlk
 have hin:ci x lk=cy x lk:=by unfold ci;omega
 have i1:cy x lk<(ay x).length:=(sW hi).1
 have hL:0<=cy x (j8 (kB ki w) w):=by
  have:=aN5 st (a:=lE w.2.2.2.2.2) (by rw[← w2];exact a2) (kg w) (bc (kB ki w (adr w.1 (ci w.1 w.2.2.1)) 0));unfold j8 kq;rw[w1,w2];rw[w1] at this;exact this
 obtain⟨s1,s2,s3⟩:=aA9 N A hi hL
 have hr:=(lh.1 g.ok).2
 obtain⟨hf,ht,-⟩:=id hr
 have hb:0<=mY x/\mY x<=65535:=by
  have h:=N.id;unfold iZ at h;split at h
  next k=>have:=aI k;omega
  .cases h
 have hid:iW (iu w) (iM x):=by
  have f:=N.form;unfold mK at f;refine⟨?_,ab,ab⟩;unfold iu;rw[w1,w6];exact MS hb ⟨by show 0<=p.2.2.2.2.1;omega,by show p.2.2.2.2.1<=65535;omega⟩
 have hc:(lP (t9 w ki).1).getD (cy x lk).toNat default=1:=by
  have e1:(t9 w ki).1=gz (kg w) (kq w):=jt (λr:oP=>r.1) a3;have e2:lP (t9 w ki).1=qK (replicate (ay x).length 0) (cy x lk):=by
   rw[e1,yM];show qK (lP w.2.1) (ci w.1 w.2.2.1)=_;rw[w1,w2,w3,hin];rfl
  rw[e2,Gw (by rw[ue];exact i1)];have:(cy x lk).toNat<(replicate (ay x).length (0:Int)).length:=by rw[ue];omega
  rw[bL,List.getElem?_set_self this,fZ,bL,cK this,fZ,List.getElem_replicate];decide
 have ho:(t9 w ki).2.1=(j8 (kB ki w) w,kB ki w (j5 (kB ki w) w (pt ki w)) (iu w)):=jt (λr:oP=>r.2.1) a3
 have hsrc:kO w.1 (ci w.1 w.2.2.1) (j8 (kB ki w) w)=kO x (ci x lk) (j8 (kB ki w) w):=by rw[w1,w3]
 have hF:pt ki w=0->j5 (kB ki w) w (pt ki w)=kO x (ci x lk) (j8 (kB ki w) w):=λq=>by unfold j5;rw[am q,hsrc]
 generalize hid2:iu w=id at hid ho
 generalize hLL:j8 (kB ki w) w=L at hL s1 s2 s3 ho hF
 generalize kO x (ci x lk) L=F at s1 s2 s3 hF
 have hp17:Ba (aY (build p)).1=p.2.2.1:=by rw[d2];rfl
 rcases hk with⟨rfl,q1,q2⟩|⟨rfl,q1⟩|rfl|rfl
 .have hd:jm (aY (build p)).1=p.2.1:=by rw[d2];rfl
  have ko:pt 0 w=p.2.1:=by show jm w.2.2.2.2.2=_;rw[w6];rfl
  rw[hd] at q1;have hne:=Sn N q1;have ef:j5 (kB 0 w) w (pt 0 w)=p.2.1:=by unfold j5;rw[ko,af hne]
  rw[ef] at ho;have eB:kB 0 w p.2.1 id=jw (build p) p.2.1 id (iM x):=by show fT w _ _=_;unfold fT;rw[w5,w1]
  rw[eB] at ho;have I:=(KR g hu hid).2;refine⟨s8 p id (iM x),by rw[ho];exact I,?_,?_,by rw[ho];exact hL,?_,.inl ?_,hc⟩
  .unfold s8;split
   .rfl
   .split <;> rfl
  .unfold s8;split
   .exact .inl rfl
   .split
    .exact .inr rfl
    .exact .inl rfl
  .intro k;exfalso;unfold s8 at k;split at k
   .exact absurd k (by show (4:Int)≠1;decide)
   .split at k
    .exact absurd k (by show (3:Int)≠1;decide)
    .exact absurd k (by show (2:Int)≠1;decide)
  .have:(s8 p id (iM x)).1=p.2.1:=by unfold s8;split;rfl;split <;> rfl
   rw[this];exact q1
 .rw[hF rfl] at ho;rw[hp17] at q1;have hpr:dm (build p)=17:=by rw[dm,g.dec.1];exact q1
  have eB:kB 1 w F id=jv (build p) F 3 3 id (iM x):=by
   show fT w _ _=_;unfold fT jw;rw[w5,w1,am (KR g hu hid).1,af (by rw[hpr];decide),am hpr]
  rw[eB] at ho;have I:=(DB g hu s1 (kind:=3) (code:=3) ⟨.inr rfl,ab,hid⟩).2.1;exact⟨(F,uR 3 3,3,iM x,id,p.2.2.2.2.2),by rw[ho];exact I,rfl,.inr rfl,by rw[ho];exact hL,λk=>absurd k (by show uR 3 3≠1;decide),s2,hc⟩
 .rw[hF rfl] at ho;have eB:kB 2 w F id=jv (build p) F 11 0 id (iM x):=by show dW w 11 0 _ _=_;unfold dW;rw[w5,w1]
  rw[eB] at ho;have I:=(DB g hu s1 (kind:=11) (code:=0) ⟨.inl rfl,ab,hid⟩).2.1;exact⟨(F,uR 11 0,0,iM x,id,p.2.2.2.2.2),by rw[ho];exact I,rfl,.inr rfl,by rw[ho];exact hL,λ_ k=>s3 k,s2,hc⟩
 .rw[hF rfl] at ho;have eB:kB 3 w F id=jv (build p) F 3 0 id (iM x):=by show dW w 3 0 _ _=_;unfold dW;rw[w5,w1]
  rw[eB] at ho;have I:=(DB g hu s1 (kind:=3) (code:=0) ⟨.inr rfl,ab,hid⟩).2.1;exact⟨(F,uR 3 0,0,iM x,id,p.2.2.2.2.2),by rw[ho];exact I,rfl,.inr rfl,by rw[ho];exact hL,λk=>absurd k (by show uR 3 0≠1;decide),s2,hc⟩
theorem Is{B:Int->Int->ae}{F:Int->Int}{w:dQ}{own:Int}(h:(dD B F w own).2.2≠2):(dD B F w own).2.1=iN:=by
 by_cases k:own=0/\ku w.1=true
 .rw[xE k]
 by_cases k1:F 0≠0
 .rw[wU k k1]
 by_cases k2:fV w.2.1 (lE w.2.2.2.2.2)=false
 .rw[zm k k1 k2]
 by_cases k3:(lT w).2=false
 .rw[zW k k1 k2 k3]
 .rw[ze k k1 k2 k3] at h;exact absurd rfl h
theorem MR{x:au}{s:ct}{lk t:Int}{b:ae}(h:(fI x s lk t b).2.2≠2)(h0:(fI x s lk t b).2.2≠0):(fI x s lk t b).2.1=iN:=by
 unfold fI gb at h h0 ⊢
 split at h
 next k=>rw[am k]
 rename_i k1
 rw[af k1] at h0 ⊢
 split at h
 next k2=>
  rw[am k2];unfold iy at h ⊢;split at h
  next k=>rw[am k]
  next k=>rw[af k];exact Is h
 rename_i k2
 rw[af k2] at h0 ⊢
 split at h
 next k=>rw[am k]
 rename_i k3
 rw[af k3] at h0 ⊢
 unfold fO at h h0 ⊢
 split at h
 next k=>rw[am k];exact Is h
 rename_i k4
 rw[af k4] at h0 ⊢
 split at h
 next k=>
  rw[am k];split at h
  next k=>rw[am k]
  next k=>rw[af k];exact Is h
 rename_i k5
 rw[af k5] at h0
 exact absurd rfl h0
theorem CW{p:rA}(h:fA p=0):(d8 p).length=20+p.2.length/\(bytes p.2->bytes (d8 p)):=by
 rw[d8,am h]
 refine⟨by rw[cu,sK],λhb=>iQ (JB ?_) hb⟩
 exact fq λk=>by rw[fA,am k] at h;cases h
theorem w7{b:ae}(hb:bytes b)(h:bX b=0):kV (bI b)/\20<=b.length/\b.length<=1500:=by
 have hp:=Ee h
 have hl:=BO hp
 have hd:=wy h
 have w:=nO hb 4
 have g:∀ i:Nat,0<=b.getD i default/\b.getD i default<=255:=λi=>by
  by_cases k:i<b.length
  .have:=hb _ (bS (i:=(i:Int)) ab ab);simpa using this
  .rw[bL,yv ab];decide
 exact⟨⟨g 1,g 8,g 9,w.1,w.2⟩,ab,ab⟩
theorem NX{b:ae}(hb:bytes b)(h:gu b=0):(ig b).length=b.length/\bytes (ig b):=by
 have hd:bX b=0:=fq λk=>by rw[gu,am k] at h;exact k h
 have ht:¬ (bI b).2.2.1<2:=λk=>by rw[gu,af (λq=>q hd),am k] at h;cases h
 obtain⟨⟨h1,⟨h2,h2'⟩,h3,h4,h5⟩,l1,l2⟩:=w7 hb hd
 have e:fA (Ae (bI b),b.drop 20)=0:=by
  rw[fA,af,af (by simp only[fv];omega)];rw[o4];exact⟨h1,⟨by show 0<=(bI b).2.2.1-1;omega,by show (bI b).2.2.1-1<=255;omega⟩,h3,h4,h5⟩
 have k:=CW e
 rw[ig,am h]
 refine⟨?_,k.2 (wA hb)⟩
 rw[k.1];simp only[fv];omega
theorem D6{b:ae}{f kind code id ttl:Int}(hb:bytes b)(h:fY b kind code id ttl=0):0<(jv b f kind code id ttl).length/\bytes (jv b f kind code id ttl):=by
 have hg:pF kind code id ttl:=fq λk=>by rw[fY,am k] at h;cases h
 have ha:dH b:=fq λk=>by rw[fY,af (λq=>q hg),af k] at h;cases h
 obtain⟨-,e,en,ei⟩:=BW (src:=f) hg ha
 have k:=CW ei
 rw[e]
 exact⟨by rw[k.1];omega,k.2 (Et en (Dx hb))⟩
theorem Ow{e:n9}(h:bytes e.2.2.2)(hl:(e.2.2.2.length:Int)<=1472):((fH e).length:Int)<=1480/\bytes (fH e):=by
 unfold fH
 split
 .exact⟨by rw[mN,Dj];omega,tW (xZ h)⟩
 .exact⟨aA,nM⟩
theorem Nt{s d:Int}{e:mO}(h:e.2.2.2.2.2.2=[]):((fQ s d e).length:Int)<=1480/\bytes (fQ s d e):=by
 unfold fQ
 split
 next k=>
  have ok:pc e:=fq λq=>by rw[lJ,am q] at k;cases k
  exact⟨by rw[mN,zC,h];simp,tW (AA ok (by rw[h];exact nM))⟩
 .exact⟨aA,nM⟩
theorem ae0{b:ae}{f id ttl:Int}(hb:bytes b)(h:gI b id ttl=0):0<(jw b f id ttl).length/\bytes (jw b f id ttl):=by
 have hn:iW id ttl:=fq λk=>by rw[gI,am k] at h;cases h
 have hg:tv b:=fq λk=>by rw[gI,af (λq=>q hn),af k] at h;cases h
 obtain⟨-,l1,l2⟩:=w7 hb hg.1.1
 have hd:=wA (n:=20) hb
 rcases hg with⟨ha,⟨g1,g2⟩|⟨g1,g2⟩|⟨g1,g2,g3,g4⟩⟩
 .rw[(C9 (src:=f) hn ha g1 g2).1];have hl:=PS (b.drop 20);have hE:((fH (true,(gn (b.drop 20)).2)).length:Int)<=1480/\bytes (fH (true,(gn (b.drop 20)).2)):=by
   have e:(gn (b.drop 20)).2.2.2=(b.drop 20).drop 8:=by unfold gn;rw[am g2]
   refine Ow ?_ ?_
   .show bytes (gn (b.drop 20)).2.2.2;rw[e];exact wA hd
   .show ((gn (b.drop 20)).2.2.2.length:Int)<=1472;rw[e];simp only[fv];omega
  have k:=CW (Al (src:=f) (dst:=cL b) hn (proto:=1) ab hE.1);exact⟨by rw[k.1];omega,k.2 hE.2⟩
 .rw[(FF (src:=f) hn ha g1 g2).1];exact D6 hb (Hu hn ha)
 .rw[(EW (src:=f) hn ha g1 g2 g3 g4).1];have hE:((fQ f (cL b) (lZ (fR (cL b) (gf b) (b.drop 20)))).length:Int)<=1480/\bytes (fQ f (cL b) (lZ (fR (cL b) (gf b) (b.drop 20)))):=Nt rfl;have k:=CW (Al (src:=f) (dst:=cL b) hn (proto:=6) ab hE.1);exact⟨by rw[k.1];omega,k.2 hE.2⟩
theorem at4{ki:Int}{w:dQ}{f id:Int}(hb:bytes w.2.2.2.2.1)(hn:iW id (iM w.1))(h:kE ki w 0=0):0<(kB ki w f id).length/\bytes (kB ki w f id):=by
 have ha:=Jh h
 unfold kB
 split
 .exact D6 hb (by rw[fY,af (λk=>k ⟨.inl rfl,ab,hn⟩),am ha])
 split
 .exact D6 hb (by rw[fY,af (λk=>k ⟨.inr rfl,ab,hn⟩),am ha])
 next k2 k3=>
  have h:gI w.2.2.2.2.1 0 (iM w.1)=0:=by
   unfold kE at h;rw[af k2,af k3] at h;exact h
  have hg:tv w.2.2.2.2.1:=fq λq=>by
   rw[gI] at h;split at h
   .cases h
   .cases h
  exact ae0 hb (BA hn hg)
structure Q7 (x:au) (s:ct) (r:oP):Prop where
 some:r.2.2=0∨r.2.2=2->0<r.2.1.2.length/\r.2.1.2.length<=1500/\0<=cy x r.2.1.1
 none:r.2.2≠0->r.2.2≠2->r.2.1=iN
 byt:bytes r.2.1.2
 rt:bT r.1=bT s
theorem IQ{w:dQ}(hid:iZ w.1=0)(hf:¬ mK w.1)(hI:0<=pU w.2.2.2.2.2/\pU w.2.2.2.2.2<=65535):iW (iu w) (iM w.1):=by
 have hb:0<=mY w.1/\mY w.1<=65535:=by
  unfold iZ at hid;split at hid
  next k=>have:=aI k;omega
  .cases hid
 unfold mK at hf
 refine⟨?_,ab,ab⟩
 unfold iu
 exact MS hb hI
theorem FA{x:au}{s:ct}(hrt:∀ r∈bT s,kX r (bj x)){a:Int}(hw:¬ fV s a=false)(s':ct)(k:dZ):0<=cy x (ja x s' (bf (bT s) a) k) :=
 Ih (Ld (hrt _ (JQ hw)) _ (NA (CB hw)))
theorem Kl{x:au}{s:ct}{lk t:Int}{b:ae}(N:nP x)(hs:∀ r∈bT s,kX r (bj x))(hb:bytes b):Q7 x s (fI x s lk t b):=by
 have T:=(NY x s lk t b).1
 by_cases h0:(fI x s lk t b).2.2=0
 .have F:=DU h0;have e:=AV (t:=t) F;obtain⟨-,l1,l2⟩:=w7 hb F.dec;have hlow:lk ≠ -1/\dJ x=false->gu b=0:=λk=>by
   have ht:=F.ttl;have e1:(aY b).1=bI b:=by rw[aY,am F.dec]
   rw[e1] at ht;rw[gu,af (λq=>q F.dec)];exact af (λq=>ht ⟨k.1,k.2,q⟩)
  have key:(if lk ≠ -1/\dJ x=false then ig b else b).length=b.length/\bytes (if lk ≠ -1/\dJ x=false then ig b else b):=by
   split
   next k=>exact NX hb (hlow k)
   .exact⟨rfl,hb⟩
  refine⟨λ_=>?_,λk=>absurd h0 k,?_,T⟩
  .rw[e];exact⟨by show 0<length _;rw[key.1];omega,by show length _<=1500;rw[key.1];omega,FA hs F.way _ _⟩
  .rw[e];exact key.2
 by_cases h2:(fI x s lk t b).2.2=2
 .obtain⟨ki,e,hk⟩:=Kf h2;rw[e] at h2;obtain⟨w,hw⟩:∃ w,w=jc x s lk t b:=⟨_,rfl⟩
  rw[← hw] at h2 e;obtain⟨a1,a2,a3⟩:=FN h2;have w1:w.1=x:=by rw[hw];rfl
  have w2:w.2.1=s:=by rw[hw];rfl
  have w5:w.2.2.2.2.1=b:=by rw[hw];rfl
  have hI:0<=pU w.2.2.2.2.2/\pU w.2.2.2.2.2<=65535:=by
   have:w.2.2.2.2.2=(aY b).1:=by rw[hw];rfl
   rw[this];unfold aY;split
   .exact nO hb 4
   .exact⟨by show (0:Int)<=0;omega,by show (0:Int)<=65535;omega⟩
  have hn:=IQ (w:=w) (by rw[w1];exact N.id) (by rw[w1];exact N.form) hI;have ho:(fI x s lk t b).2.1=(j8 (kB ki w) w,kB ki w (j5 (kB ki w) w (pt ki w)) (iu w)):=by rw[e];exact jt (λr:oP=>r.2.1) a3
  have k:=at4 (f:=j5 (kB ki w) w (pt ki w)) (by rw[w5];exact hb) hn a1;have kl:=Td ki w (j5 (kB ki w) w (pt ki w)) (iu w);have hL:0<=cy x (j8 (kB ki w) w):=by
   have:=FA hs (a:=lE w.2.2.2.2.2) (by rw[← w2];exact a2) (kg w) (bc (kB ki w (adr w.1 (ci w.1 w.2.2.1)) 0));unfold j8 kq;rw[w1,w2];rw[w1] at this;exact this
  refine⟨λ_=>?_,λ_ q=>absurd (by rw[e];exact h2) q,?_,T⟩
  .rw[ho];exact⟨k.1,by have:((kB ki w (j5 (kB ki w) w (pt ki w)) (iu w)).length:Int)<=1500:=kl;show (kB ki w (j5 (kB ki w) w (pt ki w)) (iu w)).length<=1500;omega,hL⟩
  .rw[ho];exact k.2
 .have e:=MR h2 h0;refine⟨λk=>?_,λ_ _=>e,by rw[e];exact nM,T⟩;rcases k with k|k
  .exact absurd k h0
  .exact absurd k h2
abbrev nG:CT := .pair cI (.pair cI (.pair cI (.pair cI (.pair cI (.sl bP)))))
abbrev bg:Type:=Int×Int×Int×Int×Int×ae
abbrev xM:CT := .pair cI (.pair cI (.sl bP))
abbrev qx:Type:=Int×Int×ae
abbrev pR:CT := .pair cI (.pair cI (.pair cI (.pair cI cI)))
abbrev fm:Type:=Int×Int×Int×Int×Int
abbrev nL:CT := .pair ib (.pair cI (.pair cI (.pair cI (.pair (.sl pZ) (.pair (.sl cI) (.pair (.sl nG) (.pair (.sl xM) (.sl pR))))))))
abbrev aJ:Type:=aQ×Int×Int×Int×List ct×ae×List bg×List qx×List fm
def aO(f:bg):Int:=f.1
def kv(f:bg):Int:=f.2.1
def bm(f:bg):Int:=f.2.2.1
def gN(f:bg):Int:=f.2.2.2.1
def iB(f:bg):Int:=f.2.2.2.2.1
def f7(f:bg):ae:=f.2.2.2.2.2
def aC(w:aJ):aQ:=w.1
def bQ(w:aJ):Int:=w.2.1
def bK(w:aJ):Int:=w.2.2.1
def dk(w:aJ):Int:=w.2.2.2.1
def cq(w:aJ):List ct:=w.2.2.2.2.1
def gw(w:aJ):ae:=w.2.2.2.2.2.1
def aM(w:aJ):List bg:=w.2.2.2.2.2.2.1
def bM(w:aJ):List qx:=w.2.2.2.2.2.2.2.1
def bh(w:aJ):List fm:=w.2.2.2.2.2.2.2.2
def fJ(w:aJ)(t:Int):aJ:=(w.1,t,w.2.2)
def iC(w:aJ)(l:List ct):aJ:=(w.1,w.2.1,w.2.2.1,w.2.2.2.1,l,w.2.2.2.2.2)
def pK(w:aJ)(k:Int):aJ:=(w.1,w.2.1,w.2.2.1,k,w.2.2.2.2)
def va(w:aJ)(l:ae):aJ:=(w.1,w.2.1,w.2.2.1,w.2.2.2.1,w.2.2.2.2.1,l,w.2.2.2.2.2.2)
def gY(w:aJ)(l:List bg):aJ:=(w.1,w.2.1,w.2.2.1,w.2.2.2.1,w.2.2.2.2.1,w.2.2.2.2.2.1,l,w.2.2.2.2.2.2.2)
def wx(w:aJ)(l:List qx):aJ:=(w.1,w.2.1,w.2.2.1,w.2.2.2.1,w.2.2.2.2.1,w.2.2.2.2.2.1,w.2.2.2.2.2.2.1,l,w.2.2.2.2.2.2.2.2)
def HS(w:aJ)(l:List fm):aJ:=(w.1,w.2.1,w.2.2.1,w.2.2.2.1,w.2.2.2.2.1,w.2.2.2.2.2.1,w.2.2.2.2.2.2.1,w.2.2.2.2.2.2.2.1,l)
def ax2(w:aJ)(k:Int):aJ:=(w.1,w.2.1,k,w.2.2.2)
def Kx(s:ct)(l:List Rt):ct:=(l,s.2)
def fM(l:List bg)(f:bg):List bg:=(l.takeWhile λx=>decide (aO x<=aO f))++f::l.dropWhile λx=>decide (aO x<=aO f)
def zL(w:aJ)(f:bg):aJ:=gY (ax2 w (IntKind.i64.wrap (bK w+1))) (fM (aM w) (aO f,bK w,f.2.2))
def kD(w:aJ):aV:=(aC w).2.2.getD (dk w).toNat default
def oZ(w:aJ):Bool:=decide (dk w<(aC w).2.2.length)&&decide (fc (kD w)<=bQ w)
def nE(w:aJ):aJ :=
 pK (iC w ((cq w).set (bJ (kD w)).toNat (Kx ((cq w).getD (bJ (kD w)).toNat default) (f9 (bT ((cq w).getD (bJ (kD w)).toNat default)) (kD w))))) (IntKind.i64.wrap (dk w+1))
def jj:Nat->aJ->aJ
 | 0,w=>w
 | n+1,w=>if oZ w=true then jj n (nE w) else w
def dq(w:aJ):aJ:=jj ((aC w).2.2.length-(dk w).toNat) w
def oh(w:aJ)(f:bg)(link why:Int):aJ:=HS w (bh w++[(iB f,aO f,bm f,link,why)])
def oD(l:aK)(c:Int):Int:=mA (bits .xor .u64 (mA (IntKind.wrap .u64 (vK l))) (IntKind.wrap .u64 c))
def cU(w:aJ)(k:Int):aK:=(aC w).2.1.getD k.toNat default
def ky(w:aJ)(k:Int):Int:=(gw w).getD k.toNat default
def vV(w:aJ)(k:Int):Int:=IntKind.i64.wrap (Int.tmod (Int.tdiv (oD (cU w k) (ky w k)) 65536) (IntKind.wrap .u64 (IntKind.i64.wrap (fK (cU w k)+1))))
def jI(w:aJ)(k:Int):Int:=IntKind.i64.wrap (IntKind.i64.wrap (bQ w+gS (cU w k))+vV w k)
def eM(w:aJ)(f:bg)(out:Int×ae):aJ :=
 let v:=va w ((gw w).set out.1.toNat (IntKind.i64.wrap (ky w out.1+1)))
 if Int.tmod (oD (cU w out.1) (ky w out.1)) 65536<IntKind.wrap .u64 (oo (cU w out.1)) then oh v f out.1 3
 else if 1125899906842624<jI w out.1∨(4096:Int)<=(aM w).length then oh v f out.1 7
 else zL v (jI w out.1,0,fB (aC w).2.1 out.1 (bm f),out.1,iB f,out.2)
def bn(w:aJ)(f:bg):oP:=fI ((aC w).1.getD (bm f).toNat default) ((cq w).getD (bm f).toNat default) (gN f) (aO f) (f7 f)
def jd(w:aJ)(f:bg):aJ :=
 let r:=bn w f
 let a:=iC w ((cq w).set (bm f).toNat r.1)
 let b:=if r.2.2=1 then wx a (bM a++[(aO f,bm f,f7 f)]) else a
 let c:=if r.2.2≠0 then oh b f (gN f) r.2.2 else b
 if 0<r.2.1.2.length then eM c f r.2.1 else c
def fw(w:aJ):aJ:=jd (dq (fJ (gY w (aM w).tail) (aO ((aM w).headD default)))) ((aM w).headD default)
def j7(w:aJ)(to:Int):Bool:=match aM w with
 | []=>false
 | f::_=>decide (aO f<=to)
def lY:Nat->aJ->Int->aJ
 | 0,w,_=>w
 | n+1,w,to=>if j7 w to=true then lY n (fw w) to else w
def lu(to:Int)(l:List bg):Nat:=(l.map λf=>(to+1-aO f).toNat).sum
def tC(w:aJ)(to:Int):aJ:=dq (fJ (lY (lu to (aM w)) w to) to)
theorem zo{l:List bg}{f x:bg}:x∈fM l f↔x=f∨x∈l:=by
 unfold fM
 rw[dw,dL]
 have e:=su (p:=λx=>decide (aO x<=aO f)) (l:=l)
 constructor
 .rintro (h|h|h)
  .right;rw[← e];exact gv _ h
  .exact .inl h
  .right;rw[← e];exact i5 _ h
 .rintro (h|h)
  .exact .inr (.inl h)
  .rw[← e] at h;rcases dw.1 h with h|h
   .exact .inl h
   .exact .inr (.inr h)
theorem FI(l:List bg)(f:bg):(fM l f).length=l.length+1:=by
 have e:=jt length (su (p:=λx=>decide (aO x<=aO f)) (l:=l))
 rw[cu] at e
 unfold fM
 rw[cu,dM];omega
theorem L6(to:Int)(l:List bg)(f:bg):lu to (fM l f)=lu to l+(to+1-aO f).toNat:=by
 have e:lu to l=lu to ((l.takeWhile λx=>decide (aO x<=aO f))++(l.dropWhile λx=>decide (aO x<=aO f))):=by rw[su]
 rw[e]
 unfold lu fM
 simp only[lL,fF,List.sum_append,List.sum_cons]
 omega
def gT(a b:bg):Prop:=aO a<aO b∨aO a=aO b/\kv a<kv b
theorem Pd{l:List bg}{f:bg}(h:l.Pairwise gT)(hn:∀ x∈l,kv x<kv f):(fM l f).Pairwise gT:=by
 have e:=su (p:=λx=>decide (aO x<=aO f)) (l:=l)
 have h2:=h
 rw[← e] at h2
 obtain⟨a,b,c⟩:=List.pairwise_append.1 h2
 have hd:∀ x∈l.dropWhile (λx=>decide (aO x<=aO f)),aO f<aO x:=by
  intro x hx;cases hh:l.dropWhile (λx=>decide (aO x<=aO f)) with
  | nil=>rw[hh] at hx;cases hx
  | cons y r =>
   have hy:¬ aO y<=aO f:=by
    have:=List.head_dropWhile_not (p:=λx=>decide (aO x<=aO f)) (l:=l) (by rw[hh];simp);simp only[hh,List.head_cons] at this;simpa using this
   rw[hh] at hx b;rcases dL.1 hx with rfl|hx
   .omega
   .rcases (List.pairwise_cons.1 b).1 x hx with k|k <;> omega
 unfold fM
 refine List.pairwise_append.2 ⟨a,List.pairwise_cons.2 ⟨λx hx=>.inl (hd x hx),b⟩,λx hx y hy=>?_⟩
 have hxl:x∈l:=by rw[← e];exact gv _ hx
 have hxf:aO x<=aO f:=by
  have:=List.all_eq_true.1 (List.all_takeWhile (p:=λx=>decide (aO x<=aO f)) (l:=l)) x hx;simpa using this
 rcases dL.1 hy with rfl|hy
 .have:=hn x hxl;unfold gT;omega
 .exact .inl (by have:=hd y hy;omega)
theorem DO{n:aQ}(h:d9 n=0):nR n=0/\lX n=0/\lq n=0/\nH n=0/\lS n=0:=by
 unfold d9 at h
 obtain⟨h1,h⟩:=ro h
 obtain⟨h2,h⟩:=ro h
 obtain⟨h3,h⟩:=ro h
 obtain⟨h4,h⟩:=ro h
 obtain⟨h5,h⟩:=ro h
 obtain⟨h6,h⟩:=ro h
 exact⟨h1,h2,h3,h4,h⟩
theorem uv{n:aQ}(h:d9 n=0){i:Nat}(hi:i<n.1.length):nP (n.1.getD i default):=by
 have hb:=wz (DO h).2.2.1 i hi
 unfold kQ at hb
 split at hb
 next k=>exact absurd hb k
 next k=>exact R4 (o4.1 k)
theorem zc{n:aQ}(h:d9 n=0):1<=n.1.length/\n.1.length<=64/\n.2.1.length<=128/\n.2.2.length<=64:=by
 have:=(DO h).1
 unfold nR at this
 split at this
 .cases this
 .omega
theorem D1{n:aQ}(h:d9 n=0){k:Nat}(hk:k<n.2.2.length):(0<=fc (n.2.2.getD k default)/\fc (n.2.2.getD k default)<=1125899906842624)/\(0<=bJ (n.2.2.getD k default)/\bJ (n.2.2.getD k default)<n.1.length) ∧
  dP (f9 ((dG n k).getD (bJ (n.2.2.getD k default)).toNat default) (n.2.2.getD k default)) (bj (n.1.getD (bJ (n.2.2.getD k default)).toNat default))=0:=by
 have hs:=wz (DO h).2.2.2.2 k hk
 unfold hY mV at hs
 split at hs
 .cases hs
 rename_i a1
 split at hs
 .cases hs
 split at hs
 .cases hs
 rename_i a3
 split at hs
 .cases hs
 exact⟨ab,ab,hs⟩
theorem NO{n:aQ}(h:d9 n=0):∀ k:Nat,k<=n.2.2.length→∀ i:Nat,i<n.1.length->dP ((dG n k).getD i default) (bj (n.1.getD i default))=0
 | 0,_,i,hi=>by rw[dG,zp hi];exact (uv h hi).rt
 | k+1,hk,i,hi=>by
  obtain⟨-,h2,h3⟩:=D1 h (k:=k) ab;rw[dG];by_cases e:(bJ (n.2.2.getD k default)).toNat=i
  .rw[← e,kw (by rw[qJ];omega)];exact h3
  .rw[nA e];exact NO h k ab i hi
structure uX (n:aQ) (now ord:Int) (f:bg):Prop where
 t:now<=aO f/\aO f<=1125899906842624
 o:0<=kv f/\kv f<ord
 nd:0<=bm f/\bm f<n.1.length
 l:gN f = -1∨gN f∈bj (n.1.getD (bm f).toNat default)
 g:0<=iB f/\iB f<ord
 b:bytes (f7 f)
 d:((f7 f).length:Int)<=2000
structure dI (w:aJ) (K:Int):Prop where
 net:d9 (aC w)=0
 now:0<=bQ w/\bQ w<=1125899906842624
 ord:0<=bK w/\bK w<=K
 done:0<=dk w/\dk w<=(aC w).2.2.length
 len:(cq w).length=(aC w).1.length
 st:∀ i:Nat,i<(aC w).1.length->iT ((aC w).1.getD i default) ((cq w).getD i default) K/\bT ((cq w).getD i default)=(dG (aC w) (dk w).toNat).getD i default
 cl:(gw w).length=(aC w).2.1.length
 cr:∀ c∈gw w,0<=c/\c<=K
 fl:(aM w).Pairwise gT
 fo:∀ f∈aM w,uX (aC w) (bQ w) (bK w) f
 fn:(aM w).length<=4096
theorem dI.more{w:aJ}{K K':Int}(h:dI w K)(hk:K<=K'):dI w K' :=
 ⟨h.net,h.now,by have:=h.ord;omega,h.done,h.len,λi hi=>⟨(h.st i hi).1.more hk,(h.st i hi).2⟩,h.cl,λc hc=>by have:=h.cr c hc;omega,h.fl,h.fo,h.fn⟩
theorem iT.rts{x:au}{s:ct}{K:Int}(h:iT x s K){l:List Rt}(hc:dP l (bj x)=0):iT x (Kx s l) K:=by
 obtain⟨h1,h2⟩:=xx hc
 obtain⟨-,-,h3⟩:=Bn hc
 exact⟨h1,h2,λr hr=>(h3 r hr).2,h.ps,h.tk,h.cn,h.cp⟩
theorem dI.chg{w:aJ}{K:Int}(h:dI w K)(hd:oZ w=true):dI (nE w) K/\dk (nE w)=dk w+1:=by
 unfold oZ at hd
 rw[dK,nZ,nZ] at hd
 have hk:(dk w).toNat<(aC w).2.2.length:=by have:=h.done;omega
 obtain⟨-,⟨w0,w1⟩,hc⟩:=D1 h.net hk
 have sz:=zc h.net
 have e1:IntKind.i64.wrap (dk w+1)=dk w+1:=aG (by have:=h.done;omega) (by have:=h.done;omega)
 have eD:dk (nE w)=dk w+1:=e1
 have eN:aC (nE w)=aC w:=rfl
 have hwho:bJ (kD w)=bJ ((aC w).2.2.getD (dk w).toNat default):=rfl
 have hlt:(bJ (kD w)).toNat<(aC w).1.length:=ab
 have hst:=(h.st _ hlt)
 have hc:dP (f9 ((dG (aC w) (dk w).toNat).getD (bJ (kD w)).toNat default) (kD w)) (bj ((aC w).1.getD (bJ (kD w)).toNat default))=0:=hc
 rw[← hst.2] at hc
 refine⟨⟨h.net,h.now,h.ord,by have:=h.done;rw[eD,eN];omega,?_,λi hi=>?_,h.cl,h.cr,h.fl,h.fo,h.fn⟩,eD⟩
 .show ((cq w).set _ _).length=_;rw[gB];exact h.len
 .have hi:i<(aC w).1.length:=hi;rw[eD,eN,show (dk w+1).toNat=(dk w).toNat+1 by have:=h.done;omega,dG];show iT _ (((cq w).set (bJ (kD w)).toNat _).getD i default) K/\bT (((cq w).set (bJ (kD w)).toNat _).getD i default)=_;by_cases e:(bJ (kD w)).toNat=i
  .subst e;rw[kw (by rw[h.len];exact hlt),show ((aC w).2.2.getD (dk w).toNat default)=kD w from rfl,kw (by rw[qJ];exact hlt),← hst.2];exact⟨hst.1.rts hc,rfl⟩
  .rw[nA e,show ((aC w).2.2.getD (dk w).toNat default)=kD w from rfl,nA e];exact h.st i hi
theorem G8{K:Int}:∀(n:Nat){w:aJ},dI w K->dI (jj n w) K/\(jj n w).1=w.1/\(jj n w).2.1=w.2.1/\(jj n w).2.2.1=w.2.2.1/\(jj n w).2.2.2.2.2=w.2.2.2.2.2
 | 0,w,h=>⟨h,rfl,rfl,rfl,rfl⟩
 | n+1,w,h=>by
  rw[jj];split
  next hd=>have k:=G8 n (h.chg hd).1;exact⟨k.1,k.2.1.trans rfl,k.2.2.1.trans rfl,k.2.2.2.1.trans rfl,k.2.2.2.2.trans rfl⟩
  .exact⟨h,rfl,rfl,rfl,rfl⟩
theorem dI.change{w:aJ}{K:Int}(h:dI w K):dI (dq w) K:=(G8 _ h).1
theorem zz{n:aQ}(h:d9 n=0){i:Nat}(hi:i<n.1.length){k:Int}(hk:k∈bj (n.1.getD i default)) :
  (0<=k/\k<n.2.1.length)/\gZ n.1.length (n.2.1.getD k.toNat default)/\(0<=fB n.2.1 k i/\fB n.2.1 k i<n.1.length)/\k∈bj (n.1.getD (fB n.2.1 k i).toNat default):=by
 obtain⟨-,hc,hb,hp,-⟩:=DO h
 have b:=wz hb i hi
 unfold kQ at b
 split at b
 next q=>exact absurd b q
 rename_i hv
 have N:nP (n.1.getD i default):=R4 (o4.1 hv)
 split at b
 .cases b
 rename_i hs
 have hst:mL n i k=false:=by
  cases q:mL n i k with
  | false=>rfl
  | true=>exact absurd (List.any_eq_true.2 ⟨k,hk,q⟩) hs
 unfold mL at hst
 simp only[Bool.or_eq_false_iff,pj,wB,pb,lU] at hst
 obtain⟨h1,h2⟩:=hst
 obtain⟨q,hq,rfl⟩:=List.mem_map.1 hk
 obtain⟨j,hj,rfl⟩:=List.mem_iff_getElem.1 hq
 have k0:0<=((ay (n.1.getD i default))[j]).2:=by
  have:=(Qf (N.ports j hj)).2;rw[bL (l:=ay _),cK hj,fZ] at this;omega
 generalize ((ay (n.1.getD i default))[j]).2=k at hk h1 h2 k0
 have hkl:k.toNat<n.2.1.length:=ab
 have snd:gZ n.1.length (n.2.1.getD k.toNat default):=by
  unfold lX at hc;split at hc
  next z=>exact aI (List.all_eq_true.1 z _ (nX hkl))
  .cases hc
 have lo:na n k.toNat=false:=by
  unfold nH at hp;split at hp
  .cases hp
  .rename_i z;cases q:na n k.toNat with
   | false=>rfl
   | true=>exact absurd (List.any_eq_true.2 ⟨k.toNat,List.mem_range.2 hkl,q⟩) z
 unfold na at lo
 simp only[Bool.or_eq_false_iff,pj] at lo
 obtain⟨l1,l2⟩:=lo
 rw[show ((k.toNat:Nat):Int)=k by omega] at l1 l2
 have mem:∀ x:au,¬ cy x k<0->k∈bj x:=λx hx=>by
  obtain⟨a,b⟩:=sW (q:=ic k) (l:=ay x) (by unfold cy at hx;omega);have hm:=nX (xs:=ay x) (i:=(gW (ic k) (ay x)).toNat) (by unfold cy at hx;omega);exact List.mem_map.2 ⟨_,hm,aI b⟩
 refine⟨⟨k0,ab⟩,snd,?_⟩
 obtain⟨s1,s2,s3,s4,s5,-⟩:=snd
 unfold fB
 rw[af ab]
 by_cases e:(i:Int)=lA (n.2.1.getD k.toNat default)
 .rw[am e];exact⟨⟨s3,s4⟩,mem _ l2⟩
 .have e2:lB (n.2.1.getD k.toNat default)=i:=by
   rcases h2 with z|z
   .exact absurd z.symm e
   .exact z
  rw[af e,am e2.symm];exact⟨⟨s1,s2⟩,mem _ l1⟩
theorem DW{n:Int}(h0:0<=n)(h1:n<=9223372036854775807):IntKind.u64.wrap n=n:=by
 obtain⟨m,rfl⟩:∃ m:Nat,n=m:=⟨n.toNat,ab⟩
 rw[HD];omega
theorem Ke(x:Int):0<=mA x:=Int.natCast_nonneg _
theorem AP{w:aJ}{k:Int}(hs:gZ (aC w).1.length (cU w k))(hn:0<=bQ w/\bQ w<=1125899906842624):bQ w+1<=jI w k/\jI w k<=bQ w+gS (cU w k)+fK (cU w k):=by
 obtain⟨-,-,-,-,-,d1,d2,j1,j2,-⟩:=hs
 have hh:0<=oD (cU w k) (ky w k):=Ke _
 have e1:IntKind.i64.wrap (fK (cU w k)+1)=fK (cU w k)+1:=aG ab ab
 have e2:IntKind.u64.wrap (fK (cU w k)+1)=fK (cU w k)+1:=DW ab ab
 have hd:0<=Int.tdiv (oD (cU w k) (ky w k)) 65536:=Int.tdiv_nonneg hh ab
 have t0:=Int.tmod_nonneg (fK (cU w k)+1) hd
 have t1:=Int.tmod_lt_of_pos (Int.tdiv (oD (cU w k) (ky w k)) 65536) (show 0<fK (cU w k)+1 by omega)
 have el:vV w k=Int.tmod (Int.tdiv (oD (cU w k) (ky w k)) 65536) (fK (cU w k)+1):=by
  unfold vV;rw[e1,e2,aG ab ab]
 have e3:IntKind.i64.wrap (bQ w+gS (cU w k))=bQ w+gS (cU w k):=aG ab ab
 have e4:jI w k=bQ w+gS (cU w k)+vV w k:=by
  unfold jI;rw[e3,aG ab ab]
 omega
theorem dI.ends{w:aJ}{K:Int}(h:dI w K)(f:bg)(link why:Int):dI (oh w f link why) K:=⟨h.net,h.now,h.ord,h.done,h.len,h.st,h.cl,h.cr,h.fl,h.fo,h.fn⟩
theorem dI.dels{w:aJ}{K:Int}(h:dI w K)(l:List qx):dI (wx w l) K:=⟨h.net,h.now,h.ord,h.done,h.len,h.st,h.cl,h.cr,h.fl,h.fo,h.fn⟩
theorem dI.crosses{w:aJ}{K:Int}(h:dI w K)(hK:K<=2199023255552){f:bg}{out:Int×ae}(hf:0<=bm f/\bm f<(aC w).1.length)(hg:0<=iB f/\iB f<bK w)
  (hk:out.1∈bj ((aC w).1.getD (bm f).toNat default)) (hb:bytes out.2) (hl:(out.2.length:Int)<=2000):dI (eM w f out) (K+1):=by
 have hi:(bm f).toNat<(aC w).1.length:=ab
 obtain⟨⟨k0,k1⟩,snd,o1,o2⟩:=zz h.net hi hk
 rw[show (((bm f).toNat:Nat):Int)=bm f by omega] at o1 o2
 have ov:=AP (w:=w) (k:=out.1) snd h.now
 have hcl:out.1.toNat<(gw w).length:=by rw[h.cl];omega
 have hc0:ky w out.1∈gw w:=nX hcl
 have hc1:=h.cr _ hc0
 have hord:=h.ord
 have base:dI (va w ((gw w).set out.1.toNat (IntKind.i64.wrap (ky w out.1+1)))) (K+1):=by
  have h':=h.more (K':=K+1) ab;refine⟨h'.net,h'.now,h'.ord,h'.done,h'.len,h'.st,?_,λc hc=>?_,h'.fl,h'.fo,h'.fn⟩
  .show ((gw w).set _ _).length=_;rw[gB];exact h.cl
  .have hc:c∈(gw w).set out.1.toNat (IntKind.i64.wrap (ky w out.1+1)):=hc;rcases Ck hc with hc|rfl
   .have:=h.cr c hc;omega
   .rw[aG ab ab];omega
 unfold eM
 dsimp only
 split
 .exact base.ends _ _ _
 split
 .exact base.ends _ _ _
 rename_i q
 have ew:IntKind.i64.wrap (bK w+1)=bK w+1:=aG ab ab
 refine⟨base.net,base.now,?_,base.done,base.len,base.st,base.cl,base.cr,?_,?_,?_⟩
 .show 0<=IntKind.i64.wrap (bK w+1)/\IntKind.i64.wrap (bK w+1)<=K+1;rw[ew];omega
 .exact Pd h.fl λx hx=>(h.fo x hx).o.2
 .intro x hx;have hx:x∈fM (aM w) (jI w out.1,bK w,fB (aC w).2.1 out.1 (bm f),out.1,iB f,out.2):=hx;show uX (aC w) (bQ w) (IntKind.i64.wrap (bK w+1)) x;rw[ew];rcases zo.1 hx with rfl|hx
  .exact⟨⟨by show bQ w<=jI w out.1;omega,by show jI w out.1<=_;omega⟩,⟨by show 0<=bK w;omega,by show bK w<bK w+1;omega⟩,o1,.inr o2,⟨hg.1,by show iB f<bK w+1;omega⟩,hb,hl⟩
  .have k:=h.fo x hx;exact⟨k.t,⟨k.o.1,by have:=k.o.2;omega⟩,k.nd,k.l,⟨k.g.1,by have:=k.g.2;omega⟩,k.b,k.d⟩
 .show (fM (aM w) _).length<=4096;rw[FI];omega
theorem dI.land{w:aJ}{K:Int}(h:dI w K)(hK:K<=1099511627776){f:bg}(hf:uX (aC w) (bQ w) (bK w) f)(ht:aO f=bQ w):dI (jd w f) (K+2):=by
 have hi:(bm f).toNat<(aC w).1.length:=by have:=hf.nd;omega
 obtain⟨st,rt⟩:=h.st _ hi
 have N:=uv h.net hi
 have O:=Kl (lk:=gN f) (t:=aO f) N st.rt hf.b
 have S:=Xf (link:=gN f) (b:=f7 f) (at':=aO f) N st ⟨by have:=h.ord;omega,ab⟩ ⟨by have:=h.now;omega,by have:=h.now;omega⟩
 have eH:bn w f=fI ((aC w).1.getD (bm f).toNat default) ((cq w).getD (bm f).toNat default) (gN f) (aO f) (f7 f):=rfl
 rw[← eH] at O S
 have ha:dI (iC w ((cq w).set (bm f).toNat (bn w f).1)) (K+1):=by
  have h':=h.more (K':=K+1) ab;refine⟨h'.net,h'.now,h'.ord,h'.done,?_,λi hl=>?_,h'.cl,h'.cr,h'.fl,h'.fo,h'.fn⟩
  .show ((cq w).set _ _).length=_;rw[gB];exact h.len
  .have hl:i<(aC w).1.length:=hl;show iT _ (((cq w).set (bm f).toNat (bn w f).1).getD i default) _/\bT (((cq w).set (bm f).toNat (bn w f).1).getD i default)=_;by_cases e:(bm f).toNat=i
   .subst e;rw[kw (by rw[h.len];exact hi)];exact⟨S,O.rt.trans rt⟩
   .rw[nA e];exact h'.st i hl
 have hb:dI (if (bn w f).2.2=1 then wx (iC w ((cq w).set (bm f).toNat (bn w f).1)) (bM (iC w ((cq w).set (bm f).toNat (bn w f).1))++[(aO f,bm f,f7 f)]) else iC w ((cq w).set (bm f).toNat (bn w f).1)) (K+1):=by
  split
  .exact ha.dels _
  .exact ha
 unfold jd
 dsimp only
 generalize hB:(if (bn w f).2.2=1 then wx (iC w ((cq w).set (bm f).toNat (bn w f).1)) (bM (iC w ((cq w).set (bm f).toNat (bn w f).1))++[(aO f,bm f,f7 f)]) else iC w ((cq w).set (bm f).toNat (bn w f).1))=B at hb
 have eB:aC B=aC w/\bK B=bK w:=by rw[← hB];split <;> exact⟨rfl,rfl⟩
 have hc:dI (if (bn w f).2.2≠0 then oh B f (gN f) (bn w f).2.2 else B) (K+1):=by
  split
  .exact hb.ends _ _ _
  .exact hb
 have eC:aC (if (bn w f).2.2≠0 then oh B f (gN f) (bn w f).2.2 else B)=aC w/\bK (if (bn w f).2.2≠0 then oh B f (gN f) (bn w f).2.2 else B)=bK w:=by
  split
  .exact eB
  .exact eB
 generalize (if (bn w f).2.2≠0 then oh B f (gN f) (bn w f).2.2 else B)=C at hc eC
 split
 next hp=>
  have hr:(bn w f).2.2=0∨(bn w f).2.2=2:=by
   by_cases z0:(bn w f).2.2=0
   .exact .inl z0
   by_cases z2:(bn w f).2.2=2
   .exact .inr z2
   .have:=O.none z0 z2;rw[this] at hp;exact absurd hp (by simp[iN])
  obtain⟨p1,p2,p3⟩:=O.some hr;have hm:(bn w f).2.1.1∈bj ((aC w).1.getD (bm f).toNat default):=by
   obtain⟨a,b⟩:=sW (q:=ic (bn w f).2.1.1) (l:=ay ((aC w).1.getD (bm f).toNat default)) p3;have hm:=nX (xs:=ay ((aC w).1.getD (bm f).toNat default)) (i:=(gW (ic (bn w f).2.1.1) (ay ((aC w).1.getD (bm f).toNat default))).toNat) (by unfold cy at p3;omega);exact List.mem_map.2 ⟨_,hm,aI b⟩
  have z:=dI.crosses hc ab (by rw[eC.1];exact hf.nd) (by rw[eC.2];exact hf.g) (by rw[eC.1];exact hm) O.byt ab
  rwa [show K+1+1=K+2 by omega] at z
 .exact hc.more ab
theorem Ll(w:aJ)(f:bg)(out:Int×ae):aC (eM w f out)=aC w/\bQ (eM w f out)=bQ w ∧
  (aM (eM w f out)=aM w∨∃ g,aO g=jI w out.1/\aM (eM w f out)=fM (aM w) g):=by
 unfold eM
 dsimp only
 split
 .exact⟨rfl,rfl,.inl rfl⟩
 split
 .exact⟨rfl,rfl,.inl rfl⟩
 .exact⟨rfl,rfl,.inr ⟨_,rfl,rfl⟩⟩
theorem Cc{n:aQ}(h:d9 n=0){i:Nat}(hi:i<n.1.length){k:Int}(hp:0<=cy (n.1.getD i default) k):k∈bj (n.1.getD i default):=by
 obtain⟨a,b⟩:=sW (q:=ic k) (l:=ay (n.1.getD i default)) hp
 have hm:=nX (xs:=ay (n.1.getD i default)) (i:=(gW (ic k) (ay (n.1.getD i default))).toNat) (by unfold cy at hp;omega)
 exact List.mem_map.2 ⟨_,hm,aI b⟩
theorem W1{w:aJ}{K:Int}(h:dI w K){f:bg}(hf:uX (aC w) (bQ w) (bK w) f):aC (jd w f)=aC w/\bQ (jd w f)=bQ w ∧
  (aM (jd w f)=aM w∨∃ g,bQ w+1<=aO g/\aM (jd w f)=fM (aM w) g):=by
 have hi:(bm f).toNat<(aC w).1.length:=by have:=hf.nd;omega
 obtain⟨st,rt⟩:=h.st _ hi
 have N:=uv h.net hi
 have O:=Kl (lk:=gN f) (t:=aO f) N st.rt hf.b
 have eH:bn w f=fI ((aC w).1.getD (bm f).toNat default) ((cq w).getD (bm f).toNat default) (gN f) (aO f) (f7 f):=rfl
 rw[← eH] at O
 unfold jd
 dsimp only
 have key:∀ B:aJ,aC B=aC w->bQ B=bQ w->aM B=aM w->gw B=gw w →
   (aC (if 0<(bn w f).2.1.2.length then eM B f (bn w f).2.1 else B)=aC w/\bQ (if 0<(bn w f).2.1.2.length then eM B f (bn w f).2.1 else B)=bQ w ∧
    (aM (if 0<(bn w f).2.1.2.length then eM B f (bn w f).2.1 else B)=aM w∨∃ g,bQ w+1<=aO g/\aM (if 0<(bn w f).2.1.2.length then eM B f (bn w f).2.1 else B)=fM (aM w) g)):=by
  intro B b1 b2 b3 b4;split
  .rename_i hp;obtain⟨c1,c2,c3⟩:=Ll B f (bn w f).2.1;refine⟨c1.trans b1,c2.trans b2,?_⟩;rcases c3 with c3|⟨g,g1,g2⟩
   .exact .inl (c3.trans b3)
   .have hr:(bn w f).2.2=0∨(bn w f).2.2=2:=by
     by_cases z0:(bn w f).2.2=0
     .exact .inl z0
     by_cases z2:(bn w f).2.2=2
     .exact .inr z2
     .have:=O.none z0 z2;rw[this] at hp;exact absurd hp (by simp[iN])
    have hl:=Cc h.net hi (O.some hr).2.2;obtain⟨-,snd,-⟩:=zz h.net hi hl;have ov:=AP (w:=B) (k:=(bn w f).2.1.1) (by unfold cU;rw[b1];exact snd) (by rw[b2];exact h.now);refine .inr ⟨g,by rw[g1,← b2];exact ov.1,by rw[g2,b3]⟩
  .exact⟨b1,b2,.inl b3⟩
 apply key
 all_goals (split <;> (split <;> rfl))
theorem zE(to:Int)(f:bg)(r:List bg):lu to (f::r)=(to+1-aO f).toNat+lu to r:=by
 unfold lu;rw[fF,List.sum_cons]
theorem dI.step{w:aJ}{K:Int}(h:dI w K)(hK:K<=1099511627776){f:bg}{r:List bg}(e:aM w=f::r) :
  dI (fw w) (K+2)/\aC (fw w)=aC w/\bQ (fw w)=aO f∧∀ to,aO f<=to->lu to (aM (fw w))+1<=lu to (aM w):=by
 have hp:=h.fl
 rw[e] at hp
 obtain⟨p1,p2⟩:=List.pairwise_cons.1 hp
 have hf:=h.fo f (by rw[e];exact fW)
 have hle:∀ x∈r,aO f<=aO x:=λx hx=>by rcases p1 x hx with k|k <;> omega
 have ed:(aM w).headD default=f:=by rw[e];rfl
 have et:(aM w).tail=r:=by rw[e];rfl
 have hb:dI (fJ (gY w r) (aO f)) K:=by
  refine⟨h.net,⟨by show 0<=aO f;have:=h.now;have:=hf.t;omega,hf.t.2⟩,h.ord,h.done,h.len,h.st,h.cl,h.cr,p2,λx hx=>?_,?_⟩
  .have hx:x∈r:=hx;have k:=h.fo x (by rw[e];exact fL _ hx);exact⟨⟨hle x hx,k.t.2⟩,k.o,k.nd,k.l,k.g,k.b,k.d⟩
  .show r.length<=4096;have:=h.fn;rw[e,dM] at this;omega
 have hc:=G8 ((aC w).2.2.length-(dk w).toNat) hb
 have es:fw w=jd (dq (fJ (gY w r) (aO f))) f:=by unfold fw;rw[ed,et]
 have ec:dq (fJ (gY w r) (aO f))=jj ((aC w).2.2.length-(dk w).toNat) (fJ (gY w r) (aO f)):=rfl
 rw[← ec] at hc
 obtain⟨c1,c2,c3,c4,c5⟩:=hc
 generalize dq (fJ (gY w r) (aO f))=v at c1 c2 c3 c4 c5 es
 have n1:aC v=aC w:=c2
 have n2:bQ v=aO f:=c3
 have n3:bK v=bK w:=c4
 have n4:aM v=r:=jt (λx:ae×List bg×List qx×List fm=>x.2.1) c5
 have hfv:uX (aC v) (bQ v) (bK v) f:=by
  rw[n1,n2,n3];exact⟨⟨f8 _,hf.t.2⟩,hf.o,hf.nd,hf.l,hf.g,hf.b,hf.d⟩
 have L:=W1 c1 hfv
 rw[es]
 refine⟨c1.land hK hfv n2.symm,L.1.trans n1,L.2.1.trans n2,λto hto=>?_⟩
 rw[e,zE]
 rcases L.2.2 with q|⟨g,g1,g2⟩
 .rw[q,n4];omega
 .rw[g2,n4,L6];rw[n2] at g1;omega
theorem dI.run{to:Int}:∀(n:Nat){w:aJ}{K:Int},dI w K->lu to (aM w)<=n->K+2*n<=1099511627776->dI (lY n w to) (K+2*n)/\j7 (lY n w to) to=false/\aC (lY n w to)=aC w
 | 0,w,K,h,hw,hK=>by
  refine⟨by simpa[lY] using h,?_,rfl⟩;show j7 w to=false;unfold j7;cases e:aM w with
  | nil=>rfl
  | cons f r =>
   rw[e,zE] at hw;exact dO ab
 | n+1,w,K,h,hw,hK=>by
  rw[lY];split
  .rename_i hb;unfold j7 at hb;cases e:aM w with
   | nil=>rw[e] at hb;cases hb
   | cons f r =>
    rw[e] at hb;have hb:=aI hb;obtain⟨s1,s2,-,s4⟩:=h.step ab e;have:=s4 to hb;obtain⟨t1,t2,t3⟩:=dI.run (to:=to) n s1 ab ab;rw[show K+2+2*(n:Int)=K+2*((n+1:Nat):Int) by omega] at t1;exact⟨t1,t2,t3.trans s2⟩
  next hb=>exact⟨h.more ab,by simpa using hb,rfl⟩
def okDn(w:aJ):Prop:=0<=dk w/\((aC w).2.2.length:Int)<=1099511627776
def uS(w:aJ):Nat:=(aC w).2.2.length-(dk w).toNat
theorem LO{w:aJ}(h:okDn w)(hd:oZ w=true):dk (nE w)=dk w+1/\okDn (nE w)/\uS (nE w)+1=uS w:=by
 unfold oZ at hd
 rw[dK,nZ,nZ] at hd
 obtain⟨h0,h1⟩:=h
 have e:dk (nE w)=dk w+1:=aG (n:=dk w+1) ab ab
 refine⟨e,⟨by rw[e];omega,h1⟩,?_⟩
 unfold uS
 rw[e]
 show (aC w).2.2.length-_+1=_
 omega
theorem Ov{w:aJ}(h:okDn w)(hd:oZ w=true):0<uS w:=by
 unfold oZ at hd
 rw[dK,nZ,nZ] at hd
 have:=h.1
 unfold uS;omega
theorem Mp:∀(n m:Nat){w:aJ},okDn w->uS w<=n->uS w<=m->jj n w=jj m w
 | 0,0,_,_,_,_=>rfl
 | 0,m+1,w,h,hn,_=>by
  rw[jj,jj,af];intro hd;have:=Ov h hd;omega
 | n+1,0,w,h,_,hm=>by
  rw[jj,jj,af];intro hd;have:=Ov h hd;omega
 | n+1,m+1,w,h,hn,hm=>by
  rw[jj,jj];split
  next hd=>obtain⟨-,o,r⟩:=LO h hd;exact Mp n m o ab ab
  .rfl
theorem aV0{w:aJ}(h:okDn w){n:Nat}(hn:uS w<=n):dq w=jj n w:=Mp _ _ h (iq _) hn
theorem B1:∀(n:Nat)(w:aJ),(jj n w).1=w.1/\(jj n w).2.1=w.2.1/\(jj n w).2.2.1=w.2.2.1/\(jj n w).2.2.2.2.2=w.2.2.2.2.2
 | 0,w=>⟨rfl,rfl,rfl,rfl⟩
 | n+1,w=>by
  rw[jj];split
  .have k:=B1 n (nE w);exact⟨k.1.trans rfl,k.2.1.trans rfl,k.2.2.1.trans rfl,k.2.2.2.trans rfl⟩
  .exact⟨rfl,rfl,rfl,rfl⟩
theorem Z6(w:aJ):aM (dq w)=aM w/\bQ (dq w)=bQ w:=⟨jt (λx:ae×List bg×List qx×List fm=>x.2.1) (B1 _ w).2.2.2,(B1 _ w).2.1⟩
def jx(w:aJ)(to:Int):aJ:=lY (lu to (aM w)) w to
theorem ad0{w:aJ}{to:Int}(hb:j7 w to=false):∀ n:Nat,lY n w to=w
 | 0=>rfl
 | n+1=>by rw[lY,af (by rw[hb];simp)]
theorem dI.okDn{w:aJ}{K:Int}(h:dI w K):okDn w:=⟨h.done.1,by have:=zc h.net;omega⟩
theorem dI.wait{w:aJ}{K a:Int}(h:dI w K)(hb:j7 w a=false)(ha:0<=a/\a<=1125899906842624):dI (fJ w a) K:=by
 refine⟨h.net,ha,h.ord,h.done,h.len,h.st,h.cl,h.cr,h.fl,λx hx=>?_,h.fn⟩
 have hx:x∈aM w:=hx
 have k:=h.fo x hx
 refine⟨⟨?_,k.t.2⟩,k.o,k.nd,k.l,k.g,k.b,k.d⟩
 show a<=aO x
 have hp:=h.fl
 unfold j7 at hb
 cases e:aM w with
 | nil=>rw[e] at hx;cases hx
 | cons f r =>
  rw[e] at hb hx hp;have hb:=aL hb;rcases dL.1 hx with rfl|hx
  .omega
  .rcases (List.pairwise_cons.1 hp).1 x hx with q|q <;> omega
def KH(f:bg):Int×Int×Int×Int×ae:=(f.1,f.2.2)
def Lr(c:Int)(l l':List bg):Prop:=∃ (g:bg) (pre post:List bg),l'=pre++g::post/\(pre++post).map KH=l.map KH/\c<aO g/\(∀ y∈pre,aO y<=aO g)∧∀ y∈post,aO g<=aO y
theorem Lr.len{c:Int}{l l':List bg}(h:Lr c l l'):l'.length=l.length+1:=by
 obtain⟨g,pre,post,rfl,h1,-⟩:=h
 have:=jt length h1
 rw[mh,mh,cu] at this
 rw[cu,dM];omega
structure vS (n:aQ) (now:Int) (f:bg):Prop where
 t:now<=aO f/\aO f<=1125899906842624
 nd:0<=bm f/\bm f<n.1.length
 l:gN f = -1∨gN f∈bj (n.1.getD (bm f).toNat default)
 b:bytes (f7 f)
 d:((f7 f).length:Int)<=2000
structure gc (w:aJ):Prop where
 net:d9 (aC w)=0
 now:0<=bQ w/\bQ w<=1125899906842624
 done:0<=dk w/\dk w<=(aC w).2.2.length
 len:(cq w).length=(aC w).1.length
 st:∀ i:Nat,i<(aC w).1.length->bT ((cq w).getD i default)=(dG (aC w) (dk w).toNat).getD i default/\(lP ((cq w).getD i default)).length=(ay ((aC w).1.getD i default)).length
 cl:(gw w).length=(aC w).2.1.length
 fl:(aM w).Pairwise λa b=>aO a<=aO b
 fo:∀ f∈aM w,vS (aC w) (bQ w) f
 fn:(aM w).length<=4096
theorem dI.weak{w:aJ}{K:Int}(h:dI w K):gc w :=
 ⟨h.net,h.now,h.done,h.len,λi hi=>⟨(h.st i hi).2,(h.st i hi).1.ps⟩,h.cl,h.fl.imp λq=>by rcases q with q|q <;> omega,
  λf hf=>by have k:=h.fo f hf;exact⟨k.t,k.nd,k.l,k.b,k.d⟩,h.fn⟩
theorem gc.chk{w:aJ}(h:gc w){i:Nat}(hi:i<(aC w).1.length):dP (bT ((cq w).getD i default)) (bj ((aC w).1.getD i default))=0:=by
 rw[(h.st i hi).1]
 exact NO h.net _ (by have:=h.done;omega) i hi
theorem gc.chg{w:aJ}(h:gc w)(hd:oZ w=true):gc (nE w):=by
 have hd0:=hd
 unfold oZ at hd
 rw[dK,nZ,nZ] at hd
 have hk:(dk w).toNat<(aC w).2.2.length:=by have:=h.done;omega
 obtain⟨-,⟨w0,w1⟩,-⟩:=D1 h.net hk
 have sz:=zc h.net
 have eD:dk (nE w)=dk w+1:=aG (n:=dk w+1) (by have:=h.done;omega) (by have:=h.done;omega)
 have eN:aC (nE w)=aC w:=rfl
 have hwho:bJ (kD w)=bJ ((aC w).2.2.getD (dk w).toNat default):=rfl
 have hlt:(bJ (kD w)).toNat<(aC w).1.length:=ab
 have hst:=h.st _ hlt
 refine⟨h.net,h.now,by have:=h.done;rw[eD,eN];omega,?_,λi hi=>?_,h.cl,h.fl,h.fo,h.fn⟩
 .show ((cq w).set _ _).length=_;rw[gB];exact h.len
 .have hi:i<(aC w).1.length:=hi;rw[eD,eN,show (dk w+1).toNat=(dk w).toNat+1 by have:=h.done;omega,dG];show bT (((cq w).set (bJ (kD w)).toNat _).getD i default)=_/\(lP (((cq w).set (bJ (kD w)).toNat _).getD i default)).length=_;by_cases e:(bJ (kD w)).toNat=i
  .subst e;rw[kw (by rw[h.len];exact hlt),show ((aC w).2.2.getD (dk w).toNat default)=kD w from rfl,kw (by rw[qJ];exact hlt),← hst.1];exact⟨rfl,hst.2⟩
  .rw[nA e,show ((aC w).2.2.getD (dk w).toNat default)=kD w from rfl,nA e];exact h.st i hi
theorem HZ:∀(n:Nat){w:aJ},gc w->gc (jj n w)
 | 0,w,h=>h
 | n+1,w,h=>by
  rw[jj];split
  next hd=>exact HZ n (h.chg hd)
  .exact h
theorem ap6{l:List bg}{f:bg}(h:l.Pairwise λa b=>aO a<=aO b):(fM l f).Pairwise λa b=>aO a<=aO b:=by
 induction l with
 | nil=>simp[fM]
 | cons x l ih =>
  obtain⟨a,b⟩:=List.pairwise_cons.1 h;have ih:=ih b;by_cases c:aO x<=aO f
  .have e:fM (x::l) f=x::fM l f:=by
    unfold fM;rw[List.takeWhile_cons_of_pos (by simpa using c),List.dropWhile_cons_of_pos (by simpa using c)];rfl
   rw[e];refine List.pairwise_cons.2 ⟨λy hy=>?_,ih⟩;rcases zo.1 hy with rfl|hy
   .exact c
   .exact a y hy
  .have e:fM (x::l) f=f::x::l:=by
    unfold fM;rw[List.takeWhile_cons_of_neg (by simpa using c),List.dropWhile_cons_of_neg (by simpa using c)];rfl
   rw[e];refine List.pairwise_cons.2 ⟨λy hy=>?_,h⟩;rcases dL.1 hy with rfl|hy
   .omega
   .have:=a y hy;omega
theorem gc.crosses{w:aJ}(h:gc w){f:bg}{out:Int×ae}(hf:0<=bm f/\bm f<(aC w).1.length)
  (hk:out.1∈bj ((aC w).1.getD (bm f).toNat default)) (hb:bytes out.2) (hl:(out.2.length:Int)<=2000):gc (eM w f out):=by
 have hi:(bm f).toNat<(aC w).1.length:=ab
 obtain⟨⟨k0,k1⟩,snd,o1,o2⟩:=zz h.net hi hk
 rw[show (((bm f).toNat:Nat):Int)=bm f by omega] at o1 o2
 have ov:=AP (w:=w) (k:=out.1) snd h.now
 have base:gc (va w ((gw w).set out.1.toNat (IntKind.i64.wrap (ky w out.1+1)))):=by
  refine⟨h.net,h.now,h.done,h.len,h.st,?_,h.fl,h.fo,h.fn⟩;show ((gw w).set _ _).length=_;rw[gB];exact h.cl
 unfold eM
 dsimp only
 split
 .exact⟨base.net,base.now,base.done,base.len,base.st,base.cl,base.fl,base.fo,base.fn⟩
 split
 .exact⟨base.net,base.now,base.done,base.len,base.st,base.cl,base.fl,base.fo,base.fn⟩
 rename_i q
 refine⟨base.net,base.now,base.done,base.len,base.st,base.cl,ap6 h.fl,?_,?_⟩
 .intro x hx;have hx:x∈fM (aM w) (jI w out.1,bK w,fB (aC w).2.1 out.1 (bm f),out.1,iB f,out.2):=hx;rcases zo.1 hx with rfl|hx
  .exact⟨⟨by show bQ w<=jI w out.1;omega,by show jI w out.1<=_;omega⟩,o1,.inr o2,hb,hl⟩
  .exact h.fo x hx
 .show (fM (aM w) _).length<=4096;rw[FI];omega
theorem gc.out{w:aJ}(h:gc w){f:bg}(hf:vS (aC w) (bQ w) f) :
  Q7 ((aC w).1.getD (bm f).toNat default) ((cq w).getD (bm f).toNat default) (bn w f):=by
 have hi:(bm f).toNat<(aC w).1.length:=by have:=hf.nd;omega
 obtain⟨-,-,h3⟩:=Bn (h.chk hi)
 exact Kl (lk:=gN f) (t:=aO f) (uv h.net hi) (λr hr=>(h3 r hr).2) hf.b
theorem gc.land{w:aJ}(h:gc w){f:bg}(hf:vS (aC w) (bQ w) f):gc (jd w f):=by
 have hi:(bm f).toNat<(aC w).1.length:=by have:=hf.nd;omega
 have O:=h.out hf
 have T:=(NY ((aC w).1.getD (bm f).toNat default) ((cq w).getD (bm f).toNat default) (gN f) (aO f) (f7 f)).2.1
 have eH:bn w f=fI ((aC w).1.getD (bm f).toNat default) ((cq w).getD (bm f).toNat default) (gN f) (aO f) (f7 f):=rfl
 rw[← eH] at T
 have ha:gc (iC w ((cq w).set (bm f).toNat (bn w f).1)):=by
  refine⟨h.net,h.now,h.done,?_,λi hl=>?_,h.cl,h.fl,h.fo,h.fn⟩
  .show ((cq w).set _ _).length=_;rw[gB];exact h.len
  .have hl:i<(aC w).1.length:=hl;show bT (((cq w).set (bm f).toNat (bn w f).1).getD i default)=_/\(lP (((cq w).set (bm f).toNat (bn w f).1).getD i default)).length=_;by_cases e:(bm f).toNat=i
   .subst e;rw[kw (by rw[h.len];exact hi)];exact⟨O.rt.trans (h.st _ hi).1,T.trans (h.st _ hi).2⟩
   .rw[nA e];exact h.st i hl
 unfold jd
 dsimp only
 have key:∀ B:aJ,gc B->aC B=aC w->gc (if 0<(bn w f).2.1.2.length then eM B f (bn w f).2.1 else B):=by
  intro B hB b1;split
  .rename_i hp;have hr:(bn w f).2.2=0∨(bn w f).2.2=2:=by
    by_cases z0:(bn w f).2.2=0
    .exact .inl z0
    by_cases z2:(bn w f).2.2=2
    .exact .inr z2
    .have:=O.none z0 z2;rw[this] at hp;exact absurd hp (by simp[iN])
   obtain⟨p1,p2,p3⟩:=O.some hr;exact hB.crosses (by rw[b1];exact hf.nd) (by rw[b1];exact Cc h.net hi p3) O.byt ab
  .exact hB
 apply key
 .split <;> (split <;> exact⟨ha.net,ha.now,ha.done,ha.len,ha.st,ha.cl,ha.fl,ha.fo,ha.fn⟩)
 .split <;> (split <;> rfl)
theorem aL9{w:aJ}(h:gc w){f:bg}(hf:vS (aC w) (bQ w) f):aC (jd w f)=aC w/\bQ (jd w f)=bQ w ∧
  (aM (jd w f)=aM w∨∃ g,bQ w+1<=aO g/\aM (jd w f)=fM (aM w) g):=by
 have hi:(bm f).toNat<(aC w).1.length:=by have:=hf.nd;omega
 have O:=h.out hf
 unfold jd
 dsimp only
 have key:∀ B:aJ,aC B=aC w->bQ B=bQ w->aM B=aM w →
   (aC (if 0<(bn w f).2.1.2.length then eM B f (bn w f).2.1 else B)=aC w/\bQ (if 0<(bn w f).2.1.2.length then eM B f (bn w f).2.1 else B)=bQ w ∧
    (aM (if 0<(bn w f).2.1.2.length then eM B f (bn w f).2.1 else B)=aM w∨∃ g,bQ w+1<=aO g/\aM (if 0<(bn w f).2.1.2.length then eM B f (bn w f).2.1 else B)=fM (aM w) g)):=by
  intro B b1 b2 b3;split
  .rename_i hp;obtain⟨c1,c2,c3⟩:=Ll B f (bn w f).2.1;refine⟨c1.trans b1,c2.trans b2,?_⟩;rcases c3 with c3|⟨g,g1,g2⟩
   .exact .inl (c3.trans b3)
   .have hr:(bn w f).2.2=0∨(bn w f).2.2=2:=by
     by_cases z0:(bn w f).2.2=0
     .exact .inl z0
     by_cases z2:(bn w f).2.2=2
     .exact .inr z2
     .have:=O.none z0 z2;rw[this] at hp;exact absurd hp (by simp[iN])
    obtain⟨-,snd,-⟩:=zz h.net hi (Cc h.net hi (O.some hr).2.2);have ov:=AP (w:=B) (k:=(bn w f).2.1.1) (by unfold cU;rw[b1];exact snd) (by rw[b2];exact h.now);exact .inr ⟨g,by rw[g1,← b2];exact ov.1,by rw[g2,b3]⟩
  .exact⟨b1,b2,.inl b3⟩
 apply key
 all_goals (split <;> (split <;> rfl))
theorem gc.step{w:aJ}(h:gc w){f:bg}{r:List bg}(e:aM w=f::r) :
  gc (fw w)/\aC (fw w)=aC w/\bQ (fw w)=aO f∧∀ to,aO f<=to->lu to (aM (fw w))+1<=lu to (aM w):=by
 have hp:=h.fl
 rw[e] at hp
 obtain⟨p1,p2⟩:=List.pairwise_cons.1 hp
 have hf:=h.fo f (by rw[e];exact fW)
 have hb:gc (fJ (gY w r) (aO f)):=by
  refine⟨h.net,⟨by show 0<=aO f;have:=h.now;have:=hf.t;omega,hf.t.2⟩,h.done,h.len,h.st,h.cl,p2,λx hx=>?_,?_⟩
  .have hx:x∈r:=hx;have k:=h.fo x (by rw[e];exact fL _ hx);exact⟨⟨p1 x hx,k.t.2⟩,k.nd,k.l,k.b,k.d⟩
  .show r.length<=4096;have:=h.fn;rw[e,dM] at this;omega
 have es:fw w=jd (dq (fJ (gY w r) (aO f))) f:=by unfold fw;rw[e];rfl
 have c1:gc (dq (fJ (gY w r) (aO f))):=HZ _ hb
 have c2:=B1 ((aC w).2.2.length-(dk w).toNat) (fJ (gY w r) (aO f))
 have n1:aC (dq (fJ (gY w r) (aO f)))=aC w:=c2.1
 have n2:bQ (dq (fJ (gY w r) (aO f)))=aO f:=c2.2.1
 have n4:aM (dq (fJ (gY w r) (aO f)))=r:=(Z6 _).1
 generalize dq (fJ (gY w r) (aO f))=v at c1 n1 n2 n4 es
 have hfv:vS (aC v) (bQ v) f:=by
  rw[n1,n2];exact⟨⟨f8 _,hf.t.2⟩,hf.nd,hf.l,hf.b,hf.d⟩
 have L:=aL9 c1 hfv
 rw[es]
 refine⟨c1.land hfv,L.1.trans n1,L.2.1.trans n2,λto hto=>?_⟩
 rw[e,zE]
 rcases L.2.2 with q|⟨g,g1,g2⟩
 .rw[q,n4];omega
 .rw[g2,n4,L6];rw[n2] at g1;omega
theorem Jt{b:ae}(hb:bytes b)(h:gu b=0):bI (ig b)=Ae (bI b)/\bX (ig b)=0/\(ig b).drop 20=b.drop 20:=by
 have hd:bX b=0:=fq λk=>by rw[gu,am k] at h;exact k h
 have ht:¬ (bI b).2.2.1<2:=λk=>by rw[gu,af (λq=>q hd),am k] at h;cases h
 obtain⟨⟨h1,⟨h2,h2'⟩,h3,h4,h5⟩,l1,l2⟩:=w7 hb hd
 have hk:kV (Ae (bI b)):=⟨h1,⟨by show 0<=(bI b).2.2.1-1;omega,by show (bI b).2.2.1-1<=255;omega⟩,h3,h4,h5⟩
 have hl:((b.drop 20).length:Int)<=1480:=by rw[fv];omega
 have e:fA (Ae (bI b),b.drop 20)=0:=by
  rw[fA,af (by rw[o4];exact hk),af (by simp only;omega)]
 rw[ig,am h,d8,am e]
 exact HT hk (sE hb 12) (sE hb 16) hl (wA hb)
theorem NZ{b:ae}(hb:bytes b)(hn:¬ dH b):¬ dH (if gu b=0 then ig b else b):=by
 split
 next h=>
  obtain⟨e1,e2,e3⟩:=Jt hb h;have hd:bX b=0:=fq λk=>by rw[gu,am k] at h;exact k h
  rintro⟨-,k⟩;apply hn;refine⟨hd,?_⟩;rw[aY,am e2,e1,e3] at k;rw[aY,am hd];exact k
 .exact hn
theorem EM{b:ae}{f kind code id ttl:Int}(hb:bytes b)(hf:u32 f)(h:fY b kind code id ttl=0):¬ dH (jv b f kind code id ttl):=by
 have hg:pF kind code id ttl:=fq λk=>by rw[fY,am k] at h;cases h
 have ha:dH b:=fq λk=>by rw[fY,af (λq=>q hg),af k] at h;cases h
 obtain⟨-,e,en,ei⟩:=BW (src:=f) hg ha
 have hk:=hg.1
 rw[e]
 obtain⟨s1,s2,s3,s4⟩:=yi (src:=f) (dst:=cL b) (proto:=1) (data:=iE (kind,code,b.take 28)) hg.2.2 ab hf (sE hb 12) (FG _) (Et en (Dx hb))
 intro k
 have hp1:dm (d8 (i7 f (cL b) 1 id ttl (iE (kind,code,b.take 28))))=1:=by rw[dm,s2]
 have:=(qU k).2.2.1 hp1
 rw[s3,(Jc en).1] at this
 simp only at this
 omega
theorem SD{b:ae}{f id ttl:Int}(hb:bytes b)(hf:u32 f)(h:gI b id ttl=0):¬ dH (jw b f id ttl):=by
 have hn:iW id ttl:=fq λk=>by rw[gI,am k] at h;cases h
 have hg:tv b:=fq λk=>by rw[gI,af (λq=>q hn),af k] at h;cases h
 obtain⟨-,l1,l2⟩:=w7 hb hg.1.1
 have hd:=wA (n:=20) hb
 rcases hg with⟨ha,⟨g1,g2⟩|⟨g1,g2⟩|⟨g1,g2,g3,g4⟩⟩
 .rw[(C9 (src:=f) hn ha g1 g2).1];have hE:((fH (true,(gn (b.drop 20)).2)).length:Int)<=1480/\bytes (fH (true,(gn (b.drop 20)).2)):=by
   have e:(gn (b.drop 20)).2.2.2=(b.drop 20).drop 8:=by unfold gn;rw[am g2]
   refine Ow ?_ ?_
   .show bytes (gn (b.drop 20)).2.2.2;rw[e];exact wA hd
   .show ((gn (b.drop 20)).2.2.2.length:Int)<=1472;rw[e];simp only[fv];omega
  obtain⟨s1,s2,s3,s4⟩:=yi (src:=f) (dst:=cL b) (proto:=1) hn ab hf (sE hb 12) hE.1 hE.2;intro k;have h8:=(qU k).2.2.1 (by rw[dm,s2]);have h28:=(qU k).2.1;rw[s3] at h8;rw[s4] at h28;unfold fH at h8 h28;split at h8
  .have:(cR (cV (true,(gn (b.drop 20)).2)) 2 (dg (cV (true,(gn (b.drop 20)).2)))).getD 0 default=0:=rfl;rw[this] at h8;cases h8
  next z=>rw[af z] at h28;simp at h28
 .rw[(FF (src:=f) hn ha g1 g2).1];exact EM hb hf (Hu hn ha)
 .rw[(EW (src:=f) hn ha g1 g2 g3 g4).1];have hE:((fQ f (cL b) (lZ (fR (cL b) (gf b) (b.drop 20)))).length:Int)<=1480/\bytes (fQ f (cL b) (lZ (fR (cL b) (gf b) (b.drop 20)))):=Nt rfl;obtain⟨s1,s2,s3,s4⟩:=yi (src:=f) (dst:=cL b) (proto:=6) hn ab hf (sE hb 12) hE.1 hE.2;intro k;have h28:=(qU k).2.1;rw[s4] at h28;unfold fQ at h28;split at h28
  next z=>have hfl:=(qU k).2.2.2.1 (by rw[dm,s2]);rw[s3] at hfl;unfold fQ at hfl;rw[am z] at hfl;have h13:(cR (kG (lZ (fR (cL b) (gf b) (b.drop 20)))) 16 (fX f (cL b) 6 (kG (lZ (fR (cL b) (gf b) (b.drop 20)))))).getD 13 default=20:=rfl;rw[h13,mN,zC] at hfl;have:=hfl (by show 14<=20+_;omega);exact absurd this bt
  .simp at h28
theorem Pq{x:au}{lk L:Int}(N:nP x)(A:uq x)(hL:0<=cy x L):u32 (kO x (ci x lk) L):=by
 have l1:cy x L<(ay x).length:=(sW hL).1
 unfold kO
 split
 .exact (Da A hL l1).1
 split
 .exact A.2.1
 split
 .exact A.2.2
 .exact (Da A (DS x lk) (au1 N lk)).1
theorem Up{ki:Int}{w:dQ}{f id:Int}(hb:bytes w.2.2.2.2.1)(hf:u32 f)(hn:iW id (iM w.1))(h:kE ki w 0=0):¬ dH (kB ki w f id):=by
 have ha:=Jh h
 unfold kB
 split
 .exact EM hb hf (by rw[fY,af (λk=>k ⟨.inl rfl,ab,hn⟩),am ha])
 split
 .exact EM hb hf (by rw[fY,af (λk=>k ⟨.inr rfl,ab,hn⟩),am ha])
 next k2 k3=>
  have h:gI w.2.2.2.2.1 0 (iM w.1)=0:=by
   unfold kE at h;rw[af k2,af k3] at h;exact h
  have hg:tv w.2.2.2.2.1:=fq λq=>by
   rw[gI] at h;split at h
   .cases h
   .cases h
  exact SD hb hf (BA hn hg)
theorem ar7{x:au}{s:ct}{lk t:Int}{b:ae}(N:nP x)(A:uq x)(hrt:∀ r∈bT s,kX r (bj x))(hb:bytes b) :
  ((fI x s lk t b).2.2=2->dH b∧¬ dH (fI x s lk t b).2.1.2)/\((fI x s lk t b).2.2=0→¬ dH b→¬ dH (fI x s lk t b).2.1.2):=by
 constructor
 .intro h2;have hbo:dH b:=fq λk=>PF k h2;refine⟨hbo,?_⟩;obtain⟨ki,e,hk⟩:=Kf h2;rw[e] at h2 ⊢;obtain⟨w,hw⟩:∃ w,w=jc x s lk t b:=⟨_,rfl⟩
  rw[← hw] at h2 ⊢;obtain⟨a1,a2,a3⟩:=FN h2;have w1:w.1=x:=by rw[hw];rfl
  have w2:w.2.1=s:=by rw[hw];rfl
  have w3:w.2.2.1=lk:=by rw[hw];rfl
  have w5:w.2.2.2.2.1=b:=by rw[hw];rfl
  have w6:w.2.2.2.2.2=bI b:=by
   have:w.2.2.2.2.2=(aY b).1:=by rw[hw];rfl
   rw[this,aY,am hbo.1]
  have hn:=IQ (w:=w) (by rw[w1];exact N.id) (by rw[w1];exact N.form) (by rw[w6];exact nO hb 4);have hL:0<=cy x (j8 (kB ki w) w):=by
   have:=FA hrt (a:=lE w.2.2.2.2.2) (by rw[← w2];exact a2) (kg w) (bc (kB ki w (adr w.1 (ci w.1 w.2.2.1)) 0));unfold j8 kq;rw[w1,w2];rw[w1] at this;exact this
  have hf:u32 (j5 (kB ki w) w (pt ki w)):=by
   unfold j5;split
   .rw[w1,w3];exact Pq N A hL
   .rename_i k;unfold pt at k ⊢;split
    .rw[w6];exact sE hb 16
    next z=>rw[af z] at k;exact absurd rfl k
  have ho:(t9 w ki).2.1.2=kB ki w (j5 (kB ki w) w (pt ki w)) (iu w):=jt (λr:oP=>r.2.1.2) a3;rw[ho];exact Up (by rw[w5];exact hb) hf hn a1
 .intro h0 hno;have F:=DU h0;rw[AV (t:=t) F];show ¬ dH (if lk ≠ -1/\dJ x=false then ig b else b);split
  .rename_i k;have ht:=F.ttl;have e1:(aY b).1=bI b:=by rw[aY,am F.dec]
   rw[e1] at ht;have hl:gu b=0:=by
    rw[gu,af (λq=>q F.dec)];exact af (λq=>ht ⟨k.1,k.2,q⟩)
   have:=NZ hb hno
   rwa [am hl] at this
  .exact hno
def jJ(e:fm):Int:=e.1
def H0(e:fm):Int:=e.2.1
def uE(e:fm):Int:=e.2.2.2.2
def Rk(fl:List bg)(en:List fm):Prop :=
 (∃ f,fl=[f]/\en=[])∨(∃ f e,fl=[f]/\en=[e]/\uE e=2/\H0 e<=aO f∧¬ dH (f7 f)) ∨
  (fl=[]∧∃ e,en=[e]/\uE e≠2)∨(fl=[]∧∃ a e,en=[a,e]/\uE a=2/\uE e≠2/\H0 a<=H0 e)
def tU(o:Int)(l:List bg):List bg:=l.filter λf=>decide (iB f=o)
def BZ(o:Int)(l:List fm):List fm:=l.filter λe=>decide (jJ e=o)
theorem ar2{o:Int}{l:List bg}{g:bg}(h:iB g≠o):tU o (fM l g)=tU o l:=by
 unfold tU fM
 rw[qS,List.filter_cons_of_neg (by simpa using h),← qS,su]
theorem Tr{o:Int}{l:List bg}{g:bg}(h:iB g=o)(hl:tU o l=[]):tU o (fM l g)=[g]:=by
 unfold tU at hl ⊢
 rw[← su (p:=λx=>decide (aO x<=aO g)) (l:=l),qS] at hl
 obtain⟨h1,h2⟩:=List.append_eq_nil_iff.1 hl
 unfold fM
 rw[qS,List.filter_cons_of_pos (by simpa using h),h1,h2];rfl
theorem ae5(w:aJ)(f:bg)(out:Int×ae) :
  (∃ why,(why=3∨why=7)/\bh (eM w f out)=bh w++[(iB f,aO f,bm f,out.1,why)]/\aM (eM w f out)=aM w) ∨
   (∃ g,iB g=iB f/\f7 g=out.2/\aO g=jI w out.1/\bh (eM w f out)=bh w/\aM (eM w f out)=fM (aM w) g):=by
 unfold eM
 dsimp only
 split
 .exact .inl ⟨3,.inl rfl,rfl,rfl⟩
 split
 .exact .inl ⟨7,.inr rfl,rfl,rfl⟩
 .exact .inr ⟨(jI w out.1,bK w,fB (aC w).2.1 out.1 (bm f),out.1,iB f,out.2),rfl,rfl,rfl,rfl,rfl⟩
theorem Zk{o:Int}{es:List fm}(h:∀ e∈es,jJ e≠o):BZ o es=[]:=List.filter_eq_nil_iff.2 λe he=>by simpa using h e he
def iH(w:aJ)(at' who:Int)(b:ae):aJ:=zL w (at',0,who,-1,bK w,b)
theorem dI.send{w:aJ}{K:Int}(h:dI w K)(hK:K<=2199023255552){at' who:Int}{b:ae}(ha:bQ w<=at'∧at'<=1125899906842624)(hw:0<=who/\who<(aC w).1.length)(hb:bytes b)(hl:(b.length:Int)<=2000)
  (hf:(aM w).length<4096):dI (iH w at' who b) (K+1)/\bK (iH w at' who b)=bK w+1:=by
 have hord:=h.ord
 have ew:IntKind.i64.wrap (bK w+1)=bK w+1:=aG ab ab
 have eo:bK (iH w at' who b)=bK w+1:=ew
 have h':=h.more (K':=K+1) ab
 refine⟨⟨h'.net,h'.now,by rw[eo];omega,h'.done,h'.len,h'.st,h'.cl,h'.cr,?_,?_,?_⟩,eo⟩
 .exact Pd h.fl λx hx=>(h.fo x hx).o.2
 .intro x hx;have hx:x∈fM (aM w) (at',bK w,who,-1,bK w,b):=hx;show uX (aC w) (bQ w) (bK (iH w at' who b)) x;rw[eo];rcases zo.1 hx with rfl|hx
  .exact⟨ha,⟨by show 0<=bK w;omega,by show bK w<bK w+1;omega⟩,hw,.inl rfl,⟨by show 0<=bK w;omega,by show bK w<bK w+1;omega⟩,hb,hl⟩
  .have k:=h.fo x hx;exact⟨k.t,⟨k.o.1,by have:=k.o.2;omega⟩,k.nd,k.l,⟨k.g.1,by have:=k.g.2;omega⟩,k.b,k.d⟩
 .show (fM (aM w) _).length<=4096;rw[FI];omega
def jr(n:aQ):aJ:=(n,0,0,0,n.1.map nB,replicate n.2.1.length 0,[],[],[])
theorem dI.new{n:aQ}(h:d9 n=0):dI (jr n) 0:=by
 refine⟨h,⟨by show (0:Int)<=0;omega,by show (0:Int)<=_;omega⟩,⟨by show (0:Int)<=0;omega,by show (0:Int)<=0;omega⟩,⟨by show (0:Int)<=0;omega,by show (0:Int)<=_;omega⟩,?_,λi hi=>?_,?_,λc hc=>?_,List.Pairwise.nil,λf hf=>(by cases hf),by show (0:Nat)<=4096;omega⟩
 .show (n.1.map nB).length=_;rw[mh];rfl
 .have hi:i<n.1.length:=hi;show iT (n.1.getD i default) ((n.1.map nB).getD i default) 0/\bT ((n.1.map nB).getD i default)=(dG n (0:Int).toNat).getD i default;rw[zp hi];refine⟨OF (uv h hi),?_⟩;show aU (n.1.getD i default)=(n.1.map aU).getD i default;rw[zp hi]
 .show (replicate n.2.1.length (0:Int)).length=_;rw[ue];rfl
 .have hc:c∈replicate n.2.1.length (0:Int):=hc;rw[List.eq_of_mem_replicate hc];omega
theorem ay2{w:aJ}{at' who:Int}{b:ae}(hf:∀ f∈aM w,iB f<bK w)(he:∀ e∈bh w,jJ e<bK w) :
  Rk (tU (bK w) (aM (iH w at' who b))) (BZ (bK w) (bh (iH w at' who b))) ∧
   ∀ o,o≠bK w->tU o (aM (iH w at' who b))=tU o (aM w)/\BZ o (bh (iH w at' who b))=BZ o (bh w):=by
 refine⟨.inl ⟨(at',bK w,who,-1,bK w,b),Tr rfl ?_,Zk λe h=>?_⟩,λo ho=>⟨ar2 (λk=>ho k.symm),rfl⟩⟩
 .exact List.filter_eq_nil_iff.2 λf h=>by have:=hf f h;simp;omega
 .have:=he e h;omega
theorem Lr.one{c:Int}{l:List bg}{g:bg}(h:l.Pairwise λa b=>aO a<=aO b)(hg:c<aO g):Lr c l (fM l g):=by
 refine⟨g,l.takeWhile λx=>decide (aO x<=aO g),l.dropWhile λx=>decide (aO x<=aO g),rfl,by rw[su],hg,λy hy=>?_,?_⟩
 .simpa using List.all_eq_true.1 (List.all_takeWhile (p:=λx=>decide (aO x<=aO g)) (l:=l)) y hy
 .intro x hx;have h2:=h;rw[← su (p:=λx=>decide (aO x<=aO g)) (l:=l)] at h2;obtain⟨-,b,-⟩:=List.pairwise_append.1 h2;cases hh:l.dropWhile (λx=>decide (aO x<=aO g)) with
  | nil=>rw[hh] at hx;cases hx
  | cons y r =>
   have hy:¬ aO y<=aO g:=by
    have:=List.head_dropWhile_not (p:=λx=>decide (aO x<=aO g)) (l:=l) (by rw[hh];simp);simp only[hh,List.head_cons] at this;simpa using this
   rw[hh] at hx b;rcases dL.1 hx with rfl|hx
   .omega
   .have:=(List.pairwise_cons.1 b).1 x hx;omega
def yq(b:ae):Nat:=if bX b=0 then (bI b).2.2.1.toNat else 0
def qk(n:aQ)(f:bg):Nat:=1+2*yq (f7 f)+(if dJ (n.1.getD (bm f).toNat default)=true then 1 else 0)+(if gN f = -1 then 2 else 0)+(if dH (f7 f) then 600 else 0)
def qr(n:aQ)(l:List bg):Nat:=(l.map (qk n)).sum
def jD(w:aJ):Nat:=qr (aC w) (aM w)
def xg(n:aQ):Prop:=∀ i:Nat,i<n.1.length->uq (n.1.getD i default)
theorem L5{b:ae}(hb:bytes b):yq b<=255:=by
 unfold yq
 split
 next h=>obtain⟨⟨-,⟨h1,h2⟩,-⟩,-⟩:=w7 hb h;omega
 .omega
theorem UH{n:aQ}(h:d9 n=0):∀ l∈n.2.1,iV n.1 l=false:=by
 unfold d9 at h
 obtain⟨-,h⟩:=ro h
 obtain⟨-,h⟩:=ro h
 obtain⟨-,h⟩:=ro h
 obtain⟨-,h⟩:=ro h
 obtain⟨-,h⟩:=ro h
 obtain⟨h,-⟩:=ro h
 unfold nT at h
 intro l hl
 split at h
 .cases h
 next k=>
  cases e:iV n.1 l with
  | false=>rfl
  | true=>exact absurd (List.any_eq_true.2 ⟨l,hl,e⟩) k
theorem Mi{n:aQ}(h:d9 n=0){k x:Int}(hk:0<=k/\k<n.2.1.length)(hx:dJ (n.1.getD x.toNat default)=true)(ho:0<=fB n.2.1 k x):dJ (n.1.getD (fB n.2.1 k x).toNat default)=false:=by
 have hd:=UH h (n.2.1.getD k.toNat default) (bS hk.1 hk.2)
 unfold iV at hd
 unfold fB at ho ⊢
 rw[af ab] at ho ⊢
 split at ho
 next e=>rw[am e];rw[← e,hx,Bool.true_and] at hd;exact hd
 .split at ho
  next e0 e=>rw[af e0,am e];rw[← e,hx,Bool.and_true] at hd;exact hd
  .omega
theorem W2{b:ae}(hb:bytes b)(h:gu b=0):yq (ig b)+1=yq b:=by
 obtain⟨e1,e2,-⟩:=Jt hb h
 have hd:bX b=0:=fq λk=>by rw[gu,am k] at h;exact k h
 have ht:¬ (bI b).2.2.1<2:=λk=>by rw[gu,af (λq=>q hd),am k] at h;cases h
 unfold yq
 rw[am e2,am hd,e1]
 show ((bI b).2.2.1-1).toNat+1=_
 omega
theorem ak0{v:aJ}(h:gc v){f:bg}(hf:vS (aC v) (bQ v) f)(A:xg (aC v))(hp:0<(bn v f).2.1.2.length)(t o og:Int) :
  qk (aC v) (t,o,fB (aC v).2.1 (bn v f).2.1.1 (bm f),(bn v f).2.1.1,og,(bn v f).2.1.2)+1<=qk (aC v) f:=by
 have hi:(bm f).toNat<(aC v).1.length:=by have:=hf.nd;omega
 have N:=uv h.net hi
 have O:=h.out hf
 obtain⟨-,-,h3⟩:=Bn (h.chk hi)
 have Z:=ar7 (lk:=gN f) (t:=aO f) N (A _ hi) (λr hr=>(h3 r hr).2) hf.b
 have eH:bn v f=fI ((aC v).1.getD (bm f).toNat default) ((cq v).getD (bm f).toNat default) (gN f) (aO f) (f7 f):=rfl
 have hr:(bn v f).2.2=0∨(bn v f).2.2=2:=by
  by_cases z0:(bn v f).2.2=0
  .exact .inl z0
  by_cases z2:(bn v f).2.2=2
  .exact .inr z2
  .have:=O.none z0 z2;rw[this] at hp;exact absurd hp (by simp[iN])
 obtain⟨⟨k0,k1⟩,-,⟨o1,-⟩,-⟩:=zz h.net hi (Cc h.net hi (O.some hr).2.2)
 rw[show (((bm f).toNat:Nat):Int)=bm f by have:=hf.nd;omega] at o1
 have hk:¬ (bn v f).2.1.1 = -1:=ab
 show 1+2*yq (bn v f).2.1.2+(if dJ ((aC v).1.getD (fB (aC v).2.1 (bn v f).2.1.1 (bm f)).toNat default)=true then 1 else 0)+(if (bn v f).2.1.1 = -1 then 2 else 0)+(if dH (bn v f).2.1.2 then 600 else 0)+1<=_
 rw[af hk]
 have hD:=Mi (x:=bm f) h.net ⟨k0,k1⟩
 rw[← eH] at Z
 have hob:=O.byt
 have t1:=L5 hob
 unfold qk
 generalize dJ ((aC v).1.getD (fB (aC v).2.1 (bn v f).2.1.1 (bm f)).toNat default)=oy at *
 rcases hr with hr|hr
 .have F:=DU (by rw[← eH];exact hr);have e:=AV (t:=aO f) F;rw[← eH] at e;have e2:(bn v f).2.1.2=if gN f ≠ -1/\dJ ((aC v).1.getD (bm f).toNat default)=false then ig (f7 f) else f7 f:=by rw[e]
  have ha:(if dH (bn v f).2.1.2 then 600 else 0)<=(if dH (f7 f) then 600 else 0):=by
   split
   next q=>rw[am (fq λk=>Z.2 hr k q)];omega
   .omega
  generalize (if dH (bn v f).2.1.2 then 600 else 0)=a1 at *;generalize (if dH (f7 f) then 600 else 0)=a2 at *;cases ox:dJ ((aC v).1.getD (bm f).toNat default) with
  | true =>
   have:=hD ox o1;rw[this] at *;rw[e2,af (by rw[ox];simp)];simp;omega
  | false =>
   by_cases hl:gN f = -1
   .rw[e2,af (λq=>q.1 hl),am hl];cases oy <;> simp <;> omega
   .have hlow:gu (f7 f)=0:=by
     have ht:=F.ttl;rw[aY,am F.dec] at ht;unfold gu;rw[af (λk=>k F.dec),af];intro q;exact ht ⟨hl,ox,q⟩
    have:=W2 hf.b hlow;rw[e2,am ⟨hl,ox⟩,af hl];cases oy <;> simp <;> omega
 .obtain⟨z1,z2⟩:=Z.1 hr;rw[af z2,am z1];cases oy <;> simp <;> omega
theorem Pe(n:aQ)(l:List bg)(f:bg):qr n (fM l f)=qr n l+qk n f:=by
 have e:qr n l=qr n ((l.takeWhile λx=>decide (aO x<=aO f))++(l.dropWhile λx=>decide (aO x<=aO f))):=by rw[su]
 rw[e]
 unfold qr fM
 simp only[lL,fF,List.sum_append,List.sum_cons]
 omega
theorem HJ(w:aJ)(f:bg)(out:Int×ae):(bh (eM w f out)).length<=(bh w).length+1/\bM (eM w f out)=bM w ∧
  (aM (eM w f out)=aM w∨∃ t o,aM (eM w f out)=fM (aM w) (t,o,fB (aC w).2.1 out.1 (bm f),out.1,iB f,out.2)):=by
 unfold eM
 dsimp only
 split
 .exact⟨by show ((bh w)++[_]).length<=_;simp,rfl,.inl rfl⟩
 .split
  .exact⟨by show ((bh w)++[_]).length<=_;simp,rfl,.inl rfl⟩
  .exact⟨by show (bh w).length<=_;omega,rfl,.inr ⟨_,_,rfl⟩⟩
theorem ah1{v:aJ}(h:gc v){f:bg}(hf:vS (aC v) (bQ v) f)(A:xg (aC v)) :
  (bh (jd v f)).length<=(bh v).length+2/\(bM (jd v f)).length<=(bM v).length+1/\qr (aC v) (aM (jd v f))+1<=qr (aC v) (aM v)+qk (aC v) f:=by
 have h1:1<=qk (aC v) f:=by unfold qk;omega
 unfold jd
 dsimp only
 generalize hb:(if (bn v f).2.2=1 then wx (iC v ((cq v).set (bm f).toNat (bn v f).1)) (bM (iC v ((cq v).set (bm f).toNat (bn v f).1))++[(aO f,bm f,f7 f)]) else iC v ((cq v).set (bm f).toNat (bn v f).1))=B
 have eB:aC B=aC v/\aM B=aM v/\bh B=bh v/\(bM B).length<=(bM v).length+1:=by
  rw[← hb];split
  .exact⟨rfl,rfl,rfl,by show ((bM v)++[_]).length<=_;simp⟩
  .exact⟨rfl,rfl,rfl,by show (bM v).length<=_;omega⟩
 clear hb
 obtain⟨b1,b2,b3,b4⟩:=eB
 generalize hc:(if (bn v f).2.2≠0 then oh B f (gN f) (bn v f).2.2 else B)=C
 have eC:aC C=aC v/\aM C=aM v/\(bh C).length<=(bh v).length+1/\bM C=bM B:=by
  rw[← hc];split
  .exact⟨b1,b2,by show ((bh B)++[_]).length<=_;rw[b3];simp,rfl⟩
  .exact⟨b1,b2,by rw[b3];omega,rfl⟩
 clear hc
 obtain⟨c1,c2,c3,c4⟩:=eC
 split
 next hp=>
  obtain⟨d1,d2,d3⟩:=HJ C f (bn v f).2.1;refine⟨ab,by rw[d2,c4];exact b4,?_⟩;rcases d3 with d3|⟨t,o,d3⟩
  .rw[d3,c2];omega
  .rw[d3,c2,Pe,c1];have:=ak0 h hf A hp t o (iB f);omega
 .exact⟨ab,by rw[c4];exact b4,by rw[c2];omega⟩
theorem gc.okDn{w:aJ}(h:gc w):okDn w:=⟨h.done.1,by have:=zc h.net;omega⟩
theorem ae6{w:aJ}(h:gc w)(hd:oZ w=true):dq w=dq (nE w):=by
 obtain⟨h1,h2,h3⟩:=LO h.okDn hd
 have e:=aV0 h.okDn (n:=uS (nE w)+1) ab
 rw[e,jj,am hd]
 rfl
theorem ak1{w:aJ}(hd:¬ oZ w=true):dq w=w:=by
 unfold dq
 cases (aC w).2.2.length-(dk w).toNat with
 | zero=>rfl
 | succ n=>rw[jj,af hd]
theorem BG(w:aJ):(dq w).1=w.1/\aM (dq w)=aM w/\bh (dq w)=bh w/\bM (dq w)=bM w/\bK (dq w)=bK w/\bQ (dq w)=bQ w:=by
 have k:=B1 ((aC w).2.2.length-(dk w).toNat) w
 have e:=k.2.2.2
 exact⟨k.1,jt (λx:ae×List bg×List qx×List fm=>x.2.1) e,jt (λx:ae×List bg×List qx×List fm=>x.2.2.2) e,jt (λx:ae×List bg×List qx×List fm=>x.2.2.1) e,k.2.2.1,k.2.1⟩
theorem UT(n:aQ)(f:bg)(l:List bg):qr n (f::l)=qk n f+qr n l:=by unfold qr;rw[fF,List.sum_cons]
theorem uX.wk{n:aQ}{t o:Int}{f:bg}(h:uX n t o f):vS n t f:=⟨h.t,h.nd,h.l,h.b,h.d⟩
def sM(n:aQ):Prop:=(n.1.length:Int)<=1000000/\(n.2.1.length:Int)<=1000000/\(n.2.2.length:Int)<=1000000/\(∀ x∈n.1,((ay x).length:Int)<=1000000/\okL (aU x))∧∀ c∈n.2.2,((dN c).2.1.length:Int)<=1099511627776
def Aw(w:aJ):Prop:=sM (aC w)/\((cq w).length:Int)<=1000000/\((gw w).length:Int)<=1000000/\((aM w).length:Int)<=1000000/\((bM w).length:Int)<=1000000000000/\((bh w).length:Int)<=1000000000000 ∧
 (∀ s∈cq w,((lP s).length:Int)<=1000000/\okL (bT s))/\(∀ f∈aM w,((f7 f).length:Int)<=1000000)∧∀ e∈bM w,(e.2.2.length:Int)<=1000000
theorem aD8(v:aJ)(f:bg):bM (jd v f)=bM v∨bM (jd v f)=bM v++[(aO f,bm f,f7 f)]:=by
 unfold jd
 dsimp only
 generalize hb:(if (bn v f).2.2=1 then wx (iC v ((cq v).set (bm f).toNat (bn v f).1)) (bM (iC v ((cq v).set (bm f).toNat (bn v f).1))++[(aO f,bm f,f7 f)]) else iC v ((cq v).set (bm f).toNat (bn v f).1))=B
 have eB:bM B=bM v∨bM B=bM v++[(aO f,bm f,f7 f)]:=by
  rw[← hb];split
  .exact .inr rfl
  .exact .inl rfl
 clear hb
 generalize hc:(if (bn v f).2.2≠0 then oh B f (gN f) (bn v f).2.2 else B)=C
 have eC:bM C=bM B:=by rw[← hc];split <;> rfl
 split
 .rw[(HJ C f _).2.1,eC];exact eB
 .rw[eC];exact eB
structure eJ (B:Int) (w:aJ):Prop where
 b:B<=549755813888
 sB:dI w (B-2*jD w)
 a:xg (aC w)
 c:sM (aC w)
 dd:∀ x∈bM w,(x.2.2.length:Int)<=2000
 e:((bh w).length:Int)+2*jD w<=B
 d:((bM w).length:Int)+jD w<=B
abbrev sJ(w:aJ):Prop:=eJ 549755813888 w
theorem eJ.s{B:Int}{w:aJ}(h:eJ B w):dI w (549755813888-2*jD w):=h.sB.more (by have:=h.b;omega)
theorem eJ.more{B B':Int}{w:aJ}(h:eJ B w)(h1:B<=B')(h2:B'<=549755813888):eJ B' w:=⟨h2,h.sB.more ab,h.a,h.c,h.dd,by have:=h.e;omega,by have:=h.d;omega⟩
theorem eJ.sim{B:Int}{w:aJ}(h:eJ B w):sJ w:=h.more h.b (f8 _)
theorem eJ.change{B:Int}{w:aJ}(h:eJ B w):eJ B (dq w):=by
 obtain⟨k1,k2,k3,k4,-⟩:=BG w
 have ep:jD (dq w)=jD w:=by unfold jD;rw[k2];show qr (dq w).1 _=_;rw[k1];rfl
 exact⟨h.b,by rw[ep];exact h.sB.change,by show xg (dq w).1;rw[k1];exact h.a,by show sM (dq w).1;rw[k1];exact h.c,by rw[k4];exact h.dd,by rw[ep,k3];exact h.e,by rw[ep,k4];exact h.d⟩
theorem eJ.cp{B:Int}{w:aJ}(h:eJ B w):Aw w:=by
 have h1:=h.s.len
 have h2:=zc h.s.net
 have h3:=h.s.cl
 have h4:=h.s.fn
 have h5:=h.e
 have h6:=h.d
 have h7:=h.b
 refine⟨h.c,ab,ab,ab,ab,ab,λs hs=>?_,λf hf=>by have:=(h.s.fo f hf).d;omega,λx hx=>by have:=h.dd x hx;omega⟩
 obtain⟨i,hi,rfl⟩:=List.mem_iff_getElem.1 hs
 have hi2:i<(aC w).1.length:=ab
 obtain⟨st,-⟩:=h.s.st i hi2
 have e:(cq w).getD i default=(cq w)[i]:=by rw[bL,cK hi];rfl
 rw[e] at st
 have:=st.ps
 have:=(uv h.s.net hi2).n32
 exact⟨ab,st.okl⟩
theorem an7{w:aJ}(h:gc w)(A:xg (aC w)){f:bg}{r:List bg}(e:aM w=f::r) :
  jD (fw w)+1<=jD w/\(bh (fw w)).length<=(bh w).length+2/\(bM (fw w)).length<=(bM w).length+1:=by
 obtain⟨-,s2,-⟩:=h.step e
 have es:fw w=jd (dq (fJ (gY w r) (aO f))) f:=by unfold fw;rw[e];rfl
 obtain⟨k1,k2,k3,k4,-,k6⟩:=BG (fJ (gY w r) (aO f))
 have k2:aM (dq (fJ (gY w r) (aO f)))=r:=k2
 have k6:bQ (dq (fJ (gY w r) (aO f)))=aO f:=k6
 have k1:aC (dq (fJ (gY w r) (aO f)))=aC w:=k1
 have hf:=h.fo f (by rw[e];exact fW ..)
 have hp:=h.fl
 rw[e] at hp
 have h0:gc (fJ (gY w r) (aO f)):=by
  refine⟨h.net,⟨by have:=hf.t;have:=h.now;show 0<=aO f;omega,hf.t.2⟩,h.done,h.len,h.st,h.cl,(List.pairwise_cons.1 hp).2,λx hx=>?_,?_⟩
  .have k:=h.fo x (by rw[e];exact fL _ hx);exact⟨⟨(List.pairwise_cons.1 hp).1 x hx,k.t.2⟩,k.nd,k.l,k.b,k.d⟩
  .have:=h.fn;rw[e] at this;simp at this;show r.length<=4096;omega
 have h1:gc (dq (fJ (gY w r) (aO f))):=HZ _ h0
 obtain⟨l1,l2,l3⟩:=ah1 h1 (f:=f) (by rw[k1,k6];exact⟨⟨f8 _,hf.t.2⟩,hf.nd,hf.l,hf.b,hf.d⟩) (by rw[k1];exact A)
 rw[← es] at l1 l2 l3
 rw[k3] at l1
 rw[k4] at l2
 rw[k1,k2] at l3
 refine⟨?_,l1,l2⟩
 unfold jD
 rw[s2,e,UT]
 omega
theorem eJ.step{B:Int}{w:aJ}(h:eJ B w){f:bg}{r:List bg}(e:aM w=f::r):eJ B (fw w)/\jD (fw w)+1<=jD w:=by
 obtain⟨p1,p2,p3⟩:=an7 h.s.weak h.a e
 obtain⟨s1,s2,-⟩:=h.sB.step (by have:=h.b;omega) e
 have h1:=h.e
 have h2:=h.d
 refine⟨⟨h.b,s1.more ab,by rw[s2];exact h.a,by rw[s2];exact h.c,?_,ab,ab⟩,p1⟩
 have es:fw w=jd (dq (fJ (gY w r) (aO f))) f:=by unfold fw;rw[e];rfl
 have k4:bM (dq (fJ (gY w r) (aO f)))=bM w:=(BG _).2.2.2.1
 have hf:=h.s.fo f (by rw[e];exact fW ..)
 rw[es]
 rcases aD8 (dq (fJ (gY w r) (aO f))) f with q|q
 .rw[q,k4];exact h.dd
 .rw[q,k4];intro x hx;rcases dw.1 hx with hx|hx
  .exact h.dd x hx
  .rw[iP.1 hx];exact hf.d
theorem Wx{to:Int}:∀(n m:Nat){w:aJ},gc w->lu to (aM w)<=n->lu to (aM w)<=m->lY n w to=lY m w to:=by
 have stop:∀{w:aJ},lu to (aM w)=0->j7 w to=false:=by
  intro w hw;unfold j7;cases e:aM w with
  | nil=>rfl
  | cons f r =>
   rw[e,zE] at hw;exact dO ab
 intro n
 induction n with
 | zero =>
  intro m w h hn hm;have hb:=stop (w:=w) ab;cases m with
  | zero=>rfl
  | succ m=>rw[lY,lY,af (by rw[hb];simp)]
 | succ n ih =>
  intro m w h hn hm;cases m with
  | zero =>
   have hb:=stop (w:=w) ab;rw[lY,lY,af (by rw[hb];simp)]
  | succ m =>
   rw[lY,lY];split
   .rename_i hb;unfold j7 at hb;cases e:aM w with
    | nil=>rw[e] at hb;cases hb
    | cons f r =>
     rw[e] at hb;have hb:=aI hb;have hpos:1<=lu to (aM w):=by rw[e,zE];omega
     obtain⟨s1,-,-,s4⟩:=h.step e;have:=s4 to hb;exact ih m s1 ab ab
   .rfl
theorem Dd{w:aJ}{to:Int}(h:gc w)(hb:j7 w to=true):jx w to=jx (fw w) to:=by
 have hb0:=hb
 unfold j7 at hb
 cases e:aM w with
 | nil=>rw[e] at hb;cases hb
 | cons f r =>
  rw[e] at hb;have hb:=aI hb;have hpos:1<=lu to (aM w):=by rw[e,zE];omega
  obtain⟨s1,-,-,s4⟩:=h.step e;have:=s4 to hb;obtain⟨k,hk⟩:∃ k,lu to (aM w)=k+1:=⟨lu to (aM w)-1,ab⟩
  have e1:jx w to=lY k (fw w) to:=by unfold jx;rw[hk,lY,am hb0]
  rw[e1];exact Wx _ _ s1 ab (iq _)
theorem Il{w:aJ}{to:Int}(hb:j7 w to=false):jx w to=w:=ad0 hb _
theorem eJ.run{B to:Int}:∀(n:Nat){w:aJ},eJ B w->jD w<=n->eJ B (jx w to)/\j7 (jx w to) to=false/\aC (jx w to)=aC w/\jD (jx w to)<=jD w
 | n,w,h,hn=>by
  cases hb:j7 w to with
  | false=>rw[Il hb];exact⟨h,hb,rfl,iq _⟩
  | true =>
   rw[Dd h.s.weak hb];cases e:aM w with
   | nil=>unfold j7 at hb;rw[e] at hb;cases hb
   | cons f r =>
    obtain⟨k1,k2⟩:=h.step e;obtain⟨-,s2,-⟩:=h.s.weak.step e;cases n with
    | zero=>omega
    | succ n =>
     obtain⟨a,b,c,d⟩:=eJ.run n k1 ab;exact⟨a,b,c.trans s2,ab⟩
def C0:aJ:=(([],[],[]),0,0,0,[],[],[],[],[])
def rS(w:aJ):Prop:=w=fJ C0 (bQ w)/\0<=bQ w/\bQ w<=1125899906842624
def oX(w:aJ):Prop:=sJ w∨rS w
theorem rS.fl{w:aJ}(h:rS w):aM w=[]:=by rw[h.1];rfl
theorem rS.cp{w:aJ}(h:rS w):Aw w:=by
 rw[h.1]
 have Z:∀{b:Int},0<=b->((0:Nat):Int)<=b:=λh=>h
 exact⟨⟨Z bt,Z bt,Z bt,λx hx=>(by cases hx),λx hx=>(by cases hx)⟩,Z bt,Z bt,Z bt,Z bt,Z bt,λx hx=>(by cases hx),λx hx=>(by cases hx),λx hx=>(by cases hx)⟩
theorem oX.cp{w:aJ}(h:oX w):Aw w:=h.elim eJ.cp rS.cp
theorem oX.fl{w:aJ}(h:oX w)(hf:aM w≠[]):sJ w:=h.resolve_right λq=>hf q.fl
def uC(w:aJ):Prop:=gc w∨((aC w).2.2=[]/\dk w=0)
theorem rS.ch{w:aJ}(h:rS w)(t:Int):uC (fJ w t) := .inr (by rw[h.1];exact⟨rfl,rfl⟩)
theorem rS.chg{w:aJ}(h:rS w)(t:Int):dq (fJ w t)=fJ w t:=by rw[h.1];rfl
def iJ(w:aJ):bg:=(aM w).headD default
def dY(w:aJ):aJ:=dq (fJ (gY w (aM w).tail) (aO (iJ w)))
def cS(w:aJ):oP:=bn (dY w) (iJ w)
def uo(w:aJ):aJ:=iC (dY w) ((cq (dY w)).set (bm (iJ w)).toNat (cS w).1)
def mU(w:aJ):aJ:=if (cS w).2.2=1 then wx (uo w) (bM (uo w)++[(aO (iJ w),bm (iJ w),f7 (iJ w))]) else uo w
def eZ(w:aJ):aJ:=if (cS w).2.2≠0 then oh (mU w) (iJ w) (gN (iJ w)) (cS w).2.2 else mU w
theorem EG(w:aJ):fw w=if 0<(cS w).2.1.2.length then eM (eZ w) (iJ w) (cS w).2.1 else eZ w:=by
 have e:fw w=jd (dY w) (iJ w):=by unfold fw dY iJ;rfl
 rw[e]
 unfold jd eZ mU uo cS
 rfl
theorem t8(w:aJ):mU w=wx (uo w) (if (cS w).2.2=1 then bM (dY w)++[(aO (iJ w),bm (iJ w),f7 (iJ w))] else bM (dY w)):=by unfold mU;split <;> rfl
theorem vm(w:aJ):eZ w=HS (mU w) (if (cS w).2.2≠0 then bh (dY w)++[(iB (iJ w),aO (iJ w),bm (iJ w),gN (iJ w),(cS w).2.2)] else bh (dY w)):=by
 unfold eZ
 rw[t8]
 split <;> rfl
structure At (w:aJ) (f:bg) (r:List bg):Prop where
 s:dI (dY w) (549755813888-2*jD w)
 fk:uX (aC (dY w)) (bQ (dY w)) (bK (dY w)) f
 eF:iJ w=f
 net:aC (dY w)=aC w
 now:bQ (dY w)=aO f
 fl:aM (dY w)=r
 en:bh (dY w)=bh w
 dl:bM (dY w)=bM w
 h0:dI (fJ (gY w (aM w).tail) (aO (iJ w))) (549755813888-2*jD w)
theorem eJ.at{B:Int}{w:aJ}(h:eJ B w){f:bg}{r:List bg}(e:aM w=f::r):At w f r:=by
 have hs:=h.s
 have hp:=hs.fl
 rw[e] at hp
 obtain⟨p1,p2⟩:=List.pairwise_cons.1 hp
 have hf:=hs.fo f (by rw[e];exact fW)
 have hle:∀ x∈r,aO f<=aO x:=λx hx=>by rcases p1 x hx with k|k <;> omega
 have ed:iJ w=f:=by unfold iJ;rw[e];rfl
 have et:(aM w).tail=r:=by rw[e];rfl
 have hb:dI (fJ (gY w r) (aO f)) (549755813888-2*jD w):=by
  refine⟨hs.net,⟨by show 0<=aO f;have:=hs.now;have:=hf.t;omega,hf.t.2⟩,hs.ord,hs.done,hs.len,hs.st,hs.cl,hs.cr,p2,λx hx=>?_,?_⟩
  .have hx:x∈r:=hx;have k:=hs.fo x (by rw[e];exact fL _ hx);exact⟨⟨hle x hx,k.t.2⟩,k.o,k.nd,k.l,k.g,k.b,k.d⟩
  .show r.length<=4096;have:=hs.fn;rw[e,dM] at this;omega
 obtain⟨k1,k2,k3,k4,k5,k6⟩:=BG (fJ (gY w r) (aO f))
 have es:dY w=dq (fJ (gY w r) (aO f)):=by unfold dY;rw[ed,et]
 have n1:aC (dY w)=aC w:=by rw[es];exact k1
 have n2:bQ (dY w)=aO f:=by rw[es];exact k6
 have n3:bK (dY w)=bK w:=by rw[es];exact k5
 refine⟨by rw[es];exact hb.change,?_,ed,n1,n2,by rw[es];exact k2,by rw[es];exact k3,by rw[es];exact k4,by rw[ed,et];exact hb⟩
 rw[n1,n2,n3]
 exact⟨⟨f8 _,hf.t.2⟩,hf.o,hf.nd,hf.l,hf.g,hf.b,hf.d⟩
theorem At.out{w:aJ}{f:bg}{r:List bg}(h:At w f r)(hp:0<(cS w).2.1.2.length) :
  0<=(cS w).2.1.1/\(cS w).2.1.1<(aC w).2.1.length/\gZ (aC w).1.length ((aC w).2.1.getD (cS w).2.1.1.toNat default):=by
 have hi:(bm f).toNat<(aC (dY w)).1.length:=by have:=h.fk.nd;omega
 have O:=h.s.weak.out h.fk.wk
 have eH:cS w=bn (dY w) f:=by unfold cS;rw[h.eF]
 rw[eH] at hp ⊢
 have hr:(bn (dY w) f).2.2=0∨(bn (dY w) f).2.2=2:=by
  by_cases z0:(bn (dY w) f).2.2=0
  .exact .inl z0
  by_cases z2:(bn (dY w) f).2.2=2
  .exact .inr z2
  .have:=O.none z0 z2;rw[this] at hp;exact absurd hp (by simp[iN])
 obtain⟨⟨k0,k1⟩,k2,-⟩:=zz h.s.net hi (Cc h.s.net hi (O.some hr).2.2)
 rw[h.net] at k1 k2
 exact⟨k0,k1,k2⟩
end Go.RS
