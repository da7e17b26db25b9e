/- Drawn: what holds of drawn networks: their nodes, links, routes and changes. -/
import Derived.Test.YthmcfealplfaaaaGreatDoorDrawsome
import Derived.Test.YthmcfealplfaaaaGreatDoorNetdraw
import Derived.Test.YthmcfealplfaaaaGreatDoorNodek
import Derived.Laws.CopyRow
namespace Go.RS
open Go.SX Go.Proofs
set_option maxRecDepth 100000
set_option linter.unusedVariables false
structure NP (i:Int) (x:ac):Prop where
 own:NE x=1+i/3
 loop:gg x=0∨gg x=167903232+i
 src:(jQ x=1∨jQ x=2)∨(jQ x=3/\gg x=167903232+i)∨(jQ x=4/\167837696<=nP x)
 fix:nP x=0∨(167837696<=nP x/\nP x<167837736)
 id:(0<=oP x/\oP x<=5)/\(0<=kH x/\kH x<=65535)/\0<=wj x/\wj x<=1000000
 lim:iq x=(0,0)∨(1<=(iq x).1/\(iq x).1<=3/\1<=(iq x).2/\(iq x).2<=200)
 first:gM x=64∨gM x=255∨gM x=128
 seed:0<=Bs x/\Bs x<=255
theorem NP.new{i:Int}{host:Bool}{f sd:Int}(hf:f=64∨f=255∨f=128)(h0:0<=sd)(h1:sd<=255):NP i (o9 i host f sd) :=
 ⟨rfl,.inl rfl,.inl (.inl rfl),.inl rfl,⟨⟨by show (0:Int)<=0;decide,by show (0:Int)<=5;decide⟩,⟨by show (0:Int)<=0;decide,by show (0:Int)<=65535;decide⟩,by show (0:Int)<=0;decide,by show (0:Int)<=1000000;decide⟩,.inl rfl,hf,h0,h1⟩
theorem NP.same{i:Int}{x y:ac}(h:NP i x)(e:x.2=y.2):NP i y:=by
 obtain⟨p,x⟩:=x
 obtain⟨q,y⟩:=y
 cases e
 exact⟨h.own,h.loop,h.src,h.fix,h.id,h.lim,h.first,h.seed⟩
theorem NP.routes{i:Int}{x y:ac}(h:NP i x)(e:uG x []=uG y []):NP i y:=by
 have k:NP i (uG x []):=⟨h.own,h.loop,h.src,h.fix,h.id,h.lim,h.first,h.seed⟩
 rw[e] at k
 exact⟨k.own,k.loop,k.src,k.fix,k.id,k.lim,k.first,k.seed⟩
theorem NP.way{i:Int}{x:ac}(h:NP i x){c:aI}(hc:bS c):NP i (fE x i c).1:=by
 have a:=cW hc (n:=10) (by omega)
 have ca:=(bZ hc 10).1
 have b:=cW ca (n:=3) (by omega)
 have cb:=(bZ ca 3).1
 have e:=cW cb (n:=200) (by omega)
 have f:=cW ca (n:=40) (by omega)
 unfold fE
 dsimp only
 split
 ·exact⟨h.own,h.loop,h.src,h.fix,h.id,h.lim,h.first,h.seed⟩
 split
 ·refine⟨h.own,h.loop,h.src,h.fix,h.id,.inr ?_,h.first,h.seed⟩
  show 1<=1+_/\1+_<=(3:Int)/\1<=1+_/\1+_<=(200:Int)
  omega
 split
 ·exact⟨h.own,h.loop,h.src,h.fix,h.id,h.lim,h.first,h.seed⟩
 split
 ·exact⟨h.own,h.loop,.inl (.inr rfl),h.fix,h.id,h.lim,h.first,h.seed⟩
 split
 ·exact⟨h.own,.inr rfl,.inr (.inl ⟨rfl,rfl⟩),h.fix,h.id,h.lim,h.first,h.seed⟩
 split
 ·refine⟨h.own,h.loop,.inr (.inr ⟨rfl,?_⟩),.inr ⟨?_,?_⟩,h.id,h.lim,h.first,h.seed⟩
  ·show 167837696<=167837696+_
   omega
  ·show 167837696<=167837696+_
   omega
  ·show 167837696+_<167837736
   omega
 ·exact h
theorem NP.od{i:Int}{x:ac}(h:NP i x){c:aI}(hc:bS c):NP i (tp x i c).1:=by
 have k:=h.way hc
 have kc:=Gw (x:=x) (i:=i) hc
 have a:=cW kc (n:=6) (by omega)
 have ca:=(bZ kc 6).1
 have b:=cW ca (n:=65536) (by omega)
 have cb:=(bZ ca 65536).1
 have e:=cW cb (n:=1000) (by omega)
 refine⟨k.own,k.loop,k.src,k.fix,?_,k.lim,k.first,k.seed⟩
 show (0<=(aj (fE x i c).2 6).1/\(aj (fE x i c).2 6).1<=5)/\(0<=(aj (aj (fE x i c).2 6).2 65536).1/\(aj (aj (fE x i c).2 6).2 65536).1<=65535)/\0<=(aj (aj (aj (fE x i c).2 6).2 65536).2 1000).1/\(aj (aj (aj (fE x i c).2 6).2 65536).2 1000).1<=1000000
 omega
theorem NP.opq{i:Int}{x:ac}(h:NP i x)(b:Bool):NP i (zJ x b):=⟨h.own,h.loop,h.src,h.fix,h.id,h.lim,h.first,h.seed⟩
def o6(ns:List ac):Prop:=∀ i:Nat,i<ns.length->NP i (ns.getD i default)
theorem o6.set{ns:List ac}(h:o6 ns){i:Nat}{x:ac}(hx:i<ns.length->NP i x):o6 (ns.set i x):=fun j hj=>by
 rw[List.length_set] at hj
 by_cases e:i=j
 ·subst e;rw[iA hj];exact hx hj
 ·rw[kJ e];exact h j hj
structure LK (l0 l:aE):Prop where
 a:lA l=lA l0
 b:lB l=lB l0
 d:kO l=kO l0
 s:rW l=rW l0
 j:0<=gV l/\gV l<=9
 o:0<=md l/\md l<=65536
theorem LK.od{l0 l:aE}(h:LK l0 l){c:aI}(hc:bS c):LK l0 (odLink l c).1:=by
 have a:=cW hc (n:=6) (by omega)
 have ca:=(bZ hc 6).1
 have b:=cW ca (n:=10) (by omega)
 have e:=cW ca (n:=3) (by omega)
 unfold odLink
 dsimp only
 split
 ·refine⟨h.a,h.b,h.d,h.s,?_,h.o⟩
  show 0<=(aj (aj c 6).2 10).1/\(aj (aj c 6).2 10).1<=9
  omega
 split
 ·refine⟨h.a,h.b,h.d,h.s,h.j,?_⟩
  show 0<=([65536,20000,3]:List Int).getD (aj (aj c 6).2 3).1.toNat default/\([65536,20000,3]:List Int).getD (aj (aj c 6).2 3).1.toNat default<=65536
  rcases (show (aj (aj c 6).2 3).1=0∨(aj (aj c 6).2 3).1=1∨(aj (aj c 6).2 3).1=2 by omega) with e|e|e <;> rw[e] <;> decide
 ·exact h
structure mV (ls0 ls:List aE):Prop where
 n:ls.length=ls0.length
 k:∀ i:Nat,i<ls0.length->LK (ls0.getD i default) (ls.getD i default)
theorem mV.set{ls0 ls:List aE}(h:mV ls0 ls){i:Nat}{x:aE}(hx:i<ls0.length->LK (ls0.getD i default) x):mV ls0 (ls.set i x):=by
 refine⟨by rw[List.length_set];exact h.n,fun j hj=>?_⟩
 by_cases e:i=j
 ·subst e;rw[iA (by rw[h.n];exact hj)];exact hx hj
 ·rw[kJ e];exact h.k j hj
theorem mV.mem{ls0 ls:List aE}(h:mV ls0 ls){l:aE}(hl:l∈ls):∃ l0∈ls0,LK l0 l:=by
 obtain⟨i,hi,e⟩:=List.mem_iff_getElem.1 hl
 have:=h.k i (by rw[← h.n];exact hi)
 rw[List.getD_eq_getElem?_getD (l:=ls),List.getElem?_eq_getElem hi,e] at this
 exact⟨_,mF (by rw[← h.n];exact hi),this⟩
theorem mV.lnk{ls0 ls:List aE}(h:mV ls0 ls){i k:Int}(hk:lnk ls0 i k):lnk ls i k:=by
 obtain⟨k0,k1,k2⟩:=hk
 have e:=h.k k.toNat (by omega)
 exact⟨k0,by rw[h.n];exact k1,by rw[e.a,e.b];exact k2⟩
theorem N4(i:Int):∀(k:Nat)(ls ls':List aE),ls'.length=ls.length->(∀ j:Nat,j<ls.length->lA (ls'.getD j default)=lA (ls.getD j default)/\lB (ls'.getD j default)=lB (ls.getD j default))->portsF i k ls'=portsF i k ls
 | k,[],[],_,_=>rfl
 | k,x::r,[],h,_=>by cases h
 | k,[],x::r,h,_=>by cases h
 | k,x::r,y::t,h,e=>by
  have e0:=e 0 (by simp)
  rw[List.getD_cons_zero,List.getD_cons_zero] at e0
  rw[portsF,portsF,m6,m6,e0.1,e0.2,N4 i (k+1) r t (by simpa using h) fun j hj=>by
   have:=e (j+1) (by simp;omega)
   rw[List.getD_cons_succ,List.getD_cons_succ] at this;exact this]
theorem mV.portsF{ls0 ls:List aE}(h:mV ls0 ls)(i:Int)(k:Nat):portsF i k ls=Go.RS.portsF i k ls0 :=
 N4 i k ls0 ls h.n fun j hj=>⟨(h.k j hj).a,(h.k j hj).b⟩
theorem kW.lk{ls0 ls:List aE}(h:mV ls0 ls){aa:List Int}{i:Int}{t:List Rt}(k:kW ls0 aa i t):kW ls aa i t :=
 ⟨k.1,fun r hr=>by
  have q:=k.2 r hr
  exact⟨q.len,q.mem,q.ne,q.pw,fun x hx=>h.lnk (q.ln x hx),q.w0,q.w1⟩⟩
structure CH (ns:List ac) (c:aM):Prop where
 at':0<=fY c/\fY c<=180
 w:0<=bu c/\bu c<ns.length
 r:qQ c=false
 p:∃ r∈aQ (ns.getD (bu c).toNat default),(db c).1=r.1/\(db c).2.2=r.2.2
 x:(db c).2.1=[]∨∃ q∈aA (ns.getD (bu c).toNat default),(db c).2.1=[q.2]
def zQ:List Int:=(List.range 10).flatMap fun (k:Nat)=>[dS k+1,dS k+2]
theorem OA{a:Int}{k:Nat}(hk:k<10)(h:a=dS k+1∨a=dS k+2):a∈zQ:=by
 refine List.mem_flatMap.2 ⟨k,List.mem_range.2 hk,?_⟩
 rcases h with h|h <;> rw[h] <;> simp
theorem kW.sub{ls:List aE}{aa bb:List Int}{i:Int}{t:List Rt}(h:kW ls aa i t)(hs:∀ a∈aa,a∈bb):kW ls bb i t :=
 ⟨h.1,fun r hr=>by
  have q:=h.2 r hr
  exact⟨q.len,hs _ q.mem,q.ne,q.pw,q.ln,q.w0,q.w1⟩⟩
structure DN (n:bw):Prop where
 n3:3<=n.1.length
 n7:n.1.length<=7
 l2:2<=n.2.1.length
 l10:n.2.1.length<=10
 h3:n.2.2.length<=3
 g:∀ x∈n.2.1,(0<=lA x/\lA x<n.1.length)/\(0<=lB x/\lB x<n.1.length)/\lA x≠lB x/\(1<=kO x/\kO x<=20)/\(0<=gV x/\gV x<=9)/\(0<=md x/\md x<=65536)/\0<=rW x/\rW x<=255
 p:∀ i:Nat,i<n.1.length->aA (n.1.getD i default)=portsF i 0 n.2.1
 d:o6 n.1
 t:∀ i:Nat,i<n.1.length->kW n.2.1 zQ i (aQ (n.1.getD i default))
 o:∀ x∈n.2.1,iH n.1 x=false
 c:∀ x∈n.2.2,CH n.1 x
 s:n.2.2.Pairwise fun a b=>fY a<=fY b
theorem Hn{s:aO}(h:o6 s.1.1)(hc:bS s.2):∀{i:Nat},i<=s.1.1.length->o6 (oN s i).1
 | 0,_=>h
 | i+1,hi=>by
  have k:=Hn h hc (i:=i) (by omega)
  have b:=(B1 s hc (i:=i) (by omega)).2
  rw[show ((i+1:Nat):Int)=(i:Int)+1 by omega,OM s (by omega)]
  unfold tO
  refine k.set fun hl=>?_
  have e:((i:Int).toNat:Nat)=i:=by omega
  rw[e] at hl ⊢
  exact (k i hl).od b
theorem TV{ns:List ac}(h:o6 ns){l:aE}(hl:0<=lB l):o6 (oY ns l):=by
 unfold oY
 split
 ·exact h.set fun hi=>(h _ hi).opq _
 ·exact h
theorem Qc{ns:List ac}{l:aE}(hb:0<=lB l/\lB l<ns.length):iH (oY ns l) l=false:=by
 unfold oY
 split
 ·unfold iH
  rw[iA (by omega)]
  exact Bool.and_false _
 ·rename_i h
  unfold iH
  cases h1:dq (ns.getD (lA l).toNat default) <;> cases h2:dq (ns.getD (lB l).toNat default) <;> simp_all
theorem Ra{ns:List ac}{l m:aE}(h:iH ns m=false):iH (oY ns l) m=false:=by
 unfold oY
 split
 ·have set_op:∀(i j:Nat),dq (ns.getD j default)=false->dq ((ns.set i (zJ (ns.getD i default) false)).getD j default)=false:=fun i j hj=>by
   by_cases e:i=j
   ·subst e
    by_cases hl:i<ns.length
    ·rw[iA hl];rfl
    ·rw[List.set_eq_of_length_le (by omega)];exact hj
   ·rw[kJ e];exact hj
  unfold iH at h ⊢
  rw[Bool.and_eq_false_iff] at h ⊢
  exact h.imp (set_op _ _) (set_op _ _)
 ·exact h
theorem Ka{ns:List ac}{l m:aE}(ha:lA l=lA m)(hb:lB l=lB m):iH ns l=iH ns m:=by unfold iH;rw[ha,hb]
structure KO (s:aO) (i:Nat):Prop where
 np:o6 (oL s i).1.1
 lk:mV s.1.2.1 (oL s i).1.2
 df:∀ k:Nat,k<i->iH (oL s i).1.1 (s.1.2.1.getD k default)=false
theorem ED{s:aO}(h:o6 s.1.1)(hc:bS s.2)(hg:fO s.1.1.length s.1.2.1)(hl:mV s.1.2.1 s.1.2.1):∀{i:Nat},i<=s.1.2.1.length->KO s i
 | 0,_=>⟨Hn h hc (Nat.le_refl _),hl,fun k hk=>by omega⟩
 | i+1,hi=>by
  have k:=ED h hc hg hl (i:=i) (by omega)
  obtain⟨ag,cb,ge,ll⟩:=tw s hc hg (i:=i) (by omega)
  have hb:=hg.at' (k:=i) (by omega)
  have e:((i:Int).toNat:Nat)=i:=by omega
  have lk1:=(k.lk.k i (by omega)).od cb
  have hn:=ag.n
  have step:oL s ((i+1:Nat):Int)=qq (oL s i) i:=by
   rw[show ((i+1:Nat):Int)=(i:Int)+1 by omega,On s (by omega),e]
  have fin:KO s (i+1):=by
   refine⟨?_,?_,fun j hj=>?_⟩
   ·rw[step];unfold qq;dsimp only
    refine TV k.np ?_
    rw[lk1.b];exact hb.2.1
   ·rw[step];unfold qq;dsimp only
    exact k.lk.set fun _=>lk1
   ·rw[step];unfold qq;dsimp only
    by_cases q:j=i
    ·subst q
     rw[← Ka (l:=(odLink ((oL s j).1.2.getD j default) (oL s j).2).1) lk1.a lk1.b]
     refine Qc ?_
     rw[lk1.b,hn];exact hb.2
    ·exact Ra (k.df j (by omega))
  exact fin
structure AN (ns:List ac) (m:Nat) (x:List aM×Int×aI):Prop where
 c:bS x.2.2
 a:0<=x.2.1/\x.2.1<=60*m
 n:x.1.length<=m
 h:∀ y∈x.1,CH ns y/\fY y<=x.2.1
 s:x.1.Pairwise fun a b=>fY a<=fY b
theorem AN.next{ns:List ac}{m:Nat}{x:List aM×Int×aI}(h:AN ns m x)(hm:m<3)(h0:0<ns.length)(hp:∀ x∈ns,aQ x≠[]->0<(aA x).length):AN ns (m+1) (mS ns x):=by
 have a:=cW h.c (n:=60) (by omega)
 have k1:=(bZ h.c 60).1
 have w:=cW k1 (n:=(ns.length:Int)) (by omega)
 have k2:=(bZ k1 (ns.length:Int)).1
 have ha:=h.a
 have hn:=h.n
 unfold mS
 dsimp only
 have hX:=bL (xs:=ns) w.1 w.2
 generalize eX:ns.getD (aj (aj x.2.2 60).2 (ns.length:Int)).1.toNat default=X at hX ⊢
 split
 ·refine⟨k2,?_,?_,fun y hy=>⟨(h.h y hy).1,?_⟩,h.s⟩
  ·show 0<=x.2.1+_/\x.2.1+_<=60*((m+1:Nat):Int)
   omega
  ·show x.1.length<=m+1
   omega
  ·have:=(h.h y hy).2
   show fY y<=x.2.1+_
   omega
 ·rename_i hr
  have hr':aQ X≠[]:=fun e=>hr (by rw[e];rfl)
  have q3:=cW k2 (n:=((aQ X).length:Int)) (by omega)
  have b3:=(bZ k2 ((aQ X).length:Int)).1
  have hpp:=hp X hX hr'
  have q4:=cW b3 (n:=((aA X).length:Int)) (by omega)
  have b4:=(bZ b3 ((aA X).length:Int)).1
  have b5:=(bZ b4 4).1
  refine⟨b5,?_,?_,fun y hy=>?_,?_⟩
  ·show 0<=x.2.1+_/\x.2.1+_<=60*((m+1:Nat):Int)
   omega
  ·show (x.1++[_]).length<=m+1
   rw[List.length_append,List.length_singleton];omega
  ·rcases List.mem_append.1 hy with hy|hy
   ·refine⟨(h.h y hy).1,?_⟩
    have:=(h.h y hy).2
    show fY y<=x.2.1+_
    omega
   ·rw[List.mem_singleton.1 hy]
    refine⟨⟨?_,w,rfl,?_,?_⟩,Int.le_refl _⟩
    ·show 0<=x.2.1+_/\x.2.1+_<=180
     omega
    ·refine⟨(aQ X).getD (aj (aj (aj x.2.2 60).2 (ns.length:Int)).2 ((aQ X).length:Int)).1.toNat default,?_,rfl,rfl⟩
     show _∈aQ (ns.getD (aj (aj x.2.2 60).2 (ns.length:Int)).1.toNat default)
     rw[eX]
     exact bL q3.1 q3.2
    ·by_cases hz:(aj (aj (aj (aj (aj x.2.2 60).2 (ns.length:Int)).2 ((aQ X).length:Int)).2 ((aA X).length:Int)).2 4).1=3
     ·exact .inl (if_pos hz)
     ·refine .inr ⟨(aA X).getD (aj (aj (aj (aj x.2.2 60).2 (ns.length:Int)).2 ((aQ X).length:Int)).2 ((aA X).length:Int)).1.toNat default,?_,if_neg hz⟩
      show _∈aA (ns.getD (aj (aj x.2.2 60).2 (ns.length:Int)).1.toNat default)
      rw[eX]
      exact bL q4.1 q4.2
  ·refine List.pairwise_append.2 ⟨h.s,List.pairwise_singleton _ _,fun y hy z hz=>?_⟩
   have:=(h.h y hy).2
   rw[List.mem_singleton.1 hz]
   show fY y<=x.2.1+_
   omega
theorem wR{α:Type} [Inhabited α] {l:List α} {x:α} (h:x∈l):∃ i:Nat,i<l.length/\l.getD i default=x:=by
 obtain⟨i,hi,e⟩:=List.mem_iff_getElem.1 h
 exact⟨i,hi,by rw[List.getD_eq_getElem?_getD,List.getElem?_eq_getElem hi,e];rfl⟩
theorem RS.np{s r:aO}{nn nl:Nat}(h:RS s nn nl r):o6 r.1.1:=fun i hi=>by
 have hi':i<nn:=by have:=h.i.n;have:=h.g.n;omega
 obtain⟨host,f,sd,hd,hf,h0,h1⟩:=h.g.d i hi'
 have e:=h.i.e i (by rw[h.g.n];exact hi')
 exact NP.routes (NP.same (NP.new (host:=host) hf h0 h1) hd.symm) e.symm
theorem RS.opq{s r:aO}{nn nl:Nat}(h:RS s nn nl r){i:Nat}(hi:i<nn):dq (r.1.1.getD i default)=false:=by
 obtain⟨host,f,sd,hd,-⟩:=h.g.d i hi
 have e:=congrArg dq (h.i.e i (by rw[h.g.n];exact hi))
 have e2:dq (s.1.1.getD i default)=dq (o9 i host f sd):=congrArg (fun z=>dq (([]:List (Int×Int)),z)) hd
 exact e.trans e2
theorem RS.adr{s r:aO}{nn nl:Nat}(h:RS s nn nl r)(hl:nl<=10):∀ a∈fZ s.1.1,a∈zQ:=fun a ha=>by
 unfold fZ at ha
 obtain⟨x,hx,ha⟩:=List.mem_flatMap.1 ha
 obtain⟨q,hq,rfl⟩:=List.mem_map.1 ha
 obtain⟨i,hi,rfl⟩:=wR hx
 rw[h.g.p i (by rw[← h.g.n];exact hi)] at hq
 obtain⟨j,hj,e⟩:=xy.1 hq
 rw[h.g.l] at hj
 rw[Nat.zero_add] at e
 rcases e with⟨-,rfl⟩|⟨-,rfl⟩
 ·exact OA (k:=j) (by omega) (.inl rfl)
 ·exact OA (k:=j) (by omega) (.inr rfl)
theorem RS.links{s r:aO}{nn nl:Nat}(h:RS s nn nl r):r.1.2.1=s.1.2.1:=congrArg Prod.fst h.l
theorem RS.lk{s r:aO}{nn nl:Nat}(h:RS s nn nl r):mV r.1.2.1 r.1.2.1:=⟨rfl,fun i hi=>by
 rw[h.links] at hi ⊢
 have:=h.g.g _ (mF hi)
 exact⟨rfl,rfl,rfl,rfl,by omega,by omega⟩⟩
theorem RS.dn{s r:aO}{nn nl:Nat}(h:RS s nn nl r)(n3:3<=nn)(n7:nn<=7)(l2:2<=nl)(l10:nl<=10):DN r.1:=by
 have rn:r.1.1.length=nn:=h.i.n.trans h.g.n
 have rl:=h.links
 have rh:r.1.2.2=[]:=(congrArg Prod.snd h.l).trans h.g.h
 refine⟨by omega,by omega,by rw[rl,h.g.l];exact l2,by rw[rl,h.g.l];exact l10,by rw[rh];exact Nat.zero_le _,fun x hx=>?_,fun i hi=>?_,h.np,fun i hi=>?_,fun x hx=>?_,fun x hx=>?_,?_⟩
 ·rw[rl] at hx
  have:=h.g.g x hx
  rw[rn];omega
 ·rw[rl];exact h.ports (by omega)
 ·rw[rl];exact (h.tab (by omega)).sub (h.adr l10)
 ·rw[rl] at hx
  have g:=h.g.g x hx
  unfold iH
  rw[h.opq (i:=(lA x).toNat) (by omega)];rfl
 ·rw[rh] at hx;cases hx
 ·rw[rh];exact List.Pairwise.nil
theorem HZ{s:aO}(h:bS s.2)(hg:fO s.1.1.length s.1.2.1)(h0:0<s.1.1.length)(hp:∀ x∈(oL s s.1.2.1.length).1.1,aQ x≠[]->0<(aA x).length):∀ i:Nat,i<=3->AN (oL s s.1.2.1.length).1.1 i (oC s i)
 | 0,_=>⟨(bZ (tw s h hg (Int.le_refl _)).2.1 4).1,⟨Int.le_refl _,Int.le_refl _⟩,Nat.le_refl _,fun y hy=>(by cases hy),List.Pairwise.nil⟩
 | i+1,hi=>by
  rw[FF]
  exact (HZ h hg h0 hp i (by omega)).next (by omega) (by rw[(tw s h hg (Int.le_refl _)).1.n];exact h0) hp
theorem RS.odd{s r:aO}{nn nl:Nat}(h:RS s nn nl r)(n3:3<=nn)(n7:nn<=7)(l2:2<=nl)(l10:nl<=10):DN (ma r).1:=by
 have rn:r.1.1.length=nn:=h.i.n.trans h.g.n
 have rl:=h.links
 have pre:=h.preO (by omega) (by omega) (by omega)
 have ok:=tw r h.c pre.g (i:=r.1.2.1.length) (Int.le_refl _)
 have inv:=ED h.np h.c pre.g h.lk (i:=r.1.2.1.length) (Nat.le_refl _)
 have ag:=ok.1
 have e:(ma r).1=((oL r r.1.2.1.length).1.1,(oL r r.1.2.1.length).1.2,(oC r (oK r).toNat).1):=by
  unfold ma oC oK oL oN
  rfl
 have kk:=cW ok.2.1 (n:=4) (by omega)
 have hp:∀ x∈(oL r r.1.2.1.length).1.1,aQ x≠[]->0<(aA x).length:=fun x hx hr=>by
  obtain⟨i,hi,rfl⟩:=wR hx
  have q:=ag.e i (by rw[← ag.n];exact hi)
  rw[q.1]
  rw[q.2] at hr
  exact (pre.p _ (mF (by rw[← ag.n];exact hi)) hr).1
 have oc:=HZ h.c pre.g pre.n0 hp (oK r).toNat (by unfold oK;omega)
 rw[e]
 have ln:(oL r r.1.2.1.length).1.1.length=nn:=ag.n.trans rn
 have ll:(oL r r.1.2.1.length).1.2.length=nl:=by rw[inv.lk.n,rl,h.g.l]
 refine⟨by rw[ln];exact n3,by rw[ln];exact n7,by rw[ll];exact l2,by rw[ll];exact l10,?_,fun x hx=>?_,fun i hi=>?_,inv.np,fun i hi=>?_,fun x hx=>?_,fun x hx=>(oc.h x hx).1,oc.s⟩
 ·have:=oc.n
  have:(oK r).toNat<=3:=by unfold oK;omega
  dsimp only
  omega
 ·obtain⟨l0,hl0,k⟩:=inv.lk.mem hx
  rw[rl] at hl0
  have g:=h.g.g l0 hl0
  have ka:=k.a;have kb:=k.b;have kd:=k.d;have ks:=k.s;have kj:=k.j;have ko:=k.o
  rw[ln,ka,kb,kd,ks]
  omega
 ·dsimp only at hi ⊢
  rw[(ag.e i (by omega)).1,h.ports (by omega),inv.lk.portsF,rl]
 ·dsimp only at hi ⊢
  rw[(ag.e i (by omega)).2]
  refine kW.sub (kW.lk inv.lk ?_) (h.adr l10)
  rw[rl]
  exact h.tab (by omega)
 ·dsimp only at hx ⊢
  obtain⟨i,hi,rfl⟩:=wR hx
  have hi':i<r.1.2.1.length:=by rw[← inv.lk.n];exact hi
  have k:=inv.lk.k i hi'
  rw[Ka k.a k.b]
  exact inv.df i hi'
theorem OL{c:aI}(h:bS c)(plain:Bool):DN (o3 plain c):=by
 have hn:=rD h
 obtain⟨m,m2,m10,G⟩:=AS h plain
 have R:=G.rs plain
 unfold o3 yH
 cases plain with
 | true=>exact R.dn (by omega) (by omega) m2 m10
 | false=>exact R.odd (by omega) (by omega) m2 m10
theorem am5{c:aI}(h:bS c)(plain:Bool):bS (wm plain c):=by
 obtain⟨m,m2,m10,G⟩:=AS h plain
 have R:=G.rs plain
 unfold wm yH
 cases plain with
 | true=>exact R.c
 | false =>
  have hn:=rD h
  have pre:=R.preO (by omega) (by omega) (by omega)
  exact (C7 _ R.c pre.g _).1
end Go.RS

/- Drawn2: drawn networks have no error; who has an address; routes. -/
namespace Go.RS
open Go.SX Go.Proofs
set_option maxRecDepth 100000
set_option linter.unusedVariables false
theorem DN.port{n:bw}(h:DN n){i:Nat}(hi:i<n.1.length){q:mg}:q∈aA (n.1.getD i default)↔∃ j:Nat,j<n.2.1.length/\((lA (n.2.1.getD j default)=i/\q=(dS j+1,(j:Int)))∨(lB (n.2.1.getD j default)=i/\q=(dS j+2,(j:Int)))):=by
 rw[h.p i hi,xy];simp only[Nat.zero_add]
theorem DN.links{n:bw}(h:DN n){i:Nat}(hi:i<n.1.length){k:Int}:k∈bv (n.1.getD i default)↔lnk n.2.1 i k:=by
 unfold bv lnk
 rw[List.mem_map]
 constructor
 ·rintro⟨q,hq,rfl⟩
  obtain⟨j,hj,e⟩:=(h.port hi).1 hq
  rcases e with⟨e,rfl⟩|⟨e,rfl⟩
  ·exact⟨by dsimp only;omega,by dsimp only;omega,.inl (by simpa using e)⟩
  ·exact⟨by dsimp only;omega,by dsimp only;omega,.inr (by simpa using e)⟩
 ·rintro⟨k0,k1,e⟩
  have ek:((k.toNat:Nat):Int)=k:=by omega
  rcases e with e|e
  ·exact⟨_,(h.port hi).2 ⟨k.toNat,by omega,.inl ⟨e,rfl⟩⟩,ek⟩
  ·exact⟨_,(h.port hi).2 ⟨k.toNat,by omega,.inr ⟨e,rfl⟩⟩,ek⟩
theorem DN.uniq{n:bw}(h:DN n){i j:Nat}(hi:i<n.1.length)(hj:j<n.1.length){q p:mg}(hq:q∈aA (n.1.getD i default))(hp:p∈aA (n.1.getD j default))(e:q.1=p.1):i=j/\q.2=p.2:=by
 obtain⟨a,ha,ea⟩:=(h.port hi).1 hq
 obtain⟨b,hb,eb⟩:=(h.port hj).1 hp
 unfold dS at ea eb
 rcases ea with⟨ea,rfl⟩|⟨ea,rfl⟩ <;> rcases eb with⟨eb,rfl⟩|⟨eb,rfl⟩ <;> dsimp only at e ⊢
 ·have:a=b:=by omega
  subst this;omega
 ·omega
 ·omega
 ·have:a=b:=by omega
  subst this;omega
theorem DN.padr{n:bw}(h:DN n){i:Nat}(hi:i<n.1.length){a:Int}(ha:a∈nQ (n.1.getD i default)):167837697<=a/\a<=167837734:=by
 obtain⟨q,hq,rfl⟩:=List.mem_map.1 ha
 obtain⟨b,hb,eb⟩:=(h.port hi).1 hq
 have:=h.l10
 unfold dS at eb
 rcases eb with⟨eb,rfl⟩|⟨eb,rfl⟩ <;> dsimp only <;> omega
theorem DN.loop{n:bw}(h:DN n){i:Nat}(hi:i<n.1.length):gg (n.1.getD i default)=0∨gg (n.1.getD i default)=167903232+i:=(h.d i hi).loop
theorem R7{x:ac}{a:Int}:a∈fc x↔a∈nQ x∨(gg x≠0/\a=gg x):=by
 unfold fc
 rw[List.mem_append]
 by_cases e:gg x=0
 ·rw[if_pos e];simp[e]
 ·rw[if_neg e];simp[e]
theorem DN.apart{n:bw}(h:DN n){i j:Nat}(hi:i<n.1.length)(hj:j<n.1.length){a:Int}(ha:a∈fc (n.1.getD i default))(hb:a∈fc (n.1.getD j default)):i=j:=by
 rw[R7] at ha hb
 have li:=h.loop hi
 have lj:=h.loop hj
 rcases ha with ha|ha <;> rcases hb with hb|hb
 ·obtain⟨q,hq,e⟩:=List.mem_map.1 ha
  obtain⟨p,hp,e2⟩:=List.mem_map.1 hb
  exact (h.uniq hi hj hq hp (e.trans e2.symm)).1
 ·have:=h.padr hi ha;omega
 ·have:=h.padr hj hb;omega
 ·omega
theorem Mg{ls:List aE}{i:Int}{t:List Rt}(h:kW ls zQ i t):t.length<=20:=CG h
theorem av4{ls:List aE}{k:Int}(k0:0<=k)(k1:k<ls.length):fF ls k (lA (ls.getD k.toNat default))=lB (ls.getD k.toNat default):=by
 unfold fF;rw[if_neg (by omega),if_pos rfl]
theorem an2{ls:List aE}{k:Int}(k0:0<=k)(k1:k<ls.length)(hn:lA (ls.getD k.toNat default)≠lB (ls.getD k.toNat default)):fF ls k (lB (ls.getD k.toNat default))=lA (ls.getD k.toNat default):=by
 unfold fF;rw[if_neg (by omega),if_neg (fun e=>hn e.symm),if_pos rfl]
theorem ac2{l:List Rt}{c:aM}{r:Rt}(h:r∈fK l c):r=db c∨r∈l:=by
 unfold fK at h
 split at h
 ·exact .inr (List.mem_filter.1 h).1
 ·rcases GQ.1 h with h|h
  ·exact .inl h
  ·exact .inr h.1
theorem ZF{n:bw}{who at':Int}(w0:0<=who)(w1:who<n.1.length){P:Rt->Prop}(h0:∀ r∈aQ (n.1.getD who.toNat default),P r)(hc:∀ c∈n.2.2,bu c=who->P (db c)):∀ r∈Es n who at',P r:=by
 unfold Es G9
 rw[if_neg (by omega)]
 have e:∀(l:List aM)(t:List Rt),(∀ c∈l,bu c=who->P (db c))->(∀ r∈t,P r)→∀ r∈l.foldl (EH who at') t,P r:=by
  intro l
  induction l with
  | nil=>intro t _ h;exact h
  | cons c l ih =>
   intro t hl ht
   rw[List.foldl_cons]
   refine ih _ (fun x hx=>hl x (List.mem_cons_of_mem _ hx)) fun r hr=>?_
   unfold EH at hr
   split at hr
   ·rename_i q
    rcases ac2 hr with rfl|hr
    ·exact hl c List.mem_cons_self q.1
    ·exact ht r hr
   ·exact ht r hr
 exact e _ _ (fun c hc'=>hc c (List.mem_of_mem_take hc')) h0
theorem DN.next{n:bw}(h:DN n){who at':Int}(w0:0<=who)(w1:who<n.1.length):∀ r∈Es n who at',∀ k∈r.2.1,lnk n.2.1 who k:=by
 have ew:((who.toNat:Nat):Int)=who:=by omega
 refine ZF w0 w1 (fun r hr k hk=>?_) (fun c hc hw k hk=>?_)
 ·have:=((h.t who.toNat (by omega)).2 r hr).ln k hk
  rw[ew] at this;exact this
 ·have q:=(h.c c hc).x
  rw[hw] at q
  rcases q with e|⟨q,hq,e⟩
  ·rw[e] at hk;cases hk
  ·rw[e] at hk
   rw[List.mem_singleton.1 hk]
   have:=(h.links (i:=who.toNat) (by omega)).1 (List.mem_map.2 ⟨q,hq,rfl⟩)
   rw[ew] at this;exact this
theorem DN.other{n:bw}(h:DN n){who k:Int}(hk:lnk n.2.1 who k):0<=fF n.2.1 k who/\fF n.2.1 k who<n.1.length:=by
 obtain⟨k0,k1,e⟩:=hk
 have g:=h.g _ (bL k0 k1)
 rcases e with e|e
 ·rw[← e,av4 k0 k1];exact g.2.1
 ·rw[← e,an2 k0 k1 g.2.2.1];exact g.1
end Go.RS

/- Drawn3: each node of a drawn network has a port. -/
namespace Go.RS
open Go.SX Go.Proofs
set_option maxRecDepth 100000
set_option linter.unusedVariables false
def iT(ls:List aE)(i:Int):Prop:=∃ l∈ls,lA l=i∨lB l=i
theorem iT.app{ls:List aE}{i:Int}(h:iT ls i)(m:List aE):iT (ls++m) i:=by
 obtain⟨l,hl,e⟩:=h
 exact⟨l,List.mem_append_left _ hl,e⟩
theorem iT.link{s:aO}{i:Int}(h:iT s.1.2.1 i)(a b:Int):iT (gm s a b).1.2.1 i:=h.app _
theorem IB(s:aO)(a b:Int):iT (gm s a b).1.2.1 a:=⟨_,List.mem_append_right _ List.mem_cons_self,.inl rfl⟩
theorem ak9(s:aO)(a b:Int):iT (gm s a b).1.2.1 b:=⟨_,List.mem_append_right _ List.mem_cons_self,.inr rfl⟩
theorem IW(s:aO):∀ k j:Nat,j<k->iT ((List.range k).foldl oq s).1.2.1 j
 | 0,j,h=>absurd h (Nat.not_lt_zero _)
 | k+1,j,h=>by
  rw[List.range_succ,List.foldl_append]
  by_cases e:j<k
  ·exact (IW s k j e).link (s:=iz ((List.range k).foldl oq s) false) _ _
  ·have:j=k:=by omega
   subst this
   exact IB _ _ _
theorem Yr{c:aI}(h:bS c){j:Nat}(hj:j<(bg c).toNat+2):iT (kT c).2.1.2.1 j:=by
 have hn:=rD h
 rw[FB]
 by_cases e:j<(bg c).toNat
 ·exact (IW _ _ _ e).link (s:=iz ((List.range (bg c).toNat).foldl oq (rR c)) true) _ _
 by_cases e2:j=(bg c).toNat
 ·rw[show ((j:Nat):Int)=bg c by omega];exact IB _ _ _
 ·rw[show ((j:Nat):Int)=bg c+1 by omega];exact ak9 _ _ _
theorem V7{s:aO}{i:Int}(h:iT s.1.2.1 i)(n:Int):iT (pI n s).1.2.1 i:=by
 unfold pI
 dsimp only
 split
 ·exact h
 ·exact iT.app h _
theorem OD{n i:Int}:∀(k:Nat){s:aO},iT s.1.2.1 i->iT ((List.range k).foldl (fun s _=>pI n s) s).1.2.1 i
 | 0,s,h=>h
 | k+1,s,h=>by
  rw[List.range_succ,List.foldl_append]
  exact V7 (OD k h) n
theorem Qq{s:aO}{i:Int}(h:iT s.1.2.1 i)(plain:Bool)(n:Int):iT (ux plain n s).1.2.1 i:=by
 rw[EA]
 dsimp only
 have h1:iT (nU plain n s (aj s.2 4).1.toNat).1.2.1 i:=by
  unfold nU
  split
  ·exact OD _ h
  ·exact h
 generalize nU plain n s (aj s.2 4).1.toNat=t at h1 ⊢
 split
 ·split
  ·exact iT.app h1 _
  ·exact h1
 ·exact h1
theorem aa9{s r:aO}{nn nl:Nat}(h:RS s nn nl r)(n3:3<=nn)(n7:nn<=7)(l10:nl<=10){i:Int}(ht:iT r.1.2.1 i):iT (ma r).1.2.1 i:=by
 have pre:=h.preO (by omega) (by omega) (by omega)
 have inv:=ED h.np h.c pre.g h.lk (i:=r.1.2.1.length) (Nat.le_refl _)
 have e:(ma r).1.2.1=(oL r r.1.2.1.length).1.2:=by
  unfold ma oL oN
  rfl
 rw[e]
 obtain⟨l,hl,q⟩:=ht
 obtain⟨j,hj,rfl⟩:=wR hl
 have k:=inv.lk.k j hj
 refine⟨_,mF (by rw[inv.lk.n];exact hj),?_⟩
 rw[k.a,k.b];exact q
theorem US{s r:aO}{nn nl:Nat}(h:RS s nn nl r)(n3:3<=nn)(n7:nn<=7)(l10:nl<=10):(ma r).1.1.length=r.1.1.length:=by
 have pre:=h.preO (by omega) (by omega) (by omega)
 have ok:=tw r h.c pre.g (i:=r.1.2.1.length) (Int.le_refl _)
 have e:(ma r).1.1=(oL r r.1.2.1.length).1.1:=by
  unfold ma oL oN
  rfl
 rw[e]
 exact ok.1.n
theorem RQ{c:aI}(h:bS c)(plain:Bool){i:Nat}(hi:i<(o3 plain c).1.length):iT (o3 plain c).2.1 i:=by
 have hn:=rD h
 obtain⟨m,m2,m10,G⟩:=AS h plain
 have R:=G.rs plain
 have rn:=R.i.n.trans R.g.n
 have t:=fun j=>fun (hj:j<(bg c).toNat+2)=>Qq (Yr h hj) plain (kT c).1
 unfold o3 yH at hi ⊢
 dsimp only at hi ⊢
 cases plain with
 | true =>
  rw[if_pos rfl] at hi ⊢
  rw[R.links]
  exact t i (by rw[← rn];exact hi)
 | false =>
  rw[if_neg (by decide)] at hi ⊢
  have ol:=US R (by omega) (by omega) m10
  refine aa9 R (by omega) (by omega) m10 ?_
  rw[R.links]
  exact t i (by rw[← rn];omega)
theorem am4{c:aI}(h:bS c)(plain:Bool){i:Nat}(hi:i<(o3 plain c).1.length):0<(aA ((o3 plain c).1.getD i default)).length:=by
 have D:=OL h plain
 obtain⟨l,hl,q⟩:=RQ h plain hi
 obtain⟨j,hj,rfl⟩:=wR hl
 rcases q with q|q
 ·exact List.length_pos_of_mem ((D.port hi).2 ⟨j,hj,.inl ⟨q,rfl⟩⟩)
 ·exact List.length_pos_of_mem ((D.port hi).2 ⟨j,hj,.inr ⟨q,rfl⟩⟩)
end Go.RS

/- Law12: the laws of buckets. -/
namespace Go.RS
open Go.SX Go.Proofs
set_option maxRecDepth 100000
set_option linter.unusedVariables false
end Go.RS

/- Law13: what a node does with several packets; a packet that is an answer or damaged is never answered. -/
namespace Go.RS
open Go.SX Go.Proofs
set_option maxRecDepth 100000
set_option linter.unusedVariables false
def o5(x:ac):Prop:=(∀ y∈aA x,u32 y.1)/\u32 (gg x)/\u32 (nP x)
theorem ao2{n:bw}(h:DN n){i:Nat}(hi:i<n.1.length):o5 (n.1.getD i default):=by
 have d:=h.d i hi
 have l10:=h.l10
 have n7:=h.n7
 refine⟨fun y hy=>?_,?_,?_⟩
 ·obtain⟨j,hj,q⟩:=(h.port hi).1 hy
  unfold dS at q
  rcases q with⟨-,rfl⟩|⟨-,rfl⟩ <;> (constructor <;> simp only <;> omega)
 ·rcases d.loop with q|q <;> (rw[q];constructor <;> omega)
 ·rcases d.fix with q|q
  ·rw[q];constructor <;> omega
  ·constructor <;> omega
def K7:Ct:=⟨[.agg xi],[.val (.sl bj),.val cI],fun d=>[],fun d=>((build d.1,dI d.1,()),())⟩
def UM:ar K7.ps->az:=(fun _=>{})
theorem ai1 :
 ∀(a b c d e f:Int),((0<=a/\a<=4294967295)/\(0<=b/\b<=4294967295)/\ab c/\ab d/\ab e/\ab f)/\True->True->ad (! decide (dI (a,b,c,d,e,f)=0)) (([]:List Int)=build (a,b,c,d,e,f)/\dI (a,b,c,d,e,f)=dI (a,b,c,d,e,f)) (dI (a,b,c,d,e,f)=0/\((List.length (dB (a,b,c,d,e,f))):Int)<=1073741824/\cQ (((0:Int),e,f,c,true,a,b),dB (a,b,c,d,e,f))=build (a,b,c,d,e,f)/\da (((0:Int),e,f,c,true,a,b),dB (a,b,c,d,e,f))=dI (a,b,c,d,e,f)):=by
  rintro s d pr f t l - -
  refine ae (fun h=>?_) (fun h=>?_)
  ·have h:¬ dI (s,d,pr,f,t,l)=0:=by simpa using h
   rw[build,if_neg h];exact⟨rfl,rfl⟩
  have h:dI (s,d,pr,f,t,l)=0:=by simpa using h
  have e0:=H2 h
  have hl:=yc h
  refine⟨h,by omega,?_⟩
  rw[build,if_pos h,h]
  exact⟨rfl,e0⟩
theorem Jm:ax Tryz.prog GL 34 K7.spec:=Ct.okH _ Tryz.func34 (by kernel_rfl) (ah (ah (ah aD I6) Td) Q8) av UM (aC (by kernel_rfl) ai1)
theorem Mi{B:Int->Int->List Int}{F:Int->Int}{w:cD}{own:Int}(h:F 0≠0):(cz B F w own).2.2≠2:=by
 by_cases k:own=0/\jM w.1=true
 ·rw[uc k];show (4:Int)≠2;decide
 ·rw[tc k h];show (6:Int)≠2;decide
theorem AC{b:List Int}(h:¬ cq b)(k c i t:Int):ft b k c i t≠0:=by
 unfold ft
 by_cases g:oT k c i t
 ·rw[if_neg (by simpa using g),if_neg h];decide
 ·rw[if_pos g];decide
theorem JE{b:List Int}(h:¬ cq b)(i t:Int):fa b i t≠0:=by
 unfold fa
 by_cases g:gc i t
 ·rw[if_neg (by simpa using g),if_neg (fun k=>h k.1)];decide
 ·rw[if_pos g];decide
theorem UC{x:ac}{s:bq}{lk t:Int}{b:List Int}(h:¬ cq b):(dJ x s lk t b).2.2≠2:=by
 unfold dJ dP
 split
 ·show (6:Int)≠2;decide
 split
 ·unfold gf
  rw[if_pos (.inr (by exact JE h _ _))]
  show (1:Int)≠2;decide
 split
 ·show (6:Int)≠2;decide
 unfold dR
 split
 ·exact Mi (AC h _ _ _ _)
 split
 ·split
  ·show (8:Int)≠2;decide
  ·exact Mi (AC h _ _ _ _)
 ·show (0:Int)≠2;decide
theorem Ed{B:Int->Int->List Int}{F:Int->Int}{w:cD}{own:Int}:(cz B F w own).2.2≠0/\(cz B F w own).2.2≠1:=by
 by_cases k:own=0/\jM w.1=true
 ·rw[uc k];exact⟨(by show (4:Int)≠0;decide),(by show (4:Int)≠1;decide)⟩
 by_cases k1:F 0≠0
 ·rw[tc k k1];exact⟨(by show (6:Int)≠0;decide),(by show (6:Int)≠1;decide)⟩
 by_cases k2:eM w.2.1 (kq w.2.2.2.2.2)=false
 ·rw[vX k k1 k2];exact⟨(by show (8:Int)≠0;decide),(by show (8:Int)≠1;decide)⟩
 by_cases k3:(jn w).2=false
 ·rw[ur k k1 k2 k3];exact⟨(by show (5:Int)≠0;decide),(by show (5:Int)≠1;decide)⟩
 ·rw[uw k k1 k2 k3];exact⟨(by show (2:Int)≠0;decide),(by show (2:Int)≠1;decide)⟩
structure Hf (x:ac) (s:bq) (lk:Int) (b:List Int):Prop where
 dec:bW b=0
 own:¬ jV x (gS (aR b).1)=true
 host:¬ (lH x=true/\lk ≠ -1)
 ttl:¬ (lk ≠ -1/\dq x=false/\uV (aR b).1<2)
 way:¬ eM s (gS (aR b).1)=false
def zS(s:bq)(b:List Int):Rt:=aZ (bh s) (gS (aR b).1)
theorem BR{x:ac}{s:bq}{lk t:Int}{b:List Int}(h:Hf x s lk b):dJ x s lk t b=(fy s (zS s b),(ib x s (zS s b) (fv b),if lk ≠ -1/\dq x=false then gN b else b),0):=by
 show dP (x,s,lk,t,b,m8)=_
 unfold dP
 rw[if_neg (by simpa using h.dec),if_neg h.own,if_neg h.host]
 have e:∀ w:cD,w.1=x->w.2.1=s->w.2.2.1=lk->w.2.2.2.2.1=b->w.2.2.2.2.2=(aR b).1->dR w=(fy s (zS s b),(ib x s (zS s b) (fv b),if lk ≠ -1/\dq x=false then gN b else b),0):=by
  intro w e1 e2 e3 e4 e5
  unfold dR
  rw[e1,e2,e3,e4,e5,if_neg h.ttl,if_neg h.way]
  rfl
 exact e _ rfl rfl rfl rfl rfl
theorem CS{x:ac}{s:bq}{lk t:Int}{b:List Int}(h:(dJ x s lk t b).2.2=0):Hf x s lk b:=by
 have h:(dP (x,s,lk,t,b,m8)).2.2=0:=h
 unfold dP at h
 by_cases k1:bW b≠0
 ·rw[if_pos k1] at h;exact absurd h (by show (6:Int)≠0;decide)
 rw[if_neg k1] at h
 by_cases k2:jV x (gS (aR b).1)=true
 ·rw[if_pos k2] at h
  unfold gf at h
  split at h
  ·exact absurd h (by show (1:Int)≠0;decide)
  ·exact absurd h Ed.1
 rw[if_neg k2] at h
 by_cases k4:lH x=true/\lk ≠ -1
 ·rw[if_pos k4] at h;exact absurd h (by show (6:Int)≠0;decide)
 rw[if_neg k4] at h
 unfold dR at h
 split at h
 ·exact absurd h Ed.1
 rename_i k5
 split at h
 ·split at h
  ·exact absurd h (by show (8:Int)≠0;decide)
  ·exact absurd h Ed.1
 rename_i k6
 exact⟨by simpa using k1,k2,k4,k5,k6⟩
theorem Za{p:bN}(g:cN p):bW (build p)=0/\(aR (build p)).1=po p:=by
 have h:=HK g.ok g.s g.d
 exact⟨h.2.1,by rw[aR,if_pos h.2.1];exact h.1⟩
def Cc(x:ac)(s s':bq)(t why:Int):Prop :=
 bh s'=bh s/\(jc s').length=(jc s).length ∧
  ((why≠2/\mK s'=mK s/\(pt s'=pt s∨(pt s'=(ix (iq x) (pt s) t).1/\(ix (iq x) (pt s) t).2=false))) ∨
    (why=2/\mK s'=IntKind.i64.wrap (mK s+1)/\pt s'=(ix (iq x) (pt s) t).1/\(ix (iq x) (pt s) t).2=true))
theorem ud{x:ac}{s:bq}{t why:Int}(h:why≠2):Cc x s s t why:=⟨rfl,rfl,.inl ⟨h,rfl,.inl rfl⟩⟩
theorem Q6(l:List Int)(i:Int):(nV l i).length=l.length:=by
 unfold nV;split
 ·exact List.length_set
 ·rfl
theorem Dr{B:Int->Int->List Int}{F:Int->Int}{w:cD}{own:Int}:Cc w.1 w.2.1 (cz B F w own).1 w.2.2.2.1 (cz B F w own).2.2:=by
 by_cases k:own=0/\jM w.1=true
 ·rw[uc k];exact ud (by show (4:Int)≠2;decide)
 by_cases k1:F 0≠0
 ·rw[tc k k1];exact ud (by show (6:Int)≠2;decide)
 by_cases k2:eM w.2.1 (kq w.2.2.2.2.2)=false
 ·rw[vX k k1 k2];exact ud (by show (8:Int)≠2;decide)
 by_cases k3:(jn w).2=false
 ·rw[ur k k1 k2 k3];exact⟨rfl,rfl,.inl ⟨(by show (5:Int)≠2;decide),rfl,.inr ⟨rfl,k3⟩⟩⟩
 ·rw[uw k k1 k2 k3]
  have k4:(jn w).2=true:=by simpa using k3
  refine⟨?_,?_,.inr ⟨rfl,?_,?_,k4⟩⟩
  ·rw[u7];rfl
  ·rw[u7];exact Q6 _ _
  ·rw[u7];rfl
  ·rw[u7];rfl
theorem Mu(x:ac)(s:bq)(lk t:Int)(b:List Int):Cc x s (dJ x s lk t b).1 t (dJ x s lk t b).2.2:=by
 unfold dJ dP
 split
 ·exact ud (by show (6:Int)≠2;decide)
 split
 ·unfold gf
  split
  ·exact ud (by show (1:Int)≠2;decide)
  ·exact Dr (w:=sI (x,s,lk,t,b,m8) (aR b).1)
 split
 ·exact ud (by show (6:Int)≠2;decide)
 unfold dR
 split
 ·exact Dr (w:=sI (x,s,lk,t,b,m8) (aR b).1)
 split
 ·split
  ·exact ud (by show (8:Int)≠2;decide)
  ·exact Dr (w:=sI (x,s,lk,t,b,m8) (aR b).1)
 ·refine⟨?_,?_,.inl ⟨(by show (0:Int)≠2;decide),?_,.inl ?_⟩⟩ <;> (rw[u7];rfl)
theorem IF{n:ac}{s:bq}{port a asked dst:Int}(hb:0<=kH n/\kH n<=65535)(ha:0<=asked/\asked<=65535):0<=jF n s port a asked dst/\jF n s port a asked dst<=65535:=by
 have hc:∀ x,0<=oI n x a/\oI n x a<=65535:=fun x=>by unfold oI;omega
 have hh:0<=mb (kH n) (0,dst,0,mK s,0)%65536/\mb (kH n) (0,dst,0,mK s,0)%65536<=65535:=by omega
 unfold jF
 split
 ·exact hb
 split
 ·exact hc _
 split
 ·split <;> exact hc _
 split
 ·exact ha
 split
 ·exact hh
 ·omega
theorem zu{x:ac}(A:o5 x){i:Int}(h0:0<=i)(h1:i<(aA x).length):u32 (adr x i)/\jV x (adr x i)=true:=by
 have hm:=bL h0 h1
 rw[Mx h0 h1]
 refine⟨A.1 _ hm,?_⟩
 have:0<=j4 x ((aA x).getD i.toNat default).1:=Iw hm (by simp[jb])
 unfold jV
 rw[decide_eq_true this];rfl
theorem Vh{x:ac}{lk L:Int}(N:mQ x)(A:o5 x)(hi:0<=cM x lk)(hL:0<=cM x L) :
  u32 (ji x (bm x lk) L)/\(jV x (ji x (bm x lk) L)=true∨(jQ x=4/\ji x (bm x lk) L=nP x))/\(jQ x=1->ji x (bm x lk) L=((aA x).getD (cM x lk).toNat default).1):=by
 have e:bm x lk=cM x lk:=by unfold bm;omega
 have i1:cM x lk<(aA x).length:=(qV hi).1
 have l1:cM x L<(aA x).length:=(qV hL).1
 rw[e]
 unfold ji
 by_cases s2:jQ x=2
 ·rw[if_pos s2]
  have k:=zu A hL l1
  exact⟨k.1,.inl k.2,fun q=>by omega⟩
 rw[if_neg s2]
 by_cases s3:jQ x=3
 ·rw[if_pos s3]
  have hne:gg x≠0:=fun q=>N.form (.inr (.inr (.inl ⟨s3,q⟩)))
  refine⟨A.2.1,.inl ?_,fun q=>by omega⟩
  unfold jV
  simp[hne]
 rw[if_neg s3]
 by_cases s4:jQ x=4
 ·rw[if_pos s4]
  exact⟨A.2.2,.inr ⟨s4,rfl⟩,fun q=>by omega⟩
 rw[if_neg s4]
 have k:=zu A hi i1
 exact⟨k.1,.inl k.2,fun _=>Mx hi i1⟩
theorem FP{B:Int->Int->List Int}{F:Int->Int}{w:cD}{own:Int}(h:(cz B F w own).2.2=2) :
  F 0=0∧¬ eM w.2.1 (kq w.2.2.2.2.2)=false/\cz B F w own=(fy (gX w) (gZ w),(iJ B w,B (hV B w own) (fM w)),2):=by
 by_cases k:own=0/\jM w.1=true
 ·rw[uc k] at h;exact absurd h (by show (4:Int)≠2;decide)
 by_cases k1:F 0≠0
 ·rw[tc k k1] at h;exact absurd h (by show (6:Int)≠2;decide)
 by_cases k2:eM w.2.1 (kq w.2.2.2.2.2)=false
 ·rw[vX k k1 k2] at h;exact absurd h (by show (8:Int)≠2;decide)
 by_cases k3:(jn w).2=false
 ·rw[ur k k1 k2 k3] at h;exact absurd h (by show (5:Int)≠2;decide)
 ·exact⟨by simpa using k1,k2,uw k k1 k2 k3⟩
theorem C0{x:ac}{s:bq}{lk t:Int}{b:List Int}(h:(dJ x s lk t b).2.2=2) :
  ∃ ki,dJ x s lk t b=pk (AP x s lk t b) ki/\((ki=0/\jV x (gS (aR b).1)=true/\xj (aR b).1≠17)∨(ki=1/\xj (aR b).1=17)∨ki=2∨ki=3):=by
 have e0:dJ x s lk t b=dP (x,s,lk,t,b,m8):=rfl
 rw[e0] at h ⊢
 unfold dP at h ⊢
 by_cases k1:bW b≠0
 ·rw[if_pos k1] at h;exact absurd h (by show (6:Int)≠2;decide)
 rw[if_neg k1] at h ⊢
 by_cases k2:jV x (gS (aR b).1)=true
 ·rw[if_pos k2] at h ⊢
  unfold gf at h ⊢
  split at h
  ·exact absurd h (by show (1:Int)≠2;decide)
  rename_i k3
  rw[if_neg k3]
  by_cases k4:xj (aR b).1=17
  ·exact⟨1,by rw[Xd];exact congrArg (cz _ _ _) (if_pos k4),.inr (.inl ⟨rfl,k4⟩)⟩
  ·exact⟨0,by rw[WF];exact congrArg (cz _ _ _) (if_neg k4),.inl ⟨rfl,k2,k4⟩⟩
 rw[if_neg k2] at h ⊢
 by_cases k4:lH x=true/\lk ≠ -1
 ·rw[if_pos k4] at h;exact absurd h (by show (6:Int)≠2;decide)
 rw[if_neg k4] at h ⊢
 unfold dR at h ⊢
 split at h
 ·rename_i k5
  exact⟨2,by rw[if_pos k5,Qm];rfl,.inr (.inr (.inl rfl))⟩
 rename_i k5
 rw[if_neg k5]
 split at h
 ·rename_i k6
  rw[if_pos k6]
  split at h
  ·exact absurd h (by show (8:Int)≠2;decide)
  rename_i k7
  exact⟨3,by rw[if_neg k7,Zq];rfl,.inr (.inr (.inr rfl))⟩
 ·exact absurd h (by show (0:Int)≠2;decide)
theorem Ci{w:cD}{ki:Int}(h:kE ki w 0=0):cq w.2.2.2.2.1:=Classical.byContradiction fun k=>by
 unfold kE at h
 split at h
 ·exact AC k _ _ _ _ h
 split at h
 ·exact AC k _ _ _ _ h
 ·exact JE k _ _ h
structure an7 (x:ac) (lk:Int) (p:bN) (a:sD) (r:lL):Prop where
 is:yx p a r.2.1.2
 left:a.2.2.2.1=gM x
 quoted:a.2.2.2.2.2=0∨a.2.2.2.2.2=p.2.2.2.2.2
 out:0<=cM x r.2.1.1
 exc:a.2.1=1->jQ x=1->a.1=((aA x).getD (cM x lk).toNat default).1
 own:jV x a.1=true∨(jQ x=4/\a.1=nP x)
 cnt:(jc r.1).getD (cM x lk).toNat default=1
theorem UL{x:ac}{lk:Int}{p:bN}(N:mQ x)(A:o5 x)(g:cN p)(hlk:lk∈bv x)(h:(dJ x (lr x) lk 0 (build p)).2.2=2):∃ a,an7 x lk p a (dJ x (lr x) lk 0 (build p)):=by
 have st:=OU N
 obtain⟨ki,e,hk⟩:=C0 h
 rw[e] at h ⊢
 obtain⟨d1,d2⟩:=Za g
 obtain⟨w,hw⟩:∃ w,w=AP x (lr x) lk 0 (build p):=⟨_,rfl⟩
 rw[← hw] at h ⊢
 obtain⟨a1,a2,a3⟩:=FP h
 have w1:w.1=x:=by rw[hw];rfl
 have w2:w.2.1=lr x:=by rw[hw];rfl
 have w3:w.2.2.1=lk:=by rw[hw];rfl
 have w5:w.2.2.2.2.1=build p:=by rw[hw];rfl
 have w6:w.2.2.2.2.2=po p:=by rw[hw];exact d2
 have hu:fq p.1:=by
  have:=Ci a1
  rw[w5] at this
  exact (Ei g).1 this
 have hi:=Ey hlk
 have hin:bm x lk=cM x lk:=by unfold bm;omega
 have i1:cM x lk<(aA x).length:=(qV hi).1
 have hL:0<=cM x (iJ (kB ki w) w):=by
  have:=YT st (a:=kq w.2.2.2.2.2) (by rw[← w2];exact a2) (gX w) (fv (kB ki w (adr w.1 (bm w.1 w.2.2.1)) 0))
  unfold iJ gZ
  rw[w1,w2]
  rw[w1] at this
  exact this
 obtain⟨s1,s2,s3⟩:=Vh N A hi hL
 have hr:=(lh.1 g.ok).2
 obtain⟨hf,ht,-⟩:=id hr
 have hb:0<=kH x/\kH x<=65535:=by
  have h:=N.id
  unfold ir at h
  split at h
  ·rename_i k;have:=of_decide_eq_true k;omega
  ·cases h
 have hid:gc (fM w) (gM x):=by
  have f:=N.form
  unfold kQ at f
  refine⟨?_,by omega,by omega⟩
  unfold fM
  rw[w1,w6]
  exact IF hb ⟨by show 0<=p.2.2.2.2.1;omega,by show p.2.2.2.2.1<=65535;omega⟩
 have hc:(jc (pk w ki).1).getD (cM x lk).toNat default=1:=by
  have e1:(pk w ki).1=fy (gX w) (gZ w):=congrArg (fun r:lL=>r.1) a3
  have e2:jc (pk w ki).1=nV (List.replicate (aA x).length 0) (cM x lk):=by
   rw[e1,u7]
   show nV (jc w.2.1) (bm w.1 w.2.2.1)=_
   rw[w1,w2,w3,hin];rfl
  rw[e2,E6 (by rw[List.length_replicate];exact i1)]
  have:(cM x lk).toNat<(List.replicate (aA x).length (0:Int)).length:=by rw[List.length_replicate];omega
  rw[List.getD_eq_getElem?_getD,List.getElem?_set_self this,Option.getD_some,List.getD_eq_getElem?_getD,List.getElem?_eq_getElem this,Option.getD_some,List.getElem_replicate]
  decide
 have ho:(pk w ki).2.1=(iJ (kB ki w) w,kB ki w (hV (kB ki w) w (lV ki w)) (fM w)):=congrArg (fun r:lL=>r.2.1) a3
 have hsrc:ji w.1 (bm w.1 w.2.2.1) (iJ (kB ki w) w)=ji x (bm x lk) (iJ (kB ki w) w):=by rw[w1,w3]
 have hF:lV ki w=0->hV (kB ki w) w (lV ki w)=ji x (bm x lk) (iJ (kB ki w) w):=fun q=>by unfold hV;rw[if_pos q,hsrc]
 generalize hid2:fM w=id at hid ho
 generalize hLL:iJ (kB ki w) w=L at hL s1 s2 s3 ho hF
 generalize ji x (bm x lk) L=F at s1 s2 s3 hF
 have hp17:xj (aR (build p)).1=p.2.2.1:=by rw[d2];rfl
 rcases hk with⟨rfl,q1,q2⟩|⟨rfl,q1⟩|rfl|rfl
 ·have hd:gS (aR (build p)).1=p.2.1:=by rw[d2];rfl
  have ko:lV 0 w=p.2.1:=by show gS w.2.2.2.2.2=_;rw[w6];rfl
  rw[hd] at q1
  have hne:=ac0 N q1
  have ef:hV (kB 0 w) w (lV 0 w)=p.2.1:=by unfold hV;rw[ko,if_neg hne]
  rw[ef] at ho
  have eB:kB 0 w p.2.1 id=gp (build p) p.2.1 id (gM x):=by show dC w _ _=_;unfold dC;rw[w5,w1]
  rw[eB] at ho
  have I:=(Mo g hu hid).2
  refine⟨pX p id (gM x),by rw[ho];exact I,?_,?_,by rw[ho];exact hL,?_,.inl ?_,hc⟩
  ·unfold pX;split
   ·rfl
   ·split <;> rfl
  ·unfold pX;split
   ·exact .inl rfl
   ·split
    ·exact .inr rfl
    ·exact .inl rfl
  ·intro k
   exfalso
   unfold pX at k
   split at k
   ·exact absurd k (by show (4:Int)≠1;decide)
   ·split at k
    ·exact absurd k (by show (3:Int)≠1;decide)
    ·exact absurd k (by show (2:Int)≠1;decide)
  ·have:(pX p id (gM x)).1=p.2.1:=by unfold pX;split;rfl;split <;> rfl
   rw[this];exact q1
 ·rw[hF rfl] at ho
  rw[hp17] at q1
  have hpr:cV (build p)=17:=by rw[cV,g.dec.1];exact q1
  have eB:kB 1 w F id=gF (build p) F 3 3 id (gM x):=by
   show dC w _ _=_;unfold dC gp
   rw[w5,w1,if_pos (Mo g hu hid).1,if_neg (by rw[hpr];decide),if_pos hpr]
  rw[eB] at ho
  have I:=(yR g hu s1 (kind:=3) (code:=3) ⟨.inr rfl,by omega,hid⟩).2.1
  exact⟨(F,tC 3 3,3,gM x,id,p.2.2.2.2.2),by rw[ho];exact I,rfl,.inr rfl,by rw[ho];exact hL,fun k=>absurd k (by show tC 3 3≠1;decide),s2,hc⟩
 ·rw[hF rfl] at ho
  have eB:kB 2 w F id=gF (build p) F 11 0 id (gM x):=by show cX w 11 0 _ _=_;unfold cX;rw[w5,w1]
  rw[eB] at ho
  have I:=(yR g hu s1 (kind:=11) (code:=0) ⟨.inl rfl,by omega,hid⟩).2.1
  exact⟨(F,tC 11 0,0,gM x,id,p.2.2.2.2.2),by rw[ho];exact I,rfl,.inr rfl,by rw[ho];exact hL,fun _ k=>s3 k,s2,hc⟩
 ·rw[hF rfl] at ho
  have eB:kB 3 w F id=gF (build p) F 3 0 id (gM x):=by show cX w 3 0 _ _=_;unfold cX;rw[w5,w1]
  rw[eB] at ho
  have I:=(yR g hu s1 (kind:=3) (code:=0) ⟨.inr rfl,by omega,hid⟩).2.1
  exact⟨(F,tC 3 0,0,gM x,id,p.2.2.2.2.2),by rw[ho];exact I,rfl,.inr rfl,by rw[ho];exact hL,fun k=>absurd k (by show tC 3 0≠1;decide),s2,hc⟩
theorem Eg{B:Int->Int->List Int}{F:Int->Int}{w:cD}{own:Int}(h:(cz B F w own).2.2≠2):(cz B F w own).2.1=gn:=by
 by_cases k:own=0/\jM w.1=true
 ·rw[uc k]
 by_cases k1:F 0≠0
 ·rw[tc k k1]
 by_cases k2:eM w.2.1 (kq w.2.2.2.2.2)=false
 ·rw[vX k k1 k2]
 by_cases k3:(jn w).2=false
 ·rw[ur k k1 k2 k3]
 ·rw[uw k k1 k2 k3] at h;exact absurd rfl h
theorem RV{x:ac}{s:bq}{lk t:Int}{b:List Int}(h:(dJ x s lk t b).2.2≠2)(h0:(dJ x s lk t b).2.2≠0):(dJ x s lk t b).2.1=gn:=by
 unfold dJ dP at h h0 ⊢
 split at h
 ·rename_i k;rw[if_pos k]
 rename_i k1
 rw[if_neg k1] at h0 ⊢
 split at h
 ·rename_i k2
  rw[if_pos k2]
  unfold gf at h ⊢
  split at h
  ·rename_i k;rw[if_pos k]
  ·rename_i k;rw[if_neg k];exact Eg h
 rename_i k2
 rw[if_neg k2] at h0 ⊢
 split at h
 ·rename_i k;rw[if_pos k]
 rename_i k3
 rw[if_neg k3] at h0 ⊢
 unfold dR at h h0 ⊢
 split at h
 ·rename_i k;rw[if_pos k];exact Eg h
 rename_i k4
 rw[if_neg k4] at h0 ⊢
 split at h
 ·rename_i k;rw[if_pos k]
  split at h
  ·rename_i k;rw[if_pos k]
  ·rename_i k;rw[if_neg k];exact Eg h
 rename_i k5
 rw[if_neg k5] at h0
 exact absurd rfl h0
end Go.RS

/- Sim0: what a node sends: bytes, and how many. -/
namespace Go.RS
open Go.SX Go.Proofs
set_option maxRecDepth 100000
set_option linter.unusedVariables false
theorem A6{p:oa}(h:da p=0):(cQ p).length=20+p.2.length/\(bytes p.2->bytes (cQ p)):=by
 rw[cQ,if_pos h]
 refine⟨by rw[List.length_append,oS],fun hb=>fT (Eo ?_) hb⟩
 exact Classical.byContradiction fun k=>by rw[da,if_pos k] at h;cases h
theorem uo{b:List Int}(hb:bytes b)(h:bW b=0):iZ (bQ b)/\20<=b.length/\b.length<=1500:=by
 have hp:=Bq h
 have hl:=Bg hp
 have hd:=wA h
 have w:=qL hb 4
 have g:∀ i:Nat,0<=b.getD i default/\b.getD i default<=255:=fun i=>by
  by_cases k:i<b.length
  ·have:=hb _ (bL (i:=(i:Int)) (by omega) (by omega))
   simpa using this
  ·rw[List.getD_eq_getElem?_getD,List.getElem?_eq_none (by omega)];decide
 exact⟨⟨g 1,g 8,g 9,w.1,w.2⟩,by omega,by omega⟩
theorem ai8{b:List Int}(hb:bytes b)(h:fV b=0):(gN b).length=b.length/\bytes (gN b):=by
 have hd:bW b=0:=Classical.byContradiction fun k=>by rw[fV,if_pos k] at h;exact k h
 have ht:¬ (bQ b).2.2.1<2:=fun k=>by rw[fV,if_neg (fun q=>q hd),if_pos k] at h;cases h
 obtain⟨⟨h1,⟨h2,h2'⟩,h3,h4,h5⟩,l1,l2⟩:=uo hb hd
 have e:da (uU (bQ b),b.drop 20)=0:=by
  rw[da,if_neg,if_neg (by simp only[List.length_drop];omega)]
  rw[Decidable.not_not]
  exact⟨h1,⟨by show 0<=(bQ b).2.2.1-1;omega,by show (bQ b).2.2.1-1<=255;omega⟩,h3,h4,h5⟩
 have k:=A6 e
 rw[gN,if_pos h]
 refine⟨?_,k.2 (rX hb)⟩
 rw[k.1];simp only[List.length_drop];omega
theorem Cr{b:List Int}{f kind code id ttl:Int}(hb:bytes b)(h:ft b kind code id ttl=0):0<(gF b f kind code id ttl).length/\bytes (gF b f kind code id ttl):=by
 have hg:oT kind code id ttl:=Classical.byContradiction fun k=>by rw[ft,if_pos k] at h;cases h
 have ha:cq b:=Classical.byContradiction fun k=>by rw[ft,if_neg (fun q=>q hg),if_neg k] at h;cases h
 obtain⟨-,e,en,ei⟩:=yS (src:=f) hg ha
 have k:=A6 ei
 rw[e]
 exact⟨by rw[k.1];omega,k.2 (Ck en (Bi hb))⟩
theorem Ip{e:kX}(h:bytes e.2.2.2)(hl:(e.2.2.2.length:Int)<=1472):((dk e).length:Int)<=1480/\bytes (dk e):=by
 unfold dk
 split
 ·exact⟨by rw[j9,zd];omega,pf (tz h)⟩
 ·exact⟨by simp,kR⟩
theorem Kx{s d:Int}{e:jL}(h:e.2.2.2.2.2.2=[]):((dj s d e).length:Int)<=1480/\bytes (dj s d e):=by
 unfold dj
 split
 ·rename_i k
  have ok:lO e:=Classical.byContradiction fun q=>by rw[i9,if_pos q] at k;cases k
  exact⟨by rw[j9,ul,h];simp,pf (vt ok (by rw[h];exact kR))⟩
 ·exact⟨by simp,kR⟩
theorem ah8{b:List Int}{f id ttl:Int}(hb:bytes b)(h:fa b id ttl=0):0<(gp b f id ttl).length/\bytes (gp b f id ttl):=by
 have hn:gc id ttl:=Classical.byContradiction fun k=>by rw[fa,if_pos k] at h;cases h
 have hg:qa b:=Classical.byContradiction fun k=>by rw[fa,if_neg (fun q=>q hn),if_neg k] at h;cases h
 obtain⟨-,l1,l2⟩:=uo hb hg.1.1
 have hd:=rX (n:=20) hb
 rcases hg with⟨ha,⟨g1,g2⟩|⟨g1,g2⟩|⟨g1,g2,g3,g4⟩⟩
 ·rw[(A8 (src:=f) hn ha g1 g2).1]
  have hl:=Ht (b.drop 20)
  have hE:((dk (true,(dU (b.drop 20)).2)).length:Int)<=1480/\bytes (dk (true,(dU (b.drop 20)).2)):=by
   have e:(dU (b.drop 20)).2.2.2=(b.drop 20).drop 8:=by unfold dU;rw[if_pos g2]
   refine Ip ?_ ?_
   ·show bytes (dU (b.drop 20)).2.2.2
    rw[e];exact rX hd
   ·show ((dU (b.drop 20)).2.2.2.length:Int)<=1472
    rw[e];simp only[List.length_drop];omega
  have k:=A6 (u9 (src:=f) (dst:=bP b) hn (proto:=1) (by omega) hE.1)
  exact⟨by rw[k.1];omega,k.2 hE.2⟩
 ·rw[(Av (src:=f) hn ha g1 g2).1]
  exact Cr hb (Ff hn ha)
 ·rw[(zt (src:=f) hn ha g1 g2 g3 g4).1]
  have hE:((dj f (bP b) (ju (dK (bP b) (fe b) (b.drop 20)))).length:Int)<=1480/\bytes (dj f (bP b) (ju (dK (bP b) (fe b) (b.drop 20)))):=Kx rfl
  have k:=A6 (u9 (src:=f) (dst:=bP b) hn (proto:=6) (by omega) hE.1)
  exact⟨by rw[k.1];omega,k.2 hE.2⟩
theorem Sl{ki:Int}{w:cD}{f id:Int}(hb:bytes w.2.2.2.2.1)(hn:gc id (gM w.1))(h:kE ki w 0=0):0<(kB ki w f id).length/\bytes (kB ki w f id):=by
 have ha:=Ci h
 unfold kB
 split
 ·exact Cr hb (by rw[ft,if_neg (fun k=>k ⟨.inl rfl,by omega,hn⟩),if_pos ha])
 split
 ·exact Cr hb (by rw[ft,if_neg (fun k=>k ⟨.inr rfl,by omega,hn⟩),if_pos ha])
 ·rename_i k2 k3
  have h:fa w.2.2.2.2.1 0 (gM w.1)=0:=by
   unfold kE at h
   rw[if_neg k2,if_neg k3] at h;exact h
  have hg:qa w.2.2.2.2.1:=Classical.byContradiction fun q=>by
   rw[fa] at h
   split at h
   ·cases h
   ·cases h
  exact ah8 hb (xS hn hg)
structure Hx (x:ac) (s:bq) (r:lL):Prop where
 some:r.2.2=0∨r.2.2=2->0<r.2.1.2.length/\r.2.1.2.length<=1500/\0<=cM x r.2.1.1
 none:r.2.2≠0->r.2.2≠2->r.2.1=gn
 byt:bytes r.2.1.2
 rt:bh r.1=bh s
theorem O4{w:cD}(hid:ir w.1=0)(hf:¬ kQ w.1)(hI:0<=o4 w.2.2.2.2.2/\o4 w.2.2.2.2.2<=65535):gc (fM w) (gM w.1):=by
 have hb:0<=kH w.1/\kH w.1<=65535:=by
  unfold ir at hid
  split at hid
  ·rename_i k;have:=of_decide_eq_true k;omega
  ·cases hid
 unfold kQ at hf
 refine⟨?_,by omega,by omega⟩
 unfold fM
 exact IF hb hI
theorem Gi{x:ac}{s:bq}(hrt:∀ r∈bh s,ke r (bv x)){a:Int}(hw:¬ eM s a=false)(s':bq)(k:mA):0<=cM x (ib x s' (aZ (bh s) a) k) :=
 Ey (GR (hrt _ (L5 hw)) _ (Hr (xH hw)))
theorem EE{x:ac}{s:bq}{lk t:Int}{b:List Int}(N:mQ x)(hs:∀ r∈bh s,ke r (bv x))(hb:bytes b):Hx x s (dJ x s lk t b):=by
 have T:=(Mu x s lk t b).1
 by_cases h0:(dJ x s lk t b).2.2=0
 ·have F:=CS h0
  have e:=BR (t:=t) F
  obtain⟨-,l1,l2⟩:=uo hb F.dec
  have hlow:lk ≠ -1/\dq x=false->fV b=0:=fun k=>by
   have ht:=F.ttl
   have e1:(aR b).1=bQ b:=by rw[aR,if_pos F.dec]
   rw[e1] at ht
   rw[fV,if_neg (fun q=>q F.dec)]
   exact if_neg (fun q=>ht ⟨k.1,k.2,q⟩)
  have key:(if lk ≠ -1/\dq x=false then gN b else b).length=b.length/\bytes (if lk ≠ -1/\dq x=false then gN b else b):=by
   split
   ·rename_i k;exact ai8 hb (hlow k)
   ·exact⟨rfl,hb⟩
  refine⟨fun _=>?_,fun k=>absurd h0 k,?_,T⟩
  ·rw[e]
   exact⟨by show 0<List.length _;rw[key.1];omega,by show List.length _<=1500;rw[key.1];omega,Gi hs F.way _ _⟩
  ·rw[e];exact key.2
 by_cases h2:(dJ x s lk t b).2.2=2
 ·obtain⟨ki,e,hk⟩:=C0 h2
  rw[e] at h2
  obtain⟨w,hw⟩:∃ w,w=AP x s lk t b:=⟨_,rfl⟩
  rw[← hw] at h2 e
  obtain⟨a1,a2,a3⟩:=FP h2
  have w1:w.1=x:=by rw[hw];rfl
  have w2:w.2.1=s:=by rw[hw];rfl
  have w5:w.2.2.2.2.1=b:=by rw[hw];rfl
  have hI:0<=o4 w.2.2.2.2.2/\o4 w.2.2.2.2.2<=65535:=by
   have:w.2.2.2.2.2=(aR b).1:=by rw[hw];rfl
   rw[this]
   unfold aR
   split
   ·exact qL hb 4
   ·exact⟨by show (0:Int)<=0;omega,by show (0:Int)<=65535;omega⟩
  have hn:=O4 (w:=w) (by rw[w1];exact N.id) (by rw[w1];exact N.form) hI
  have ho:(dJ x s lk t b).2.1=(iJ (kB ki w) w,kB ki w (hV (kB ki w) w (lV ki w)) (fM w)):=by rw[e];exact congrArg (fun r:lL=>r.2.1) a3
  have k:=Sl (f:=hV (kB ki w) w (lV ki w)) (by rw[w5];exact hb) hn a1
  have kl:=Rm ki w (hV (kB ki w) w (lV ki w)) (fM w)
  have hL:0<=cM x (iJ (kB ki w) w):=by
   have:=Gi hs (a:=kq w.2.2.2.2.2) (by rw[← w2];exact a2) (gX w) (fv (kB ki w (adr w.1 (bm w.1 w.2.2.1)) 0))
   unfold iJ gZ
   rw[w1,w2]
   rw[w1] at this
   exact this
  refine⟨fun _=>?_,fun _ q=>absurd (by rw[e];exact h2) q,?_,T⟩
  ·rw[ho];exact⟨k.1,by have:((kB ki w (hV (kB ki w) w (lV ki w)) (fM w)).length:Int)<=1500:=kl;show (kB ki w (hV (kB ki w) w (lV ki w)) (fM w)).length<=1500;omega,hL⟩
  ·rw[ho];exact k.2
 ·have e:=RV h2 h0
  refine⟨fun k=>?_,fun _ _=>e,by rw[e];exact kR,T⟩
  rcases k with k|k
  ·exact absurd k h0
  ·exact absurd k h2
end Go.RS

/- Sim1: a network in operation, in plain terms. -/
namespace Go.RS
open Go.SX Go.Proofs
set_option maxRecDepth 100000
set_option linter.unusedVariables false
abbrev kK:CT := .pair cI (.pair cI (.pair cI (.pair cI (.pair cI (.sl bj)))))
abbrev aH:Type:=Int×Int×Int×Int×Int×List Int
abbrev tX:CT := .pair cI (.pair cI (.sl bj))
abbrev mY:Type:=Int×Int×List Int
abbrev qG:CT := .pair cI (.pair cI (.pair cI (.pair cI cI)))
abbrev iX:Type:=Int×Int×Int×Int×Int
abbrev mZ:CT := .pair ig (.pair cI (.pair cI (.pair cI (.pair (.sl mX) (.pair (.sl cI) (.pair (.sl kK) (.pair (.sl tX) (.sl qG))))))))
abbrev au:Type:=bw×Int×Int×Int×List bq×List Int×List aH×List mY×List iX
def aq(f:aH):Int:=f.1
def ia(f:aH):Int:=f.2.1
def aN(f:aH):Int:=f.2.2.1
def dW(f:aH):Int:=f.2.2.2.1
def dM(f:aH):Int:=f.2.2.2.2.1
def c9(f:aH):List Int:=f.2.2.2.2.2
def ao(w:au):bw:=w.1
def aV(w:au):Int:=w.2.1
def aS(w:au):Int:=w.2.2.1
def bO(w:au):Int:=w.2.2.2.1
def bo(w:au):List bq:=w.2.2.2.2.1
def dV(w:au):List Int:=w.2.2.2.2.2.1
def am(w:au):List aH:=w.2.2.2.2.2.2.1
def bz(w:au):List mY:=w.2.2.2.2.2.2.2.1
def bf(w:au):List iX:=w.2.2.2.2.2.2.2.2
def bU(w:au)(t:Int):au:=(w.1,t,w.2.2)
def fu(w:au)(l:List bq):au:=(w.1,w.2.1,w.2.2.1,w.2.2.2.1,l,w.2.2.2.2.2)
def mv(w:au)(k:Int):au:=(w.1,w.2.1,w.2.2.1,k,w.2.2.2.2)
def qY(w:au)(l:List Int):au:=(w.1,w.2.1,w.2.2.1,w.2.2.2.1,w.2.2.2.2.1,l,w.2.2.2.2.2.2)
def bi(w:au)(l:List aH):au:=(w.1,w.2.1,w.2.2.1,w.2.2.2.1,w.2.2.2.2.1,w.2.2.2.2.2.1,l,w.2.2.2.2.2.2.2)
def qM(w:au)(l:List mY):au:=(w.1,w.2.1,w.2.2.1,w.2.2.2.1,w.2.2.2.2.1,w.2.2.2.2.2.1,w.2.2.2.2.2.2.1,l,w.2.2.2.2.2.2.2.2)
def Er(w:au)(l:List iX):au:=(w.1,w.2.1,w.2.2.1,w.2.2.2.1,w.2.2.2.2.1,w.2.2.2.2.2.1,w.2.2.2.2.2.2.1,w.2.2.2.2.2.2.2.1,l)
def d5(w:au)(k:Int):au:=(w.1,w.2.1,k,w.2.2.2)
def E5(s:bq)(l:List Rt):bq:=(l,s.2)
def bT(l:List aH)(f:aH):List aH:=(l.takeWhile fun x=>decide (aq x<=aq f))++f::l.dropWhile fun x=>decide (aq x<=aq f)
def wt(w:au)(f:aH):au:=bi (d5 w (IntKind.i64.wrap (aS w+1))) (bT (am w) (aq f,aS w,f.2.2))
def ie(w:au):aM:=(ao w).2.2.getD (bO w).toNat default
def jp(w:au):Bool:=decide (bO w<(ao w).2.2.length)&&decide (fY (ie w)<=aV w)
def jf(w:au):au :=
 mv (fu w ((bo w).set (bu (ie w)).toNat (E5 ((bo w).getD (bu (ie w)).toNat default) (fK (bh ((bo w).getD (bu (ie w)).toNat default)) (ie w))))) (IntKind.i64.wrap (bO w+1))
def dY:Nat->au->au
 | 0,w=>w
 | n+1,w=>if jp w=true then dY n (jf w) else w
def br(w:au):au:=dY ((ao w).2.2.length-(bO w).toNat) w
def kx(w:au)(f:aH)(link why:Int):au:=Er w (bf w++[(dM f,aq f,aN f,link,why)])
def mL(l:aE)(c:Int):Int:=kC (bits .xor .u64 (kC (IntKind.wrap .u64 (rW l))) (IntKind.wrap .u64 c))
def cy(w:au)(k:Int):aE:=(ao w).2.1.getD k.toNat default
def jg(w:au)(k:Int):Int:=(dV w).getD k.toNat default
def xJ(w:au)(k:Int):Int:=IntKind.i64.wrap (Int.tmod (Int.tdiv (mL (cy w k) (jg w k)) 65536) (IntKind.wrap .u64 (IntKind.i64.wrap (gV (cy w k)+1))))
def gH(w:au)(k:Int):Int:=IntKind.i64.wrap (IntKind.i64.wrap (aV w+kO (cy w k))+xJ w k)
def cK(w:au)(f:aH)(out:Int×List Int):au :=
 let v:=qY w ((dV w).set out.1.toNat (IntKind.i64.wrap (jg w out.1+1)))
 if Int.tmod (mL (cy w out.1) (jg w out.1)) 65536<IntKind.wrap .u64 (md (cy w out.1)) then kx v f out.1 3
 else if 1125899906842624<gH w out.1∨(4096:Int)<=(am w).length then kx v f out.1 7
 else wt v (gH w out.1,0,fF (ao w).2.1 out.1 (aN f),out.1,dM f,out.2)
def aK(w:au)(f:aH):lL:=dJ ((ao w).1.getD (aN f).toNat default) ((bo w).getD (aN f).toNat default) (dW f) (aq f) (c9 f)
def dD(w:au)(f:aH):au :=
 let r:=aK w f
 let a:=fu w ((bo w).set (aN f).toNat r.1)
 let b:=if r.2.2=1 then qM a (bz a++[(aq f,aN f,c9 f)]) else a
 let c:=if r.2.2≠0 then kx b f (dW f) r.2.2 else b
 if 0<r.2.1.2.length then cK c f r.2.1 else c
def cH(w:au):au:=dD (br (bU (bi w (am w).tail) (aq ((am w).headD default)))) ((am w).headD default)
def gG(w:au)(to:Int):Bool:=match am w with
 | []=>false
 | f::_=>decide (aq f<=to)
def f5:Nat->au->Int->au
 | 0,w,_=>w
 | n+1,w,to=>if gG w to=true then f5 n (cH w) to else w
def fI(to:Int)(l:List aH):Nat:=(l.map fun f=>(to+1-aq f).toNat).sum
def j5(w:au)(to:Int):au:=br (bU (f5 (fI to (am w)) w to) to)
theorem rN{l:List aH}{f x:aH}:x∈bT l f↔x=f∨x∈l:=by
 unfold bT
 rw[List.mem_append,List.mem_cons]
 have e:=List.takeWhile_append_dropWhile (p:=fun x=>decide (aq x<=aq f)) (l:=l)
 constructor
 ·rintro (h|h|h)
  ·right;rw[← e];exact List.mem_append_left _ h
  ·exact .inl h
  ·right;rw[← e];exact List.mem_append_right _ h
 ·rintro (h|h)
  ·exact .inr (.inl h)
  ·rw[← e] at h
   rcases List.mem_append.1 h with h|h
   ·exact .inl h
   ·exact .inr (.inr h)
theorem vw(l:List aH)(f:aH):(bT l f).length=l.length+1:=by
 have e:=congrArg List.length (List.takeWhile_append_dropWhile (p:=fun x=>decide (aq x<=aq f)) (l:=l))
 rw[List.length_append] at e
 unfold bT
 rw[List.length_append,List.length_cons];omega
theorem CJ(to:Int)(l:List aH)(f:aH):fI to (bT l f)=fI to l+(to+1-aq f).toNat:=by
 have e:fI to l=fI to ((l.takeWhile fun x=>decide (aq x<=aq f))++(l.dropWhile fun x=>decide (aq x<=aq f))):=by rw[List.takeWhile_append_dropWhile]
 rw[e]
 unfold fI bT
 simp only[List.map_append,List.map_cons,List.sum_append,List.sum_cons]
 omega
def fg(a b:aH):Prop:=aq a<aq b∨aq a=aq b/\ia a<ia b
theorem LI{l:List aH}{f:aH}(h:l.Pairwise fg)(hn:∀ x∈l,ia x<ia f):(bT l f).Pairwise fg:=by
 have e:=List.takeWhile_append_dropWhile (p:=fun x=>decide (aq x<=aq f)) (l:=l)
 have h2:=h
 rw[← e] at h2
 obtain⟨a,b,c⟩:=List.pairwise_append.1 h2
 have hd:∀ x∈l.dropWhile (fun x=>decide (aq x<=aq f)),aq f<aq x:=by
  intro x hx
  cases hh:l.dropWhile (fun x=>decide (aq x<=aq f)) with
  | nil=>rw[hh] at hx;cases hx
  | cons y r =>
   have hy:¬ aq y<=aq f:=by
    have:=List.head_dropWhile_not (p:=fun x=>decide (aq x<=aq f)) (l:=l) (by rw[hh];simp)
    simp only[hh,List.head_cons] at this
    simpa using this
   rw[hh] at hx b
   rcases List.mem_cons.1 hx with rfl|hx
   ·omega
   ·rcases (List.pairwise_cons.1 b).1 x hx with k|k <;> omega
 unfold bT
 refine List.pairwise_append.2 ⟨a,List.pairwise_cons.2 ⟨fun x hx=>.inl (hd x hx),b⟩,fun x hx y hy=>?_⟩
 have hxl:x∈l:=by rw[← e];exact List.mem_append_left _ hx
 have hxf:aq x<=aq f:=by
  have:=List.all_eq_true.1 (List.all_takeWhile (p:=fun x=>decide (aq x<=aq f)) (l:=l)) x hx
  simpa using this
 rcases List.mem_cons.1 hy with rfl|hy
 ·have:=hn x hxl
  unfold fg
  omega
 ·exact .inl (by have:=hd y hy;omega)
end Go.RS

/- Sim2: what holds of a network in operation. -/
namespace Go.RS
open Go.SX Go.Proofs
set_option maxRecDepth 100000
set_option linter.unusedVariables false
theorem zT{n:bw}(h:d9 n=0):nD n=0/\lx n=0/\lq n=0/\nt n=0/\mO n=0:=by
 unfold d9 at h
 obtain⟨h1,h⟩:=nR h
 obtain⟨h2,h⟩:=nR h
 obtain⟨h3,h⟩:=nR h
 obtain⟨h4,h⟩:=nR h
 obtain⟨h5,h⟩:=nR h
 obtain⟨h6,h⟩:=nR h
 exact⟨h1,h2,h3,h4,h⟩
theorem rp{n:bw}(h:d9 n=0){i:Nat}(hi:i<n.1.length):mQ (n.1.getD i default):=by
 have hb:=rM (zT h).2.2.1 i hi
 unfold mn at hb
 split at hb
 ·rename_i k;exact absurd hb k
 ·rename_i k;exact JB (Decidable.not_not.1 k)
theorem tq{n:bw}(h:d9 n=0):1<=n.1.length/\n.1.length<=64/\n.2.1.length<=128/\n.2.2.length<=64:=by
 have:=(zT h).1
 unfold nD at this
 split at this
 ·cases this
 ·omega
theorem Ag{n:bw}(h:d9 n=0){k:Nat}(hk:k<n.2.2.length):(0<=fY (n.2.2.getD k default)/\fY (n.2.2.getD k default)<=1125899906842624)/\(0<=bu (n.2.2.getD k default)/\bu (n.2.2.getD k default)<n.1.length) ∧
  dF (fK ((cY n k).getD (bu (n.2.2.getD k default)).toNat default) (n.2.2.getD k default)) (bv (n.1.getD (bu (n.2.2.getD k default)).toNat default))=0:=by
 have hs:=rM (zT h).2.2.2.2 k hk
 unfold iw mq at hs
 split at hs
 ·cases hs
 rename_i a1
 split at hs
 ·cases hs
 split at hs
 ·cases hs
 rename_i a3
 split at hs
 ·cases hs
 exact⟨by omega,by omega,hs⟩
theorem Lg{n:bw}(h:d9 n=0):∀ k:Nat,k<=n.2.2.length→∀ i:Nat,i<n.1.length->dF ((cY n k).getD i default) (bv (n.1.getD i default))=0
 | 0,_,i,hi=>by rw[cY,xz hi];exact (rp h hi).rt
 | k+1,hk,i,hi=>by
  obtain⟨-,h2,h3⟩:=Ag h (k:=k) (by omega)
  rw[cY]
  by_cases e:(bu (n.2.2.getD k default)).toNat=i
  ·rw[← e,iA (by rw[oF];omega)];exact h3
  ·rw[kJ e];exact Lg h k (by omega) i hi
structure qU (n:bw) (now ord:Int) (f:aH):Prop where
 t:now<=aq f/\aq f<=1125899906842624
 o:0<=ia f/\ia f<ord
 nd:0<=aN f/\aN f<n.1.length
 l:dW f = -1∨dW f∈bv (n.1.getD (aN f).toNat default)
 g:0<=dM f/\dM f<ord
 b:bytes (c9 f)
 d:((c9 f).length:Int)<=2000
structure cu (w:au) (K:Int):Prop where
 net:d9 (ao w)=0
 now:0<=aV w/\aV w<=1125899906842624
 ord:0<=aS w/\aS w<=K
 done:0<=bO w/\bO w<=(ao w).2.2.length
 len:(bo w).length=(ao w).1.length
 st:∀ i:Nat,i<(ao w).1.length->fP ((ao w).1.getD i default) ((bo w).getD i default) K/\bh ((bo w).getD i default)=(cY (ao w) (bO w).toNat).getD i default
 cl:(dV w).length=(ao w).2.1.length
 cr:∀ c∈dV w,0<=c/\c<=K
 fl:(am w).Pairwise fg
 fo:∀ f∈am w,qU (ao w) (aV w) (aS w) f
 fn:(am w).length<=4096
theorem cu.more{w:au}{K K':Int}(h:cu w K)(hk:K<=K'):cu w K' :=
 ⟨h.net,h.now,by have:=h.ord;omega,h.done,h.len,fun i hi=>⟨(h.st i hi).1.more hk,(h.st i hi).2⟩,h.cl,fun c hc=>by have:=h.cr c hc;omega,h.fl,h.fo,h.fn⟩
theorem fP.rts{x:ac}{s:bq}{K:Int}(h:fP x s K){l:List Rt}(hc:dF l (bv x)=0):fP x (E5 s l) K:=by
 obtain⟨h1,h2⟩:=tT hc
 obtain⟨-,-,h3⟩:=vz hc
 exact⟨h1,h2,fun r hr=>(h3 r hr).2,h.ps,h.tk,h.cn,h.cp⟩
theorem cu.chg{w:au}{K:Int}(h:cu w K)(hd:jp w=true):cu (jf w) K/\bO (jf w)=bO w+1:=by
 unfold jp at hd
 rw[Bool.and_eq_true,decide_eq_true_iff,decide_eq_true_iff] at hd
 have hk:(bO w).toNat<(ao w).2.2.length:=by have:=h.done;omega
 obtain⟨-,⟨w0,w1⟩,hc⟩:=Ag h.net hk
 have sz:=tq h.net
 have e1:IntKind.i64.wrap (bO w+1)=bO w+1:=ai (by have:=h.done;omega) (by have:=h.done;omega)
 have eD:bO (jf w)=bO w+1:=e1
 have eN:ao (jf w)=ao w:=rfl
 have hwho:bu (ie w)=bu ((ao w).2.2.getD (bO w).toNat default):=rfl
 have hlt:(bu (ie w)).toNat<(ao w).1.length:=by omega
 have hst:=(h.st _ hlt)
 have hc:dF (fK ((cY (ao w) (bO w).toNat).getD (bu (ie w)).toNat default) (ie w)) (bv ((ao w).1.getD (bu (ie w)).toNat default))=0:=hc
 rw[← hst.2] at hc
 refine⟨⟨h.net,h.now,h.ord,by have:=h.done;rw[eD,eN];omega,?_,fun i hi=>?_,h.cl,h.cr,h.fl,h.fo,h.fn⟩,eD⟩
 ·show ((bo w).set _ _).length=_
  rw[List.length_set];exact h.len
 ·have hi:i<(ao w).1.length:=hi
  rw[eD,eN,show (bO w+1).toNat=(bO w).toNat+1 by have:=h.done;omega,cY]
  show fP _ (((bo w).set (bu (ie w)).toNat _).getD i default) K/\bh (((bo w).set (bu (ie w)).toNat _).getD i default)=_
  by_cases e:(bu (ie w)).toNat=i
  ·subst e
   rw[iA (by rw[h.len];exact hlt),show ((ao w).2.2.getD (bO w).toNat default)=ie w from rfl,iA (by rw[oF];exact hlt),← hst.2]
   exact⟨hst.1.rts hc,rfl⟩
  ·rw[kJ e,show ((ao w).2.2.getD (bO w).toNat default)=ie w from rfl,kJ e]
   exact h.st i hi
theorem D5{K:Int}:∀(n:Nat){w:au},cu w K->cu (dY n w) K/\(dY n w).1=w.1/\(dY n w).2.1=w.2.1/\(dY n w).2.2.1=w.2.2.1/\(dY n w).2.2.2.2.2=w.2.2.2.2.2
 | 0,w,h=>⟨h,rfl,rfl,rfl,rfl⟩
 | n+1,w,h=>by
  rw[dY]
  split
  ·rename_i hd
   have k:=D5 n (h.chg hd).1
   exact⟨k.1,k.2.1.trans rfl,k.2.2.1.trans rfl,k.2.2.2.1.trans rfl,k.2.2.2.2.trans rfl⟩
  ·exact⟨h,rfl,rfl,rfl,rfl⟩
theorem cu.change{w:au}{K:Int}(h:cu w K):cu (br w) K:=(D5 _ h).1
theorem th{n:bw}(h:d9 n=0){i:Nat}(hi:i<n.1.length){k:Int}(hk:k∈bv (n.1.getD i default)) :
  (0<=k/\k<n.2.1.length)/\iK n.1.length (n.2.1.getD k.toNat default)/\(0<=fF n.2.1 k i/\fF n.2.1 k i<n.1.length)/\k∈bv (n.1.getD (fF n.2.1 k i).toNat default):=by
 obtain⟨-,hc,hb,hp,-⟩:=zT h
 have b:=rM hb i hi
 unfold mn at b
 split at b
 ·rename_i q;exact absurd b q
 rename_i hv
 have N:mQ (n.1.getD i default):=JB (Decidable.not_not.1 hv)
 split at b
 ·cases b
 rename_i hs
 have hst:nF n i k=false:=by
  cases q:nF n i k with
  | false=>rfl
  | true=>exact absurd (List.any_eq_true.2 ⟨k,hk,q⟩) hs
 unfold nF at hst
 simp only[Bool.or_eq_false_iff,decide_eq_false_iff_not,Bool.not_eq_false',Bool.or_eq_true,decide_eq_true_eq] at hst
 obtain⟨h1,h2⟩:=hst
 obtain⟨q,hq,rfl⟩:=List.mem_map.1 hk
 obtain⟨j,hj,rfl⟩:=List.mem_iff_getElem.1 hq
 have k0:0<=((aA (n.1.getD i default))[j]).2:=by
  have:=(GP (N.ports j hj)).2
  rw[List.getD_eq_getElem?_getD (l:=aA _),List.getElem?_eq_getElem hj,Option.getD_some] at this
  omega
 generalize ((aA (n.1.getD i default))[j]).2=k at hk h1 h2 k0
 have hkl:k.toNat<n.2.1.length:=by omega
 have snd:iK n.1.length (n.2.1.getD k.toNat default):=by
  unfold lx at hc
  split at hc
  ·rename_i z;exact of_decide_eq_true (List.all_eq_true.1 z _ (mF hkl))
  ·cases hc
 have lo:nH n k.toNat=false:=by
  unfold nt at hp
  split at hp
  ·cases hp
  ·rename_i z
   cases q:nH n k.toNat with
   | false=>rfl
   | true=>exact absurd (List.any_eq_true.2 ⟨k.toNat,List.mem_range.2 hkl,q⟩) z
 unfold nH at lo
 simp only[Bool.or_eq_false_iff,decide_eq_false_iff_not] at lo
 obtain⟨l1,l2⟩:=lo
 rw[show ((k.toNat:Nat):Int)=k by omega] at l1 l2
 have mem:∀ x:ac,¬ cM x k<0->k∈bv x:=fun x hx=>by
  obtain⟨a,b⟩:=qV (q:=gI k) (l:=aA x) (by unfold cM at hx;omega)
  have hm:=mF (xs:=aA x) (i:=(fR (gI k) (aA x)).toNat) (by unfold cM at hx;omega)
  exact List.mem_map.2 ⟨_,hm,of_decide_eq_true b⟩
 refine⟨⟨k0,by omega⟩,snd,?_⟩
 obtain⟨s1,s2,s3,s4,s5,-⟩:=snd
 unfold fF
 rw[if_neg (by omega)]
 by_cases e:(i:Int)=lA (n.2.1.getD k.toNat default)
 ·rw[if_pos e]
  exact⟨⟨s3,s4⟩,mem _ l2⟩
 ·have e2:lB (n.2.1.getD k.toNat default)=i:=by
   rcases h2 with z|z
   ·exact absurd z.symm e
   ·exact z
  rw[if_neg e,if_pos e2.symm]
  exact⟨⟨s1,s2⟩,mem _ l1⟩
theorem B4{n:Int}(h0:0<=n)(h1:n<=9223372036854775807):IntKind.u64.wrap n=n:=by
 obtain⟨m,rfl⟩:∃ m:Nat,n=m:=⟨n.toNat,by omega⟩
 rw[Fx];omega
theorem aq1(x:Int):0<=kC x:=Int.natCast_nonneg _
theorem xq{w:au}{k:Int}(hs:iK (ao w).1.length (cy w k))(hn:0<=aV w/\aV w<=1125899906842624):aV w+1<=gH w k/\gH w k<=aV w+kO (cy w k)+gV (cy w k):=by
 obtain⟨-,-,-,-,-,d1,d2,j1,j2,-⟩:=hs
 have hh:0<=mL (cy w k) (jg w k):=aq1 _
 have e1:IntKind.i64.wrap (gV (cy w k)+1)=gV (cy w k)+1:=ai (by omega) (by omega)
 have e2:IntKind.u64.wrap (gV (cy w k)+1)=gV (cy w k)+1:=B4 (by omega) (by omega)
 have hd:0<=Int.tdiv (mL (cy w k) (jg w k)) 65536:=Int.tdiv_nonneg hh (by omega)
 have t0:=Int.tmod_nonneg (gV (cy w k)+1) hd
 have t1:=Int.tmod_lt_of_pos (Int.tdiv (mL (cy w k) (jg w k)) 65536) (show 0<gV (cy w k)+1 by omega)
 have el:xJ w k=Int.tmod (Int.tdiv (mL (cy w k) (jg w k)) 65536) (gV (cy w k)+1):=by
  unfold xJ
  rw[e1,e2,ai (by omega) (by omega)]
 have e3:IntKind.i64.wrap (aV w+kO (cy w k))=aV w+kO (cy w k):=ai (by omega) (by omega)
 have e4:gH w k=aV w+kO (cy w k)+xJ w k:=by
  unfold gH
  rw[e3,ai (by omega) (by omega)]
 omega
theorem cu.ends{w:au}{K:Int}(h:cu w K)(f:aH)(link why:Int):cu (kx w f link why) K:=⟨h.net,h.now,h.ord,h.done,h.len,h.st,h.cl,h.cr,h.fl,h.fo,h.fn⟩
theorem cu.dels{w:au}{K:Int}(h:cu w K)(l:List mY):cu (qM w l) K:=⟨h.net,h.now,h.ord,h.done,h.len,h.st,h.cl,h.cr,h.fl,h.fo,h.fn⟩
theorem cu.crosses{w:au}{K:Int}(h:cu w K)(hK:K<=2199023255552){f:aH}{out:Int×List Int}(hf:0<=aN f/\aN f<(ao w).1.length)(hg:0<=dM f/\dM f<aS w)
  (hk:out.1∈bv ((ao w).1.getD (aN f).toNat default)) (hb:bytes out.2) (hl:(out.2.length:Int)<=2000):cu (cK w f out) (K+1):=by
 have hi:(aN f).toNat<(ao w).1.length:=by omega
 obtain⟨⟨k0,k1⟩,snd,o1,o2⟩:=th h.net hi hk
 rw[show (((aN f).toNat:Nat):Int)=aN f by omega] at o1 o2
 have ov:=xq (w:=w) (k:=out.1) snd h.now
 have hcl:out.1.toNat<(dV w).length:=by rw[h.cl];omega
 have hc0:jg w out.1∈dV w:=mF hcl
 have hc1:=h.cr _ hc0
 have hord:=h.ord
 have base:cu (qY w ((dV w).set out.1.toNat (IntKind.i64.wrap (jg w out.1+1)))) (K+1):=by
  have h':=h.more (K':=K+1) (by omega)
  refine⟨h'.net,h'.now,h'.ord,h'.done,h'.len,h'.st,?_,fun c hc=>?_,h'.fl,h'.fo,h'.fn⟩
  ·show ((dV w).set _ _).length=_
   rw[List.length_set];exact h.cl
  ·have hc:c∈(dV w).set out.1.toNat (IntKind.i64.wrap (jg w out.1+1)):=hc
   rcases List.mem_or_eq_of_mem_set hc with hc|rfl
   ·have:=h.cr c hc;omega
   ·rw[ai (by omega) (by omega)];omega
 unfold cK
 dsimp only
 split
 ·exact base.ends _ _ _
 split
 ·exact base.ends _ _ _
 rename_i q
 have ew:IntKind.i64.wrap (aS w+1)=aS w+1:=ai (by omega) (by omega)
 refine⟨base.net,base.now,?_,base.done,base.len,base.st,base.cl,base.cr,?_,?_,?_⟩
 ·show 0<=IntKind.i64.wrap (aS w+1)/\IntKind.i64.wrap (aS w+1)<=K+1
  rw[ew];omega
 ·exact LI h.fl fun x hx=>(h.fo x hx).o.2
 ·intro x hx
  have hx:x∈bT (am w) (gH w out.1,aS w,fF (ao w).2.1 out.1 (aN f),out.1,dM f,out.2):=hx
  show qU (ao w) (aV w) (IntKind.i64.wrap (aS w+1)) x
  rw[ew]
  rcases rN.1 hx with rfl|hx
  ·exact⟨⟨by show aV w<=gH w out.1;omega,by show gH w out.1<=_;omega⟩,⟨by show 0<=aS w;omega,by show aS w<aS w+1;omega⟩,o1,.inr o2,⟨hg.1,by show dM f<aS w+1;omega⟩,hb,hl⟩
  ·have k:=h.fo x hx
   exact⟨k.t,⟨k.o.1,by have:=k.o.2;omega⟩,k.nd,k.l,⟨k.g.1,by have:=k.g.2;omega⟩,k.b,k.d⟩
 ·show (bT (am w) _).length<=4096
  rw[vw];omega
theorem cu.land{w:au}{K:Int}(h:cu w K)(hK:K<=1099511627776){f:aH}(hf:qU (ao w) (aV w) (aS w) f)(ht:aq f=aV w):cu (dD w f) (K+2):=by
 have hi:(aN f).toNat<(ao w).1.length:=by have:=hf.nd;omega
 obtain⟨st,rt⟩:=h.st _ hi
 have N:=rp h.net hi
 have O:=EE (lk:=dW f) (t:=aq f) N st.rt hf.b
 have S:=Xs (link:=dW f) (b:=c9 f) (at':=aq f) N st ⟨by have:=h.ord;omega,by omega⟩ ⟨by have:=h.now;omega,by have:=h.now;omega⟩
 have eH:aK w f=dJ ((ao w).1.getD (aN f).toNat default) ((bo w).getD (aN f).toNat default) (dW f) (aq f) (c9 f):=rfl
 rw[← eH] at O S
 have ha:cu (fu w ((bo w).set (aN f).toNat (aK w f).1)) (K+1):=by
  have h':=h.more (K':=K+1) (by omega)
  refine⟨h'.net,h'.now,h'.ord,h'.done,?_,fun i hl=>?_,h'.cl,h'.cr,h'.fl,h'.fo,h'.fn⟩
  ·show ((bo w).set _ _).length=_
   rw[List.length_set];exact h.len
  ·have hl:i<(ao w).1.length:=hl
   show fP _ (((bo w).set (aN f).toNat (aK w f).1).getD i default) _/\bh (((bo w).set (aN f).toNat (aK w f).1).getD i default)=_
   by_cases e:(aN f).toNat=i
   ·subst e
    rw[iA (by rw[h.len];exact hi)]
    exact⟨S,O.rt.trans rt⟩
   ·rw[kJ e]
    exact h'.st i hl
 have hb:cu (if (aK w f).2.2=1 then qM (fu w ((bo w).set (aN f).toNat (aK w f).1)) (bz (fu w ((bo w).set (aN f).toNat (aK w f).1))++[(aq f,aN f,c9 f)]) else fu w ((bo w).set (aN f).toNat (aK w f).1)) (K+1):=by
  split
  ·exact ha.dels _
  ·exact ha
 unfold dD
 dsimp only
 generalize hB:(if (aK w f).2.2=1 then qM (fu w ((bo w).set (aN f).toNat (aK w f).1)) (bz (fu w ((bo w).set (aN f).toNat (aK w f).1))++[(aq f,aN f,c9 f)]) else fu w ((bo w).set (aN f).toNat (aK w f).1))=B at hb
 have eB:ao B=ao w/\aS B=aS w:=by rw[← hB];split <;> exact⟨rfl,rfl⟩
 have hc:cu (if (aK w f).2.2≠0 then kx B f (dW f) (aK w f).2.2 else B) (K+1):=by
  split
  ·exact hb.ends _ _ _
  ·exact hb
 have eC:ao (if (aK w f).2.2≠0 then kx B f (dW f) (aK w f).2.2 else B)=ao w/\aS (if (aK w f).2.2≠0 then kx B f (dW f) (aK w f).2.2 else B)=aS w:=by
  split
  ·exact eB
  ·exact eB
 generalize (if (aK w f).2.2≠0 then kx B f (dW f) (aK w f).2.2 else B)=C at hc eC
 split
 ·rename_i hp
  have hr:(aK w f).2.2=0∨(aK w f).2.2=2:=by
   by_cases z0:(aK w f).2.2=0
   ·exact .inl z0
   by_cases z2:(aK w f).2.2=2
   ·exact .inr z2
   ·have:=O.none z0 z2
    rw[this] at hp
    exact absurd hp (by simp[gn])
  obtain⟨p1,p2,p3⟩:=O.some hr
  have hm:(aK w f).2.1.1∈bv ((ao w).1.getD (aN f).toNat default):=by
   obtain⟨a,b⟩:=qV (q:=gI (aK w f).2.1.1) (l:=aA ((ao w).1.getD (aN f).toNat default)) p3
   have hm:=mF (xs:=aA ((ao w).1.getD (aN f).toNat default)) (i:=(fR (gI (aK w f).2.1.1) (aA ((ao w).1.getD (aN f).toNat default))).toNat) (by unfold cM at p3;omega)
   exact List.mem_map.2 ⟨_,hm,of_decide_eq_true b⟩
  have z:=cu.crosses hc (by omega) (by rw[eC.1];exact hf.nd) (by rw[eC.2];exact hf.g) (by rw[eC.1];exact hm) O.byt (by omega)
  rwa [show K+1+1=K+2 by omega] at z
 ·exact hc.more (by omega)
theorem GB(w:au)(f:aH)(out:Int×List Int):ao (cK w f out)=ao w/\aV (cK w f out)=aV w ∧
  (am (cK w f out)=am w∨∃ g,aq g=gH w out.1/\am (cK w f out)=bT (am w) g):=by
 unfold cK
 dsimp only
 split
 ·exact⟨rfl,rfl,.inl rfl⟩
 split
 ·exact⟨rfl,rfl,.inl rfl⟩
 ·exact⟨rfl,rfl,.inr ⟨_,rfl,rfl⟩⟩
theorem wM{n:bw}(h:d9 n=0){i:Nat}(hi:i<n.1.length){k:Int}(hp:0<=cM (n.1.getD i default) k):k∈bv (n.1.getD i default):=by
 obtain⟨a,b⟩:=qV (q:=gI k) (l:=aA (n.1.getD i default)) hp
 have hm:=mF (xs:=aA (n.1.getD i default)) (i:=(fR (gI k) (aA (n.1.getD i default))).toNat) (by unfold cM at hp;omega)
 exact List.mem_map.2 ⟨_,hm,of_decide_eq_true b⟩
theorem ZE{w:au}{K:Int}(h:cu w K){f:aH}(hf:qU (ao w) (aV w) (aS w) f):ao (dD w f)=ao w/\aV (dD w f)=aV w ∧
  (am (dD w f)=am w∨∃ g,aV w+1<=aq g/\am (dD w f)=bT (am w) g):=by
 have hi:(aN f).toNat<(ao w).1.length:=by have:=hf.nd;omega
 obtain⟨st,rt⟩:=h.st _ hi
 have N:=rp h.net hi
 have O:=EE (lk:=dW f) (t:=aq f) N st.rt hf.b
 have eH:aK w f=dJ ((ao w).1.getD (aN f).toNat default) ((bo w).getD (aN f).toNat default) (dW f) (aq f) (c9 f):=rfl
 rw[← eH] at O
 unfold dD
 dsimp only
 have key:∀ B:au,ao B=ao w->aV B=aV w->am B=am w->dV B=dV w →
   (ao (if 0<(aK w f).2.1.2.length then cK B f (aK w f).2.1 else B)=ao w/\aV (if 0<(aK w f).2.1.2.length then cK B f (aK w f).2.1 else B)=aV w ∧
    (am (if 0<(aK w f).2.1.2.length then cK B f (aK w f).2.1 else B)=am w∨∃ g,aV w+1<=aq g/\am (if 0<(aK w f).2.1.2.length then cK B f (aK w f).2.1 else B)=bT (am w) g)):=by
  intro B b1 b2 b3 b4
  split
  ·rename_i hp
   obtain⟨c1,c2,c3⟩:=GB B f (aK w f).2.1
   refine⟨c1.trans b1,c2.trans b2,?_⟩
   rcases c3 with c3|⟨g,g1,g2⟩
   ·exact .inl (c3.trans b3)
   ·have hr:(aK w f).2.2=0∨(aK w f).2.2=2:=by
     by_cases z0:(aK w f).2.2=0
     ·exact .inl z0
     by_cases z2:(aK w f).2.2=2
     ·exact .inr z2
     ·have:=O.none z0 z2
      rw[this] at hp
      exact absurd hp (by simp[gn])
    have hl:=wM h.net hi (O.some hr).2.2
    obtain⟨-,snd,-⟩:=th h.net hi hl
    have ov:=xq (w:=B) (k:=(aK w f).2.1.1) (by unfold cy;rw[b1];exact snd) (by rw[b2];exact h.now)
    refine .inr ⟨g,by rw[g1,← b2];exact ov.1,by rw[g2,b3]⟩
  ·exact⟨b1,b2,.inl b3⟩
 apply key
 all_goals (split <;> (split <;> rfl))
theorem wg(to:Int)(f:aH)(r:List aH):fI to (f::r)=(to+1-aq f).toNat+fI to r:=by
 unfold fI;rw[List.map_cons,List.sum_cons]
theorem cu.step{w:au}{K:Int}(h:cu w K)(hK:K<=1099511627776){f:aH}{r:List aH}(e:am w=f::r) :
  cu (cH w) (K+2)/\ao (cH w)=ao w/\aV (cH w)=aq f∧∀ to,aq f<=to->fI to (am (cH w))+1<=fI to (am w):=by
 have hp:=h.fl
 rw[e] at hp
 obtain⟨p1,p2⟩:=List.pairwise_cons.1 hp
 have hf:=h.fo f (by rw[e];exact List.mem_cons_self)
 have hle:∀ x∈r,aq f<=aq x:=fun x hx=>by rcases p1 x hx with k|k <;> omega
 have ed:(am w).headD default=f:=by rw[e];rfl
 have et:(am w).tail=r:=by rw[e];rfl
 have hb:cu (bU (bi w r) (aq f)) K:=by
  refine⟨h.net,⟨by show 0<=aq f;have:=h.now;have:=hf.t;omega,hf.t.2⟩,h.ord,h.done,h.len,h.st,h.cl,h.cr,p2,fun x hx=>?_,?_⟩
  ·have hx:x∈r:=hx
   have k:=h.fo x (by rw[e];exact List.mem_cons_of_mem _ hx)
   exact⟨⟨hle x hx,k.t.2⟩,k.o,k.nd,k.l,k.g,k.b,k.d⟩
  ·show r.length<=4096
   have:=h.fn
   rw[e,List.length_cons] at this;omega
 have hc:=D5 ((ao w).2.2.length-(bO w).toNat) hb
 have es:cH w=dD (br (bU (bi w r) (aq f))) f:=by unfold cH;rw[ed,et]
 have ec:br (bU (bi w r) (aq f))=dY ((ao w).2.2.length-(bO w).toNat) (bU (bi w r) (aq f)):=rfl
 rw[← ec] at hc
 obtain⟨c1,c2,c3,c4,c5⟩:=hc
 generalize br (bU (bi w r) (aq f))=v at c1 c2 c3 c4 c5 es
 have n1:ao v=ao w:=c2
 have n2:aV v=aq f:=c3
 have n3:aS v=aS w:=c4
 have n4:am v=r:=congrArg (fun x:List Int×List aH×List mY×List iX=>x.2.1) c5
 have hfv:qU (ao v) (aV v) (aS v) f:=by
  rw[n1,n2,n3]
  exact⟨⟨Int.le_refl _,hf.t.2⟩,hf.o,hf.nd,hf.l,hf.g,hf.b,hf.d⟩
 have L:=ZE c1 hfv
 rw[es]
 refine⟨c1.land hK hfv n2.symm,L.1.trans n1,L.2.1.trans n2,fun to hto=>?_⟩
 rw[e,wg]
 rcases L.2.2 with q|⟨g,g1,g2⟩
 ·rw[q,n4];omega
 ·rw[g2,n4,CJ]
  rw[n2] at g1
  omega
theorem cu.run{to:Int}:∀(n:Nat){w:au}{K:Int},cu w K->fI to (am w)<=n->K+2*n<=1099511627776->cu (f5 n w to) (K+2*n)/\gG (f5 n w to) to=false/\ao (f5 n w to)=ao w
 | 0,w,K,h,hw,hK=>by
  refine⟨by simpa[f5] using h,?_,rfl⟩
  show gG w to=false
  unfold gG
  cases e:am w with
  | nil=>rfl
  | cons f r =>
   rw[e,wg] at hw
   exact decide_eq_false (by omega)
 | n+1,w,K,h,hw,hK=>by
  rw[f5]
  split
  ·rename_i hb
   unfold gG at hb
   cases e:am w with
   | nil=>rw[e] at hb;cases hb
   | cons f r =>
    rw[e] at hb
    have hb:=of_decide_eq_true hb
    obtain⟨s1,s2,-,s4⟩:=h.step (by omega) e
    have:=s4 to hb
    obtain⟨t1,t2,t3⟩:=cu.run (to:=to) n s1 (by omega) (by omega)
    rw[show K+2+2*(n:Int)=K+2*((n+1:Nat):Int) by omega] at t1
    exact⟨t1,t2,t3.trans s2⟩
  ·rename_i hb
   exact⟨h.more (by omega),by simpa using hb,rfl⟩
end Go.RS

/- Sim3: running in two parts. -/
namespace Go.RS
open Go.SX Go.Proofs
set_option maxRecDepth 100000
set_option linter.unusedVariables false
def okDn(w:au):Prop:=0<=bO w/\((ao w).2.2.length:Int)<=1099511627776
def qE(w:au):Nat:=(ao w).2.2.length-(bO w).toNat
theorem Hc{w:au}(h:okDn w)(hd:jp w=true):bO (jf w)=bO w+1/\okDn (jf w)/\qE (jf w)+1=qE w:=by
 unfold jp at hd
 rw[Bool.and_eq_true,decide_eq_true_iff,decide_eq_true_iff] at hd
 obtain⟨h0,h1⟩:=h
 have e:bO (jf w)=bO w+1:=ai (n:=bO w+1) (by omega) (by omega)
 refine⟨e,⟨by rw[e];omega,h1⟩,?_⟩
 unfold qE
 rw[e]
 show (ao w).2.2.length-_+1=_
 omega
theorem OR{w:au}(h:okDn w)(hd:jp w=true):0<qE w:=by
 unfold jp at hd
 rw[Bool.and_eq_true,decide_eq_true_iff,decide_eq_true_iff] at hd
 have:=h.1
 unfold qE;omega
theorem LO:∀(n m:Nat){w:au},okDn w->qE w<=n->qE w<=m->dY n w=dY m w
 | 0,0,_,_,_,_=>rfl
 | 0,m+1,w,h,hn,_=>by
  rw[dY,dY,if_neg]
  intro hd;have:=OR h hd;omega
 | n+1,0,w,h,_,hm=>by
  rw[dY,dY,if_neg]
  intro hd;have:=OR h hd;omega
 | n+1,m+1,w,h,hn,hm=>by
  rw[dY,dY]
  split
  ·rename_i hd
   obtain⟨-,o,r⟩:=Hc h hd
   exact LO n m o (by omega) (by omega)
  ·rfl
theorem ab8{w:au}(h:okDn w){n:Nat}(hn:qE w<=n):br w=dY n w:=LO _ _ h (Nat.le_refl _) hn
theorem ru:∀(n:Nat)(w:au),(dY n w).1=w.1/\(dY n w).2.1=w.2.1/\(dY n w).2.2.1=w.2.2.1/\(dY n w).2.2.2.2.2=w.2.2.2.2.2
 | 0,w=>⟨rfl,rfl,rfl,rfl⟩
 | n+1,w=>by
  rw[dY]
  split
  ·have k:=ru n (jf w)
   exact⟨k.1.trans rfl,k.2.1.trans rfl,k.2.2.1.trans rfl,k.2.2.2.trans rfl⟩
  ·exact⟨rfl,rfl,rfl,rfl⟩
theorem uD(w:au):am (br w)=am w/\aV (br w)=aV w:=⟨congrArg (fun x:List Int×List aH×List mY×List iX=>x.2.1) (ru _ w).2.2.2,(ru _ w).2.1⟩
theorem X8(w:au)(l:List aH):jf (bi w l)=bi (jf w) l:=rfl
theorem HC(l:List aH):∀(n:Nat)(w:au),dY n (bi w l)=bi (dY n w) l
 | 0,w=>rfl
 | n+1,w=>by
  rw[dY,dY]
  by_cases hd:jp w=true
  ·rw[if_pos hd,if_pos (show jp (bi w l)=true from hd),X8,HC l n]
  ·rw[if_neg hd,if_neg (show ¬ jp (bi w l)=true from hd)]
def jH(w:au)(to:Int):au:=f5 (fI to (am w)) w to
theorem Uh{w:au}{to:Int}(hb:gG w to=false):∀ n:Nat,f5 n w to=w
 | 0=>rfl
 | n+1=>by rw[f5,if_neg (by rw[hb];simp)]
theorem cu.okDn{w:au}{K:Int}(h:cu w K):okDn w:=⟨h.done.1,by have:=tq h.net;omega⟩
theorem cu.wait{w:au}{K a:Int}(h:cu w K)(hb:gG w a=false)(ha:0<=a/\a<=1125899906842624):cu (bU w a) K:=by
 refine⟨h.net,ha,h.ord,h.done,h.len,h.st,h.cl,h.cr,h.fl,fun x hx=>?_,h.fn⟩
 have hx:x∈am w:=hx
 have k:=h.fo x hx
 refine⟨⟨?_,k.t.2⟩,k.o,k.nd,k.l,k.g,k.b,k.d⟩
 show a<=aq x
 have hp:=h.fl
 unfold gG at hb
 cases e:am w with
 | nil=>rw[e] at hx;cases hx
 | cons f r =>
  rw[e] at hb hx hp
  have hb:=of_decide_eq_false hb
  rcases List.mem_cons.1 hx with rfl|hx
  ·omega
  ·rcases (List.pairwise_cons.1 hp).1 x hx with q|q <;> omega
end Go.RS

/- Sim4: a packet that is sent later changes nothing that happens before. -/
namespace Go.RS
open Go.SX Go.Proofs
set_option maxRecDepth 100000
set_option linter.unusedVariables false
def iQ(f:aH):Int×Int×Int×Int×List Int:=(f.1,f.2.2)
def Lr(c:Int)(l l':List aH):Prop:=∃ (g:aH) (pre post:List aH),l'=pre++g::post/\(pre++post).map iQ=l.map iQ/\c<aq g/\(∀ y∈pre,aq y<=aq g)∧∀ y∈post,aq g<=aq y
theorem rF{x y:aH}(h:iQ x=iQ y):aq x=aq y/\x.2.2=y.2.2:=⟨congrArg (·.1) h,congrArg (·.2) h⟩
theorem Dh:∀{l m:List aH},l.map iQ=m.map iQ→∀{f g:aH},iQ f=iQ g->(bT l f).map iQ=(bT m g).map iQ
 | [],[],_,f,g,hf=>by simp[bT,hf]
 | [],y::m,h,f,g,hf=>by cases h
 | x::l,[],h,f,g,hf=>by cases h
 | x::l,y::m,h,f,g,hf=>by
  rw[List.map_cons,List.map_cons,List.cons.injEq] at h
  have ih:=Dh h.2 hf
  have ex:=(rF h.1).1
  have ef:=(rF hf).1
  unfold bT at ih ⊢
  by_cases c:aq x<=aq f
  ·have c':aq y<=aq g:=by omega
   rw[List.takeWhile_cons_of_pos (by simpa using c),List.dropWhile_cons_of_pos (by simpa using c),List.takeWhile_cons_of_pos (by simpa using c'),List.dropWhile_cons_of_pos (by simpa using c')]
   rw[List.cons_append,List.map_cons,List.cons_append,List.map_cons,h.1,ih]
  ·have c':¬ aq y<=aq g:=by omega
   rw[List.takeWhile_cons_of_neg (by simpa using c),List.dropWhile_cons_of_neg (by simpa using c),List.takeWhile_cons_of_neg (by simpa using c'),List.dropWhile_cons_of_neg (by simpa using c')]
   simp[hf,h.1,h.2]
theorem Ig{pre post:List aH}{f:aH}(h:∀ y∈post,aq f<aq y):bT (pre++post) f=bT pre f++post:=by
 induction pre with
 | nil =>
  cases post with
  | nil=>rfl
  | cons y r =>
   have:=h y List.mem_cons_self
   unfold bT
   rw[List.nil_append,List.takeWhile_cons_of_neg (by simp;omega),List.dropWhile_cons_of_neg (by simp;omega)]
   rfl
 | cons x l ih =>
  unfold bT at ih ⊢
  rw[List.cons_append]
  by_cases c:aq x<=aq f
  ·rw[List.takeWhile_cons_of_pos (by simpa using c),List.dropWhile_cons_of_pos (by simpa using c),List.takeWhile_cons_of_pos (by simpa using c),List.dropWhile_cons_of_pos (by simpa using c),List.cons_append,ih]
   rfl
  ·rw[List.takeWhile_cons_of_neg (by simpa using c),List.dropWhile_cons_of_neg (by simpa using c),List.takeWhile_cons_of_neg (by simpa using c),List.dropWhile_cons_of_neg (by simpa using c)]
   rfl
theorem Lx{pre post:List aH}{f:aH}(h:∀ y∈pre,aq y<=aq f):bT (pre++post) f=pre++bT post f:=by
 induction pre with
 | nil=>rfl
 | cons x l ih =>
  have ih:=ih fun y hy=>h y (List.mem_cons_of_mem _ hy)
  have c:=h x List.mem_cons_self
  unfold bT at ih ⊢
  rw[List.cons_append,List.takeWhile_cons_of_pos (by simpa using c),List.dropWhile_cons_of_pos (by simpa using c),List.cons_append,ih]
  rfl
theorem Wy{c:Int}{l:List aH}{g:aH}{pre post:List aH}(h:(pre++post).map iQ=l.map iQ)(hp:∀ y∈pre,aq y<=aq g)(hq:∀ y∈post,aq g<=aq y){f f':aH}(hf:iQ f=iQ f') :
  ∃ pre' post',bT (pre++g::post) f=pre'++g::post'∧(pre'++post').map iQ=(bT l f').map iQ/\(∀ y∈pre',aq y<=aq g)∧∀ y∈post',aq g<=aq y:=by
 by_cases k:aq f<aq g
 ·refine⟨bT pre f,post,Ig fun y hy=>?_,?_,fun y hy=>?_,hq⟩
  ·rcases List.mem_cons.1 hy with rfl|hy
   ·exact k
   ·have:=hq y hy;omega
  ·rw[← Ig (fun y hy=>by have:=hq y hy;omega)]
   exact Dh h hf
  ·rcases rN.1 hy with rfl|hy
   ·omega
   ·exact hp y hy
 ·refine⟨pre,bT post f,?_,?_,hp,fun y hy=>?_⟩
  ·rw[show pre++g::post=(pre++[g])++post by simp,Lx (fun y hy=>?_)]
   ·simp
   ·rcases List.mem_append.1 hy with hy|hy
    ·have:=hp y hy;omega
    ·have:=List.mem_singleton.1 hy
     subst this;omega
  ·rw[← Lx (fun y hy=>by have:=hp y hy;omega)]
   exact Dh h hf
  ·rcases rN.1 hy with rfl|hy
   ·omega
   ·exact hq y hy
theorem Lr.ins{c:Int}{l l':List aH}(h:Lr c l l'){f f':aH}(hf:iQ f'=iQ f):Lr c (bT l f) (bT l' f'):=by
 obtain⟨g,pre,post,rfl,h1,h2,h3,h4⟩:=h
 obtain⟨pre',post',k1,k2,k3,k4⟩:=Wy (c:=c) h1 h3 h4 (f:=f') (f':=f) hf
 exact⟨g,pre',post',k1,k2,h2,k3,k4⟩
theorem Lr.len{c:Int}{l l':List aH}(h:Lr c l l'):l'.length=l.length+1:=by
 obtain⟨g,pre,post,rfl,h1,-⟩:=h
 have:=congrArg List.length h1
 rw[List.length_map,List.length_map,List.length_append] at this
 rw[List.length_append,List.length_cons];omega
theorem ac9{c:Int}{B:au}{o':Int}{l':List aH}{f f':aH}{out:Int×List Int}(hL:Lr c (am B) l')(hb:iQ f'=iQ f)(hl:l'.length<4096) :
  ∃ o'' l'',cK (bi (d5 B o') l') f' out=bi (d5 (cK B f out) o'') l''∧Lr c (am (cK B f out)) l'':=by
 have hlen:=hL.len
 obtain⟨t,o1,r⟩:=f
 obtain⟨t',o2,r'⟩:=f'
 obtain⟨e1,e2⟩:=rF hb
 have e1:t'=t:=e1
 have e2:r'=r:=e2
 subst e1 e2
 unfold cK
 dsimp only
 by_cases A:Int.tmod (mL (cy B out.1) (jg B out.1)) 65536<IntKind.wrap .u64 (md (cy B out.1))
 ·rw[if_pos A,if_pos (show Int.tmod (mL (cy (bi (d5 B o') l') out.1) (jg (bi (d5 B o') l') out.1)) 65536<IntKind.wrap .u64 (md (cy (bi (d5 B o') l') out.1)) from A)]
  exact⟨o',l',rfl,hL⟩
 ·rw[if_neg A,if_neg (show ¬ Int.tmod (mL (cy (bi (d5 B o') l') out.1) (jg (bi (d5 B o') l') out.1)) 65536<IntKind.wrap .u64 (md (cy (bi (d5 B o') l') out.1)) from A)]
  by_cases C:1125899906842624<gH B out.1
  ·rw[if_pos (.inl C),if_pos (.inl (show 1125899906842624<gH (bi (d5 B o') l') out.1 from C))]
   exact⟨o',l',rfl,hL⟩
  ·rw[if_neg (show ¬ (1125899906842624<gH B out.1∨(4096:Int)<=(am B).length) by rintro (q|q);exact C q;omega),
    if_neg (show ¬ (1125899906842624<gH (bi (d5 B o') l') out.1∨(4096:Int)<=(am (bi (d5 B o') l')).length) by rintro (q|q);exact C q;have q:(4096:Int)<=l'.length:=q;omega)]
   exact⟨_,_,rfl,hL.ins rfl⟩
theorem Rv{c:Int}{v:au}{o':Int}{l':List aH}{f f':aH}(hL:Lr c (am v) l')(hb:iQ f'=iQ f)(hl:l'.length<4096) :
  ∃ o'' l'',dD (bi (d5 v o') l') f'=bi (d5 (dD v f) o'') l''∧Lr c (am (dD v f)) l'':=by
 obtain⟨t,o1,r⟩:=f
 obtain⟨t',o2,r'⟩:=f'
 obtain⟨e1,e2⟩:=rF hb
 have e1:t'=t:=e1
 have e2:r'=r:=e2
 subst e1 e2
 have eh:aK (bi (d5 v o') l') (t',o2,r')=aK v (t',o1,r'):=rfl
 unfold dD
 dsimp only
 rw[eh]
 generalize aK v (t',o1,r')=h
 have key:∀ B B':au,B'=bi (d5 B o') l'→am B=am v→∃ o'' l'',(if 0<h.2.1.2.length then cK B' (t',o2,r') h.2.1 else B')=bi (d5 (if 0<h.2.1.2.length then cK B (t',o1,r') h.2.1 else B) o'') l''∧Lr c (am (if 0<h.2.1.2.length then cK B (t',o1,r') h.2.1 else B)) l'':=by
  rintro B B' rfl hB
  split
  ·exact ac9 (by rw[hB];exact hL) rfl hl
  ·exact⟨o',l',rfl,by rw[hB];exact hL⟩
 refine key _ _ ?_ ?_
 ·split <;> (split <;> rfl)
 ·split <;> (split <;> rfl)
theorem Ly(o:Int):∀(n:Nat)(w:au),dY n (d5 w o)=d5 (dY n w) o
 | 0,w=>rfl
 | n+1,w=>by
  rw[dY,dY]
  by_cases hd:jp w=true
  ·rw[if_pos hd,if_pos (show jp (d5 w o)=true from hd),show jf (d5 w o)=d5 (jf w) o from rfl,Ly o n]
  ·rw[if_neg hd,if_neg (show ¬ jp (d5 w o)=true from hd)]
theorem QG{c:Int}{w:au}{o':Int}{l':List aH}(hL:Lr c (am w) l')(hl:l'.length<4096)(hb:gG w c=true) :
  ∃ o'' l'',cH (bi (d5 w o') l')=bi (d5 (cH w) o'') l''∧Lr c (am (cH w)) l'':=by
 obtain⟨g,pre,post,rfl,h1,h2,h3,h4⟩:=hL
 unfold gG at hb
 cases e:am w with
 | nil=>rw[e] at hb;cases hb
 | cons f r =>
  rw[e] at hb h1
  have hb:=of_decide_eq_true hb
  cases pre with
  | nil =>
   exfalso
   cases post with
   | nil=>cases h1
   | cons y p =>
    rw[List.nil_append,List.map_cons,List.map_cons,List.cons.injEq] at h1
    have:=(rF h1.1).1
    have:=h4 y List.mem_cons_self
    omega
  | cons f' pre =>
   rw[List.cons_append,List.map_cons,List.map_cons,List.cons.injEq] at h1
   obtain⟨b1,b2⟩:=h1
   have bt:=(rF b1).1
   have es:cH w=dD (br (bU (bi w r) (aq f))) f:=by unfold cH;rw[e];rfl
   have ex:cH (bi (d5 w o') (f'::pre++g::post))=dD (br (bU (bi (d5 w o') (pre++g::post)) (aq f'))) f':=rfl
   have ec:br (bU (bi (d5 w o') (pre++g::post)) (aq f'))=bi (d5 (br (bU (bi w r) (aq f))) o') (pre++g::post):=by
    rw[bt]
    show dY _ (bi (d5 (bU (bi w r) (aq f)) o') (pre++g::post))=_
    rw[HC,Ly]
    rfl
   rw[es,ex,ec]
   have fl:am (br (bU (bi w r) (aq f)))=r:=(uD _).1
   exact Rv ⟨g,pre,post,rfl,by rw[fl];exact b2,h2,fun y hy=>h3 y (List.mem_cons_of_mem _ hy),h4⟩ b1 (by simp only[List.cons_append,List.length_cons] at hl;omega)
theorem Lr.busy{c:Int}{l l':List aH}(h:Lr c l l')(w:au)(o':Int)(e:am w=l):gG (bi (d5 w o') l') c=gG w c:=by
 obtain⟨g,pre,post,rfl,h1,h2,h3,h4⟩:=h
 show (match pre++g::post with|[]=>false|f::_=>decide (aq f<=c))=(match am w with|[]=>false|f::_=>decide (aq f<=c))
 rw[e]
 cases pre with
 | nil =>
  rw[List.nil_append]
  have hg:decide (aq g<=c)=false:=decide_eq_false (by omega)
  show decide (aq g<=c)=_
  rw[hg]
  cases post with
  | nil =>
   cases l with
   | nil=>rfl
   | cons f r=>cases h1
  | cons y p =>
   cases l with
   | nil=>rfl
   | cons f r =>
    rw[List.nil_append,List.map_cons,List.map_cons,List.cons.injEq] at h1
    have:=(rF h1.1).1
    have:=h4 y List.mem_cons_self
    exact (decide_eq_false (by omega)).symm
 | cons f' pre =>
  cases l with
  | nil=>cases h1
  | cons f r =>
   rw[List.cons_append,List.map_cons,List.map_cons,List.cons.injEq] at h1
   have:=(rF h1.1).1
   show decide (aq f'<=c)=decide (aq f<=c)
   rw[this]
theorem RD(w:au)(f:aH):(am (dD w f)).length<=(am w).length+1:=by
 unfold dD
 dsimp only
 have key:∀ B:au,am B=am w->(am (if 0<(aK w f).2.1.2.length then cK B f (aK w f).2.1 else B)).length<=(am w).length+1:=by
  intro B hB
  split
  ·rcases (GB B f (aK w f).2.1).2.2 with q|⟨g,-,q⟩
   ·rw[q,hB];omega
   ·rw[q,vw,hB];omega
  ·rw[hB];omega
 apply key
 split <;> (split <;> rfl)
theorem T9{w:au}{f:aH}{r:List aH}(e:am w=f::r):(am (cH w)).length<=(am w).length:=by
 have es:cH w=dD (br (bU (bi w r) (aq f))) f:=by unfold cH;rw[e];rfl
 have fl:am (br (bU (bi w r) (aq f)))=r:=(uD _).1
 have:=RD (br (bU (bi w r) (aq f))) f
 rw[es,e,List.length_cons]
 rw[fl] at this
 exact this
theorem Pc{c:Int}:∀(n:Nat){w:au}{o':Int}{l':List aH},Lr c (am w) l'→l'.length<4096 →
  ∃ o'' l'',f5 n (bi (d5 w o') l') c=bi (d5 (f5 n w c) o'') l''∧Lr c (am (f5 n w c)) l''
 | 0,w,o',l',hL,_=>⟨o',l',rfl,hL⟩
 | n+1,w,o',l',hL,hl=>by
  rw[f5,f5,hL.busy w o' rfl]
  split
  ·rename_i hb
   obtain⟨o2,l2,e,hL2⟩:=QG hL hl hb
   rw[e]
   refine Pc n hL2 ?_
   have h1:=hL.len
   have h2:=hL2.len
   unfold gG at hb
   cases eq:am w with
   | nil=>rw[eq] at hb;cases hb
   | cons f r =>
    have:=T9 eq
    omega
  ·exact⟨o',l',rfl,hL⟩
end Go.RS

/- Sim5: what holds of a network in operation however long it runs: no counter is spoken of. -/
namespace Go.RS
open Go.SX Go.Proofs
set_option maxRecDepth 100000
set_option linter.unusedVariables false
structure pY (n:bw) (now:Int) (f:aH):Prop where
 t:now<=aq f/\aq f<=1125899906842624
 nd:0<=aN f/\aN f<n.1.length
 l:dW f = -1∨dW f∈bv (n.1.getD (aN f).toNat default)
 b:bytes (c9 f)
 d:((c9 f).length:Int)<=2000
structure c8 (w:au):Prop where
 net:d9 (ao w)=0
 now:0<=aV w/\aV w<=1125899906842624
 done:0<=bO w/\bO w<=(ao w).2.2.length
 len:(bo w).length=(ao w).1.length
 st:∀ i:Nat,i<(ao w).1.length->bh ((bo w).getD i default)=(cY (ao w) (bO w).toNat).getD i default/\(jc ((bo w).getD i default)).length=(aA ((ao w).1.getD i default)).length
 cl:(dV w).length=(ao w).2.1.length
 fl:(am w).Pairwise fun a b=>aq a<=aq b
 fo:∀ f∈am w,pY (ao w) (aV w) f
 fn:(am w).length<=4096
theorem cu.weak{w:au}{K:Int}(h:cu w K):c8 w :=
 ⟨h.net,h.now,h.done,h.len,fun i hi=>⟨(h.st i hi).2,(h.st i hi).1.ps⟩,h.cl,h.fl.imp fun q=>by rcases q with q|q <;> omega,
  fun f hf=>by have k:=h.fo f hf;exact⟨k.t,k.nd,k.l,k.b,k.d⟩,h.fn⟩
theorem c8.chk{w:au}(h:c8 w){i:Nat}(hi:i<(ao w).1.length):dF (bh ((bo w).getD i default)) (bv ((ao w).1.getD i default))=0:=by
 rw[(h.st i hi).1]
 exact Lg h.net _ (by have:=h.done;omega) i hi
theorem c8.chg{w:au}(h:c8 w)(hd:jp w=true):c8 (jf w):=by
 have hd0:=hd
 unfold jp at hd
 rw[Bool.and_eq_true,decide_eq_true_iff,decide_eq_true_iff] at hd
 have hk:(bO w).toNat<(ao w).2.2.length:=by have:=h.done;omega
 obtain⟨-,⟨w0,w1⟩,-⟩:=Ag h.net hk
 have sz:=tq h.net
 have eD:bO (jf w)=bO w+1:=ai (n:=bO w+1) (by have:=h.done;omega) (by have:=h.done;omega)
 have eN:ao (jf w)=ao w:=rfl
 have hwho:bu (ie w)=bu ((ao w).2.2.getD (bO w).toNat default):=rfl
 have hlt:(bu (ie w)).toNat<(ao w).1.length:=by omega
 have hst:=h.st _ hlt
 refine⟨h.net,h.now,by have:=h.done;rw[eD,eN];omega,?_,fun i hi=>?_,h.cl,h.fl,h.fo,h.fn⟩
 ·show ((bo w).set _ _).length=_
  rw[List.length_set];exact h.len
 ·have hi:i<(ao w).1.length:=hi
  rw[eD,eN,show (bO w+1).toNat=(bO w).toNat+1 by have:=h.done;omega,cY]
  show bh (((bo w).set (bu (ie w)).toNat _).getD i default)=_/\(jc (((bo w).set (bu (ie w)).toNat _).getD i default)).length=_
  by_cases e:(bu (ie w)).toNat=i
  ·subst e
   rw[iA (by rw[h.len];exact hlt),show ((ao w).2.2.getD (bO w).toNat default)=ie w from rfl,iA (by rw[oF];exact hlt),← hst.1]
   exact⟨rfl,hst.2⟩
  ·rw[kJ e,show ((ao w).2.2.getD (bO w).toNat default)=ie w from rfl,kJ e]
   exact h.st i hi
theorem zH:∀(n:Nat){w:au},c8 w->c8 (dY n w)
 | 0,w,h=>h
 | n+1,w,h=>by
  rw[dY]
  split
  ·rename_i hd;exact zH n (h.chg hd)
  ·exact h
theorem YB{l:List aH}{f:aH}(h:l.Pairwise fun a b=>aq a<=aq b):(bT l f).Pairwise fun a b=>aq a<=aq b:=by
 induction l with
 | nil=>simp[bT]
 | cons x l ih =>
  obtain⟨a,b⟩:=List.pairwise_cons.1 h
  have ih:=ih b
  by_cases c:aq x<=aq f
  ·have e:bT (x::l) f=x::bT l f:=by
    unfold bT
    rw[List.takeWhile_cons_of_pos (by simpa using c),List.dropWhile_cons_of_pos (by simpa using c)];rfl
   rw[e]
   refine List.pairwise_cons.2 ⟨fun y hy=>?_,ih⟩
   rcases rN.1 hy with rfl|hy
   ·exact c
   ·exact a y hy
  ·have e:bT (x::l) f=f::x::l:=by
    unfold bT
    rw[List.takeWhile_cons_of_neg (by simpa using c),List.dropWhile_cons_of_neg (by simpa using c)];rfl
   rw[e]
   refine List.pairwise_cons.2 ⟨fun y hy=>?_,h⟩
   rcases List.mem_cons.1 hy with rfl|hy
   ·omega
   ·have:=a y hy;omega
theorem c8.crosses{w:au}(h:c8 w){f:aH}{out:Int×List Int}(hf:0<=aN f/\aN f<(ao w).1.length)
  (hk:out.1∈bv ((ao w).1.getD (aN f).toNat default)) (hb:bytes out.2) (hl:(out.2.length:Int)<=2000):c8 (cK w f out):=by
 have hi:(aN f).toNat<(ao w).1.length:=by omega
 obtain⟨⟨k0,k1⟩,snd,o1,o2⟩:=th h.net hi hk
 rw[show (((aN f).toNat:Nat):Int)=aN f by omega] at o1 o2
 have ov:=xq (w:=w) (k:=out.1) snd h.now
 have base:c8 (qY w ((dV w).set out.1.toNat (IntKind.i64.wrap (jg w out.1+1)))):=by
  refine⟨h.net,h.now,h.done,h.len,h.st,?_,h.fl,h.fo,h.fn⟩
  show ((dV w).set _ _).length=_
  rw[List.length_set];exact h.cl
 unfold cK
 dsimp only
 split
 ·exact⟨base.net,base.now,base.done,base.len,base.st,base.cl,base.fl,base.fo,base.fn⟩
 split
 ·exact⟨base.net,base.now,base.done,base.len,base.st,base.cl,base.fl,base.fo,base.fn⟩
 rename_i q
 refine⟨base.net,base.now,base.done,base.len,base.st,base.cl,YB h.fl,?_,?_⟩
 ·intro x hx
  have hx:x∈bT (am w) (gH w out.1,aS w,fF (ao w).2.1 out.1 (aN f),out.1,dM f,out.2):=hx
  rcases rN.1 hx with rfl|hx
  ·exact⟨⟨by show aV w<=gH w out.1;omega,by show gH w out.1<=_;omega⟩,o1,.inr o2,hb,hl⟩
  ·exact h.fo x hx
 ·show (bT (am w) _).length<=4096
  rw[vw];omega
theorem c8.out{w:au}(h:c8 w){f:aH}(hf:pY (ao w) (aV w) f) :
  Hx ((ao w).1.getD (aN f).toNat default) ((bo w).getD (aN f).toNat default) (aK w f):=by
 have hi:(aN f).toNat<(ao w).1.length:=by have:=hf.nd;omega
 obtain⟨-,-,h3⟩:=vz (h.chk hi)
 exact EE (lk:=dW f) (t:=aq f) (rp h.net hi) (fun r hr=>(h3 r hr).2) hf.b
theorem c8.land{w:au}(h:c8 w){f:aH}(hf:pY (ao w) (aV w) f):c8 (dD w f):=by
 have hi:(aN f).toNat<(ao w).1.length:=by have:=hf.nd;omega
 have O:=h.out hf
 have T:=(Mu ((ao w).1.getD (aN f).toNat default) ((bo w).getD (aN f).toNat default) (dW f) (aq f) (c9 f)).2.1
 have eH:aK w f=dJ ((ao w).1.getD (aN f).toNat default) ((bo w).getD (aN f).toNat default) (dW f) (aq f) (c9 f):=rfl
 rw[← eH] at T
 have ha:c8 (fu w ((bo w).set (aN f).toNat (aK w f).1)):=by
  refine⟨h.net,h.now,h.done,?_,fun i hl=>?_,h.cl,h.fl,h.fo,h.fn⟩
  ·show ((bo w).set _ _).length=_
   rw[List.length_set];exact h.len
  ·have hl:i<(ao w).1.length:=hl
   show bh (((bo w).set (aN f).toNat (aK w f).1).getD i default)=_/\(jc (((bo w).set (aN f).toNat (aK w f).1).getD i default)).length=_
   by_cases e:(aN f).toNat=i
   ·subst e
    rw[iA (by rw[h.len];exact hi)]
    exact⟨O.rt.trans (h.st _ hi).1,T.trans (h.st _ hi).2⟩
   ·rw[kJ e]
    exact h.st i hl
 unfold dD
 dsimp only
 have key:∀ B:au,c8 B->ao B=ao w->c8 (if 0<(aK w f).2.1.2.length then cK B f (aK w f).2.1 else B):=by
  intro B hB b1
  split
  ·rename_i hp
   have hr:(aK w f).2.2=0∨(aK w f).2.2=2:=by
    by_cases z0:(aK w f).2.2=0
    ·exact .inl z0
    by_cases z2:(aK w f).2.2=2
    ·exact .inr z2
    ·have:=O.none z0 z2
     rw[this] at hp
     exact absurd hp (by simp[gn])
   obtain⟨p1,p2,p3⟩:=O.some hr
   exact hB.crosses (by rw[b1];exact hf.nd) (by rw[b1];exact wM h.net hi p3) O.byt (by omega)
  ·exact hB
 apply key
 ·split <;> (split <;> exact⟨ha.net,ha.now,ha.done,ha.len,ha.st,ha.cl,ha.fl,ha.fo,ha.fn⟩)
 ·split <;> (split <;> rfl)
theorem am9{w:au}(h:c8 w){f:aH}(hf:pY (ao w) (aV w) f):ao (dD w f)=ao w/\aV (dD w f)=aV w ∧
  (am (dD w f)=am w∨∃ g,aV w+1<=aq g/\am (dD w f)=bT (am w) g):=by
 have hi:(aN f).toNat<(ao w).1.length:=by have:=hf.nd;omega
 have O:=h.out hf
 unfold dD
 dsimp only
 have key:∀ B:au,ao B=ao w->aV B=aV w->am B=am w →
   (ao (if 0<(aK w f).2.1.2.length then cK B f (aK w f).2.1 else B)=ao w/\aV (if 0<(aK w f).2.1.2.length then cK B f (aK w f).2.1 else B)=aV w ∧
    (am (if 0<(aK w f).2.1.2.length then cK B f (aK w f).2.1 else B)=am w∨∃ g,aV w+1<=aq g/\am (if 0<(aK w f).2.1.2.length then cK B f (aK w f).2.1 else B)=bT (am w) g)):=by
  intro B b1 b2 b3
  split
  ·rename_i hp
   obtain⟨c1,c2,c3⟩:=GB B f (aK w f).2.1
   refine⟨c1.trans b1,c2.trans b2,?_⟩
   rcases c3 with c3|⟨g,g1,g2⟩
   ·exact .inl (c3.trans b3)
   ·have hr:(aK w f).2.2=0∨(aK w f).2.2=2:=by
     by_cases z0:(aK w f).2.2=0
     ·exact .inl z0
     by_cases z2:(aK w f).2.2=2
     ·exact .inr z2
     ·have:=O.none z0 z2
      rw[this] at hp
      exact absurd hp (by simp[gn])
    obtain⟨-,snd,-⟩:=th h.net hi (wM h.net hi (O.some hr).2.2)
    have ov:=xq (w:=B) (k:=(aK w f).2.1.1) (by unfold cy;rw[b1];exact snd) (by rw[b2];exact h.now)
    exact .inr ⟨g,by rw[g1,← b2];exact ov.1,by rw[g2,b3]⟩
  ·exact⟨b1,b2,.inl b3⟩
 apply key
 all_goals (split <;> (split <;> rfl))
theorem c8.step{w:au}(h:c8 w){f:aH}{r:List aH}(e:am w=f::r) :
  c8 (cH w)/\ao (cH w)=ao w/\aV (cH w)=aq f∧∀ to,aq f<=to->fI to (am (cH w))+1<=fI to (am w):=by
 have hp:=h.fl
 rw[e] at hp
 obtain⟨p1,p2⟩:=List.pairwise_cons.1 hp
 have hf:=h.fo f (by rw[e];exact List.mem_cons_self)
 have hb:c8 (bU (bi w r) (aq f)):=by
  refine⟨h.net,⟨by show 0<=aq f;have:=h.now;have:=hf.t;omega,hf.t.2⟩,h.done,h.len,h.st,h.cl,p2,fun x hx=>?_,?_⟩
  ·have hx:x∈r:=hx
   have k:=h.fo x (by rw[e];exact List.mem_cons_of_mem _ hx)
   exact⟨⟨p1 x hx,k.t.2⟩,k.nd,k.l,k.b,k.d⟩
  ·show r.length<=4096
   have:=h.fn
   rw[e,List.length_cons] at this;omega
 have es:cH w=dD (br (bU (bi w r) (aq f))) f:=by unfold cH;rw[e];rfl
 have c1:c8 (br (bU (bi w r) (aq f))):=zH _ hb
 have c2:=ru ((ao w).2.2.length-(bO w).toNat) (bU (bi w r) (aq f))
 have n1:ao (br (bU (bi w r) (aq f)))=ao w:=c2.1
 have n2:aV (br (bU (bi w r) (aq f)))=aq f:=c2.2.1
 have n4:am (br (bU (bi w r) (aq f)))=r:=(uD _).1
 generalize br (bU (bi w r) (aq f))=v at c1 n1 n2 n4 es
 have hfv:pY (ao v) (aV v) f:=by
  rw[n1,n2]
  exact⟨⟨Int.le_refl _,hf.t.2⟩,hf.nd,hf.l,hf.b,hf.d⟩
 have L:=am9 c1 hfv
 rw[es]
 refine⟨c1.land hfv,L.1.trans n1,L.2.1.trans n2,fun to hto=>?_⟩
 rw[e,wg]
 rcases L.2.2 with q|⟨g,g1,g2⟩
 ·rw[q,n4];omega
 ·rw[g2,n4,CJ]
  rw[n2] at g1
  omega
end Go.RS

/- Sim6: what is not answered stays so. -/
namespace Go.RS
open Go.SX Go.Proofs
set_option maxRecDepth 100000
set_option linter.unusedVariables false
theorem N7{b:List Int}(hb:bytes b)(h:fV b=0):bQ (gN b)=uU (bQ b)/\bW (gN b)=0/\(gN b).drop 20=b.drop 20:=by
 have hd:bW b=0:=Classical.byContradiction fun k=>by rw[fV,if_pos k] at h;exact k h
 have ht:¬ (bQ b).2.2.1<2:=fun k=>by rw[fV,if_neg (fun q=>q hd),if_pos k] at h;cases h
 obtain⟨⟨h1,⟨h2,h2'⟩,h3,h4,h5⟩,l1,l2⟩:=uo hb hd
 have hk:iZ (uU (bQ b)):=⟨h1,⟨by show 0<=(bQ b).2.2.1-1;omega,by show (bQ b).2.2.1-1<=255;omega⟩,h3,h4,h5⟩
 have hl:((b.drop 20).length:Int)<=1480:=by rw[List.length_drop];omega
 have e:da (uU (bQ b),b.drop 20)=0:=by
  rw[da,if_neg (by rw[Decidable.not_not];exact hk),if_neg (by simp only;omega)]
 rw[gN,if_pos h,cQ,if_pos e]
 exact GG hk (sg hb 12) (sg hb 16) hl (rX hb)
theorem Yw{b:List Int}(hb:bytes b)(hn:¬ cq b):¬ cq (if fV b=0 then gN b else b):=by
 split
 ·rename_i h
  obtain⟨e1,e2,e3⟩:=N7 hb h
  have hd:bW b=0:=Classical.byContradiction fun k=>by rw[fV,if_pos k] at h;exact k h
  rintro⟨-,k⟩
  apply hn
  refine⟨hd,?_⟩
  rw[aR,if_pos e2,e1,e3] at k
  rw[aR,if_pos hd]
  exact k
 ·exact hn
theorem Co{b:List Int}{f kind code id ttl:Int}(hb:bytes b)(hf:u32 f)(h:ft b kind code id ttl=0):¬ cq (gF b f kind code id ttl):=by
 have hg:oT kind code id ttl:=Classical.byContradiction fun k=>by rw[ft,if_pos k] at h;cases h
 have ha:cq b:=Classical.byContradiction fun k=>by rw[ft,if_neg (fun q=>q hg),if_neg k] at h;cases h
 obtain⟨-,e,en,ei⟩:=yS (src:=f) hg ha
 have hk:=hg.1
 rw[e]
 obtain⟨s1,s2,s3,s4⟩:=vu (src:=f) (dst:=bP b) (proto:=1) (data:=fU (kind,code,b.take 28)) hg.2.2 (by omega) hf (sg hb 12) (Db _) (Ck en (Bi hb))
 intro k
 have hp1:cV (cQ (fW f (bP b) 1 id ttl (fU (kind,code,b.take 28))))=1:=by rw[cV,s2]
 have:=(n9 k).2.2.1 hp1
 rw[s3,(Ie en).1] at this
 simp only at this
 omega
theorem V6{b:List Int}{f id ttl:Int}(hb:bytes b)(hf:u32 f)(h:fa b id ttl=0):¬ cq (gp b f id ttl):=by
 have hn:gc id ttl:=Classical.byContradiction fun k=>by rw[fa,if_pos k] at h;cases h
 have hg:qa b:=Classical.byContradiction fun k=>by rw[fa,if_neg (fun q=>q hn),if_neg k] at h;cases h
 obtain⟨-,l1,l2⟩:=uo hb hg.1.1
 have hd:=rX (n:=20) hb
 rcases hg with⟨ha,⟨g1,g2⟩|⟨g1,g2⟩|⟨g1,g2,g3,g4⟩⟩
 ·rw[(A8 (src:=f) hn ha g1 g2).1]
  have hE:((dk (true,(dU (b.drop 20)).2)).length:Int)<=1480/\bytes (dk (true,(dU (b.drop 20)).2)):=by
   have e:(dU (b.drop 20)).2.2.2=(b.drop 20).drop 8:=by unfold dU;rw[if_pos g2]
   refine Ip ?_ ?_
   ·show bytes (dU (b.drop 20)).2.2.2
    rw[e];exact rX hd
   ·show ((dU (b.drop 20)).2.2.2.length:Int)<=1472
    rw[e];simp only[List.length_drop];omega
  obtain⟨s1,s2,s3,s4⟩:=vu (src:=f) (dst:=bP b) (proto:=1) hn (by omega) hf (sg hb 12) hE.1 hE.2
  intro k
  have h8:=(n9 k).2.2.1 (by rw[cV,s2])
  have h28:=(n9 k).2.1
  rw[s3] at h8
  rw[s4] at h28
  unfold dk at h8 h28
  split at h8
  ·have:(bJ (bI (true,(dU (b.drop 20)).2)) 2 (ci (bI (true,(dU (b.drop 20)).2)))).getD 0 default=0:=rfl
   rw[this] at h8;cases h8
  ·rename_i z
   rw[if_neg z] at h28;simp at h28
 ·rw[(Av (src:=f) hn ha g1 g2).1]
  exact Co hb hf (Ff hn ha)
 ·rw[(zt (src:=f) hn ha g1 g2 g3 g4).1]
  have hE:((dj f (bP b) (ju (dK (bP b) (fe b) (b.drop 20)))).length:Int)<=1480/\bytes (dj f (bP b) (ju (dK (bP b) (fe b) (b.drop 20)))):=Kx rfl
  obtain⟨s1,s2,s3,s4⟩:=vu (src:=f) (dst:=bP b) (proto:=6) hn (by omega) hf (sg hb 12) hE.1 hE.2
  intro k
  have h28:=(n9 k).2.1
  rw[s4] at h28
  unfold dj at h28
  split at h28
  ·rename_i z
   have hfl:=(n9 k).2.2.2.1 (by rw[cV,s2])
   rw[s3] at hfl
   unfold dj at hfl
   rw[if_pos z] at hfl
   have h13:(bJ (io (ju (dK (bP b) (fe b) (b.drop 20)))) 16 (dE f (bP b) 6 (io (ju (dK (bP b) (fe b) (b.drop 20)))))).getD 13 default=20:=rfl
   rw[h13,j9,ul] at hfl
   have:=hfl (by show 14<=20+_;omega)
   exact absurd this (by decide)
  ·simp at h28
theorem ad5{x:ac}{lk L:Int}(N:mQ x)(A:o5 x)(hL:0<=cM x L):u32 (ji x (bm x lk) L):=by
 have l1:cM x L<(aA x).length:=(qV hL).1
 unfold ji
 split
 ·exact (zu A hL l1).1
 split
 ·exact A.2.1
 split
 ·exact A.2.2
 ·exact (zu A (Az x lk) (YQ N lk)).1
theorem Zl{ki:Int}{w:cD}{f id:Int}(hb:bytes w.2.2.2.2.1)(hf:u32 f)(hn:gc id (gM w.1))(h:kE ki w 0=0):¬ cq (kB ki w f id):=by
 have ha:=Ci h
 unfold kB
 split
 ·exact Co hb hf (by rw[ft,if_neg (fun k=>k ⟨.inl rfl,by omega,hn⟩),if_pos ha])
 split
 ·exact Co hb hf (by rw[ft,if_neg (fun k=>k ⟨.inr rfl,by omega,hn⟩),if_pos ha])
 ·rename_i k2 k3
  have h:fa w.2.2.2.2.1 0 (gM w.1)=0:=by
   unfold kE at h
   rw[if_neg k2,if_neg k3] at h;exact h
  have hg:qa w.2.2.2.2.1:=Classical.byContradiction fun q=>by
   rw[fa] at h
   split at h
   ·cases h
   ·cases h
  exact V6 hb hf (xS hn hg)
theorem IC{x:ac}{s:bq}{lk t:Int}{b:List Int}(N:mQ x)(A:o5 x)(hrt:∀ r∈bh s,ke r (bv x))(hb:bytes b) :
  ((dJ x s lk t b).2.2=2->cq b∧¬ cq (dJ x s lk t b).2.1.2)/\((dJ x s lk t b).2.2=0→¬ cq b→¬ cq (dJ x s lk t b).2.1.2):=by
 constructor
 ·intro h2
  have hbo:cq b:=Classical.byContradiction fun k=>UC k h2
  refine⟨hbo,?_⟩
  obtain⟨ki,e,hk⟩:=C0 h2
  rw[e] at h2 ⊢
  obtain⟨w,hw⟩:∃ w,w=AP x s lk t b:=⟨_,rfl⟩
  rw[← hw] at h2 ⊢
  obtain⟨a1,a2,a3⟩:=FP h2
  have w1:w.1=x:=by rw[hw];rfl
  have w2:w.2.1=s:=by rw[hw];rfl
  have w3:w.2.2.1=lk:=by rw[hw];rfl
  have w5:w.2.2.2.2.1=b:=by rw[hw];rfl
  have w6:w.2.2.2.2.2=bQ b:=by
   have:w.2.2.2.2.2=(aR b).1:=by rw[hw];rfl
   rw[this,aR,if_pos hbo.1]
  have hn:=O4 (w:=w) (by rw[w1];exact N.id) (by rw[w1];exact N.form) (by rw[w6];exact qL hb 4)
  have hL:0<=cM x (iJ (kB ki w) w):=by
   have:=Gi hrt (a:=kq w.2.2.2.2.2) (by rw[← w2];exact a2) (gX w) (fv (kB ki w (adr w.1 (bm w.1 w.2.2.1)) 0))
   unfold iJ gZ
   rw[w1,w2]
   rw[w1] at this
   exact this
  have hf:u32 (hV (kB ki w) w (lV ki w)):=by
   unfold hV
   split
   ·rw[w1,w3];exact ad5 N A hL
   ·rename_i k
    unfold lV at k ⊢
    split
    ·rw[w6];exact sg hb 16
    ·rename_i z;rw[if_neg z] at k;exact absurd rfl k
  have ho:(pk w ki).2.1.2=kB ki w (hV (kB ki w) w (lV ki w)) (fM w):=congrArg (fun r:lL=>r.2.1.2) a3
  rw[ho]
  exact Zl (by rw[w5];exact hb) hf hn a1
 ·intro h0 hno
  have F:=CS h0
  rw[BR (t:=t) F]
  show ¬ cq (if lk ≠ -1/\dq x=false then gN b else b)
  split
  ·rename_i k
   have ht:=F.ttl
   have e1:(aR b).1=bQ b:=by rw[aR,if_pos F.dec]
   rw[e1] at ht
   have hl:fV b=0:=by
    rw[fV,if_neg (fun q=>q F.dec)]
    exact if_neg (fun q=>ht ⟨k.1,k.2,q⟩)
   have:=Yw hb hno
   rwa [if_pos hl] at this
  ·exact hno
end Go.RS

/- Sim7: every packet ends once, and every answer too. -/
namespace Go.RS
open Go.SX Go.Proofs
set_option maxRecDepth 100000
set_option linter.unusedVariables false
def tZ(e:iX):Int:=e.1
def xn(e:iX):Int:=e.2.1
def rB(e:iX):Int:=e.2.2.2.2
def tD(fl:List aH)(en:List iX):Prop :=
 (∃ f,fl=[f]/\en=[])∨(∃ f e,fl=[f]/\en=[e]/\rB e=2/\xn e<=aq f∧¬ cq (c9 f)) ∨
  (fl=[]∧∃ e,en=[e]/\rB e≠2)∨(fl=[]∧∃ a e,en=[a,e]/\rB a=2/\rB e≠2/\xn a<=xn e)
def jh(o:Int)(l:List aH):List aH:=l.filter fun f=>decide (dM f=o)
def kZ(o:Int)(l:List iX):List iX:=l.filter fun e=>decide (tZ e=o)
theorem Ic{o:Int}{l:List aH}{g:aH}(h:dM g≠o):jh o (bT l g)=jh o l:=by
 unfold jh bT
 rw[List.filter_append,List.filter_cons_of_neg (by simpa using h),← List.filter_append,List.takeWhile_append_dropWhile]
theorem Bk{o:Int}{l:List aH}{g:aH}(h:dM g=o)(hl:jh o l=[]):jh o (bT l g)=[g]:=by
 unfold jh at hl ⊢
 rw[← List.takeWhile_append_dropWhile (p:=fun x=>decide (aq x<=aq g)) (l:=l),List.filter_append] at hl
 obtain⟨h1,h2⟩:=List.append_eq_nil_iff.1 hl
 unfold bT
 rw[List.filter_append,List.filter_cons_of_pos (by simpa using h),h1,h2];rfl
theorem Kp(w:au)(f:aH)(out:Int×List Int) :
  (∃ why,(why=3∨why=7)/\bf (cK w f out)=bf w++[(dM f,aq f,aN f,out.1,why)]/\am (cK w f out)=am w) ∨
   (∃ g,dM g=dM f/\c9 g=out.2/\aq g=gH w out.1/\bf (cK w f out)=bf w/\am (cK w f out)=bT (am w) g):=by
 unfold cK
 dsimp only
 split
 ·exact .inl ⟨3,.inl rfl,rfl,rfl⟩
 split
 ·exact .inl ⟨7,.inr rfl,rfl,rfl⟩
 ·exact .inr ⟨(gH w out.1,aS w,fF (ao w).2.1 out.1 (aN f),out.1,dM f,out.2),rfl,rfl,rfl,rfl,rfl⟩
structure Cv (v:au) (f:aH) (w:au):Prop where
 a:∃ es:List iX,(∀ e∈es,tZ e=dM f/\xn e=aq f)/\bf w=bf v++es ∧
  ((am w=am v/\((∃ e,es=[e]/\rB e≠2)∨(cq (c9 f)∧∃ a e,es=[a,e]/\rB a=2/\rB e≠2))) ∨
    ∃ g,dM g=dM f/\aq f<=aq g/\am w=bT (am v) g/\((es=[]/\(¬ cq (c9 f)→¬ cq (c9 g)))∨(cq (c9 f)∧∃ a,es=[a]/\rB a=2∧¬ cq (c9 g))))
theorem lands{v:au}(h:c8 v){f:aH}(hf:pY (ao v) (aV v) f)(ht:aq f=aV v)(A:∀ i:Nat,i<(ao v).1.length->o5 ((ao v).1.getD i default)):Cv v f (dD v f):=by
 have hi:(aN f).toNat<(ao v).1.length:=by have:=hf.nd;omega
 have N:=rp h.net hi
 have O:=h.out hf
 obtain⟨-,-,h3⟩:=vz (h.chk hi)
 have Z:=IC (lk:=dW f) (t:=aq f) N (A _ hi) (fun r hr=>(h3 r hr).2) hf.b
 have eH:aK v f=dJ ((ao v).1.getD (aN f).toNat default) ((bo v).getD (aN f).toNat default) (dW f) (aq f) (c9 f):=rfl
 rw[← eH] at Z
 have ov:0<(aK v f).2.1.2.length→∀ B:au,ao B=ao v->aV B=aV v->aq f<=gH B (aK v f).2.1.1:=by
  intro hp B b1 b2
  have hr:(aK v f).2.2=0∨(aK v f).2.2=2:=by
   by_cases z0:(aK v f).2.2=0
   ·exact .inl z0
   by_cases z2:(aK v f).2.2=2
   ·exact .inr z2
   ·have:=O.none z0 z2
    rw[this] at hp
    exact absurd hp (by simp[gn])
  obtain⟨-,snd,-⟩:=th h.net hi (wM h.net hi (O.some hr).2.2)
  have:=xq (w:=B) (k:=(aK v f).2.1.1) (by unfold cy;rw[b1];exact snd) (by rw[b2];exact h.now)
  omega
 unfold dD
 dsimp only
 generalize hb:(if (aK v f).2.2=1 then qM (fu v ((bo v).set (aN f).toNat (aK v f).1)) (bz (fu v ((bo v).set (aN f).toNat (aK v f).1))++[(aq f,aN f,c9 f)]) else fu v ((bo v).set (aN f).toNat (aK v f).1))=B
 have eB:ao B=ao v/\aV B=aV v/\am B=am v/\bf B=bf v:=by rw[← hb];split <;> exact⟨rfl,rfl,rfl,rfl⟩
 clear hb
 obtain⟨b1,b2,b3,b4⟩:=eB
 by_cases z0:(aK v f).2.2=0
 ·have hp:=(O.some (.inl z0)).1
  rw[if_pos hp,if_neg (show ¬ (aK v f).2.2≠0 from fun k=>k z0)]
  rcases Kp B f (aK v f).2.1 with⟨why,hw,e1,e2⟩|⟨g,g1,g2,g3,g4,g5⟩
  ·refine⟨⟨_,?_,by rw[e1,b4],.inl ⟨by rw[e2,b3],.inl ⟨_,rfl,?_⟩⟩⟩⟩
   ·intro e he;rw[List.mem_singleton.1 he];exact⟨rfl,rfl⟩
   ·show why≠2;omega
  ·exact⟨⟨[],fun e he=>(by cases he),by rw[g4,b4];simp,.inr ⟨g,g1,by rw[g3];exact ov hp B b1 b2,by rw[g5,b3],.inl ⟨rfl,fun k=>by rw[g2];exact Z.2 z0 k⟩⟩⟩⟩
 rw[if_pos z0]
 by_cases z2:(aK v f).2.2=2
 ·have hp:=(O.some (.inr z2)).1
  rw[if_pos hp]
  have zz:=Z.1 z2
  rcases Kp (kx B f (dW f) (aK v f).2.2) f (aK v f).2.1 with⟨why,hw,e1,e2⟩|⟨g,g1,g2,g3,g4,g5⟩
  ·refine⟨⟨[(dM f,aq f,aN f,dW f,(aK v f).2.2),(dM f,aq f,aN f,(aK v f).2.1.1,why)],?_,?_,.inl ⟨?_,.inr ⟨zz.1,_,_,rfl,z2,?_⟩⟩⟩⟩
   ·intro e he
    rcases List.mem_cons.1 he with rfl|he
    ·exact⟨rfl,rfl⟩
    ·rw[List.mem_singleton.1 he];exact⟨rfl,rfl⟩
   ·rw[e1]
    show (bf B++[_])++[_]=_
    rw[b4,List.append_assoc];rfl
   ·rw[e2];exact b3
   ·show why≠2;omega
  ·refine⟨⟨[(dM f,aq f,aN f,dW f,(aK v f).2.2)],?_,?_,.inr ⟨g,g1,?_,?_,.inr ⟨zz.1,_,rfl,z2,by rw[g2];exact zz.2⟩⟩⟩⟩
   ·intro e he;rw[List.mem_singleton.1 he];exact⟨rfl,rfl⟩
   ·rw[g4]
    show bf B++[_]=_
    rw[b4]
   ·rw[g3];exact ov hp _ b1 b2
   ·rw[g5]
    show bT (am B) g=_
    rw[b3]
 ·have hn:=O.none z0 z2
  have hp:¬ 0<(aK v f).2.1.2.length:=by rw[hn];simp[gn]
  rw[if_neg hp]
  refine⟨⟨[(dM f,aq f,aN f,dW f,(aK v f).2.2)],?_,?_,.inl ⟨b3,.inl ⟨_,rfl,z2⟩⟩⟩⟩
  ·intro e he;rw[List.mem_singleton.1 he];exact⟨rfl,rfl⟩
  ·show bf B++[_]=_
   rw[b4]
theorem HH(o:Int)(l m:List iX):kZ o (l++m)=kZ o l++kZ o m:=List.filter_append ..
theorem ae7{o:Int}{es:List iX}(h:∀ e∈es,tZ e=o):kZ o es=es:=List.filter_eq_self.2 fun e he=>decide_eq_true (h e he)
theorem Lp{o:Int}{es:List iX}(h:∀ e∈es,tZ e≠o):kZ o es=[]:=List.filter_eq_nil_iff.2 fun e he=>by simpa using h e he
theorem ao8{v w:au}{f:aH}{o:Int}(L:Cv v f w)(h:tD (jh o (f::am v)) (kZ o (bf v))):tD (jh o (am w)) (kZ o (bf w)):=by
 obtain⟨es,h1,h2,h3⟩:=L.a
 by_cases ho:dM f=o
 ·have ef:jh o (f::am v)=f::jh o (am v):=List.filter_cons_of_pos (by simpa using ho)
  rw[ef] at h
  have ees:kZ o es=es:=ae7 fun e he=>(h1 e he).1.trans ho
  rw[h2,HH,ees]
  rcases h with⟨f',q1,q2⟩|⟨f',e0,q1,q2,q3,q4,q5⟩|⟨q1,-⟩|⟨q1,-⟩
  ·rw[List.cons.injEq] at q1
   obtain⟨rfl,q1⟩:=q1
   rw[q2,List.nil_append]
   rcases h3 with⟨k1,⟨e,rfl,k2⟩|⟨-,a,e,rfl,k2,k3⟩⟩|⟨g,g1,g2,g3,⟨rfl,-⟩|⟨-,a,rfl,k2,k3⟩⟩
   ·exact .inr (.inr (.inl ⟨by rw[k1];exact q1,e,rfl,k2⟩))
   ·refine .inr (.inr (.inr ⟨by rw[k1];exact q1,a,e,rfl,k2,k3,?_⟩))
    rw[(h1 a (by simp)).2,(h1 e (by simp)).2];exact Int.le_refl _
   ·exact .inl ⟨g,by rw[g3];exact Bk (g1.trans ho) q1,rfl⟩
   ·refine .inr (.inl ⟨g,a,by rw[g3];exact Bk (g1.trans ho) q1,rfl,k2,?_,k3⟩)
    rw[(h1 a (by simp)).2];exact g2
  ·rw[List.cons.injEq] at q1
   obtain⟨rfl,q1⟩:=q1
   rw[q2]
   rcases h3 with⟨k1,⟨e,rfl,k2⟩|⟨k0,-⟩⟩|⟨g,g1,g2,g3,⟨rfl,k2⟩|⟨k0,-⟩⟩
   ·refine .inr (.inr (.inr ⟨by rw[k1];exact q1,e0,e,rfl,q3,k2,?_⟩))
    rw[(h1 e (by simp)).2];exact q4
   ·exact absurd k0 q5
   ·exact .inr (.inl ⟨g,e0,by rw[g3];exact Bk (g1.trans ho) q1,by simp,q3,by omega,k2 q5⟩)
   ·exact absurd k0 q5
  ·cases q1
  ·cases q1
 ·have ef:jh o (f::am v)=jh o (am v):=List.filter_cons_of_neg (by simpa using ho)
  rw[ef] at h
  have ees:kZ o es=[]:=Lp fun e he=>by rw[(h1 e he).1];exact ho
  have efl:jh o (am w)=jh o (am v):=by
   rcases h3 with⟨k1,-⟩|⟨g,g1,-,g3,-⟩
   ·rw[k1]
   ·rw[g3];exact Ic (by rw[g1];exact ho)
  rw[h2,HH,ees,List.append_nil,efl]
  exact h
theorem FO(w:au):bf (br w)=bf w:=by
 have k:=(ru ((ao w).2.2.length-(bO w).toNat) w).2.2.2
 exact congrArg (fun x:List Int×List aH×List mY×List iX=>x.2.2.2) k
theorem al8{w:au}(h:c8 w)(A:∀ i:Nat,i<(ao w).1.length->o5 ((ao w).1.getD i default)){f:aH}{r:List aH}(e:am w=f::r){o:Int}(ho:tD (jh o (am w)) (kZ o (bf w))) :
  tD (jh o (am (cH w))) (kZ o (bf (cH w))):=by
 have hp:=h.fl
 rw[e] at hp ho
 obtain⟨p1,p2⟩:=List.pairwise_cons.1 hp
 have hf:=h.fo f (by rw[e];exact List.mem_cons_self)
 have hb:c8 (bU (bi w r) (aq f)):=by
  refine⟨h.net,⟨by show 0<=aq f;have:=h.now;have:=hf.t;omega,hf.t.2⟩,h.done,h.len,h.st,h.cl,p2,fun x hx=>?_,?_⟩
  ·have hx:x∈r:=hx
   have k:=h.fo x (by rw[e];exact List.mem_cons_of_mem _ hx)
   exact⟨⟨p1 x hx,k.t.2⟩,k.nd,k.l,k.b,k.d⟩
  ·show r.length<=4096
   have:=h.fn
   rw[e,List.length_cons] at this;omega
 have es:cH w=dD (br (bU (bi w r) (aq f))) f:=by unfold cH;rw[e];rfl
 have c1:c8 (br (bU (bi w r) (aq f))):=zH _ hb
 have c2:=ru ((ao w).2.2.length-(bO w).toNat) (bU (bi w r) (aq f))
 have n1:ao (br (bU (bi w r) (aq f)))=ao w:=c2.1
 have n2:aV (br (bU (bi w r) (aq f)))=aq f:=c2.2.1
 have n4:am (br (bU (bi w r) (aq f)))=r:=(uD _).1
 have n5:bf (br (bU (bi w r) (aq f)))=bf w:=FO _
 generalize br (bU (bi w r) (aq f))=v at c1 n1 n2 n4 n5 es
 have hfv:pY (ao v) (aV v) f:=by
  rw[n1,n2]
  exact⟨⟨Int.le_refl _,hf.t.2⟩,hf.nd,hf.l,hf.b,hf.d⟩
 rw[es]
 refine ao8 (lands c1 hfv n2.symm (fun i hi=>?_)) (by rw[n4,n5];exact ho)
 rw[n1] at hi ⊢
 exact A i hi
end Go.RS

/- Sim8: sending; a network that begins. -/
namespace Go.RS
open Go.SX Go.Proofs
set_option maxRecDepth 100000
set_option linter.unusedVariables false
def gb(w:au)(at' who:Int)(b:List Int):au:=wt w (at',0,who,-1,aS w,b)
theorem cu.send{w:au}{K:Int}(h:cu w K)(hK:K<=2199023255552){at' who:Int}{b:List Int}(ha:aV w<=at'∧at'<=1125899906842624)(hw:0<=who/\who<(ao w).1.length)(hb:bytes b)(hl:(b.length:Int)<=2000)
  (hf:(am w).length<4096):cu (gb w at' who b) (K+1)/\aS (gb w at' who b)=aS w+1:=by
 have hord:=h.ord
 have ew:IntKind.i64.wrap (aS w+1)=aS w+1:=ai (by omega) (by omega)
 have eo:aS (gb w at' who b)=aS w+1:=ew
 have h':=h.more (K':=K+1) (by omega)
 refine⟨⟨h'.net,h'.now,by rw[eo];omega,h'.done,h'.len,h'.st,h'.cl,h'.cr,?_,?_,?_⟩,eo⟩
 ·exact LI h.fl fun x hx=>(h.fo x hx).o.2
 ·intro x hx
  have hx:x∈bT (am w) (at',aS w,who,-1,aS w,b):=hx
  show qU (ao w) (aV w) (aS (gb w at' who b)) x
  rw[eo]
  rcases rN.1 hx with rfl|hx
  ·exact⟨ha,⟨by show 0<=aS w;omega,by show aS w<aS w+1;omega⟩,hw,.inl rfl,⟨by show 0<=aS w;omega,by show aS w<aS w+1;omega⟩,hb,hl⟩
  ·have k:=h.fo x hx
   exact⟨k.t,⟨k.o.1,by have:=k.o.2;omega⟩,k.nd,k.l,⟨k.g.1,by have:=k.g.2;omega⟩,k.b,k.d⟩
 ·show (bT (am w) _).length<=4096
  rw[vw];omega
def jv(n:bw):au:=(n,0,0,0,n.1.map lr,List.replicate n.2.1.length 0,[],[],[])
theorem cu.new{n:bw}(h:d9 n=0):cu (jv n) 0:=by
 refine⟨h,⟨by show (0:Int)<=0;omega,by show (0:Int)<=_;omega⟩,⟨by show (0:Int)<=0;omega,by show (0:Int)<=0;omega⟩,⟨by show (0:Int)<=0;omega,by show (0:Int)<=_;omega⟩,?_,fun i hi=>?_,?_,fun c hc=>?_,List.Pairwise.nil,fun f hf=>(by cases hf),by show (0:Nat)<=4096;omega⟩
 ·show (n.1.map lr).length=_
  rw[List.length_map];rfl
 ·have hi:i<n.1.length:=hi
  show fP (n.1.getD i default) ((n.1.map lr).getD i default) 0/\bh ((n.1.map lr).getD i default)=(cY n (0:Int).toNat).getD i default
  rw[xz hi]
  refine⟨OU (rp h hi),?_⟩
  show aQ (n.1.getD i default)=(n.1.map aQ).getD i default
  rw[xz hi]
 ·show (List.replicate n.2.1.length (0:Int)).length=_
  rw[List.length_replicate];rfl
 ·have hc:c∈List.replicate n.2.1.length (0:Int):=hc
  rw[List.eq_of_mem_replicate hc];omega
theorem Ry{w:au}{at' who:Int}{b:List Int}(hf:∀ f∈am w,dM f<aS w)(he:∀ e∈bf w,tZ e<aS w) :
  tD (jh (aS w) (am (gb w at' who b))) (kZ (aS w) (bf (gb w at' who b))) ∧
   ∀ o,o≠aS w->jh o (am (gb w at' who b))=jh o (am w)/\kZ o (bf (gb w at' who b))=kZ o (bf w):=by
 refine⟨.inl ⟨(at',aS w,who,-1,aS w,b),Bk rfl ?_,Lp fun e h=>?_⟩,fun o ho=>⟨Ic (fun k=>ho k.symm),rfl⟩⟩
 ·exact List.filter_eq_nil_iff.2 fun f h=>by have:=hf f h;simp;omega
 ·have:=he e h;omega
theorem Lr.one{c:Int}{l:List aH}{g:aH}(h:l.Pairwise fun a b=>aq a<=aq b)(hg:c<aq g):Lr c l (bT l g):=by
 refine⟨g,l.takeWhile fun x=>decide (aq x<=aq g),l.dropWhile fun x=>decide (aq x<=aq g),rfl,by rw[List.takeWhile_append_dropWhile],hg,fun y hy=>?_,?_⟩
 ·simpa using List.all_eq_true.1 (List.all_takeWhile (p:=fun x=>decide (aq x<=aq g)) (l:=l)) y hy
 ·intro x hx
  have h2:=h
  rw[← List.takeWhile_append_dropWhile (p:=fun x=>decide (aq x<=aq g)) (l:=l)] at h2
  obtain⟨-,b,-⟩:=List.pairwise_append.1 h2
  cases hh:l.dropWhile (fun x=>decide (aq x<=aq g)) with
  | nil=>rw[hh] at hx;cases hx
  | cons y r =>
   have hy:¬ aq y<=aq g:=by
    have:=List.head_dropWhile_not (p:=fun x=>decide (aq x<=aq g)) (l:=l) (by rw[hh];simp)
    simp only[hh,List.head_cons] at this
    simpa using this
   rw[hh] at hx b
   rcases List.mem_cons.1 hx with rfl|hx
   ·omega
   ·have:=(List.pairwise_cons.1 b).1 x hx;omega
theorem au9{w:au}(h:c8 w){c at' who:Int}{b:List Int}(ha:c<at')(hf:(am w).length<4095) :
  bf (j5 (gb w at' who b) c)=bf (j5 w c)/\bz (j5 (gb w at' who b) c)=bz (j5 w c)/\(am (j5 (gb w at' who b) c)).length=(am (j5 w c)).length+1:=by
 have hL:Lr c (am w) (bT (am w) (at',aS w,who,-1,aS w,b)):=Lr.one h.fl ha
 have es:gb w at' who b=bi (d5 w (IntKind.i64.wrap (aS w+1))) (bT (am w) (at',aS w,who,-1,aS w,b)):=rfl
 have ew:fI c (am (gb w at' who b))=fI c (am w):=by
  show fI c (bT (am w) (at',aS w,who,-1,aS w,b))=_
  rw[CJ]
  show fI c (am w)+(c+1-at').toNat=_
  omega
 obtain⟨o2,l2,e,hL2⟩:=Pc (fI c (am w)) (o':=IntKind.i64.wrap (aS w+1)) hL (by rw[vw];omega)
 have ex:j5 (gb w at' who b) c=br (bU (bi (d5 (f5 (fI c (am w)) w c) o2) l2) c):=by
  unfold j5
  rw[ew,es,e]
 have ey:j5 w c=br (bU (f5 (fI c (am w)) w c) c):=rfl
 rw[ex,ey]
 generalize f5 (fI c (am w)) w c=u at hL2
 refine⟨by rw[FO,FO];rfl,?_,?_⟩
 ·have k1:=(ru ((ao u).2.2.length-(bO u).toNat) (bU (bi (d5 u o2) l2) c)).2.2.2
  have k2:=(ru ((ao u).2.2.length-(bO u).toNat) (bU u c)).2.2.2
  exact (congrArg (fun x:List Int×List aH×List mY×List iX=>x.2.2.1) k1).trans (congrArg (fun x:List Int×List aH×List mY×List iX=>x.2.2.1) k2).symm
 ·rw[(uD _).1,(uD _).1]
  exact hL2.len
end Go.RS

/- SimA: how much a network in operation can still do: the number of its steps has a bound. -/
namespace Go.RS
open Go.SX Go.Proofs
set_option maxRecDepth 100000
set_option linter.unusedVariables false
def tA(b:List Int):Nat:=if bW b=0 then (bQ b).2.2.1.toNat else 0
def na(n:bw)(f:aH):Nat:=1+2*tA (c9 f)+(if dq (n.1.getD (aN f).toNat default)=true then 1 else 0)+(if dW f = -1 then 2 else 0)+(if cq (c9 f) then 600 else 0)
def nw(n:bw)(l:List aH):Nat:=(l.map (na n)).sum
def ic(w:au):Nat:=nw (ao w) (am w)
def tN(n:bw):Prop:=∀ i:Nat,i<n.1.length->o5 (n.1.getD i default)
theorem NG{b:List Int}(hb:bytes b):tA b<=255:=by
 unfold tA
 split
 ·rename_i h
  obtain⟨⟨-,⟨h1,h2⟩,-⟩,-⟩:=uo hb h
  omega
 ·omega
theorem ap3{n:bw}(h:d9 n=0):∀ l∈n.2.1,iH n.1 l=false:=by
 unfold d9 at h
 obtain⟨-,h⟩:=nR h
 obtain⟨-,h⟩:=nR h
 obtain⟨-,h⟩:=nR h
 obtain⟨-,h⟩:=nR h
 obtain⟨-,h⟩:=nR h
 obtain⟨h,-⟩:=nR h
 unfold oe at h
 intro l hl
 split at h
 ·cases h
 ·rename_i k
  cases e:iH n.1 l with
  | false=>rfl
  | true=>exact absurd (List.any_eq_true.2 ⟨l,hl,e⟩) k
theorem Qa{n:bw}(h:d9 n=0){k x:Int}(hk:0<=k/\k<n.2.1.length)(hx:dq (n.1.getD x.toNat default)=true)(ho:0<=fF n.2.1 k x):dq (n.1.getD (fF n.2.1 k x).toNat default)=false:=by
 have hd:=ap3 h (n.2.1.getD k.toNat default) (bL hk.1 hk.2)
 unfold iH at hd
 unfold fF at ho ⊢
 rw[if_neg (by omega)] at ho ⊢
 split at ho
 ·rename_i e
  rw[if_pos e]
  rw[← e,hx,Bool.true_and] at hd
  exact hd
 ·split at ho
  ·rename_i e0 e
   rw[if_neg e0,if_pos e]
   rw[← e,hx,Bool.and_true] at hd
   exact hd
  ·omega
theorem Uj{b:List Int}(hb:bytes b)(h:fV b=0):tA (gN b)+1=tA b:=by
 obtain⟨e1,e2,-⟩:=N7 hb h
 have hd:bW b=0:=Classical.byContradiction fun k=>by rw[fV,if_pos k] at h;exact k h
 have ht:¬ (bQ b).2.2.1<2:=fun k=>by rw[fV,if_neg (fun q=>q hd),if_pos k] at h;cases h
 unfold tA
 rw[if_pos e2,if_pos hd,e1]
 show ((bQ b).2.2.1-1).toNat+1=_
 omega
theorem Yf{v:au}(h:c8 v){f:aH}(hf:pY (ao v) (aV v) f)(A:tN (ao v))(hp:0<(aK v f).2.1.2.length)(t o og:Int) :
  na (ao v) (t,o,fF (ao v).2.1 (aK v f).2.1.1 (aN f),(aK v f).2.1.1,og,(aK v f).2.1.2)+1<=na (ao v) f:=by
 have hi:(aN f).toNat<(ao v).1.length:=by have:=hf.nd;omega
 have N:=rp h.net hi
 have O:=h.out hf
 obtain⟨-,-,h3⟩:=vz (h.chk hi)
 have Z:=IC (lk:=dW f) (t:=aq f) N (A _ hi) (fun r hr=>(h3 r hr).2) hf.b
 have eH:aK v f=dJ ((ao v).1.getD (aN f).toNat default) ((bo v).getD (aN f).toNat default) (dW f) (aq f) (c9 f):=rfl
 have hr:(aK v f).2.2=0∨(aK v f).2.2=2:=by
  by_cases z0:(aK v f).2.2=0
  ·exact .inl z0
  by_cases z2:(aK v f).2.2=2
  ·exact .inr z2
  ·have:=O.none z0 z2
   rw[this] at hp
   exact absurd hp (by simp[gn])
 obtain⟨⟨k0,k1⟩,-,⟨o1,-⟩,-⟩:=th h.net hi (wM h.net hi (O.some hr).2.2)
 rw[show (((aN f).toNat:Nat):Int)=aN f by have:=hf.nd;omega] at o1
 have hk:¬ (aK v f).2.1.1 = -1:=by omega
 show 1+2*tA (aK v f).2.1.2+(if dq ((ao v).1.getD (fF (ao v).2.1 (aK v f).2.1.1 (aN f)).toNat default)=true then 1 else 0)+(if (aK v f).2.1.1 = -1 then 2 else 0)+(if cq (aK v f).2.1.2 then 600 else 0)+1<=_
 rw[if_neg hk]
 have hD:=Qa (x:=aN f) h.net ⟨k0,k1⟩
 rw[← eH] at Z
 have hob:=O.byt
 have t1:=NG hob
 unfold na
 generalize dq ((ao v).1.getD (fF (ao v).2.1 (aK v f).2.1.1 (aN f)).toNat default)=oy at *
 rcases hr with hr|hr
 ·have F:=CS (by rw[← eH];exact hr)
  have e:=BR (t:=aq f) F
  rw[← eH] at e
  have e2:(aK v f).2.1.2=if dW f ≠ -1/\dq ((ao v).1.getD (aN f).toNat default)=false then gN (c9 f) else c9 f:=by rw[e]
  have ha:(if cq (aK v f).2.1.2 then 600 else 0)<=(if cq (c9 f) then 600 else 0):=by
   split
   ·rename_i q
    rw[if_pos (Classical.byContradiction fun k=>Z.2 hr k q)];omega
   ·omega
  generalize (if cq (aK v f).2.1.2 then 600 else 0)=a1 at *
  generalize (if cq (c9 f) then 600 else 0)=a2 at *
  cases ox:dq ((ao v).1.getD (aN f).toNat default) with
  | true =>
   have:=hD ox o1
   rw[this] at *
   rw[e2,if_neg (by rw[ox];simp)]
   simp;omega
  | false =>
   by_cases hl:dW f = -1
   ·rw[e2,if_neg (fun q=>q.1 hl),if_pos hl]
    cases oy <;> simp <;> omega
   ·have hlow:fV (c9 f)=0:=by
     have ht:=F.ttl
     rw[aR,if_pos F.dec] at ht
     unfold fV
     rw[if_neg (fun k=>k F.dec),if_neg]
     intro q
     exact ht ⟨hl,ox,q⟩
    have:=Uj hf.b hlow
    rw[e2,if_pos ⟨hl,ox⟩,if_neg hl]
    cases oy <;> simp <;> omega
 ·obtain⟨z1,z2⟩:=Z.1 hr
  rw[if_neg z2,if_pos z1]
  cases oy <;> simp <;> omega
theorem OZ(n:bw)(l:List aH)(f:aH):nw n (bT l f)=nw n l+na n f:=by
 have e:nw n l=nw n ((l.takeWhile fun x=>decide (aq x<=aq f))++(l.dropWhile fun x=>decide (aq x<=aq f))):=by rw[List.takeWhile_append_dropWhile]
 rw[e]
 unfold nw bT
 simp only[List.map_append,List.map_cons,List.sum_append,List.sum_cons]
 omega
theorem JM(w:au)(f:aH)(out:Int×List Int):(bf (cK w f out)).length<=(bf w).length+1/\bz (cK w f out)=bz w ∧
  (am (cK w f out)=am w∨∃ t o,am (cK w f out)=bT (am w) (t,o,fF (ao w).2.1 out.1 (aN f),out.1,dM f,out.2)):=by
 unfold cK
 dsimp only
 split
 ·exact⟨by show ((bf w)++[_]).length<=_;simp,rfl,.inl rfl⟩
 ·split
  ·exact⟨by show ((bf w)++[_]).length<=_;simp,rfl,.inl rfl⟩
  ·exact⟨by show (bf w).length<=_;omega,rfl,.inr ⟨_,_,rfl⟩⟩
theorem Qo{v:au}(h:c8 v){f:aH}(hf:pY (ao v) (aV v) f)(A:tN (ao v)) :
  (bf (dD v f)).length<=(bf v).length+2/\(bz (dD v f)).length<=(bz v).length+1/\nw (ao v) (am (dD v f))+1<=nw (ao v) (am v)+na (ao v) f:=by
 have h1:1<=na (ao v) f:=by unfold na;omega
 unfold dD
 dsimp only
 generalize hb:(if (aK v f).2.2=1 then qM (fu v ((bo v).set (aN f).toNat (aK v f).1)) (bz (fu v ((bo v).set (aN f).toNat (aK v f).1))++[(aq f,aN f,c9 f)]) else fu v ((bo v).set (aN f).toNat (aK v f).1))=B
 have eB:ao B=ao v/\am B=am v/\bf B=bf v/\(bz B).length<=(bz v).length+1:=by
  rw[← hb];split
  ·exact⟨rfl,rfl,rfl,by show ((bz v)++[_]).length<=_;simp⟩
  ·exact⟨rfl,rfl,rfl,by show (bz v).length<=_;omega⟩
 clear hb
 obtain⟨b1,b2,b3,b4⟩:=eB
 generalize hc:(if (aK v f).2.2≠0 then kx B f (dW f) (aK v f).2.2 else B)=C
 have eC:ao C=ao v/\am C=am v/\(bf C).length<=(bf v).length+1/\bz C=bz B:=by
  rw[← hc];split
  ·exact⟨b1,b2,by show ((bf B)++[_]).length<=_;rw[b3];simp,rfl⟩
  ·exact⟨b1,b2,by rw[b3];omega,rfl⟩
 clear hc
 obtain⟨c1,c2,c3,c4⟩:=eC
 split
 ·rename_i hp
  obtain⟨d1,d2,d3⟩:=JM C f (aK v f).2.1
  refine⟨by omega,by rw[d2,c4];exact b4,?_⟩
  rcases d3 with d3|⟨t,o,d3⟩
  ·rw[d3,c2];omega
  ·rw[d3,c2,OZ,c1]
   have:=Yf h hf A hp t o (dM f)
   omega
 ·exact⟨by omega,by rw[c4];exact b4,by rw[c2];omega⟩
theorem c8.okDn{w:au}(h:c8 w):okDn w:=⟨h.done.1,by have:=tq h.net;omega⟩
theorem ac5{w:au}(h:c8 w)(hd:jp w=true):br w=br (jf w):=by
 obtain⟨h1,h2,h3⟩:=Hc h.okDn hd
 have e:=ab8 h.okDn (n:=qE (jf w)+1) (by omega)
 rw[e,dY,if_pos hd]
 rfl
theorem V9{w:au}(hd:¬ jp w=true):br w=w:=by
 unfold br
 cases (ao w).2.2.length-(bO w).toNat with
 | zero=>rfl
 | succ n=>rw[dY,if_neg hd]
theorem BE(w:au):(br w).1=w.1/\am (br w)=am w/\bf (br w)=bf w/\bz (br w)=bz w/\aS (br w)=aS w/\aV (br w)=aV w:=by
 have k:=ru ((ao w).2.2.length-(bO w).toNat) w
 have e:=k.2.2.2
 exact⟨k.1,congrArg (fun x:List Int×List aH×List mY×List iX=>x.2.1) e,congrArg (fun x:List Int×List aH×List mY×List iX=>x.2.2.2) e,congrArg (fun x:List Int×List aH×List mY×List iX=>x.2.2.1) e,k.2.2.1,k.2.1⟩
theorem XB(n:bw)(f:aH)(l:List aH):nw n (f::l)=na n f+nw n l:=by unfold nw;rw[List.map_cons,List.sum_cons]
theorem qU.wk{n:bw}{t o:Int}{f:aH}(h:qU n t o f):pY n t f:=⟨h.t,h.nd,h.l,h.b,h.d⟩
def mP(n:bw):Prop:=(n.1.length:Int)<=1000000/\(n.2.1.length:Int)<=1000000/\(n.2.2.length:Int)<=1000000/\(∀ x∈n.1,((aA x).length:Int)<=1000000/\okL (aQ x))∧∀ c∈n.2.2,((db c).2.1.length:Int)<=1099511627776
def uY(w:au):Prop:=mP (ao w)/\((bo w).length:Int)<=1000000/\((dV w).length:Int)<=1000000/\((am w).length:Int)<=1000000/\((bz w).length:Int)<=1000000000000/\((bf w).length:Int)<=1000000000000 ∧
 (∀ s∈bo w,((jc s).length:Int)<=1000000/\okL (bh s))/\(∀ f∈am w,((c9 f).length:Int)<=1000000)∧∀ e∈bz w,(e.2.2.length:Int)<=1000000
theorem YS(v:au)(f:aH):bz (dD v f)=bz v∨bz (dD v f)=bz v++[(aq f,aN f,c9 f)]:=by
 unfold dD
 dsimp only
 generalize hb:(if (aK v f).2.2=1 then qM (fu v ((bo v).set (aN f).toNat (aK v f).1)) (bz (fu v ((bo v).set (aN f).toNat (aK v f).1))++[(aq f,aN f,c9 f)]) else fu v ((bo v).set (aN f).toNat (aK v f).1))=B
 have eB:bz B=bz v∨bz B=bz v++[(aq f,aN f,c9 f)]:=by
  rw[← hb];split
  ·exact .inr rfl
  ·exact .inl rfl
 clear hb
 generalize hc:(if (aK v f).2.2≠0 then kx B f (dW f) (aK v f).2.2 else B)=C
 have eC:bz C=bz B:=by rw[← hc];split <;> rfl
 split
 ·rw[(JM C f _).2.1,eC];exact eB
 ·rw[eC];exact eB
structure cL (B:Int) (w:au):Prop where
 b:B<=549755813888
 sB:cu w (B-2*ic w)
 a:tN (ao w)
 c:mP (ao w)
 dd:∀ x∈bz w,(x.2.2.length:Int)<=2000
 e:((bf w).length:Int)+2*ic w<=B
 d:((bz w).length:Int)+ic w<=B
abbrev rb(w:au):Prop:=cL 549755813888 w
theorem cL.s{B:Int}{w:au}(h:cL B w):cu w (549755813888-2*ic w):=h.sB.more (by have:=h.b;omega)
theorem cL.more{B B':Int}{w:au}(h:cL B w)(h1:B<=B')(h2:B'<=549755813888):cL B' w:=⟨h2,h.sB.more (by omega),h.a,h.c,h.dd,by have:=h.e;omega,by have:=h.d;omega⟩
theorem cL.sim{B:Int}{w:au}(h:cL B w):rb w:=h.more h.b (Int.le_refl _)
theorem cL.change{B:Int}{w:au}(h:cL B w):cL B (br w):=by
 obtain⟨k1,k2,k3,k4,-⟩:=BE w
 have ep:ic (br w)=ic w:=by unfold ic;rw[k2];show nw (br w).1 _=_;rw[k1];rfl
 exact⟨h.b,by rw[ep];exact h.sB.change,by show tN (br w).1;rw[k1];exact h.a,by show mP (br w).1;rw[k1];exact h.c,by rw[k4];exact h.dd,by rw[ep,k3];exact h.e,by rw[ep,k4];exact h.d⟩
theorem cL.cp{B:Int}{w:au}(h:cL B w):uY w:=by
 have h1:=h.s.len
 have h2:=tq h.s.net
 have h3:=h.s.cl
 have h4:=h.s.fn
 have h5:=h.e
 have h6:=h.d
 have h7:=h.b
 refine⟨h.c,by omega,by omega,by omega,by omega,by omega,fun s hs=>?_,fun f hf=>by have:=(h.s.fo f hf).d;omega,fun x hx=>by have:=h.dd x hx;omega⟩
 obtain⟨i,hi,rfl⟩:=List.mem_iff_getElem.1 hs
 have hi2:i<(ao w).1.length:=by omega
 obtain⟨st,-⟩:=h.s.st i hi2
 have e:(bo w).getD i default=(bo w)[i]:=by rw[List.getD_eq_getElem?_getD,List.getElem?_eq_getElem hi];rfl
 rw[e] at st
 have:=st.ps
 have:=(rp h.s.net hi2).n32
 exact⟨by omega,st.okl⟩
theorem SG{w:au}(h:c8 w)(A:tN (ao w)){f:aH}{r:List aH}(e:am w=f::r) :
  ic (cH w)+1<=ic w/\(bf (cH w)).length<=(bf w).length+2/\(bz (cH w)).length<=(bz w).length+1:=by
 obtain⟨-,s2,-⟩:=h.step e
 have es:cH w=dD (br (bU (bi w r) (aq f))) f:=by unfold cH;rw[e];rfl
 obtain⟨k1,k2,k3,k4,-,k6⟩:=BE (bU (bi w r) (aq f))
 have k2:am (br (bU (bi w r) (aq f)))=r:=k2
 have k6:aV (br (bU (bi w r) (aq f)))=aq f:=k6
 have k1:ao (br (bU (bi w r) (aq f)))=ao w:=k1
 have hf:=h.fo f (by rw[e];exact List.mem_cons_self ..)
 have hp:=h.fl
 rw[e] at hp
 have h0:c8 (bU (bi w r) (aq f)):=by
  refine⟨h.net,⟨by have:=hf.t;have:=h.now;show 0<=aq f;omega,hf.t.2⟩,h.done,h.len,h.st,h.cl,(List.pairwise_cons.1 hp).2,fun x hx=>?_,?_⟩
  ·have k:=h.fo x (by rw[e];exact List.mem_cons_of_mem _ hx)
   exact⟨⟨(List.pairwise_cons.1 hp).1 x hx,k.t.2⟩,k.nd,k.l,k.b,k.d⟩
  ·have:=h.fn;rw[e] at this;simp at this;show r.length<=4096;omega
 have h1:c8 (br (bU (bi w r) (aq f))):=zH _ h0
 obtain⟨l1,l2,l3⟩:=Qo h1 (f:=f) (by rw[k1,k6];exact⟨⟨Int.le_refl _,hf.t.2⟩,hf.nd,hf.l,hf.b,hf.d⟩) (by rw[k1];exact A)
 rw[← es] at l1 l2 l3
 rw[k3] at l1
 rw[k4] at l2
 rw[k1,k2] at l3
 refine⟨?_,l1,l2⟩
 unfold ic
 rw[s2,e,XB]
 omega
theorem cL.step{B:Int}{w:au}(h:cL B w){f:aH}{r:List aH}(e:am w=f::r):cL B (cH w)/\ic (cH w)+1<=ic w:=by
 obtain⟨p1,p2,p3⟩:=SG h.s.weak h.a e
 obtain⟨s1,s2,-⟩:=h.sB.step (by have:=h.b;omega) e
 have h1:=h.e
 have h2:=h.d
 refine⟨⟨h.b,s1.more (by omega),by rw[s2];exact h.a,by rw[s2];exact h.c,?_,by omega,by omega⟩,p1⟩
 have es:cH w=dD (br (bU (bi w r) (aq f))) f:=by unfold cH;rw[e];rfl
 have k4:bz (br (bU (bi w r) (aq f)))=bz w:=(BE _).2.2.2.1
 have hf:=h.s.fo f (by rw[e];exact List.mem_cons_self ..)
 rw[es]
 rcases YS (br (bU (bi w r) (aq f))) f with q|q
 ·rw[q,k4];exact h.dd
 ·rw[q,k4]
  intro x hx
  rcases List.mem_append.1 hx with hx|hx
  ·exact h.dd x hx
  ·rw[List.mem_singleton.1 hx];exact hf.d
theorem Rj{to:Int}:∀(n m:Nat){w:au},c8 w->fI to (am w)<=n->fI to (am w)<=m->f5 n w to=f5 m w to:=by
 have stop:∀{w:au},fI to (am w)=0->gG w to=false:=by
  intro w hw
  unfold gG
  cases e:am w with
  | nil=>rfl
  | cons f r =>
   rw[e,wg] at hw
   exact decide_eq_false (by omega)
 intro n
 induction n with
 | zero =>
  intro m w h hn hm
  have hb:=stop (w:=w) (by omega)
  cases m with
  | zero=>rfl
  | succ m=>rw[f5,f5,if_neg (by rw[hb];simp)]
 | succ n ih =>
  intro m w h hn hm
  cases m with
  | zero =>
   have hb:=stop (w:=w) (by omega)
   rw[f5,f5,if_neg (by rw[hb];simp)]
  | succ m =>
   rw[f5,f5]
   split
   ·rename_i hb
    unfold gG at hb
    cases e:am w with
    | nil=>rw[e] at hb;cases hb
    | cons f r =>
     rw[e] at hb
     have hb:=of_decide_eq_true hb
     have hpos:1<=fI to (am w):=by rw[e,wg];omega
     obtain⟨s1,-,-,s4⟩:=h.step e
     have:=s4 to hb
     exact ih m s1 (by omega) (by omega)
   ·rfl
theorem IK{w:au}{to:Int}(h:c8 w)(hb:gG w to=true):jH w to=jH (cH w) to:=by
 have hb0:=hb
 unfold gG at hb
 cases e:am w with
 | nil=>rw[e] at hb;cases hb
 | cons f r =>
  rw[e] at hb
  have hb:=of_decide_eq_true hb
  have hpos:1<=fI to (am w):=by rw[e,wg];omega
  obtain⟨s1,-,-,s4⟩:=h.step e
  have:=s4 to hb
  obtain⟨k,hk⟩:∃ k,fI to (am w)=k+1:=⟨fI to (am w)-1,by omega⟩
  have e1:jH w to=f5 k (cH w) to:=by unfold jH;rw[hk,f5,if_pos hb0]
  rw[e1]
  exact Rj _ _ s1 (by omega) (Nat.le_refl _)
theorem HO{w:au}{to:Int}(hb:gG w to=false):jH w to=w:=Uh hb _
theorem cL.run{B to:Int}:∀(n:Nat){w:au},cL B w->ic w<=n->cL B (jH w to)/\gG (jH w to) to=false/\ao (jH w to)=ao w/\ic (jH w to)<=ic w
 | n,w,h,hn=>by
  cases hb:gG w to with
  | false=>rw[HO hb];exact⟨h,hb,rfl,Nat.le_refl _⟩
  | true =>
   rw[IK h.s.weak hb]
   cases e:am w with
   | nil=>unfold gG at hb;rw[e] at hb;cases hb
   | cons f r =>
    obtain⟨k1,k2⟩:=h.step e
    obtain⟨-,s2,-⟩:=h.s.weak.step e
    cases n with
    | zero=>omega
    | succ n =>
     obtain⟨a,b,c,d⟩:=cL.run n k1 (by omega)
     exact⟨a,b,c.trans s2,by omega⟩
def wo:au:=(([],[],[]),0,0,0,[],[],[],[],[])
def mH(w:au):Prop:=w=bU wo (aV w)/\0<=aV w/\aV w<=1125899906842624
def jt(w:au):Prop:=rb w∨mH w
theorem mH.fl{w:au}(h:mH w):am w=[]:=by rw[h.1];rfl
theorem mH.cp{w:au}(h:mH w):uY w:=by
 rw[h.1]
 have Z:∀{b:Int},0<=b->((0:Nat):Int)<=b:=fun h=>h
 exact⟨⟨Z (by decide),Z (by decide),Z (by decide),fun x hx=>(by cases hx),fun x hx=>(by cases hx)⟩,Z (by decide),Z (by decide),Z (by decide),Z (by decide),Z (by decide),fun x hx=>(by cases hx),fun x hx=>(by cases hx),fun x hx=>(by cases hx)⟩
theorem jt.cp{w:au}(h:jt w):uY w:=h.elim cL.cp mH.cp
theorem jt.fl{w:au}(h:jt w)(hf:am w≠[]):rb w:=h.resolve_right fun q=>hf q.fl
def qR(w:au):Prop:=c8 w∨((ao w).2.2=[]/\bO w=0)
theorem mH.ch{w:au}(h:mH w)(t:Int):qR (bU w t) := .inr (by rw[h.1];exact⟨rfl,rfl⟩)
theorem mH.chg{w:au}(h:mH w)(t:Int):br (bU w t)=bU w t:=by rw[h.1];rfl
def f7(w:au):aH:=(am w).headD default
def dh(w:au):au:=br (bU (bi w (am w).tail) (aq (f7 w)))
def gT(w:au):lL:=aK (dh w) (f7 w)
def r6(w:au):au:=fu (dh w) ((bo (dh w)).set (aN (f7 w)).toNat (gT w).1)
def kA(w:au):au:=if (gT w).2.2=1 then qM (r6 w) (bz (r6 w)++[(aq (f7 w),aN (f7 w),c9 (f7 w))]) else r6 w
def f6(w:au):au:=if (gT w).2.2≠0 then kx (kA w) (f7 w) (dW (f7 w)) (gT w).2.2 else kA w
theorem Na(w:au):cH w=if 0<(gT w).2.1.2.length then cK (f6 w) (f7 w) (gT w).2.1 else f6 w:=by
 have e:cH w=dD (dh w) (f7 w):=by unfold cH dh f7;rfl
 rw[e]
 unfold dD f6 kA r6 gT
 rfl
theorem sM(w:au):kA w=qM (r6 w) (if (gT w).2.2=1 then bz (dh w)++[(aq (f7 w),aN (f7 w),c9 (f7 w))] else bz (dh w)):=by unfold kA;split <;> rfl
theorem uW(w:au):f6 w=Er (kA w) (if (gT w).2.2≠0 then bf (dh w)++[(dM (f7 w),aq (f7 w),aN (f7 w),dW (f7 w),(gT w).2.2)] else bf (dh w)):=by
 unfold f6
 rw[sM]
 split <;> rfl
structure At (w:au) (f:aH) (r:List aH):Prop where
 s:cu (dh w) (549755813888-2*ic w)
 fk:qU (ao (dh w)) (aV (dh w)) (aS (dh w)) f
 eF:f7 w=f
 net:ao (dh w)=ao w
 now:aV (dh w)=aq f
 fl:am (dh w)=r
 en:bf (dh w)=bf w
 dl:bz (dh w)=bz w
 h0:cu (bU (bi w (am w).tail) (aq (f7 w))) (549755813888-2*ic w)
theorem cL.at{B:Int}{w:au}(h:cL B w){f:aH}{r:List aH}(e:am w=f::r):At w f r:=by
 have hs:=h.s
 have hp:=hs.fl
 rw[e] at hp
 obtain⟨p1,p2⟩:=List.pairwise_cons.1 hp
 have hf:=hs.fo f (by rw[e];exact List.mem_cons_self)
 have hle:∀ x∈r,aq f<=aq x:=fun x hx=>by rcases p1 x hx with k|k <;> omega
 have ed:f7 w=f:=by unfold f7;rw[e];rfl
 have et:(am w).tail=r:=by rw[e];rfl
 have hb:cu (bU (bi w r) (aq f)) (549755813888-2*ic w):=by
  refine⟨hs.net,⟨by show 0<=aq f;have:=hs.now;have:=hf.t;omega,hf.t.2⟩,hs.ord,hs.done,hs.len,hs.st,hs.cl,hs.cr,p2,fun x hx=>?_,?_⟩
  ·have hx:x∈r:=hx
   have k:=hs.fo x (by rw[e];exact List.mem_cons_of_mem _ hx)
   exact⟨⟨hle x hx,k.t.2⟩,k.o,k.nd,k.l,k.g,k.b,k.d⟩
  ·show r.length<=4096
   have:=hs.fn
   rw[e,List.length_cons] at this;omega
 obtain⟨k1,k2,k3,k4,k5,k6⟩:=BE (bU (bi w r) (aq f))
 have es:dh w=br (bU (bi w r) (aq f)):=by unfold dh;rw[ed,et]
 have n1:ao (dh w)=ao w:=by rw[es];exact k1
 have n2:aV (dh w)=aq f:=by rw[es];exact k6
 have n3:aS (dh w)=aS w:=by rw[es];exact k5
 refine⟨by rw[es];exact hb.change,?_,ed,n1,n2,by rw[es];exact k2,by rw[es];exact k3,by rw[es];exact k4,by rw[ed,et];exact hb⟩
 rw[n1,n2,n3]
 exact⟨⟨Int.le_refl _,hf.t.2⟩,hf.o,hf.nd,hf.l,hf.g,hf.b,hf.d⟩
theorem At.out{w:au}{f:aH}{r:List aH}(h:At w f r)(hp:0<(gT w).2.1.2.length) :
  0<=(gT w).2.1.1/\(gT w).2.1.1<(ao w).2.1.length/\iK (ao w).1.length ((ao w).2.1.getD (gT w).2.1.1.toNat default):=by
 have hi:(aN f).toNat<(ao (dh w)).1.length:=by have:=h.fk.nd;omega
 have O:=h.s.weak.out h.fk.wk
 have eH:gT w=aK (dh w) f:=by unfold gT;rw[h.eF]
 rw[eH] at hp ⊢
 have hr:(aK (dh w) f).2.2=0∨(aK (dh w) f).2.2=2:=by
  by_cases z0:(aK (dh w) f).2.2=0
  ·exact .inl z0
  by_cases z2:(aK (dh w) f).2.2=2
  ·exact .inr z2
  ·have:=O.none z0 z2
   rw[this] at hp
   exact absurd hp (by simp[gn])
 obtain⟨⟨k0,k1⟩,k2,-⟩:=th h.s.net hi (wM h.s.net hi (O.some hr).2.2)
 rw[h.net] at k1 k2
 exact⟨k0,k1,k2⟩
end Go.RS

/- SX: copying rows whose elements have several cells (for slices.Insert). -/
namespace Go.SX
open Go
variable {P:Program}
theorem BL(w:World)(dT sT ty iG:TypeId)(z g o dLen dCap:Nat)(a:Addr)(lJ qz:Nat)(cur:Array Value)(t:TypeId)(cs:List Value)
  (hu:P.underlying dT=some (.slice iG)) (hs:(P.info? iG).map (·.size)=some z)
  (hg:w.heap[g]? = some (.cells cur t (0,0))) (hn:cs.length=Nat.min lJ dLen*z)
  (hsrc:∀ j v,cs[j]? = some v->w.cell? (a.add j)=some v) (hfit:o+cs.length<=cur.size) (h1:∀ v∈cs,v.oneCell'=true) :
  (Builtin.copy_ #[dT,sT] ty #[.slice (some ⟨g,o,none⟩) dLen dCap,.slice (some a) lJ qz]).run P w =
   .ok (goInt (Nat.min lJ dLen)) (w.setRow g (cur.toList.take o++cs++cur.toList.drop (o+cs.length)).toArray):=by
 have hl:=run_loadCells_list (P:=P) w a cs hsrc
 have hst:=run_storeCells_at P g o t cs 0 cur w hg (by simpa using hfit) h1
 cases hq:P.info? iG with
 | none=>simp[hq] at hs
 | some i =>
  have hi:i.size=z:=by simpa[hq] using hs
  simp[Builtin.copy_,run_underlying hu,Builtin.lenOf,Builtin.firstCells,sizeOf,typeInfo,hq,hi,← hn,hl,hst]
end Go.SX
