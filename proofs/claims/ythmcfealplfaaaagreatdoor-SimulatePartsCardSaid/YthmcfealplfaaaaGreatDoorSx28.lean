/- Drawn: what holds of drawn networks: their nodes, links, routes and changes. -/
import Derived.Test.YthmcfealplfaaaaGreatDoorDrawsome
import Derived.Test.YthmcfealplfaaaaGreatDoorNetdraw
import Derived.Test.YthmcfealplfaaaaGreatDoorNodek
import Derived.Laws.CopyRow
namespace Go.RS
open Go.SX Go.Proofs
set_option maxRecDepth 100000
set_option linter.unusedVariables false
structure NP (i:Int) (x:ac):Prop where
 own:LV x=1+i/3
 loop:gw x=0∨gw x=167903232+i
 src:(jG x=1∨jG x=2)∨(jG x=3/\gw x=167903232+i)∨(jG x=4/\167837696<=oe x)
 fix:oe x=0∨(167837696<=oe x/\oe x<167837736)
 id:(0<=o3 x/\o3 x<=5)/\(0<=kC x/\kC x<=65535)/\0<=uW x/\uW x<=1000000
 lim:iG x=(0,0)∨(1<=(iG x).1/\(iG x).1<=3/\1<=(iG x).2/\(iG x).2<=200)
 first:gJ x=64∨gJ x=255∨gJ x=128
 seed:0<=zW x/\zW x<=255
theorem NP.new{i:Int}{host:Bool}{f sd:Int}(hf:f=64∨f=255∨f=128)(h0:0<=sd)(h1:sd<=255):NP i (oQ i host f sd) :=
 ⟨rfl,.inl rfl,.inl (.inl rfl),.inl rfl,⟨⟨by show (0:Int)<=0;decide,by show (0:Int)<=5;decide⟩,⟨by show (0:Int)<=0;decide,by show (0:Int)<=65535;decide⟩,by show (0:Int)<=0;decide,by show (0:Int)<=1000000;decide⟩,.inl rfl,hf,h0,h1⟩
theorem NP.same{i:Int}{x y:ac}(h:NP i x)(e:x.2=y.2):NP i y:=by
 obtain⟨p,x⟩:=x
 obtain⟨q,y⟩:=y
 cases e
 exact⟨h.own,h.loop,h.src,h.fix,h.id,h.lim,h.first,h.seed⟩
theorem NP.routes{i:Int}{x y:ac}(h:NP i x)(e:u9 x []=u9 y []):NP i y:=by
 have k:NP i (u9 x []):=⟨h.own,h.loop,h.src,h.fix,h.id,h.lim,h.first,h.seed⟩
 rw[e] at k
 exact⟨k.own,k.loop,k.src,k.fix,k.id,k.lim,k.first,k.seed⟩
theorem NP.way{i:Int}{x:ac}(h:NP i x){c:aH}(hc:bS c):NP i (fx x i c).1:=by
 have a:=cV hc (n:=10) (by omega)
 have ca:=(ci hc 10).1
 have b:=cV ca (n:=3) (by omega)
 have cb:=(ci ca 3).1
 have e:=cV cb (n:=200) (by omega)
 have f:=cV ca (n:=40) (by omega)
 unfold fx
 dsimp only
 split
 ·exact⟨h.own,h.loop,h.src,h.fix,h.id,h.lim,h.first,h.seed⟩
 split
 ·refine⟨h.own,h.loop,h.src,h.fix,h.id,.inr ?_,h.first,h.seed⟩
  show 1<=1+_/\1+_<=(3:Int)/\1<=1+_/\1+_<=(200:Int)
  omega
 split
 ·exact⟨h.own,h.loop,h.src,h.fix,h.id,h.lim,h.first,h.seed⟩
 split
 ·exact⟨h.own,h.loop,.inl (.inr rfl),h.fix,h.id,h.lim,h.first,h.seed⟩
 split
 ·exact⟨h.own,.inr rfl,.inr (.inl ⟨rfl,rfl⟩),h.fix,h.id,h.lim,h.first,h.seed⟩
 split
 ·refine⟨h.own,h.loop,.inr (.inr ⟨rfl,?_⟩),.inr ⟨?_,?_⟩,h.id,h.lim,h.first,h.seed⟩
  ·show 167837696<=167837696+_
   omega
  ·show 167837696<=167837696+_
   omega
  ·show 167837696+_<167837736
   omega
 ·exact h
theorem NP.od{i:Int}{x:ac}(h:NP i x){c:aH}(hc:bS c):NP i (tw x i c).1:=by
 have k:=h.way hc
 have kc:=Fq (x:=x) (i:=i) hc
 have a:=cV kc (n:=6) (by omega)
 have ca:=(ci kc 6).1
 have b:=cV ca (n:=65536) (by omega)
 have cb:=(ci ca 65536).1
 have e:=cV cb (n:=1000) (by omega)
 refine⟨k.own,k.loop,k.src,k.fix,?_,k.lim,k.first,k.seed⟩
 show (0<=(aj (fx x i c).2 6).1/\(aj (fx x i c).2 6).1<=5)/\(0<=(aj (aj (fx x i c).2 6).2 65536).1/\(aj (aj (fx x i c).2 6).2 65536).1<=65535)/\0<=(aj (aj (aj (fx x i c).2 6).2 65536).2 1000).1/\(aj (aj (aj (fx x i c).2 6).2 65536).2 1000).1<=1000000
 omega
theorem NP.opq{i:Int}{x:ac}(h:NP i x)(b:Bool):NP i (z5 x b):=⟨h.own,h.loop,h.src,h.fix,h.id,h.lim,h.first,h.seed⟩
def oI(ns:List ac):Prop:=∀ i:Nat,i<ns.length->NP i (ns.getD i default)
theorem oI.set{ns:List ac}(h:oI ns){i:Nat}{x:ac}(hx:i<ns.length->NP i x):oI (ns.set i x):=fun j hj=>by
 rw[List.length_set] at hj
 by_cases e:i=j
 ·subst e;rw[iw hj];exact hx hj
 ·rw[kA e];exact h j hj
structure LK (l0 l:aF):Prop where
 a:lA l=lA l0
 b:lB l=lB l0
 d:kR l=kR l0
 s:sg l=sg l0
 j:0<=ia l/\ia l<=9
 o:0<=o6 l/\o6 l<=65536
theorem LK.od{l0 l:aF}(h:LK l0 l){c:aH}(hc:bS c):LK l0 (odLink l c).1:=by
 have a:=cV hc (n:=6) (by omega)
 have ca:=(ci hc 6).1
 have b:=cV ca (n:=10) (by omega)
 have e:=cV ca (n:=3) (by omega)
 unfold odLink
 dsimp only
 split
 ·refine⟨h.a,h.b,h.d,h.s,?_,h.o⟩
  show 0<=(aj (aj c 6).2 10).1/\(aj (aj c 6).2 10).1<=9
  omega
 split
 ·refine⟨h.a,h.b,h.d,h.s,h.j,?_⟩
  show 0<=([65536,20000,3]:List Int).getD (aj (aj c 6).2 3).1.toNat default/\([65536,20000,3]:List Int).getD (aj (aj c 6).2 3).1.toNat default<=65536
  rcases (show (aj (aj c 6).2 3).1=0∨(aj (aj c 6).2 3).1=1∨(aj (aj c 6).2 3).1=2 by omega) with e|e|e <;> rw[e] <;> decide
 ·exact h
structure mD (ls0 ls:List aF):Prop where
 n:ls.length=ls0.length
 k:∀ i:Nat,i<ls0.length->LK (ls0.getD i default) (ls.getD i default)
theorem mD.set{ls0 ls:List aF}(h:mD ls0 ls){i:Nat}{x:aF}(hx:i<ls0.length->LK (ls0.getD i default) x):mD ls0 (ls.set i x):=by
 refine⟨by rw[List.length_set];exact h.n,fun j hj=>?_⟩
 by_cases e:i=j
 ·subst e;rw[iw (by rw[h.n];exact hj)];exact hx hj
 ·rw[kA e];exact h.k j hj
theorem mD.mem{ls0 ls:List aF}(h:mD ls0 ls){l:aF}(hl:l∈ls):∃ l0∈ls0,LK l0 l:=by
 obtain⟨i,hi,e⟩:=List.mem_iff_getElem.1 hl
 have:=h.k i (by rw[← h.n];exact hi)
 rw[List.getD_eq_getElem?_getD (l:=ls),List.getElem?_eq_getElem hi,e] at this
 exact⟨_,mN (by rw[← h.n];exact hi),this⟩
theorem mD.lnk{ls0 ls:List aF}(h:mD ls0 ls){i k:Int}(hk:lnk ls0 i k):lnk ls i k:=by
 obtain⟨k0,k1,k2⟩:=hk
 have e:=h.k k.toNat (by omega)
 exact⟨k0,by rw[h.n];exact k1,by rw[e.a,e.b];exact k2⟩
theorem Ov(i:Int):∀(k:Nat)(ls ls':List aF),ls'.length=ls.length->(∀ j:Nat,j<ls.length->lA (ls'.getD j default)=lA (ls.getD j default)/\lB (ls'.getD j default)=lB (ls.getD j default))->portsF i k ls'=portsF i k ls
 | k,[],[],_,_=>rfl
 | k,x::r,[],h,_=>by cases h
 | k,[],x::r,h,_=>by cases h
 | k,x::r,y::t,h,e=>by
  have e0:=e 0 (by simp)
  rw[List.getD_cons_zero,List.getD_cons_zero] at e0
  rw[portsF,portsF,mT,mT,e0.1,e0.2,Ov i (k+1) r t (by simpa using h) fun j hj=>by
   have:=e (j+1) (by simp;omega)
   rw[List.getD_cons_succ,List.getD_cons_succ] at this;exact this]
theorem mD.portsF{ls0 ls:List aF}(h:mD ls0 ls)(i:Int)(k:Nat):portsF i k ls=Go.RS.portsF i k ls0 :=
 Ov i k ls0 ls h.n fun j hj=>⟨(h.k j hj).a,(h.k j hj).b⟩
theorem kU.lk{ls0 ls:List aF}(h:mD ls0 ls){aa:List Int}{i:Int}{t:List Rt}(k:kU ls0 aa i t):kU ls aa i t :=
 ⟨k.1,fun r hr=>by
  have q:=k.2 r hr
  exact⟨q.len,q.mem,q.ne,q.pw,fun x hx=>h.lnk (q.ln x hx),q.w0,q.w1⟩⟩
structure CH (ns:List ac) (c:aN):Prop where
 at':0<=fQ c/\fQ c<=180
 w:0<=bu c/\bu c<ns.length
 r:qY c=false
 p:∃ r∈aV (ns.getD (bu c).toNat default),(dh c).1=r.1/\(dh c).2.2=r.2.2
 x:(dh c).2.1=[]∨∃ q∈aC (ns.getD (bu c).toNat default),(dh c).2.1=[q.2]
def zF:List Int:=(List.range 10).flatMap fun (k:Nat)=>[dX k+1,dX k+2]
theorem PM{a:Int}{k:Nat}(hk:k<10)(h:a=dX k+1∨a=dX k+2):a∈zF:=by
 refine List.mem_flatMap.2 ⟨k,List.mem_range.2 hk,?_⟩
 rcases h with h|h <;> rw[h] <;> simp
theorem kU.sub{ls:List aF}{aa bb:List Int}{i:Int}{t:List Rt}(h:kU ls aa i t)(hs:∀ a∈aa,a∈bb):kU ls bb i t :=
 ⟨h.1,fun r hr=>by
  have q:=h.2 r hr
  exact⟨q.len,hs _ q.mem,q.ne,q.pw,q.ln,q.w0,q.w1⟩⟩
structure DN (n:bw):Prop where
 n3:3<=n.1.length
 n7:n.1.length<=7
 l2:2<=n.2.1.length
 l10:n.2.1.length<=10
 h3:n.2.2.length<=3
 g:∀ x∈n.2.1,(0<=lA x/\lA x<n.1.length)/\(0<=lB x/\lB x<n.1.length)/\lA x≠lB x/\(1<=kR x/\kR x<=20)/\(0<=ia x/\ia x<=9)/\(0<=o6 x/\o6 x<=65536)/\0<=sg x/\sg x<=255
 p:∀ i:Nat,i<n.1.length->aC (n.1.getD i default)=portsF i 0 n.2.1
 d:oI n.1
 t:∀ i:Nat,i<n.1.length->kU n.2.1 zF i (aV (n.1.getD i default))
 o:∀ x∈n.2.1,iQ n.1 x=false
 c:∀ x∈n.2.2,CH n.1 x
 s:n.2.2.Pairwise fun a b=>fQ a<=fQ b
theorem KT{s:aR}(h:oI s.1.1)(hc:bS s.2):∀{i:Nat},i<=s.1.1.length->oI (oN s i).1
 | 0,_=>h
 | i+1,hi=>by
  have k:=KT h hc (i:=i) (by omega)
  have b:=(FH s hc (i:=i) (by omega)).2
  rw[show ((i+1:Nat):Int)=(i:Int)+1 by omega,Na s (by omega)]
  unfold tp
  refine k.set fun hl=>?_
  have e:((i:Int).toNat:Nat)=i:=by omega
  rw[e] at hl ⊢
  exact (k i hl).od b
theorem Us{ns:List ac}(h:oI ns){l:aF}(hl:0<=lB l):oI (o7 ns l):=by
 unfold o7
 split
 ·exact h.set fun hi=>(h _ hi).opq _
 ·exact h
theorem Te{ns:List ac}{l:aF}(hb:0<=lB l/\lB l<ns.length):iQ (o7 ns l) l=false:=by
 unfold o7
 split
 ·unfold iQ
  rw[iw (by omega)]
  exact Bool.and_false _
 ·rename_i h
  unfold iQ
  cases h1:dC (ns.getD (lA l).toNat default) <;> cases h2:dC (ns.getD (lB l).toNat default) <;> simp_all
theorem UE{ns:List ac}{l m:aF}(h:iQ ns m=false):iQ (o7 ns l) m=false:=by
 unfold o7
 split
 ·have set_op:∀(i j:Nat),dC (ns.getD j default)=false->dC ((ns.set i (z5 (ns.getD i default) false)).getD j default)=false:=fun i j hj=>by
   by_cases e:i=j
   ·subst e
    by_cases hl:i<ns.length
    ·rw[iw hl];rfl
    ·rw[List.set_eq_of_length_le (by omega)];exact hj
   ·rw[kA e];exact hj
  unfold iQ at h ⊢
  rw[Bool.and_eq_false_iff] at h ⊢
  exact h.imp (set_op _ _) (set_op _ _)
 ·exact h
theorem JI{ns:List ac}{l m:aF}(ha:lA l=lA m)(hb:lB l=lB m):iQ ns l=iQ ns m:=by unfold iQ;rw[ha,hb]
structure LS (s:aR) (i:Nat):Prop where
 np:oI (oL s i).1.1
 lk:mD s.1.2.1 (oL s i).1.2
 df:∀ k:Nat,k<i->iQ (oL s i).1.1 (s.1.2.1.getD k default)=false
theorem DI{s:aR}(h:oI s.1.1)(hc:bS s.2)(hg:fX s.1.1.length s.1.2.1)(hl:mD s.1.2.1 s.1.2.1):∀{i:Nat},i<=s.1.2.1.length->LS s i
 | 0,_=>⟨KT h hc (Nat.le_refl _),hl,fun k hk=>by omega⟩
 | i+1,hi=>by
  have k:=DI h hc hg hl (i:=i) (by omega)
  obtain⟨ag,cb,ge,ll⟩:=tY s hc hg (i:=i) (by omega)
  have hb:=hg.at' (k:=i) (by omega)
  have e:((i:Int).toNat:Nat)=i:=by omega
  have lk1:=(k.lk.k i (by omega)).od cb
  have hn:=ag.n
  have step:oL s ((i+1:Nat):Int)=pQ (oL s i) i:=by
   rw[show ((i+1:Nat):Int)=(i:Int)+1 by omega,LJ s (by omega),e]
  have fin:LS s (i+1):=by
   refine⟨?_,?_,fun j hj=>?_⟩
   ·rw[step];unfold pQ;dsimp only
    refine Us k.np ?_
    rw[lk1.b];exact hb.2.1
   ·rw[step];unfold pQ;dsimp only
    exact k.lk.set fun _=>lk1
   ·rw[step];unfold pQ;dsimp only
    by_cases q:j=i
    ·subst q
     rw[← JI (l:=(odLink ((oL s j).1.2.getD j default) (oL s j).2).1) lk1.a lk1.b]
     refine Te ?_
     rw[lk1.b,hn];exact hb.2
    ·exact UE (k.df j (by omega))
  exact fin
structure zd (ns:List ac) (m:Nat) (x:List aN×Int×aH):Prop where
 c:bS x.2.2
 a:0<=x.2.1/\x.2.1<=60*m
 n:x.1.length<=m
 h:∀ y∈x.1,CH ns y/\fQ y<=x.2.1
 s:x.1.Pairwise fun a b=>fQ a<=fQ b
theorem zd.next{ns:List ac}{m:Nat}{x:List aN×Int×aH}(h:zd ns m x)(hm:m<3)(h0:0<ns.length)(hp:∀ x∈ns,aV x≠[]->0<(aC x).length):zd ns (m+1) (mE ns x):=by
 have a:=cV h.c (n:=60) (by omega)
 have k1:=(ci h.c 60).1
 have w:=cV k1 (n:=(ns.length:Int)) (by omega)
 have k2:=(ci k1 (ns.length:Int)).1
 have ha:=h.a
 have hn:=h.n
 unfold mE
 dsimp only
 have hX:=bL (xs:=ns) w.1 w.2
 generalize eX:ns.getD (aj (aj x.2.2 60).2 (ns.length:Int)).1.toNat default=X at hX ⊢
 split
 ·refine⟨k2,?_,?_,fun y hy=>⟨(h.h y hy).1,?_⟩,h.s⟩
  ·show 0<=x.2.1+_/\x.2.1+_<=60*((m+1:Nat):Int)
   omega
  ·show x.1.length<=m+1
   omega
  ·have:=(h.h y hy).2
   show fQ y<=x.2.1+_
   omega
 ·rename_i hr
  have hr':aV X≠[]:=fun e=>hr (by rw[e];rfl)
  have q3:=cV k2 (n:=((aV X).length:Int)) (by omega)
  have b3:=(ci k2 ((aV X).length:Int)).1
  have hpp:=hp X hX hr'
  have q4:=cV b3 (n:=((aC X).length:Int)) (by omega)
  have b4:=(ci b3 ((aC X).length:Int)).1
  have b5:=(ci b4 4).1
  refine⟨b5,?_,?_,fun y hy=>?_,?_⟩
  ·show 0<=x.2.1+_/\x.2.1+_<=60*((m+1:Nat):Int)
   omega
  ·show (x.1++[_]).length<=m+1
   rw[List.length_append,List.length_singleton];omega
  ·rcases List.mem_append.1 hy with hy|hy
   ·refine⟨(h.h y hy).1,?_⟩
    have:=(h.h y hy).2
    show fQ y<=x.2.1+_
    omega
   ·rw[List.mem_singleton.1 hy]
    refine⟨⟨?_,w,rfl,?_,?_⟩,Int.le_refl _⟩
    ·show 0<=x.2.1+_/\x.2.1+_<=180
     omega
    ·refine⟨(aV X).getD (aj (aj (aj x.2.2 60).2 (ns.length:Int)).2 ((aV X).length:Int)).1.toNat default,?_,rfl,rfl⟩
     show _∈aV (ns.getD (aj (aj x.2.2 60).2 (ns.length:Int)).1.toNat default)
     rw[eX]
     exact bL q3.1 q3.2
    ·by_cases hz:(aj (aj (aj (aj (aj x.2.2 60).2 (ns.length:Int)).2 ((aV X).length:Int)).2 ((aC X).length:Int)).2 4).1=3
     ·exact .inl (if_pos hz)
     ·refine .inr ⟨(aC X).getD (aj (aj (aj (aj x.2.2 60).2 (ns.length:Int)).2 ((aV X).length:Int)).2 ((aC X).length:Int)).1.toNat default,?_,if_neg hz⟩
      show _∈aC (ns.getD (aj (aj x.2.2 60).2 (ns.length:Int)).1.toNat default)
      rw[eX]
      exact bL q4.1 q4.2
  ·refine List.pairwise_append.2 ⟨h.s,List.pairwise_singleton _ _,fun y hy z hz=>?_⟩
   have:=(h.h y hy).2
   rw[List.mem_singleton.1 hz]
   show fQ y<=x.2.1+_
   omega
theorem yo{α:Type} [Inhabited α] {l:List α} {x:α} (h:x∈l):∃ i:Nat,i<l.length/\l.getD i default=x:=by
 obtain⟨i,hi,e⟩:=List.mem_iff_getElem.1 h
 exact⟨i,hi,by rw[List.getD_eq_getElem?_getD,List.getElem?_eq_getElem hi,e];rfl⟩
theorem RS.np{s r:aR}{nn nl:Nat}(h:RS s nn nl r):oI r.1.1:=fun i hi=>by
 have hi':i<nn:=by have:=h.i.n;have:=h.g.n;omega
 obtain⟨host,f,sd,hd,hf,h0,h1⟩:=h.g.d i hi'
 have e:=h.i.e i (by rw[h.g.n];exact hi')
 exact NP.routes (NP.same (NP.new (host:=host) hf h0 h1) hd.symm) e.symm
theorem RS.opq{s r:aR}{nn nl:Nat}(h:RS s nn nl r){i:Nat}(hi:i<nn):dC (r.1.1.getD i default)=false:=by
 obtain⟨host,f,sd,hd,-⟩:=h.g.d i hi
 have e:=congrArg dC (h.i.e i (by rw[h.g.n];exact hi))
 have e2:dC (s.1.1.getD i default)=dC (oQ i host f sd):=congrArg (fun z=>dC (([]:List (Int×Int)),z)) hd
 exact e.trans e2
theorem RS.adr{s r:aR}{nn nl:Nat}(h:RS s nn nl r)(hl:nl<=10):∀ a∈f9 s.1.1,a∈zF:=fun a ha=>by
 unfold f9 at ha
 obtain⟨x,hx,ha⟩:=List.mem_flatMap.1 ha
 obtain⟨q,hq,rfl⟩:=List.mem_map.1 ha
 obtain⟨i,hi,rfl⟩:=yo hx
 rw[h.g.p i (by rw[← h.g.n];exact hi)] at hq
 obtain⟨j,hj,e⟩:=yH.1 hq
 rw[h.g.l] at hj
 rw[Nat.zero_add] at e
 rcases e with⟨-,rfl⟩|⟨-,rfl⟩
 ·exact PM (k:=j) (by omega) (.inl rfl)
 ·exact PM (k:=j) (by omega) (.inr rfl)
theorem RS.links{s r:aR}{nn nl:Nat}(h:RS s nn nl r):r.1.2.1=s.1.2.1:=congrArg Prod.fst h.l
theorem RS.lk{s r:aR}{nn nl:Nat}(h:RS s nn nl r):mD r.1.2.1 r.1.2.1:=⟨rfl,fun i hi=>by
 rw[h.links] at hi ⊢
 have:=h.g.g _ (mN hi)
 exact⟨rfl,rfl,rfl,rfl,by omega,by omega⟩⟩
theorem RS.dn{s r:aR}{nn nl:Nat}(h:RS s nn nl r)(n3:3<=nn)(n7:nn<=7)(l2:2<=nl)(l10:nl<=10):DN r.1:=by
 have rn:r.1.1.length=nn:=h.i.n.trans h.g.n
 have rl:=h.links
 have rh:r.1.2.2=[]:=(congrArg Prod.snd h.l).trans h.g.h
 refine⟨by omega,by omega,by rw[rl,h.g.l];exact l2,by rw[rl,h.g.l];exact l10,by rw[rh];exact Nat.zero_le _,fun x hx=>?_,fun i hi=>?_,h.np,fun i hi=>?_,fun x hx=>?_,fun x hx=>?_,?_⟩
 ·rw[rl] at hx
  have:=h.g.g x hx
  rw[rn];omega
 ·rw[rl];exact h.ports (by omega)
 ·rw[rl];exact (h.tab (by omega)).sub (h.adr l10)
 ·rw[rl] at hx
  have g:=h.g.g x hx
  unfold iQ
  rw[h.opq (i:=(lA x).toNat) (by omega)];rfl
 ·rw[rh] at hx;cases hx
 ·rw[rh];exact List.Pairwise.nil
theorem I2{s:aR}(h:bS s.2)(hg:fX s.1.1.length s.1.2.1)(h0:0<s.1.1.length)(hp:∀ x∈(oL s s.1.2.1.length).1.1,aV x≠[]->0<(aC x).length):∀ i:Nat,i<=3->zd (oL s s.1.2.1.length).1.1 i (oC s i)
 | 0,_=>⟨(ci (tY s h hg (Int.le_refl _)).2.1 4).1,⟨Int.le_refl _,Int.le_refl _⟩,Nat.le_refl _,fun y hy=>(by cases hy),List.Pairwise.nil⟩
 | i+1,hi=>by
  rw[Dv]
  exact (I2 h hg h0 hp i (by omega)).next (by omega) (by rw[(tY s h hg (Int.le_refl _)).1.n];exact h0) hp
theorem RS.odd{s r:aR}{nn nl:Nat}(h:RS s nn nl r)(n3:3<=nn)(n7:nn<=7)(l2:2<=nl)(l10:nl<=10):DN (mr r).1:=by
 have rn:r.1.1.length=nn:=h.i.n.trans h.g.n
 have rl:=h.links
 have pre:=h.preO (by omega) (by omega) (by omega)
 have ok:=tY r h.c pre.g (i:=r.1.2.1.length) (Int.le_refl _)
 have inv:=DI h.np h.c pre.g h.lk (i:=r.1.2.1.length) (Nat.le_refl _)
 have ag:=ok.1
 have e:(mr r).1=((oL r r.1.2.1.length).1.1,(oL r r.1.2.1.length).1.2,(oC r (oK r).toNat).1):=by
  unfold mr oC oK oL oN
  rfl
 have kk:=cV ok.2.1 (n:=4) (by omega)
 have hp:∀ x∈(oL r r.1.2.1.length).1.1,aV x≠[]->0<(aC x).length:=fun x hx hr=>by
  obtain⟨i,hi,rfl⟩:=yo hx
  have q:=ag.e i (by rw[← ag.n];exact hi)
  rw[q.1]
  rw[q.2] at hr
  exact (pre.p _ (mN (by rw[← ag.n];exact hi)) hr).1
 have oc:=I2 h.c pre.g pre.n0 hp (oK r).toNat (by unfold oK;omega)
 rw[e]
 have ln:(oL r r.1.2.1.length).1.1.length=nn:=ag.n.trans rn
 have ll:(oL r r.1.2.1.length).1.2.length=nl:=by rw[inv.lk.n,rl,h.g.l]
 refine⟨by rw[ln];exact n3,by rw[ln];exact n7,by rw[ll];exact l2,by rw[ll];exact l10,?_,fun x hx=>?_,fun i hi=>?_,inv.np,fun i hi=>?_,fun x hx=>?_,fun x hx=>(oc.h x hx).1,oc.s⟩
 ·have:=oc.n
  have:(oK r).toNat<=3:=by unfold oK;omega
  dsimp only
  omega
 ·obtain⟨l0,hl0,k⟩:=inv.lk.mem hx
  rw[rl] at hl0
  have g:=h.g.g l0 hl0
  have ka:=k.a;have kb:=k.b;have kd:=k.d;have ks:=k.s;have kj:=k.j;have ko:=k.o
  rw[ln,ka,kb,kd,ks]
  omega
 ·dsimp only at hi ⊢
  rw[(ag.e i (by omega)).1,h.ports (by omega),inv.lk.portsF,rl]
 ·dsimp only at hi ⊢
  rw[(ag.e i (by omega)).2]
  refine kU.sub (kU.lk inv.lk ?_) (h.adr l10)
  rw[rl]
  exact h.tab (by omega)
 ·dsimp only at hx ⊢
  obtain⟨i,hi,rfl⟩:=yo hx
  have hi':i<r.1.2.1.length:=by rw[← inv.lk.n];exact hi
  have k:=inv.lk.k i hi'
  rw[JI k.a k.b]
  exact inv.df i hi'
theorem Kp{c:aH}(h:bS c)(plain:Bool):DN (ou plain c):=by
 have hn:=sJ h
 obtain⟨m,m2,m10,G⟩:=AC h plain
 have R:=G.rs plain
 unfold ou yc
 cases plain with
 | true=>exact R.dn (by omega) (by omega) m2 m10
 | false=>exact R.odd (by omega) (by omega) m2 m10
theorem Yh{c:aH}(h:bS c)(plain:Bool):bS (u4 plain c):=by
 obtain⟨m,m2,m10,G⟩:=AC h plain
 have R:=G.rs plain
 unfold u4 yc
 cases plain with
 | true=>exact R.c
 | false =>
  have hn:=sJ h
  have pre:=R.preO (by omega) (by omega) (by omega)
  exact (DP _ R.c pre.g _).1
end Go.RS

/- Drawn2: drawn networks have no error; who has an address; routes. -/
namespace Go.RS
open Go.SX Go.Proofs
set_option maxRecDepth 100000
set_option linter.unusedVariables false
theorem DN.port{n:bw}(h:DN n){i:Nat}(hi:i<n.1.length){q:l8}:q∈aC (n.1.getD i default)↔∃ j:Nat,j<n.2.1.length/\((lA (n.2.1.getD j default)=i/\q=(dX j+1,(j:Int)))∨(lB (n.2.1.getD j default)=i/\q=(dX j+2,(j:Int)))):=by
 rw[h.p i hi,yH];simp only[Nat.zero_add]
theorem DN.links{n:bw}(h:DN n){i:Nat}(hi:i<n.1.length){k:Int}:k∈bv (n.1.getD i default)↔lnk n.2.1 i k:=by
 unfold bv lnk
 rw[List.mem_map]
 constructor
 ·rintro⟨q,hq,rfl⟩
  obtain⟨j,hj,e⟩:=(h.port hi).1 hq
  rcases e with⟨e,rfl⟩|⟨e,rfl⟩
  ·exact⟨by dsimp only;omega,by dsimp only;omega,.inl (by simpa using e)⟩
  ·exact⟨by dsimp only;omega,by dsimp only;omega,.inr (by simpa using e)⟩
 ·rintro⟨k0,k1,e⟩
  have ek:((k.toNat:Nat):Int)=k:=by omega
  rcases e with e|e
  ·exact⟨_,(h.port hi).2 ⟨k.toNat,by omega,.inl ⟨e,rfl⟩⟩,ek⟩
  ·exact⟨_,(h.port hi).2 ⟨k.toNat,by omega,.inr ⟨e,rfl⟩⟩,ek⟩
theorem DN.uniq{n:bw}(h:DN n){i j:Nat}(hi:i<n.1.length)(hj:j<n.1.length){q p:l8}(hq:q∈aC (n.1.getD i default))(hp:p∈aC (n.1.getD j default))(e:q.1=p.1):i=j/\q.2=p.2:=by
 obtain⟨a,ha,ea⟩:=(h.port hi).1 hq
 obtain⟨b,hb,eb⟩:=(h.port hj).1 hp
 unfold dX at ea eb
 rcases ea with⟨ea,rfl⟩|⟨ea,rfl⟩ <;> rcases eb with⟨eb,rfl⟩|⟨eb,rfl⟩ <;> dsimp only at e ⊢
 ·have:a=b:=by omega
  subst this;omega
 ·omega
 ·omega
 ·have:a=b:=by omega
  subst this;omega
theorem DN.padr{n:bw}(h:DN n){i:Nat}(hi:i<n.1.length){a:Int}(ha:a∈nT (n.1.getD i default)):167837697<=a/\a<=167837734:=by
 obtain⟨q,hq,rfl⟩:=List.mem_map.1 ha
 obtain⟨b,hb,eb⟩:=(h.port hi).1 hq
 have:=h.l10
 unfold dX at eb
 rcases eb with⟨eb,rfl⟩|⟨eb,rfl⟩ <;> dsimp only <;> omega
theorem DN.loop{n:bw}(h:DN n){i:Nat}(hi:i<n.1.length):gw (n.1.getD i default)=0∨gw (n.1.getD i default)=167903232+i:=(h.d i hi).loop
theorem Y8{x:ac}{a:Int}:a∈fb x↔a∈nT x∨(gw x≠0/\a=gw x):=by
 unfold fb
 rw[List.mem_append]
 by_cases e:gw x=0
 ·rw[if_pos e];simp[e]
 ·rw[if_neg e];simp[e]
theorem DN.apart{n:bw}(h:DN n){i j:Nat}(hi:i<n.1.length)(hj:j<n.1.length){a:Int}(ha:a∈fb (n.1.getD i default))(hb:a∈fb (n.1.getD j default)):i=j:=by
 rw[Y8] at ha hb
 have li:=h.loop hi
 have lj:=h.loop hj
 rcases ha with ha|ha <;> rcases hb with hb|hb
 ·obtain⟨q,hq,e⟩:=List.mem_map.1 ha
  obtain⟨p,hp,e2⟩:=List.mem_map.1 hb
  exact (h.uniq hi hj hq hp (e.trans e2.symm)).1
 ·have:=h.padr hi ha;omega
 ·have:=h.padr hj hb;omega
 ·omega
theorem JC{ls:List aF}{i:Int}{t:List Rt}(h:kU ls zF i t):t.length<=20:=Fd h
theorem W1{ls:List aF}{k:Int}(k0:0<=k)(k1:k<ls.length):fA ls k (lA (ls.getD k.toNat default))=lB (ls.getD k.toNat default):=by
 unfold fA;rw[if_neg (by omega),if_pos rfl]
theorem So{ls:List aF}{k:Int}(k0:0<=k)(k1:k<ls.length)(hn:lA (ls.getD k.toNat default)≠lB (ls.getD k.toNat default)):fA ls k (lB (ls.getD k.toNat default))=lA (ls.getD k.toNat default):=by
 unfold fA;rw[if_neg (by omega),if_neg (fun e=>hn e.symm),if_pos rfl]
theorem UK{l:List Rt}{c:aN}{r:Rt}(h:r∈fJ l c):r=dh c∨r∈l:=by
 unfold fJ at h
 split at h
 ·exact .inr (List.mem_filter.1 h).1
 ·rcases IF.1 h with h|h
  ·exact .inl h
  ·exact .inr h.1
theorem au8{n:bw}{who at':Int}(w0:0<=who)(w1:who<n.1.length){P:Rt->Prop}(h0:∀ r∈aV (n.1.getD who.toNat default),P r)(hc:∀ c∈n.2.2,bu c=who->P (dh c)):∀ r∈DT n who at',P r:=by
 unfold DT NM
 rw[if_neg (by omega)]
 have e:∀(l:List aN)(t:List Rt),(∀ c∈l,bu c=who->P (dh c))->(∀ r∈t,P r)→∀ r∈l.foldl (Gf who at') t,P r:=by
  intro l
  induction l with
  | nil=>intro t _ h;exact h
  | cons c l ih =>
   intro t hl ht
   rw[List.foldl_cons]
   refine ih _ (fun x hx=>hl x (List.mem_cons_of_mem _ hx)) fun r hr=>?_
   unfold Gf at hr
   split at hr
   ·rename_i q
    rcases UK hr with rfl|hr
    ·exact hl c List.mem_cons_self q.1
    ·exact ht r hr
   ·exact ht r hr
 exact e _ _ (fun c hc'=>hc c (List.mem_of_mem_take hc')) h0
theorem DN.next{n:bw}(h:DN n){who at':Int}(w0:0<=who)(w1:who<n.1.length):∀ r∈DT n who at',∀ k∈r.2.1,lnk n.2.1 who k:=by
 have ew:((who.toNat:Nat):Int)=who:=by omega
 refine au8 w0 w1 (fun r hr k hk=>?_) (fun c hc hw k hk=>?_)
 ·have:=((h.t who.toNat (by omega)).2 r hr).ln k hk
  rw[ew] at this;exact this
 ·have q:=(h.c c hc).x
  rw[hw] at q
  rcases q with e|⟨q,hq,e⟩
  ·rw[e] at hk;cases hk
  ·rw[e] at hk
   rw[List.mem_singleton.1 hk]
   have:=(h.links (i:=who.toNat) (by omega)).1 (List.mem_map.2 ⟨q,hq,rfl⟩)
   rw[ew] at this;exact this
theorem DN.other{n:bw}(h:DN n){who k:Int}(hk:lnk n.2.1 who k):0<=fA n.2.1 k who/\fA n.2.1 k who<n.1.length:=by
 obtain⟨k0,k1,e⟩:=hk
 have g:=h.g _ (bL k0 k1)
 rcases e with e|e
 ·rw[← e,W1 k0 k1];exact g.2.1
 ·rw[← e,So k0 k1 g.2.2.1];exact g.1
end Go.RS

/- Drawn3: each node of a drawn network has a port. -/
namespace Go.RS
open Go.SX Go.Proofs
set_option maxRecDepth 100000
set_option linter.unusedVariables false
def iP(ls:List aF)(i:Int):Prop:=∃ l∈ls,lA l=i∨lB l=i
theorem iP.app{ls:List aF}{i:Int}(h:iP ls i)(m:List aF):iP (ls++m) i:=by
 obtain⟨l,hl,e⟩:=h
 exact⟨l,List.mem_append_left _ hl,e⟩
theorem iP.link{s:aR}{i:Int}(h:iP s.1.2.1 i)(a b:Int):iP (gp s a b).1.2.1 i:=h.app _
theorem I5(s:aR)(a b:Int):iP (gp s a b).1.2.1 a:=⟨_,List.mem_append_right _ List.mem_cons_self,.inl rfl⟩
theorem ag8(s:aR)(a b:Int):iP (gp s a b).1.2.1 b:=⟨_,List.mem_append_right _ List.mem_cons_self,.inr rfl⟩
theorem Lf(s:aR):∀ k j:Nat,j<k->iP ((List.range k).foldl oA s).1.2.1 j
 | 0,j,h=>absurd h (Nat.not_lt_zero _)
 | k+1,j,h=>by
  rw[List.range_succ,List.foldl_append]
  by_cases e:j<k
  ·exact (Lf s k j e).link (s:=iu ((List.range k).foldl oA s) false) _ _
  ·have:j=k:=by omega
   subst this
   exact I5 _ _ _
theorem Vo{c:aH}(h:bS c){j:Nat}(hj:j<(bj c).toNat+2):iP (kY c).2.1.2.1 j:=by
 have hn:=sJ h
 rw[EZ]
 by_cases e:j<(bj c).toNat
 ·exact (Lf _ _ _ e).link (s:=iu ((List.range (bj c).toNat).foldl oA (r4 c)) true) _ _
 by_cases e2:j=(bj c).toNat
 ·rw[show ((j:Nat):Int)=bj c by omega];exact I5 _ _ _
 ·rw[show ((j:Nat):Int)=bj c+1 by omega];exact ag8 _ _ _
theorem TC{s:aR}{i:Int}(h:iP s.1.2.1 i)(n:Int):iP (pL n s).1.2.1 i:=by
 unfold pL
 dsimp only
 split
 ·exact h
 ·exact iP.app h _
theorem Mk{n i:Int}:∀(k:Nat){s:aR},iP s.1.2.1 i->iP ((List.range k).foldl (fun s _=>pL n s) s).1.2.1 i
 | 0,s,h=>h
 | k+1,s,h=>by
  rw[List.range_succ,List.foldl_append]
  exact TC (Mk k h) n
theorem ad2{s:aR}{i:Int}(h:iP s.1.2.1 i)(plain:Bool)(n:Int):iP (uD plain n s).1.2.1 i:=by
 rw[CN]
 dsimp only
 have h1:iP (nR plain n s (aj s.2 4).1.toNat).1.2.1 i:=by
  unfold nR
  split
  ·exact Mk _ h
  ·exact h
 generalize nR plain n s (aj s.2 4).1.toNat=t at h1 ⊢
 split
 ·split
  ·exact iP.app h1 _
  ·exact h1
 ·exact h1
theorem XF{s r:aR}{nn nl:Nat}(h:RS s nn nl r)(n3:3<=nn)(n7:nn<=7)(l10:nl<=10){i:Int}(ht:iP r.1.2.1 i):iP (mr r).1.2.1 i:=by
 have pre:=h.preO (by omega) (by omega) (by omega)
 have inv:=DI h.np h.c pre.g h.lk (i:=r.1.2.1.length) (Nat.le_refl _)
 have e:(mr r).1.2.1=(oL r r.1.2.1.length).1.2:=by
  unfold mr oL oN
  rfl
 rw[e]
 obtain⟨l,hl,q⟩:=ht
 obtain⟨j,hj,rfl⟩:=yo hl
 have k:=inv.lk.k j hj
 refine⟨_,mN (by rw[inv.lk.n];exact hj),?_⟩
 rw[k.a,k.b];exact q
theorem aa9{s r:aR}{nn nl:Nat}(h:RS s nn nl r)(n3:3<=nn)(n7:nn<=7)(l10:nl<=10):(mr r).1.1.length=r.1.1.length:=by
 have pre:=h.preO (by omega) (by omega) (by omega)
 have ok:=tY r h.c pre.g (i:=r.1.2.1.length) (Int.le_refl _)
 have e:(mr r).1.1=(oL r r.1.2.1.length).1.1:=by
  unfold mr oL oN
  rfl
 rw[e]
 exact ok.1.n
theorem Sc{c:aH}(h:bS c)(plain:Bool){i:Nat}(hi:i<(ou plain c).1.length):iP (ou plain c).2.1 i:=by
 have hn:=sJ h
 obtain⟨m,m2,m10,G⟩:=AC h plain
 have R:=G.rs plain
 have rn:=R.i.n.trans R.g.n
 have t:=fun j=>fun (hj:j<(bj c).toNat+2)=>ad2 (Vo h hj) plain (kY c).1
 unfold ou yc at hi ⊢
 dsimp only at hi ⊢
 cases plain with
 | true =>
  rw[if_pos rfl] at hi ⊢
  rw[R.links]
  exact t i (by rw[← rn];exact hi)
 | false =>
  rw[if_neg (by decide)] at hi ⊢
  have ol:=aa9 R (by omega) (by omega) m10
  refine XF R (by omega) (by omega) m10 ?_
  rw[R.links]
  exact t i (by rw[← rn];omega)
theorem QH{c:aH}(h:bS c)(plain:Bool){i:Nat}(hi:i<(ou plain c).1.length):0<(aC ((ou plain c).1.getD i default)).length:=by
 have D:=Kp h plain
 obtain⟨l,hl,q⟩:=Sc h plain hi
 obtain⟨j,hj,rfl⟩:=yo hl
 rcases q with q|q
 ·exact List.length_pos_of_mem ((D.port hi).2 ⟨j,hj,.inl ⟨q,rfl⟩⟩)
 ·exact List.length_pos_of_mem ((D.port hi).2 ⟨j,hj,.inr ⟨q,rfl⟩⟩)
end Go.RS

/- Law12: the laws of buckets. -/
namespace Go.RS
open Go.SX Go.Proofs
set_option maxRecDepth 100000
set_option linter.unusedVariables false
end Go.RS

/- Law13: what a node does with several packets; a packet that is an answer or damaged is never answered. -/
namespace Go.RS
open Go.SX Go.Proofs
set_option maxRecDepth 100000
set_option linter.unusedVariables false
def oV(x:ac):Prop:=(∀ y∈aC x,u32 y.1)/\u32 (gw x)/\u32 (oe x)
theorem ab0{n:bw}(h:DN n){i:Nat}(hi:i<n.1.length):oV (n.1.getD i default):=by
 have d:=h.d i hi
 have l10:=h.l10
 have n7:=h.n7
 refine⟨fun y hy=>?_,?_,?_⟩
 ·obtain⟨j,hj,q⟩:=(h.port hi).1 hy
  unfold dX at q
  rcases q with⟨-,rfl⟩|⟨-,rfl⟩ <;> (constructor <;> simp only <;> omega)
 ·rcases d.loop with q|q <;> (rw[q];constructor <;> omega)
 ·rcases d.fix with q|q
  ·rw[q];constructor <;> omega
  ·constructor <;> omega
def Kj:Ct:=⟨[.agg xi],[.val (.sl bm),.val cI],fun d=>[],fun d=>((build d.1,dN d.1,()),())⟩
def UH:ar Kj.ps->ay:=(fun _=>{})
theorem an3 :
 ∀(a b c d e f:Int),((0<=a/\a<=4294967295)/\(0<=b/\b<=4294967295)/\ab c/\ab d/\ab e/\ab f)/\True->True->ad (! decide (dN (a,b,c,d,e,f)=0)) (([]:List Int)=build (a,b,c,d,e,f)/\dN (a,b,c,d,e,f)=dN (a,b,c,d,e,f)) (dN (a,b,c,d,e,f)=0/\((List.length (dD (a,b,c,d,e,f))):Int)<=1073741824/\cS (((0:Int),e,f,c,true,a,b),dD (a,b,c,d,e,f))=build (a,b,c,d,e,f)/\de (((0:Int),e,f,c,true,a,b),dD (a,b,c,d,e,f))=dN (a,b,c,d,e,f)):=by
  rintro s d pr f t l - -
  refine ae (fun h=>?_) (fun h=>?_)
  ·have h:¬ dN (s,d,pr,f,t,l)=0:=by simpa using h
   rw[build,if_neg h];exact⟨rfl,rfl⟩
  have h:dN (s,d,pr,f,t,l)=0:=by simpa using h
  have e0:=J2 h
  have hl:=yB h
  refine⟨h,by omega,?_⟩
  rw[build,if_pos h,h]
  exact⟨rfl,e0⟩
theorem Pd:av Tryz.prog GL 34 Kj.spec:=Ct.okH _ Tryz.func34 (by kernel_rfl) (ah (ah (ah aA Jm) Yd) YH) au UH (aB (by kernel_rfl) an3)
theorem H5{B:Int->Int->List Int}{F:Int->Int}{w:cE}{own:Int}(h:F 0≠0):(cz B F w own).2.2≠2:=by
 by_cases k:own=0/\jN w.1=true
 ·rw[tT k];show (4:Int)≠2;decide
 ·rw[ur k h];show (6:Int)≠2;decide
theorem BJ{b:List Int}(h:¬ cq b)(k c i t:Int):fq b k c i t≠0:=by
 unfold fq
 by_cases g:oY k c i t
 ·rw[if_neg (by simpa using g),if_neg h];decide
 ·rw[if_pos g];decide
theorem G5{b:List Int}(h:¬ cq b)(i t:Int):fc b i t≠0:=by
 unfold fc
 by_cases g:f5 i t
 ·rw[if_neg (by simpa using g),if_neg (fun k=>h k.1)];decide
 ·rw[if_pos g];decide
theorem Zw{x:ac}{s:bt}{lk t:Int}{b:List Int}(h:¬ cq b):(dK x s lk t b).2.2≠2:=by
 unfold dK dY
 split
 ·show (6:Int)≠2;decide
 split
 ·unfold gv
  rw[if_pos (.inr (by exact G5 h _ _))]
  show (1:Int)≠2;decide
 split
 ·show (6:Int)≠2;decide
 unfold dV
 split
 ·exact H5 (BJ h _ _ _ _)
 split
 ·split
  ·show (8:Int)≠2;decide
  ·exact H5 (BJ h _ _ _ _)
 ·show (0:Int)≠2;decide
theorem Er{B:Int->Int->List Int}{F:Int->Int}{w:cE}{own:Int}:(cz B F w own).2.2≠0/\(cz B F w own).2.2≠1:=by
 by_cases k:own=0/\jN w.1=true
 ·rw[tT k];exact⟨(by show (4:Int)≠0;decide),(by show (4:Int)≠1;decide)⟩
 by_cases k1:F 0≠0
 ·rw[ur k k1];exact⟨(by show (6:Int)≠0;decide),(by show (6:Int)≠1;decide)⟩
 by_cases k2:eI w.2.1 (j7 w.2.2.2.2.2)=false
 ·rw[uv k k1 k2];exact⟨(by show (8:Int)≠0;decide),(by show (8:Int)≠1;decide)⟩
 by_cases k3:(jw w).2=false
 ·rw[uG k k1 k2 k3];exact⟨(by show (5:Int)≠0;decide),(by show (5:Int)≠1;decide)⟩
 ·rw[uR k k1 k2 k3];exact⟨(by show (2:Int)≠0;decide),(by show (2:Int)≠1;decide)⟩
structure JH (x:ac) (s:bt) (lk:Int) (b:List Int):Prop where
 dec:bV b=0
 own:¬ jW x (ik (aW b).1)=true
 host:¬ (lE x=true/\lk ≠ -1)
 ttl:¬ (lk ≠ -1/\dC x=false/\vJ (aW b).1<2)
 way:¬ eI s (ik (aW b).1)=false
def zl(s:bt)(b:List Int):Rt:=bh (bn s) (ik (aW b).1)
theorem EF{x:ac}{s:bt}{lk t:Int}{b:List Int}(h:JH x s lk b):dK x s lk t b=(fC s (zl s b),(g9 x s (zl s b) (fw b),if lk ≠ -1/\dC x=false then gQ b else b),0):=by
 show dY (x,s,lk,t,b,nh)=_
 unfold dY
 rw[if_neg (by simpa using h.dec),if_neg h.own,if_neg h.host]
 have e:∀ w:cE,w.1=x->w.2.1=s->w.2.2.1=lk->w.2.2.2.2.1=b->w.2.2.2.2.2=(aW b).1->dV w=(fC s (zl s b),(g9 x s (zl s b) (fw b),if lk ≠ -1/\dC x=false then gQ b else b),0):=by
  intro w e1 e2 e3 e4 e5
  unfold dV
  rw[e1,e2,e3,e4,e5,if_neg h.ttl,if_neg h.way]
  rfl
 exact e _ rfl rfl rfl rfl rfl
theorem Gw{x:ac}{s:bt}{lk t:Int}{b:List Int}(h:(dK x s lk t b).2.2=0):JH x s lk b:=by
 have h:(dY (x,s,lk,t,b,nh)).2.2=0:=h
 unfold dY at h
 by_cases k1:bV b≠0
 ·rw[if_pos k1] at h;exact absurd h (by show (6:Int)≠0;decide)
 rw[if_neg k1] at h
 by_cases k2:jW x (ik (aW b).1)=true
 ·rw[if_pos k2] at h
  unfold gv at h
  split at h
  ·exact absurd h (by show (1:Int)≠0;decide)
  ·exact absurd h Er.1
 rw[if_neg k2] at h
 by_cases k4:lE x=true/\lk ≠ -1
 ·rw[if_pos k4] at h;exact absurd h (by show (6:Int)≠0;decide)
 rw[if_neg k4] at h
 unfold dV at h
 split at h
 ·exact absurd h Er.1
 rename_i k5
 split at h
 ·split at h
  ·exact absurd h (by show (8:Int)≠0;decide)
  ·exact absurd h Er.1
 rename_i k6
 exact⟨by simpa using k1,k2,k4,k5,k6⟩
theorem YZ{p:bO}(g:cN p):bV (build p)=0/\(aW (build p)).1=qC p:=by
 have h:=HP g.ok g.s g.d
 exact⟨h.2.1,by rw[aW,if_pos h.2.1];exact h.1⟩
def G3(x:ac)(s s':bt)(t why:Int):Prop :=
 bn s'=bn s/\(jf s').length=(jf s).length ∧
  ((why≠2/\nk s'=nk s/\(px s'=px s∨(px s'=(iF (iG x) (px s) t).1/\(iF (iG x) (px s) t).2=false))) ∨
    (why=2/\nk s'=IntKind.i64.wrap (nk s+1)/\px s'=(iF (iG x) (px s) t).1/\(iF (iG x) (px s) t).2=true))
theorem s8{x:ac}{s:bt}{t why:Int}(h:why≠2):G3 x s s t why:=⟨rfl,rfl,.inl ⟨h,rfl,.inl rfl⟩⟩
theorem WA(l:List Int)(i:Int):(nw l i).length=l.length:=by
 unfold nw;split
 ·exact List.length_set
 ·rfl
theorem FY{B:Int->Int->List Int}{F:Int->Int}{w:cE}{own:Int}:G3 w.1 w.2.1 (cz B F w own).1 w.2.2.2.1 (cz B F w own).2.2:=by
 by_cases k:own=0/\jN w.1=true
 ·rw[tT k];exact s8 (by show (4:Int)≠2;decide)
 by_cases k1:F 0≠0
 ·rw[ur k k1];exact s8 (by show (6:Int)≠2;decide)
 by_cases k2:eI w.2.1 (j7 w.2.2.2.2.2)=false
 ·rw[uv k k1 k2];exact s8 (by show (8:Int)≠2;decide)
 by_cases k3:(jw w).2=false
 ·rw[uG k k1 k2 k3];exact⟨rfl,rfl,.inl ⟨(by show (5:Int)≠2;decide),rfl,.inr ⟨rfl,k3⟩⟩⟩
 ·rw[uR k k1 k2 k3]
  have k4:(jw w).2=true:=by simpa using k3
  refine⟨?_,?_,.inr ⟨rfl,?_,?_,k4⟩⟩
  ·rw[uT];rfl
  ·rw[uT];exact WA _ _
  ·rw[uT];rfl
  ·rw[uT];rfl
theorem Mn(x:ac)(s:bt)(lk t:Int)(b:List Int):G3 x s (dK x s lk t b).1 t (dK x s lk t b).2.2:=by
 unfold dK dY
 split
 ·exact s8 (by show (6:Int)≠2;decide)
 split
 ·unfold gv
  split
  ·exact s8 (by show (1:Int)≠2;decide)
  ·exact FY (w:=sG (x,s,lk,t,b,nh) (aW b).1)
 split
 ·exact s8 (by show (6:Int)≠2;decide)
 unfold dV
 split
 ·exact FY (w:=sG (x,s,lk,t,b,nh) (aW b).1)
 split
 ·split
  ·exact s8 (by show (8:Int)≠2;decide)
  ·exact FY (w:=sG (x,s,lk,t,b,nh) (aW b).1)
 ·refine⟨?_,?_,.inl ⟨(by show (0:Int)≠2;decide),?_,.inl ?_⟩⟩ <;> (rw[uT];rfl)
theorem Hf{n:ac}{s:bt}{port a asked dst:Int}(hb:0<=kC n/\kC n<=65535)(ha:0<=asked/\asked<=65535):0<=jK n s port a asked dst/\jK n s port a asked dst<=65535:=by
 have hc:∀ x,0<=o4 n x a/\o4 n x a<=65535:=fun x=>by unfold o4;omega
 have hh:0<=lU (kC n) (0,dst,0,nk s,0)%65536/\lU (kC n) (0,dst,0,nk s,0)%65536<=65535:=by omega
 unfold jK
 split
 ·exact hb
 split
 ·exact hc _
 split
 ·split <;> exact hc _
 split
 ·exact ha
 split
 ·exact hh
 ·omega
theorem A7{x:ac}(A:oV x){i:Int}(h0:0<=i)(h1:i<(aC x).length):u32 (adr x i)/\jW x (adr x i)=true:=by
 have hm:=bL h0 h1
 rw[MY h0 h1]
 refine⟨A.1 _ hm,?_⟩
 have:0<=ke x ((aC x).getD i.toNat default).1:=Jc hm (by simp[i7])
 unfold jW
 rw[decide_eq_true this];rfl
theorem at6{x:ac}{lk L:Int}(N:nq x)(A:oV x)(hi:0<=cL x lk)(hL:0<=cL x L) :
  u32 (jn x (bp x lk) L)/\(jW x (jn x (bp x lk) L)=true∨(jG x=4/\jn x (bp x lk) L=oe x))/\(jG x=1->jn x (bp x lk) L=((aC x).getD (cL x lk).toNat default).1):=by
 have e:bp x lk=cL x lk:=by unfold bp;omega
 have i1:cL x lk<(aC x).length:=(rz hi).1
 have l1:cL x L<(aC x).length:=(rz hL).1
 rw[e]
 unfold jn
 by_cases s2:jG x=2
 ·rw[if_pos s2]
  have k:=A7 A hL l1
  exact⟨k.1,.inl k.2,fun q=>by omega⟩
 rw[if_neg s2]
 by_cases s3:jG x=3
 ·rw[if_pos s3]
  have hne:gw x≠0:=fun q=>N.form (.inr (.inr (.inl ⟨s3,q⟩)))
  refine⟨A.2.1,.inl ?_,fun q=>by omega⟩
  unfold jW
  simp[hne]
 rw[if_neg s3]
 by_cases s4:jG x=4
 ·rw[if_pos s4]
  exact⟨A.2.2,.inr ⟨s4,rfl⟩,fun q=>by omega⟩
 rw[if_neg s4]
 have k:=A7 A hi i1
 exact⟨k.1,.inl k.2,fun _=>MY hi i1⟩
theorem Fl{B:Int->Int->List Int}{F:Int->Int}{w:cE}{own:Int}(h:(cz B F w own).2.2=2) :
  F 0=0∧¬ eI w.2.1 (j7 w.2.2.2.2.2)=false/\cz B F w own=(fC (ij w) (gV w),(iK B w,B (ib B w own) (fI w)),2):=by
 by_cases k:own=0/\jN w.1=true
 ·rw[tT k] at h;exact absurd h (by show (4:Int)≠2;decide)
 by_cases k1:F 0≠0
 ·rw[ur k k1] at h;exact absurd h (by show (6:Int)≠2;decide)
 by_cases k2:eI w.2.1 (j7 w.2.2.2.2.2)=false
 ·rw[uv k k1 k2] at h;exact absurd h (by show (8:Int)≠2;decide)
 by_cases k3:(jw w).2=false
 ·rw[uG k k1 k2 k3] at h;exact absurd h (by show (5:Int)≠2;decide)
 ·exact⟨by simpa using k1,k2,uR k k1 k2 k3⟩
theorem Gm{x:ac}{s:bt}{lk t:Int}{b:List Int}(h:(dK x s lk t b).2.2=2) :
  ∃ ki,dK x s lk t b=pm (Br x s lk t b) ki/\((ki=0/\jW x (ik (aW b).1)=true/\xj (aW b).1≠17)∨(ki=1/\xj (aW b).1=17)∨ki=2∨ki=3):=by
 have e0:dK x s lk t b=dY (x,s,lk,t,b,nh):=rfl
 rw[e0] at h ⊢
 unfold dY at h ⊢
 by_cases k1:bV b≠0
 ·rw[if_pos k1] at h;exact absurd h (by show (6:Int)≠2;decide)
 rw[if_neg k1] at h ⊢
 by_cases k2:jW x (ik (aW b).1)=true
 ·rw[if_pos k2] at h ⊢
  unfold gv at h ⊢
  split at h
  ·exact absurd h (by show (1:Int)≠2;decide)
  rename_i k3
  rw[if_neg k3]
  by_cases k4:xj (aW b).1=17
  ·exact⟨1,by rw[ak9];exact congrArg (cz _ _ _) (if_pos k4),.inr (.inl ⟨rfl,k4⟩)⟩
  ·exact⟨0,by rw[az0];exact congrArg (cz _ _ _) (if_neg k4),.inl ⟨rfl,k2,k4⟩⟩
 rw[if_neg k2] at h ⊢
 by_cases k4:lE x=true/\lk ≠ -1
 ·rw[if_pos k4] at h;exact absurd h (by show (6:Int)≠2;decide)
 rw[if_neg k4] at h ⊢
 unfold dV at h ⊢
 split at h
 ·rename_i k5
  exact⟨2,by rw[if_pos k5,Xh];rfl,.inr (.inr (.inl rfl))⟩
 rename_i k5
 rw[if_neg k5]
 split at h
 ·rename_i k6
  rw[if_pos k6]
  split at h
  ·exact absurd h (by show (8:Int)≠2;decide)
  rename_i k7
  exact⟨3,by rw[if_neg k7,VX];rfl,.inr (.inr (.inr rfl))⟩
 ·exact absurd h (by show (0:Int)≠2;decide)
theorem C5{w:cE}{ki:Int}(h:kE ki w 0=0):cq w.2.2.2.2.1:=Classical.byContradiction fun k=>by
 unfold kE at h
 split at h
 ·exact BJ k _ _ _ _ h
 split at h
 ·exact BJ k _ _ _ _ h
 ·exact G5 k _ _ h
structure SB (x:ac) (lk:Int) (p:bO) (a:rU) (r:lw):Prop where
 is:yJ p a r.2.1.2
 left:a.2.2.2.1=gJ x
 quoted:a.2.2.2.2.2=0∨a.2.2.2.2.2=p.2.2.2.2.2
 out:0<=cL x r.2.1.1
 exc:a.2.1=1->jG x=1->a.1=((aC x).getD (cL x lk).toNat default).1
 own:jW x a.1=true∨(jG x=4/\a.1=oe x)
 cnt:(jf r.1).getD (cL x lk).toNat default=1
theorem YI{x:ac}{lk:Int}{p:bO}(N:nq x)(A:oV x)(g:cN p)(hlk:lk∈bv x)(h:(dK x (lm x) lk 0 (build p)).2.2=2):∃ a,SB x lk p a (dK x (lm x) lk 0 (build p)):=by
 have st:=OY N
 obtain⟨ki,e,hk⟩:=Gm h
 rw[e] at h ⊢
 obtain⟨d1,d2⟩:=YZ g
 obtain⟨w,hw⟩:∃ w,w=Br x (lm x) lk 0 (build p):=⟨_,rfl⟩
 rw[← hw] at h ⊢
 obtain⟨a1,a2,a3⟩:=Fl h
 have w1:w.1=x:=by rw[hw];rfl
 have w2:w.2.1=lm x:=by rw[hw];rfl
 have w3:w.2.2.1=lk:=by rw[hw];rfl
 have w5:w.2.2.2.2.1=build p:=by rw[hw];rfl
 have w6:w.2.2.2.2.2=qC p:=by rw[hw];exact d2
 have hu:fm p.1:=by
  have:=C5 a1
  rw[w5] at this
  exact (FB g).1 this
 have hi:=Dg hlk
 have hin:bp x lk=cL x lk:=by unfold bp;omega
 have i1:cL x lk<(aC x).length:=(rz hi).1
 have hL:0<=cL x (iK (kB ki w) w):=by
  have:=Q0 st (a:=j7 w.2.2.2.2.2) (by rw[← w2];exact a2) (ij w) (fw (kB ki w (adr w.1 (bp w.1 w.2.2.1)) 0))
  unfold iK gV
  rw[w1,w2]
  rw[w1] at this
  exact this
 obtain⟨s1,s2,s3⟩:=at6 N A hi hL
 have hr:=(lx.1 g.ok).2
 obtain⟨hf,ht,-⟩:=id hr
 have hb:0<=kC x/\kC x<=65535:=by
  have h:=N.id
  unfold iH at h
  split at h
  ·rename_i k;have:=of_decide_eq_true k;omega
  ·cases h
 have hid:f5 (fI w) (gJ x):=by
  have f:=N.form
  unfold kS at f
  refine⟨?_,by omega,by omega⟩
  unfold fI
  rw[w1,w6]
  exact Hf hb ⟨by show 0<=p.2.2.2.2.1;omega,by show p.2.2.2.2.1<=65535;omega⟩
 have hc:(jf (pm w ki).1).getD (cL x lk).toNat default=1:=by
  have e1:(pm w ki).1=fC (ij w) (gV w):=congrArg (fun r:lw=>r.1) a3
  have e2:jf (pm w ki).1=nw (List.replicate (aC x).length 0) (cL x lk):=by
   rw[e1,uT]
   show nw (jf w.2.1) (bp w.1 w.2.2.1)=_
   rw[w1,w2,w3,hin];rfl
  rw[e2,FV (by rw[List.length_replicate];exact i1)]
  have:(cL x lk).toNat<(List.replicate (aC x).length (0:Int)).length:=by rw[List.length_replicate];omega
  rw[List.getD_eq_getElem?_getD,List.getElem?_set_self this,Option.getD_some,List.getD_eq_getElem?_getD,List.getElem?_eq_getElem this,Option.getD_some,List.getElem_replicate]
  decide
 have ho:(pm w ki).2.1=(iK (kB ki w) w,kB ki w (ib (kB ki w) w (mA ki w)) (fI w)):=congrArg (fun r:lw=>r.2.1) a3
 have hsrc:jn w.1 (bp w.1 w.2.2.1) (iK (kB ki w) w)=jn x (bp x lk) (iK (kB ki w) w):=by rw[w1,w3]
 have hF:mA ki w=0->ib (kB ki w) w (mA ki w)=jn x (bp x lk) (iK (kB ki w) w):=fun q=>by unfold ib;rw[if_pos q,hsrc]
 generalize hid2:fI w=id at hid ho
 generalize hLL:iK (kB ki w) w=L at hL s1 s2 s3 ho hF
 generalize jn x (bp x lk) L=F at s1 s2 s3 hF
 have hp17:xj (aW (build p)).1=p.2.2.1:=by rw[d2];rfl
 rcases hk with⟨rfl,q1,q2⟩|⟨rfl,q1⟩|rfl|rfl
 ·have hd:ik (aW (build p)).1=p.2.1:=by rw[d2];rfl
  have ko:mA 0 w=p.2.1:=by show ik w.2.2.2.2.2=_;rw[w6];rfl
  rw[hd] at q1
  have hne:=QQ N q1
  have ef:ib (kB 0 w) w (mA 0 w)=p.2.1:=by unfold ib;rw[ko,if_neg hne]
  rw[ef] at ho
  have eB:kB 0 w p.2.1 id=gk (build p) p.2.1 id (gJ x):=by show dH w _ _=_;unfold dH;rw[w5,w1]
  rw[eB] at ho
  have I:=(IJ g hu hid).2
  refine⟨qz p id (gJ x),by rw[ho];exact I,?_,?_,by rw[ho];exact hL,?_,.inl ?_,hc⟩
  ·unfold qz;split
   ·rfl
   ·split <;> rfl
  ·unfold qz;split
   ·exact .inl rfl
   ·split
    ·exact .inr rfl
    ·exact .inl rfl
  ·intro k
   exfalso
   unfold qz at k
   split at k
   ·exact absurd k (by show (4:Int)≠1;decide)
   ·split at k
    ·exact absurd k (by show (3:Int)≠1;decide)
    ·exact absurd k (by show (2:Int)≠1;decide)
  ·have:(qz p id (gJ x)).1=p.2.1:=by unfold qz;split;rfl;split <;> rfl
   rw[this];exact q1
 ·rw[hF rfl] at ho
  rw[hp17] at q1
  have hpr:cW (build p)=17:=by rw[cW,g.dec.1];exact q1
  have eB:kB 1 w F id=gA (build p) F 3 3 id (gJ x):=by
   show dH w _ _=_;unfold dH gk
   rw[w5,w1,if_pos (IJ g hu hid).1,if_neg (by rw[hpr];decide),if_pos hpr]
  rw[eB] at ho
  have I:=(Bx g hu s1 (kind:=3) (code:=3) ⟨.inr rfl,by omega,hid⟩).2.1
  exact⟨(F,ue 3 3,3,gJ x,id,p.2.2.2.2.2),by rw[ho];exact I,rfl,.inr rfl,by rw[ho];exact hL,fun k=>absurd k (by show ue 3 3≠1;decide),s2,hc⟩
 ·rw[hF rfl] at ho
  have eB:kB 2 w F id=gA (build p) F 11 0 id (gJ x):=by show cZ w 11 0 _ _=_;unfold cZ;rw[w5,w1]
  rw[eB] at ho
  have I:=(Bx g hu s1 (kind:=11) (code:=0) ⟨.inl rfl,by omega,hid⟩).2.1
  exact⟨(F,ue 11 0,0,gJ x,id,p.2.2.2.2.2),by rw[ho];exact I,rfl,.inr rfl,by rw[ho];exact hL,fun _ k=>s3 k,s2,hc⟩
 ·rw[hF rfl] at ho
  have eB:kB 3 w F id=gA (build p) F 3 0 id (gJ x):=by show cZ w 3 0 _ _=_;unfold cZ;rw[w5,w1]
  rw[eB] at ho
  have I:=(Bx g hu s1 (kind:=3) (code:=0) ⟨.inr rfl,by omega,hid⟩).2.1
  exact⟨(F,ue 3 0,0,gJ x,id,p.2.2.2.2.2),by rw[ho];exact I,rfl,.inr rfl,by rw[ho];exact hL,fun k=>absurd k (by show ue 3 0≠1;decide),s2,hc⟩
theorem E0{B:Int->Int->List Int}{F:Int->Int}{w:cE}{own:Int}(h:(cz B F w own).2.2≠2):(cz B F w own).2.1=gq:=by
 by_cases k:own=0/\jN w.1=true
 ·rw[tT k]
 by_cases k1:F 0≠0
 ·rw[ur k k1]
 by_cases k2:eI w.2.1 (j7 w.2.2.2.2.2)=false
 ·rw[uv k k1 k2]
 by_cases k3:(jw w).2=false
 ·rw[uG k k1 k2 k3]
 ·rw[uR k k1 k2 k3] at h;exact absurd rfl h
theorem Va{x:ac}{s:bt}{lk t:Int}{b:List Int}(h:(dK x s lk t b).2.2≠2)(h0:(dK x s lk t b).2.2≠0):(dK x s lk t b).2.1=gq:=by
 unfold dK dY at h h0 ⊢
 split at h
 ·rename_i k;rw[if_pos k]
 rename_i k1
 rw[if_neg k1] at h0 ⊢
 split at h
 ·rename_i k2
  rw[if_pos k2]
  unfold gv at h ⊢
  split at h
  ·rename_i k;rw[if_pos k]
  ·rename_i k;rw[if_neg k];exact E0 h
 rename_i k2
 rw[if_neg k2] at h0 ⊢
 split at h
 ·rename_i k;rw[if_pos k]
 rename_i k3
 rw[if_neg k3] at h0 ⊢
 unfold dV at h h0 ⊢
 split at h
 ·rename_i k;rw[if_pos k];exact E0 h
 rename_i k4
 rw[if_neg k4] at h0 ⊢
 split at h
 ·rename_i k;rw[if_pos k]
  split at h
  ·rename_i k;rw[if_pos k]
  ·rename_i k;rw[if_neg k];exact E0 h
 rename_i k5
 rw[if_neg k5] at h0
 exact absurd rfl h0
end Go.RS

/- Sim0: what a node sends: bytes, and how many. -/
namespace Go.RS
open Go.SX Go.Proofs
set_option maxRecDepth 100000
set_option linter.unusedVariables false
theorem BO{p:nX}(h:de p=0):(cS p).length=20+p.2.length/\(bytes p.2->bytes (cS p)):=by
 rw[cS,if_pos h]
 refine⟨by rw[List.length_append,oR],fun hb=>fP (Dw ?_) hb⟩
 exact Classical.byContradiction fun k=>by rw[de,if_pos k] at h;cases h
theorem ww{b:List Int}(hb:bytes b)(h:bV b=0):iX (bP b)/\20<=b.length/\b.length<=1500:=by
 have hp:=zY h
 have hl:=Ap hp
 have hd:=vQ h
 have w:=rk hb 4
 have g:∀ i:Nat,0<=b.getD i default/\b.getD i default<=255:=fun i=>by
  by_cases k:i<b.length
  ·have:=hb _ (bL (i:=(i:Int)) (by omega) (by omega))
   simpa using this
  ·rw[List.getD_eq_getElem?_getD,List.getElem?_eq_none (by omega)];decide
 exact⟨⟨g 1,g 8,g 9,w.1,w.2⟩,by omega,by omega⟩
theorem T3{b:List Int}(hb:bytes b)(h:gg b=0):(gQ b).length=b.length/\bytes (gQ b):=by
 have hd:bV b=0:=Classical.byContradiction fun k=>by rw[gg,if_pos k] at h;exact k h
 have ht:¬ (bP b).2.2.1<2:=fun k=>by rw[gg,if_neg (fun q=>q hd),if_pos k] at h;cases h
 obtain⟨⟨h1,⟨h2,h2'⟩,h3,h4,h5⟩,l1,l2⟩:=ww hb hd
 have e:de (wb (bP b),b.drop 20)=0:=by
  rw[de,if_neg,if_neg (by simp only[List.length_drop];omega)]
  rw[Decidable.not_not]
  exact⟨h1,⟨by show 0<=(bP b).2.2.1-1;omega,by show (bP b).2.2.1-1<=255;omega⟩,h3,h4,h5⟩
 have k:=BO e
 rw[gQ,if_pos h]
 refine⟨?_,k.2 (rQ hb)⟩
 rw[k.1];simp only[List.length_drop];omega
theorem DU{b:List Int}{f kind code id ttl:Int}(hb:bytes b)(h:fq b kind code id ttl=0):0<(gA b f kind code id ttl).length/\bytes (gA b f kind code id ttl):=by
 have hg:oY kind code id ttl:=Classical.byContradiction fun k=>by rw[fq,if_pos k] at h;cases h
 have ha:cq b:=Classical.byContradiction fun k=>by rw[fq,if_neg (fun q=>q hg),if_neg k] at h;cases h
 obtain⟨-,e,en,ei⟩:=Bg (src:=f) hg ha
 have k:=BO ei
 rw[e]
 exact⟨by rw[k.1];omega,k.2 (Fm en (zi hb))⟩
theorem M4{e:kZ}(h:bytes e.2.2.2)(hl:(e.2.2.2.length:Int)<=1472):((dj e).length:Int)<=1480/\bytes (dj e):=by
 unfold dj
 split
 ·exact⟨by rw[j6,An];omega,qo (tf h)⟩
 ·exact⟨by simp,kP⟩
theorem JE{s d:Int}{e:jO}(h:e.2.2.2.2.2.2=[]):((dq s d e).length:Int)<=1480/\bytes (dq s d e):=by
 unfold dq
 split
 ·rename_i k
  have ok:mz e:=Classical.byContradiction fun q=>by rw[iZ,if_pos q] at k;cases k
  exact⟨by rw[j6,vx,h];simp,qo (uu ok (by rw[h];exact kP))⟩
 ·exact⟨by simp,kP⟩
theorem YS{b:List Int}{f id ttl:Int}(hb:bytes b)(h:fc b id ttl=0):0<(gk b f id ttl).length/\bytes (gk b f id ttl):=by
 have hn:f5 id ttl:=Classical.byContradiction fun k=>by rw[fc,if_pos k] at h;cases h
 have hg:pC b:=Classical.byContradiction fun k=>by rw[fc,if_neg (fun q=>q hn),if_neg k] at h;cases h
 obtain⟨-,l1,l2⟩:=ww hb hg.1.1
 have hd:=rQ (n:=20) hb
 rcases hg with⟨ha,⟨g1,g2⟩|⟨g1,g2⟩|⟨g1,g2,g3,g4⟩⟩
 ·rw[(A6 (src:=f) hn ha g1 g2).1]
  have hl:=Il (b.drop 20)
  have hE:((dj (true,(dW (b.drop 20)).2)).length:Int)<=1480/\bytes (dj (true,(dW (b.drop 20)).2)):=by
   have e:(dW (b.drop 20)).2.2.2=(b.drop 20).drop 8:=by unfold dW;rw[if_pos g2]
   refine M4 ?_ ?_
   ·show bytes (dW (b.drop 20)).2.2.2
    rw[e];exact rQ hd
   ·show ((dW (b.drop 20)).2.2.2.length:Int)<=1472
    rw[e];simp only[List.length_drop];omega
  have k:=BO (vd (src:=f) (dst:=bQ b) hn (proto:=1) (by omega) hE.1)
  exact⟨by rw[k.1];omega,k.2 hE.2⟩
 ·rw[(Bu (src:=f) hn ha g1 g2).1]
  exact DU hb (ET hn ha)
 ·rw[(Ad (src:=f) hn ha g1 g2 g3 g4).1]
  have hE:((dq f (bQ b) (jl (dI (bQ b) (eV b) (b.drop 20)))).length:Int)<=1480/\bytes (dq f (bQ b) (jl (dI (bQ b) (eV b) (b.drop 20)))):=JE rfl
  have k:=BO (vd (src:=f) (dst:=bQ b) hn (proto:=6) (by omega) hE.1)
  exact⟨by rw[k.1];omega,k.2 hE.2⟩
theorem Ug{ki:Int}{w:cE}{f id:Int}(hb:bytes w.2.2.2.2.1)(hn:f5 id (gJ w.1))(h:kE ki w 0=0):0<(kB ki w f id).length/\bytes (kB ki w f id):=by
 have ha:=C5 h
 unfold kB
 split
 ·exact DU hb (by rw[fq,if_neg (fun k=>k ⟨.inl rfl,by omega,hn⟩),if_pos ha])
 split
 ·exact DU hb (by rw[fq,if_neg (fun k=>k ⟨.inr rfl,by omega,hn⟩),if_pos ha])
 ·rename_i k2 k3
  have h:fc w.2.2.2.2.1 0 (gJ w.1)=0:=by
   unfold kE at h
   rw[if_neg k2,if_neg k3] at h;exact h
  have hg:pC w.2.2.2.2.1:=Classical.byContradiction fun q=>by
   rw[fc] at h
   split at h
   ·cases h
   ·cases h
  exact YS hb (yC hn hg)
structure PI (x:ac) (s:bt) (r:lw):Prop where
 some:r.2.2=0∨r.2.2=2->0<r.2.1.2.length/\r.2.1.2.length<=1500/\0<=cL x r.2.1.1
 none:r.2.2≠0->r.2.2≠2->r.2.1=gq
 byt:bytes r.2.1.2
 rt:bn r.1=bn s
theorem NR{w:cE}(hid:iH w.1=0)(hf:¬ kS w.1)(hI:0<=pi w.2.2.2.2.2/\pi w.2.2.2.2.2<=65535):f5 (fI w) (gJ w.1):=by
 have hb:0<=kC w.1/\kC w.1<=65535:=by
  unfold iH at hid
  split at hid
  ·rename_i k;have:=of_decide_eq_true k;omega
  ·cases hid
 unfold kS at hf
 refine⟨?_,by omega,by omega⟩
 unfold fI
 exact Hf hb hI
theorem Cl{x:ac}{s:bt}(hrt:∀ r∈bn s,jZ r (bv x)){a:Int}(hw:¬ eI s a=false)(s':bt)(k:mL):0<=cL x (g9 x s' (bh (bn s) a) k) :=
 Dg (HM (hrt _ (Ob hw)) _ (PL (xC hw)))
theorem Fr{x:ac}{s:bt}{lk t:Int}{b:List Int}(N:nq x)(hs:∀ r∈bn s,jZ r (bv x))(hb:bytes b):PI x s (dK x s lk t b):=by
 have T:=(Mn x s lk t b).1
 by_cases h0:(dK x s lk t b).2.2=0
 ·have F:=Gw h0
  have e:=EF (t:=t) F
  obtain⟨-,l1,l2⟩:=ww hb F.dec
  have hlow:lk ≠ -1/\dC x=false->gg b=0:=fun k=>by
   have ht:=F.ttl
   have e1:(aW b).1=bP b:=by rw[aW,if_pos F.dec]
   rw[e1] at ht
   rw[gg,if_neg (fun q=>q F.dec)]
   exact if_neg (fun q=>ht ⟨k.1,k.2,q⟩)
  have key:(if lk ≠ -1/\dC x=false then gQ b else b).length=b.length/\bytes (if lk ≠ -1/\dC x=false then gQ b else b):=by
   split
   ·rename_i k;exact T3 hb (hlow k)
   ·exact⟨rfl,hb⟩
  refine⟨fun _=>?_,fun k=>absurd h0 k,?_,T⟩
  ·rw[e]
   exact⟨by show 0<List.length _;rw[key.1];omega,by show List.length _<=1500;rw[key.1];omega,Cl hs F.way _ _⟩
  ·rw[e];exact key.2
 by_cases h2:(dK x s lk t b).2.2=2
 ·obtain⟨ki,e,hk⟩:=Gm h2
  rw[e] at h2
  obtain⟨w,hw⟩:∃ w,w=Br x s lk t b:=⟨_,rfl⟩
  rw[← hw] at h2 e
  obtain⟨a1,a2,a3⟩:=Fl h2
  have w1:w.1=x:=by rw[hw];rfl
  have w2:w.2.1=s:=by rw[hw];rfl
  have w5:w.2.2.2.2.1=b:=by rw[hw];rfl
  have hI:0<=pi w.2.2.2.2.2/\pi w.2.2.2.2.2<=65535:=by
   have:w.2.2.2.2.2=(aW b).1:=by rw[hw];rfl
   rw[this]
   unfold aW
   split
   ·exact rk hb 4
   ·exact⟨by show (0:Int)<=0;omega,by show (0:Int)<=65535;omega⟩
  have hn:=NR (w:=w) (by rw[w1];exact N.id) (by rw[w1];exact N.form) hI
  have ho:(dK x s lk t b).2.1=(iK (kB ki w) w,kB ki w (ib (kB ki w) w (mA ki w)) (fI w)):=by rw[e];exact congrArg (fun r:lw=>r.2.1) a3
  have k:=Ug (f:=ib (kB ki w) w (mA ki w)) (by rw[w5];exact hb) hn a1
  have kl:=VR ki w (ib (kB ki w) w (mA ki w)) (fI w)
  have hL:0<=cL x (iK (kB ki w) w):=by
   have:=Cl hs (a:=j7 w.2.2.2.2.2) (by rw[← w2];exact a2) (ij w) (fw (kB ki w (adr w.1 (bp w.1 w.2.2.1)) 0))
   unfold iK gV
   rw[w1,w2]
   rw[w1] at this
   exact this
  refine⟨fun _=>?_,fun _ q=>absurd (by rw[e];exact h2) q,?_,T⟩
  ·rw[ho];exact⟨k.1,by have:((kB ki w (ib (kB ki w) w (mA ki w)) (fI w)).length:Int)<=1500:=kl;show (kB ki w (ib (kB ki w) w (mA ki w)) (fI w)).length<=1500;omega,hL⟩
  ·rw[ho];exact k.2
 ·have e:=Va h2 h0
  refine⟨fun k=>?_,fun _ _=>e,by rw[e];exact kP,T⟩
  rcases k with k|k
  ·exact absurd k h0
  ·exact absurd k h2
end Go.RS

/- Sim1: a network in operation, in plain terms. -/
namespace Go.RS
open Go.SX Go.Proofs
set_option maxRecDepth 100000
set_option linter.unusedVariables false
abbrev kw:CT := .pair cI (.pair cI (.pair cI (.pair cI (.pair cI (.sl bm)))))
abbrev aK:Type:=Int×Int×Int×Int×Int×List Int
abbrev tm:CT := .pair cI (.pair cI (.sl bm))
abbrev nG:Type:=Int×Int×List Int
abbrev rm:CT := .pair cI (.pair cI (.pair cI (.pair cI cI)))
abbrev jx:Type:=Int×Int×Int×Int×Int
abbrev iI:CT := .pair iC (.pair cI (.pair cI (.pair cI (.pair (.sl lQ) (.pair (.sl cI) (.pair (.sl kw) (.pair (.sl tm) (.sl rm))))))))
abbrev aq:Type:=bw×Int×Int×Int×List bt×List Int×List aK×List nG×List jx
def ax(f:aK):Int:=f.1
def ig(f:aK):Int:=f.2.1
def aP(f:aK):Int:=f.2.2.1
def dR(f:aK):Int:=f.2.2.2.1
def dO(f:aK):Int:=f.2.2.2.2.1
def da(f:aK):List Int:=f.2.2.2.2.2
def ao(w:aq):bw:=w.1
def aT(w:aq):Int:=w.2.1
def aX(w:aq):Int:=w.2.2.1
def bz(w:aq):Int:=w.2.2.2.1
def aM(w:aq):List bt:=w.2.2.2.2.1
def bJ(w:aq):List Int:=w.2.2.2.2.2.1
def am(w:aq):List aK:=w.2.2.2.2.2.2.1
def aO(w:aq):List nG:=w.2.2.2.2.2.2.2.1
def aQ(w:aq):List jx:=w.2.2.2.2.2.2.2.2
def aZ(w:aq)(t:Int):aq:=(w.1,t,w.2.2)
def fv(w:aq)(l:List bt):aq:=(w.1,w.2.1,w.2.2.1,w.2.2.2.1,l,w.2.2.2.2.2)
def mQ(w:aq)(k:Int):aq:=(w.1,w.2.1,w.2.2.1,k,w.2.2.2.2)
def qX(w:aq)(l:List Int):aq:=(w.1,w.2.1,w.2.2.1,w.2.2.2.1,w.2.2.2.2.1,l,w.2.2.2.2.2.2)
def cH(w:aq)(l:List aK):aq:=(w.1,w.2.1,w.2.2.1,w.2.2.2.1,w.2.2.2.2.1,w.2.2.2.2.2.1,l,w.2.2.2.2.2.2.2)
def qW(w:aq)(l:List nG):aq:=(w.1,w.2.1,w.2.2.1,w.2.2.2.1,w.2.2.2.2.1,w.2.2.2.2.2.1,w.2.2.2.2.2.2.1,l,w.2.2.2.2.2.2.2.2)
def Gj(w:aq)(l:List jx):aq:=(w.1,w.2.1,w.2.2.1,w.2.2.2.1,w.2.2.2.2.1,w.2.2.2.2.2.1,w.2.2.2.2.2.2.1,w.2.2.2.2.2.2.2.1,l)
def al3(w:aq)(k:Int):aq:=(w.1,w.2.1,k,w.2.2.2)
def DH(s:bt)(l:List Rt):bt:=(l,s.2)
def c9(l:List aK)(f:aK):List aK:=(l.takeWhile fun x=>decide (ax x<=ax f))++f::l.dropWhile fun x=>decide (ax x<=ax f)
def wD(w:aq)(f:aK):aq:=cH (al3 w (IntKind.i64.wrap (aX w+1))) (c9 (am w) (ax f,aX w,f.2.2))
def gY(w:aq):aN:=(ao w).2.2.getD (bz w).toNat default
def jj(w:aq):Bool:=decide (bz w<(ao w).2.2.length)&&decide (fQ (gY w)<=aT w)
def fO(w:aq):aq :=
 mQ (fv w ((aM w).set (bu (gY w)).toNat (DH ((aM w).getD (bu (gY w)).toNat default) (fJ (bn ((aM w).getD (bu (gY w)).toNat default)) (gY w))))) (IntKind.i64.wrap (bz w+1))
def cB:Nat->aq->aq
 | 0,w=>w
 | n+1,w=>if jj w=true then cB n (fO w) else w
def bo(w:aq):aq:=cB ((ao w).2.2.length-(bz w).toNat) w
def kF(w:aq)(f:aK)(link why:Int):aq:=Gj w (aQ w++[(dO f,ax f,aP f,link,why)])
def pI(l:aF)(c:Int):Int:=ky (bits .xor .u64 (ky (IntKind.wrap .u64 (sg l))) (IntKind.wrap .u64 c))
def cO(w:aq)(k:Int):aF:=(ao w).2.1.getD k.toNat default
def j5(w:aq)(k:Int):Int:=(bJ w).getD k.toNat default
def xz(w:aq)(k:Int):Int:=IntKind.i64.wrap (Int.tmod (Int.tdiv (pI (cO w k) (j5 w k)) 65536) (IntKind.wrap .u64 (IntKind.i64.wrap (ia (cO w k)+1))))
def jd(w:aq)(k:Int):Int:=IntKind.i64.wrap (IntKind.i64.wrap (aT w+kR (cO w k))+xz w k)
def dB(w:aq)(f:aK)(out:Int×List Int):aq :=
 let v:=qX w ((bJ w).set out.1.toNat (IntKind.i64.wrap (j5 w out.1+1)))
 if Int.tmod (pI (cO w out.1) (j5 w out.1)) 65536<IntKind.wrap .u64 (o6 (cO w out.1)) then kF v f out.1 3
 else if 1125899906842624<jd w out.1∨(4096:Int)<=(am w).length then kF v f out.1 7
 else wD v (jd w out.1,0,fA (ao w).2.1 out.1 (aP f),out.1,dO f,out.2)
def aL(w:aq)(f:aK):lw:=dK ((ao w).1.getD (aP f).toNat default) ((aM w).getD (aP f).toNat default) (dR f) (ax f) (da f)
def fu(w:aq)(f:aK):aq :=
 let r:=aL w f
 let a:=fv w ((aM w).set (aP f).toNat r.1)
 let b:=if r.2.2=1 then qW a (aO a++[(ax f,aP f,da f)]) else a
 let c:=if r.2.2≠0 then kF b f (dR f) r.2.2 else b
 if 0<r.2.1.2.length then dB c f r.2.1 else c
def cC(w:aq):aq:=fu (bo (aZ (cH w (am w).tail) (ax ((am w).headD default)))) ((am w).headD default)
def cK(w:aq)(to:Int):Bool:=match am w with
 | []=>false
 | f::_=>decide (ax f<=to)
def fL:Nat->aq->Int->aq
 | 0,w,_=>w
 | n+1,w,to=>if cK w to=true then fL n (cC w) to else w
def dr(to:Int)(l:List aK):Nat:=(l.map fun f=>(to+1-ax f).toNat).sum
def jv(w:aq)(to:Int):aq:=bo (aZ (fL (dr to (am w)) w to) to)
theorem wB{l:List aK}{f x:aK}:x∈c9 l f↔x=f∨x∈l:=by
 unfold c9
 rw[List.mem_append,List.mem_cons]
 have e:=List.takeWhile_append_dropWhile (p:=fun x=>decide (ax x<=ax f)) (l:=l)
 constructor
 ·rintro (h|h|h)
  ·right;rw[← e];exact List.mem_append_left _ h
  ·exact .inl h
  ·right;rw[← e];exact List.mem_append_right _ h
 ·rintro (h|h)
  ·exact .inr (.inl h)
  ·rw[← e] at h
   rcases List.mem_append.1 h with h|h
   ·exact .inl h
   ·exact .inr (.inr h)
theorem Av(l:List aK)(f:aK):(c9 l f).length=l.length+1:=by
 have e:=congrArg List.length (List.takeWhile_append_dropWhile (p:=fun x=>decide (ax x<=ax f)) (l:=l))
 rw[List.length_append] at e
 unfold c9
 rw[List.length_append,List.length_cons];omega
theorem Kq(to:Int)(l:List aK)(f:aK):dr to (c9 l f)=dr to l+(to+1-ax f).toNat:=by
 have e:dr to l=dr to ((l.takeWhile fun x=>decide (ax x<=ax f))++(l.dropWhile fun x=>decide (ax x<=ax f))):=by rw[List.takeWhile_append_dropWhile]
 rw[e]
 unfold dr c9
 simp only[List.map_append,List.map_cons,List.sum_append,List.sum_cons]
 omega
def eZ(a b:aK):Prop:=ax a<ax b∨ax a=ax b/\ig a<ig b
theorem N2{l:List aK}{f:aK}(h:l.Pairwise eZ)(hn:∀ x∈l,ig x<ig f):(c9 l f).Pairwise eZ:=by
 have e:=List.takeWhile_append_dropWhile (p:=fun x=>decide (ax x<=ax f)) (l:=l)
 have h2:=h
 rw[← e] at h2
 obtain⟨a,b,c⟩:=List.pairwise_append.1 h2
 have hd:∀ x∈l.dropWhile (fun x=>decide (ax x<=ax f)),ax f<ax x:=by
  intro x hx
  cases hh:l.dropWhile (fun x=>decide (ax x<=ax f)) with
  | nil=>rw[hh] at hx;cases hx
  | cons y r =>
   have hy:¬ ax y<=ax f:=by
    have:=List.head_dropWhile_not (p:=fun x=>decide (ax x<=ax f)) (l:=l) (by rw[hh];simp)
    simp only[hh,List.head_cons] at this
    simpa using this
   rw[hh] at hx b
   rcases List.mem_cons.1 hx with rfl|hx
   ·omega
   ·rcases (List.pairwise_cons.1 b).1 x hx with k|k <;> omega
 unfold c9
 refine List.pairwise_append.2 ⟨a,List.pairwise_cons.2 ⟨fun x hx=>.inl (hd x hx),b⟩,fun x hx y hy=>?_⟩
 have hxl:x∈l:=by rw[← e];exact List.mem_append_left _ hx
 have hxf:ax x<=ax f:=by
  have:=List.all_eq_true.1 (List.all_takeWhile (p:=fun x=>decide (ax x<=ax f)) (l:=l)) x hx
  simpa using this
 rcases List.mem_cons.1 hy with rfl|hy
 ·have:=hn x hxl
  unfold eZ
  omega
 ·exact .inl (by have:=hd y hy;omega)
end Go.RS

/- Sim2: what holds of a network in operation. -/
namespace Go.RS
open Go.SX Go.Proofs
set_option maxRecDepth 100000
set_option linter.unusedVariables false
theorem AY{n:bw}(h:d7 n=0):nD n=0/\lC n=0/\lu n=0/\nI n=0/\na n=0:=by
 unfold d7 at h
 obtain⟨h1,h⟩:=nC h
 obtain⟨h2,h⟩:=nC h
 obtain⟨h3,h⟩:=nC h
 obtain⟨h4,h⟩:=nC h
 obtain⟨h5,h⟩:=nC h
 obtain⟨h6,h⟩:=nC h
 exact⟨h1,h2,h3,h4,h⟩
theorem qR{n:bw}(h:d7 n=0){i:Nat}(hi:i<n.1.length):nq (n.1.getD i default):=by
 have hb:=rV (AY h).2.2.1 i hi
 unfold lW at hb
 split at hb
 ·rename_i k;exact absurd hb k
 ·rename_i k;exact KC (Decidable.not_not.1 k)
theorem u6{n:bw}(h:d7 n=0):1<=n.1.length/\n.1.length<=64/\n.2.1.length<=128/\n.2.2.length<=64:=by
 have:=(AY h).1
 unfold nD at this
 split at this
 ·cases this
 ·omega
theorem Ab{n:bw}(h:d7 n=0){k:Nat}(hk:k<n.2.2.length):(0<=fQ (n.2.2.getD k default)/\fQ (n.2.2.getD k default)<=1125899906842624)/\(0<=bu (n.2.2.getD k default)/\bu (n.2.2.getD k default)<n.1.length) ∧
  dE (fJ ((c8 n k).getD (bu (n.2.2.getD k default)).toNat default) (n.2.2.getD k default)) (bv (n.1.getD (bu (n.2.2.getD k default)).toNat default))=0:=by
 have hs:=rV (AY h).2.2.2.2 k hk
 unfold iy mX at hs
 split at hs
 ·cases hs
 rename_i a1
 split at hs
 ·cases hs
 split at hs
 ·cases hs
 rename_i a3
 split at hs
 ·cases hs
 exact⟨by omega,by omega,hs⟩
theorem JM{n:bw}(h:d7 n=0):∀ k:Nat,k<=n.2.2.length→∀ i:Nat,i<n.1.length->dE ((c8 n k).getD i default) (bv (n.1.getD i default))=0
 | 0,_,i,hi=>by rw[c8,xI hi];exact (qR h hi).rt
 | k+1,hk,i,hi=>by
  obtain⟨-,h2,h3⟩:=Ab h (k:=k) (by omega)
  rw[c8]
  by_cases e:(bu (n.2.2.getD k default)).toNat=i
  ·rw[← e,iw (by rw[oW];omega)];exact h3
  ·rw[kA e];exact JM h k (by omega) i hi
structure rf (n:bw) (now ord:Int) (f:aK):Prop where
 t:now<=ax f/\ax f<=1125899906842624
 o:0<=ig f/\ig f<ord
 nd:0<=aP f/\aP f<n.1.length
 l:dR f = -1∨dR f∈bv (n.1.getD (aP f).toNat default)
 g:0<=dO f/\dO f<ord
 b:bytes (da f)
 d:((da f).length:Int)<=2000
structure bT (w:aq) (K:Int):Prop where
 net:d7 (ao w)=0
 now:0<=aT w/\aT w<=1125899906842624
 ord:0<=aX w/\aX w<=K
 done:0<=bz w/\bz w<=(ao w).2.2.length
 len:(aM w).length=(ao w).1.length
 st:∀ i:Nat,i<(ao w).1.length->fU ((ao w).1.getD i default) ((aM w).getD i default) K/\bn ((aM w).getD i default)=(c8 (ao w) (bz w).toNat).getD i default
 cl:(bJ w).length=(ao w).2.1.length
 cr:∀ c∈bJ w,0<=c/\c<=K
 fl:(am w).Pairwise eZ
 fo:∀ f∈am w,rf (ao w) (aT w) (aX w) f
 fn:(am w).length<=4096
theorem bT.more{w:aq}{K K':Int}(h:bT w K)(hk:K<=K'):bT w K' :=
 ⟨h.net,h.now,by have:=h.ord;omega,h.done,h.len,fun i hi=>⟨(h.st i hi).1.more hk,(h.st i hi).2⟩,h.cl,fun c hc=>by have:=h.cr c hc;omega,h.fl,h.fo,h.fn⟩
theorem fU.rts{x:ac}{s:bt}{K:Int}(h:fU x s K){l:List Rt}(hc:dE l (bv x)=0):fU x (DH s l) K:=by
 obtain⟨h1,h2⟩:=sV hc
 obtain⟨-,-,h3⟩:=uB hc
 exact⟨h1,h2,fun r hr=>(h3 r hr).2,h.ps,h.tk,h.cn,h.cp⟩
theorem bT.chg{w:aq}{K:Int}(h:bT w K)(hd:jj w=true):bT (fO w) K/\bz (fO w)=bz w+1:=by
 unfold jj at hd
 rw[Bool.and_eq_true,decide_eq_true_iff,decide_eq_true_iff] at hd
 have hk:(bz w).toNat<(ao w).2.2.length:=by have:=h.done;omega
 obtain⟨-,⟨w0,w1⟩,hc⟩:=Ab h.net hk
 have sz:=u6 h.net
 have e1:IntKind.i64.wrap (bz w+1)=bz w+1:=af (by have:=h.done;omega) (by have:=h.done;omega)
 have eD:bz (fO w)=bz w+1:=e1
 have eN:ao (fO w)=ao w:=rfl
 have hwho:bu (gY w)=bu ((ao w).2.2.getD (bz w).toNat default):=rfl
 have hlt:(bu (gY w)).toNat<(ao w).1.length:=by omega
 have hst:=(h.st _ hlt)
 have hc:dE (fJ ((c8 (ao w) (bz w).toNat).getD (bu (gY w)).toNat default) (gY w)) (bv ((ao w).1.getD (bu (gY w)).toNat default))=0:=hc
 rw[← hst.2] at hc
 refine⟨⟨h.net,h.now,h.ord,by have:=h.done;rw[eD,eN];omega,?_,fun i hi=>?_,h.cl,h.cr,h.fl,h.fo,h.fn⟩,eD⟩
 ·show ((aM w).set _ _).length=_
  rw[List.length_set];exact h.len
 ·have hi:i<(ao w).1.length:=hi
  rw[eD,eN,show (bz w+1).toNat=(bz w).toNat+1 by have:=h.done;omega,c8]
  show fU _ (((aM w).set (bu (gY w)).toNat _).getD i default) K/\bn (((aM w).set (bu (gY w)).toNat _).getD i default)=_
  by_cases e:(bu (gY w)).toNat=i
  ·subst e
   rw[iw (by rw[h.len];exact hlt),show ((ao w).2.2.getD (bz w).toNat default)=gY w from rfl,iw (by rw[oW];exact hlt),← hst.2]
   exact⟨hst.1.rts hc,rfl⟩
  ·rw[kA e,show ((ao w).2.2.getD (bz w).toNat default)=gY w from rfl,kA e]
   exact h.st i hi
theorem FW{K:Int}:∀(n:Nat){w:aq},bT w K->bT (cB n w) K/\(cB n w).1=w.1/\(cB n w).2.1=w.2.1/\(cB n w).2.2.1=w.2.2.1/\(cB n w).2.2.2.2.2=w.2.2.2.2.2
 | 0,w,h=>⟨h,rfl,rfl,rfl,rfl⟩
 | n+1,w,h=>by
  rw[cB]
  split
  ·rename_i hd
   have k:=FW n (h.chg hd).1
   exact⟨k.1,k.2.1.trans rfl,k.2.2.1.trans rfl,k.2.2.2.1.trans rfl,k.2.2.2.2.trans rfl⟩
  ·exact⟨h,rfl,rfl,rfl,rfl⟩
theorem bT.change{w:aq}{K:Int}(h:bT w K):bT (bo w) K:=(FW _ h).1
theorem tP{n:bw}(h:d7 n=0){i:Nat}(hi:i<n.1.length){k:Int}(hk:k∈bv (n.1.getD i default)) :
  (0<=k/\k<n.2.1.length)/\iN n.1.length (n.2.1.getD k.toNat default)/\(0<=fA n.2.1 k i/\fA n.2.1 k i<n.1.length)/\k∈bv (n.1.getD (fA n.2.1 k i).toNat default):=by
 obtain⟨-,hc,hb,hp,-⟩:=AY h
 have b:=rV hb i hi
 unfold lW at b
 split at b
 ·rename_i q;exact absurd b q
 rename_i hv
 have N:nq (n.1.getD i default):=KC (Decidable.not_not.1 hv)
 split at b
 ·cases b
 rename_i hs
 have hst:nW n i k=false:=by
  cases q:nW n i k with
  | false=>rfl
  | true=>exact absurd (List.any_eq_true.2 ⟨k,hk,q⟩) hs
 unfold nW at hst
 simp only[Bool.or_eq_false_iff,decide_eq_false_iff_not,Bool.not_eq_false',Bool.or_eq_true,decide_eq_true_eq] at hst
 obtain⟨h1,h2⟩:=hst
 obtain⟨q,hq,rfl⟩:=List.mem_map.1 hk
 obtain⟨j,hj,rfl⟩:=List.mem_iff_getElem.1 hq
 have k0:0<=((aC (n.1.getD i default))[j]).2:=by
  have:=(Ka (N.ports j hj)).2
  rw[List.getD_eq_getElem?_getD (l:=aC _),List.getElem?_eq_getElem hj,Option.getD_some] at this
  omega
 generalize ((aC (n.1.getD i default))[j]).2=k at hk h1 h2 k0
 have hkl:k.toNat<n.2.1.length:=by omega
 have snd:iN n.1.length (n.2.1.getD k.toNat default):=by
  unfold lC at hc
  split at hc
  ·rename_i z;exact of_decide_eq_true (List.all_eq_true.1 z _ (mN hkl))
  ·cases hc
 have lo:n8 n k.toNat=false:=by
  unfold nI at hp
  split at hp
  ·cases hp
  ·rename_i z
   cases q:n8 n k.toNat with
   | false=>rfl
   | true=>exact absurd (List.any_eq_true.2 ⟨k.toNat,List.mem_range.2 hkl,q⟩) z
 unfold n8 at lo
 simp only[Bool.or_eq_false_iff,decide_eq_false_iff_not] at lo
 obtain⟨l1,l2⟩:=lo
 rw[show ((k.toNat:Nat):Int)=k by omega] at l1 l2
 have mem:∀ x:ac,¬ cL x k<0->k∈bv x:=fun x hx=>by
  obtain⟨a,b⟩:=rz (q:=gS k) (l:=aC x) (by unfold cL at hx;omega)
  have hm:=mN (xs:=aC x) (i:=(fT (gS k) (aC x)).toNat) (by unfold cL at hx;omega)
  exact List.mem_map.2 ⟨_,hm,of_decide_eq_true b⟩
 refine⟨⟨k0,by omega⟩,snd,?_⟩
 obtain⟨s1,s2,s3,s4,s5,-⟩:=snd
 unfold fA
 rw[if_neg (by omega)]
 by_cases e:(i:Int)=lA (n.2.1.getD k.toNat default)
 ·rw[if_pos e]
  exact⟨⟨s3,s4⟩,mem _ l2⟩
 ·have e2:lB (n.2.1.getD k.toNat default)=i:=by
   rcases h2 with z|z
   ·exact absurd z.symm e
   ·exact z
  rw[if_neg e,if_pos e2.symm]
  exact⟨⟨s1,s2⟩,mem _ l1⟩
theorem DZ{n:Int}(h0:0<=n)(h1:n<=9223372036854775807):IntKind.u64.wrap n=n:=by
 obtain⟨m,rfl⟩:∃ m:Nat,n=m:=⟨n.toNat,by omega⟩
 rw[C2];omega
theorem ZS(x:Int):0<=ky x:=Int.natCast_nonneg _
theorem xl{w:aq}{k:Int}(hs:iN (ao w).1.length (cO w k))(hn:0<=aT w/\aT w<=1125899906842624):aT w+1<=jd w k/\jd w k<=aT w+kR (cO w k)+ia (cO w k):=by
 obtain⟨-,-,-,-,-,d1,d2,j1,j2,-⟩:=hs
 have hh:0<=pI (cO w k) (j5 w k):=ZS _
 have e1:IntKind.i64.wrap (ia (cO w k)+1)=ia (cO w k)+1:=af (by omega) (by omega)
 have e2:IntKind.u64.wrap (ia (cO w k)+1)=ia (cO w k)+1:=DZ (by omega) (by omega)
 have hd:0<=Int.tdiv (pI (cO w k) (j5 w k)) 65536:=Int.tdiv_nonneg hh (by omega)
 have t0:=Int.tmod_nonneg (ia (cO w k)+1) hd
 have t1:=Int.tmod_lt_of_pos (Int.tdiv (pI (cO w k) (j5 w k)) 65536) (show 0<ia (cO w k)+1 by omega)
 have el:xz w k=Int.tmod (Int.tdiv (pI (cO w k) (j5 w k)) 65536) (ia (cO w k)+1):=by
  unfold xz
  rw[e1,e2,af (by omega) (by omega)]
 have e3:IntKind.i64.wrap (aT w+kR (cO w k))=aT w+kR (cO w k):=af (by omega) (by omega)
 have e4:jd w k=aT w+kR (cO w k)+xz w k:=by
  unfold jd
  rw[e3,af (by omega) (by omega)]
 omega
theorem bT.ends{w:aq}{K:Int}(h:bT w K)(f:aK)(link why:Int):bT (kF w f link why) K:=⟨h.net,h.now,h.ord,h.done,h.len,h.st,h.cl,h.cr,h.fl,h.fo,h.fn⟩
theorem bT.dels{w:aq}{K:Int}(h:bT w K)(l:List nG):bT (qW w l) K:=⟨h.net,h.now,h.ord,h.done,h.len,h.st,h.cl,h.cr,h.fl,h.fo,h.fn⟩
theorem bT.crosses{w:aq}{K:Int}(h:bT w K)(hK:K<=2199023255552){f:aK}{out:Int×List Int}(hf:0<=aP f/\aP f<(ao w).1.length)(hg:0<=dO f/\dO f<aX w)
  (hk:out.1∈bv ((ao w).1.getD (aP f).toNat default)) (hb:bytes out.2) (hl:(out.2.length:Int)<=2000):bT (dB w f out) (K+1):=by
 have hi:(aP f).toNat<(ao w).1.length:=by omega
 obtain⟨⟨k0,k1⟩,snd,o1,o2⟩:=tP h.net hi hk
 rw[show (((aP f).toNat:Nat):Int)=aP f by omega] at o1 o2
 have ov:=xl (w:=w) (k:=out.1) snd h.now
 have hcl:out.1.toNat<(bJ w).length:=by rw[h.cl];omega
 have hc0:j5 w out.1∈bJ w:=mN hcl
 have hc1:=h.cr _ hc0
 have hord:=h.ord
 have base:bT (qX w ((bJ w).set out.1.toNat (IntKind.i64.wrap (j5 w out.1+1)))) (K+1):=by
  have h':=h.more (K':=K+1) (by omega)
  refine⟨h'.net,h'.now,h'.ord,h'.done,h'.len,h'.st,?_,fun c hc=>?_,h'.fl,h'.fo,h'.fn⟩
  ·show ((bJ w).set _ _).length=_
   rw[List.length_set];exact h.cl
  ·have hc:c∈(bJ w).set out.1.toNat (IntKind.i64.wrap (j5 w out.1+1)):=hc
   rcases List.mem_or_eq_of_mem_set hc with hc|rfl
   ·have:=h.cr c hc;omega
   ·rw[af (by omega) (by omega)];omega
 unfold dB
 dsimp only
 split
 ·exact base.ends _ _ _
 split
 ·exact base.ends _ _ _
 rename_i q
 have ew:IntKind.i64.wrap (aX w+1)=aX w+1:=af (by omega) (by omega)
 refine⟨base.net,base.now,?_,base.done,base.len,base.st,base.cl,base.cr,?_,?_,?_⟩
 ·show 0<=IntKind.i64.wrap (aX w+1)/\IntKind.i64.wrap (aX w+1)<=K+1
  rw[ew];omega
 ·exact N2 h.fl fun x hx=>(h.fo x hx).o.2
 ·intro x hx
  have hx:x∈c9 (am w) (jd w out.1,aX w,fA (ao w).2.1 out.1 (aP f),out.1,dO f,out.2):=hx
  show rf (ao w) (aT w) (IntKind.i64.wrap (aX w+1)) x
  rw[ew]
  rcases wB.1 hx with rfl|hx
  ·exact⟨⟨by show aT w<=jd w out.1;omega,by show jd w out.1<=_;omega⟩,⟨by show 0<=aX w;omega,by show aX w<aX w+1;omega⟩,o1,.inr o2,⟨hg.1,by show dO f<aX w+1;omega⟩,hb,hl⟩
  ·have k:=h.fo x hx
   exact⟨k.t,⟨k.o.1,by have:=k.o.2;omega⟩,k.nd,k.l,⟨k.g.1,by have:=k.g.2;omega⟩,k.b,k.d⟩
 ·show (c9 (am w) _).length<=4096
  rw[Av];omega
theorem bT.land{w:aq}{K:Int}(h:bT w K)(hK:K<=1099511627776){f:aK}(hf:rf (ao w) (aT w) (aX w) f)(ht:ax f=aT w):bT (fu w f) (K+2):=by
 have hi:(aP f).toNat<(ao w).1.length:=by have:=hf.nd;omega
 obtain⟨st,rt⟩:=h.st _ hi
 have N:=qR h.net hi
 have O:=Fr (lk:=dR f) (t:=ax f) N st.rt hf.b
 have S:=ac0 (link:=dR f) (b:=da f) (at':=ax f) N st ⟨by have:=h.ord;omega,by omega⟩ ⟨by have:=h.now;omega,by have:=h.now;omega⟩
 have eH:aL w f=dK ((ao w).1.getD (aP f).toNat default) ((aM w).getD (aP f).toNat default) (dR f) (ax f) (da f):=rfl
 rw[← eH] at O S
 have ha:bT (fv w ((aM w).set (aP f).toNat (aL w f).1)) (K+1):=by
  have h':=h.more (K':=K+1) (by omega)
  refine⟨h'.net,h'.now,h'.ord,h'.done,?_,fun i hl=>?_,h'.cl,h'.cr,h'.fl,h'.fo,h'.fn⟩
  ·show ((aM w).set _ _).length=_
   rw[List.length_set];exact h.len
  ·have hl:i<(ao w).1.length:=hl
   show fU _ (((aM w).set (aP f).toNat (aL w f).1).getD i default) _/\bn (((aM w).set (aP f).toNat (aL w f).1).getD i default)=_
   by_cases e:(aP f).toNat=i
   ·subst e
    rw[iw (by rw[h.len];exact hi)]
    exact⟨S,O.rt.trans rt⟩
   ·rw[kA e]
    exact h'.st i hl
 have hb:bT (if (aL w f).2.2=1 then qW (fv w ((aM w).set (aP f).toNat (aL w f).1)) (aO (fv w ((aM w).set (aP f).toNat (aL w f).1))++[(ax f,aP f,da f)]) else fv w ((aM w).set (aP f).toNat (aL w f).1)) (K+1):=by
  split
  ·exact ha.dels _
  ·exact ha
 unfold fu
 dsimp only
 generalize hB:(if (aL w f).2.2=1 then qW (fv w ((aM w).set (aP f).toNat (aL w f).1)) (aO (fv w ((aM w).set (aP f).toNat (aL w f).1))++[(ax f,aP f,da f)]) else fv w ((aM w).set (aP f).toNat (aL w f).1))=B at hb
 have eB:ao B=ao w/\aX B=aX w:=by rw[← hB];split <;> exact⟨rfl,rfl⟩
 have hc:bT (if (aL w f).2.2≠0 then kF B f (dR f) (aL w f).2.2 else B) (K+1):=by
  split
  ·exact hb.ends _ _ _
  ·exact hb
 have eC:ao (if (aL w f).2.2≠0 then kF B f (dR f) (aL w f).2.2 else B)=ao w/\aX (if (aL w f).2.2≠0 then kF B f (dR f) (aL w f).2.2 else B)=aX w:=by
  split
  ·exact eB
  ·exact eB
 generalize (if (aL w f).2.2≠0 then kF B f (dR f) (aL w f).2.2 else B)=C at hc eC
 split
 ·rename_i hp
  have hr:(aL w f).2.2=0∨(aL w f).2.2=2:=by
   by_cases z0:(aL w f).2.2=0
   ·exact .inl z0
   by_cases z2:(aL w f).2.2=2
   ·exact .inr z2
   ·have:=O.none z0 z2
    rw[this] at hp
    exact absurd hp (by simp[gq])
  obtain⟨p1,p2,p3⟩:=O.some hr
  have hm:(aL w f).2.1.1∈bv ((ao w).1.getD (aP f).toNat default):=by
   obtain⟨a,b⟩:=rz (q:=gS (aL w f).2.1.1) (l:=aC ((ao w).1.getD (aP f).toNat default)) p3
   have hm:=mN (xs:=aC ((ao w).1.getD (aP f).toNat default)) (i:=(fT (gS (aL w f).2.1.1) (aC ((ao w).1.getD (aP f).toNat default))).toNat) (by unfold cL at p3;omega)
   exact List.mem_map.2 ⟨_,hm,of_decide_eq_true b⟩
  have z:=bT.crosses hc (by omega) (by rw[eC.1];exact hf.nd) (by rw[eC.2];exact hf.g) (by rw[eC.1];exact hm) O.byt (by omega)
  rwa [show K+1+1=K+2 by omega] at z
 ·exact hc.more (by omega)
theorem Lv(w:aq)(f:aK)(out:Int×List Int):ao (dB w f out)=ao w/\aT (dB w f out)=aT w ∧
  (am (dB w f out)=am w∨∃ g,ax g=jd w out.1/\am (dB w f out)=c9 (am w) g):=by
 unfold dB
 dsimp only
 split
 ·exact⟨rfl,rfl,.inl rfl⟩
 split
 ·exact⟨rfl,rfl,.inl rfl⟩
 ·exact⟨rfl,rfl,.inr ⟨_,rfl,rfl⟩⟩
theorem wE{n:bw}(h:d7 n=0){i:Nat}(hi:i<n.1.length){k:Int}(hp:0<=cL (n.1.getD i default) k):k∈bv (n.1.getD i default):=by
 obtain⟨a,b⟩:=rz (q:=gS k) (l:=aC (n.1.getD i default)) hp
 have hm:=mN (xs:=aC (n.1.getD i default)) (i:=(fT (gS k) (aC (n.1.getD i default))).toNat) (by unfold cL at hp;omega)
 exact List.mem_map.2 ⟨_,hm,of_decide_eq_true b⟩
theorem UP{w:aq}{K:Int}(h:bT w K){f:aK}(hf:rf (ao w) (aT w) (aX w) f):ao (fu w f)=ao w/\aT (fu w f)=aT w ∧
  (am (fu w f)=am w∨∃ g,aT w+1<=ax g/\am (fu w f)=c9 (am w) g):=by
 have hi:(aP f).toNat<(ao w).1.length:=by have:=hf.nd;omega
 obtain⟨st,rt⟩:=h.st _ hi
 have N:=qR h.net hi
 have O:=Fr (lk:=dR f) (t:=ax f) N st.rt hf.b
 have eH:aL w f=dK ((ao w).1.getD (aP f).toNat default) ((aM w).getD (aP f).toNat default) (dR f) (ax f) (da f):=rfl
 rw[← eH] at O
 unfold fu
 dsimp only
 have key:∀ B:aq,ao B=ao w->aT B=aT w->am B=am w->bJ B=bJ w →
   (ao (if 0<(aL w f).2.1.2.length then dB B f (aL w f).2.1 else B)=ao w/\aT (if 0<(aL w f).2.1.2.length then dB B f (aL w f).2.1 else B)=aT w ∧
    (am (if 0<(aL w f).2.1.2.length then dB B f (aL w f).2.1 else B)=am w∨∃ g,aT w+1<=ax g/\am (if 0<(aL w f).2.1.2.length then dB B f (aL w f).2.1 else B)=c9 (am w) g)):=by
  intro B b1 b2 b3 b4
  split
  ·rename_i hp
   obtain⟨c1,c2,c3⟩:=Lv B f (aL w f).2.1
   refine⟨c1.trans b1,c2.trans b2,?_⟩
   rcases c3 with c3|⟨g,g1,g2⟩
   ·exact .inl (c3.trans b3)
   ·have hr:(aL w f).2.2=0∨(aL w f).2.2=2:=by
     by_cases z0:(aL w f).2.2=0
     ·exact .inl z0
     by_cases z2:(aL w f).2.2=2
     ·exact .inr z2
     ·have:=O.none z0 z2
      rw[this] at hp
      exact absurd hp (by simp[gq])
    have hl:=wE h.net hi (O.some hr).2.2
    obtain⟨-,snd,-⟩:=tP h.net hi hl
    have ov:=xl (w:=B) (k:=(aL w f).2.1.1) (by unfold cO;rw[b1];exact snd) (by rw[b2];exact h.now)
    refine .inr ⟨g,by rw[g1,← b2];exact ov.1,by rw[g2,b3]⟩
  ·exact⟨b1,b2,.inl b3⟩
 apply key
 all_goals (split <;> (split <;> rfl))
theorem ma(to:Int)(f:aK)(r:List aK):dr to (f::r)=(to+1-ax f).toNat+dr to r:=by
 unfold dr;rw[List.map_cons,List.sum_cons]
theorem bT.step{w:aq}{K:Int}(h:bT w K)(hK:K<=1099511627776){f:aK}{r:List aK}(e:am w=f::r) :
  bT (cC w) (K+2)/\ao (cC w)=ao w/\aT (cC w)=ax f∧∀ to,ax f<=to->dr to (am (cC w))+1<=dr to (am w):=by
 have hp:=h.fl
 rw[e] at hp
 obtain⟨p1,p2⟩:=List.pairwise_cons.1 hp
 have hf:=h.fo f (by rw[e];exact List.mem_cons_self)
 have hle:∀ x∈r,ax f<=ax x:=fun x hx=>by rcases p1 x hx with k|k <;> omega
 have ed:(am w).headD default=f:=by rw[e];rfl
 have et:(am w).tail=r:=by rw[e];rfl
 have hb:bT (aZ (cH w r) (ax f)) K:=by
  refine⟨h.net,⟨by show 0<=ax f;have:=h.now;have:=hf.t;omega,hf.t.2⟩,h.ord,h.done,h.len,h.st,h.cl,h.cr,p2,fun x hx=>?_,?_⟩
  ·have hx:x∈r:=hx
   have k:=h.fo x (by rw[e];exact List.mem_cons_of_mem _ hx)
   exact⟨⟨hle x hx,k.t.2⟩,k.o,k.nd,k.l,k.g,k.b,k.d⟩
  ·show r.length<=4096
   have:=h.fn
   rw[e,List.length_cons] at this;omega
 have hc:=FW ((ao w).2.2.length-(bz w).toNat) hb
 have es:cC w=fu (bo (aZ (cH w r) (ax f))) f:=by unfold cC;rw[ed,et]
 have ec:bo (aZ (cH w r) (ax f))=cB ((ao w).2.2.length-(bz w).toNat) (aZ (cH w r) (ax f)):=rfl
 rw[← ec] at hc
 obtain⟨c1,c2,c3,c4,c5⟩:=hc
 generalize bo (aZ (cH w r) (ax f))=v at c1 c2 c3 c4 c5 es
 have n1:ao v=ao w:=c2
 have n2:aT v=ax f:=c3
 have n3:aX v=aX w:=c4
 have n4:am v=r:=congrArg (fun x:List Int×List aK×List nG×List jx=>x.2.1) c5
 have hfv:rf (ao v) (aT v) (aX v) f:=by
  rw[n1,n2,n3]
  exact⟨⟨Int.le_refl _,hf.t.2⟩,hf.o,hf.nd,hf.l,hf.g,hf.b,hf.d⟩
 have L:=UP c1 hfv
 rw[es]
 refine⟨c1.land hK hfv n2.symm,L.1.trans n1,L.2.1.trans n2,fun to hto=>?_⟩
 rw[e,ma]
 rcases L.2.2 with q|⟨g,g1,g2⟩
 ·rw[q,n4];omega
 ·rw[g2,n4,Kq]
  rw[n2] at g1
  omega
theorem bT.run{to:Int}:∀(n:Nat){w:aq}{K:Int},bT w K->dr to (am w)<=n->K+2*n<=1099511627776->bT (fL n w to) (K+2*n)/\cK (fL n w to) to=false/\ao (fL n w to)=ao w
 | 0,w,K,h,hw,hK=>by
  refine⟨by simpa[fL] using h,?_,rfl⟩
  show cK w to=false
  unfold cK
  cases e:am w with
  | nil=>rfl
  | cons f r =>
   rw[e,ma] at hw
   exact decide_eq_false (by omega)
 | n+1,w,K,h,hw,hK=>by
  rw[fL]
  split
  ·rename_i hb
   unfold cK at hb
   cases e:am w with
   | nil=>rw[e] at hb;cases hb
   | cons f r =>
    rw[e] at hb
    have hb:=of_decide_eq_true hb
    obtain⟨s1,s2,-,s4⟩:=h.step (by omega) e
    have:=s4 to hb
    obtain⟨t1,t2,t3⟩:=bT.run (to:=to) n s1 (by omega) (by omega)
    rw[show K+2+2*(n:Int)=K+2*((n+1:Nat):Int) by omega] at t1
    exact⟨t1,t2,t3.trans s2⟩
  ·rename_i hb
   exact⟨h.more (by omega),by simpa using hb,rfl⟩
end Go.RS

/- Sim3: running in two parts. -/
namespace Go.RS
open Go.SX Go.Proofs
set_option maxRecDepth 100000
set_option linter.unusedVariables false
def okDn(w:aq):Prop:=0<=bz w/\((ao w).2.2.length:Int)<=1099511627776
def gM(w:aq):Nat:=(ao w).2.2.length-(bz w).toNat
theorem xD{w:aq}(h:okDn w)(hd:jj w=true):bz (fO w)=bz w+1/\okDn (fO w)/\gM (fO w)+1=gM w:=by
 unfold jj at hd
 rw[Bool.and_eq_true,decide_eq_true_iff,decide_eq_true_iff] at hd
 obtain⟨h0,h1⟩:=h
 have e:bz (fO w)=bz w+1:=af (n:=bz w+1) (by omega) (by omega)
 refine⟨e,⟨by rw[e];omega,h1⟩,?_⟩
 unfold gM
 rw[e]
 show (ao w).2.2.length-_+1=_
 omega
theorem IB{w:aq}(h:okDn w)(hd:jj w=true):0<gM w:=by
 unfold jj at hd
 rw[Bool.and_eq_true,decide_eq_true_iff,decide_eq_true_iff] at hd
 have:=h.1
 unfold gM;omega
theorem DK:∀(n m:Nat){w:aq},okDn w->gM w<=n->gM w<=m->cB n w=cB m w
 | 0,0,_,_,_,_=>rfl
 | 0,m+1,w,h,hn,_=>by
  rw[cB,cB,if_neg]
  intro hd;have:=IB h hd;omega
 | n+1,0,w,h,_,hm=>by
  rw[cB,cB,if_neg]
  intro hd;have:=IB h hd;omega
 | n+1,m+1,w,h,hn,hm=>by
  rw[cB,cB]
  split
  ·rename_i hd
   obtain⟨-,o,r⟩:=xD h hd
   exact DK n m o (by omega) (by omega)
  ·rfl
theorem yV{w:aq}(h:okDn w){n:Nat}(hn:gM w<=n):bo w=cB n w:=DK _ _ h (Nat.le_refl _) hn
theorem VL{w:aq}{t:Int}:jj (aZ w t)=(decide (bz w<(ao w).2.2.length)&&decide (fQ (gY w)<=t)):=rfl
theorem Lm{t t':Int}(ht:t<=t'):∀(n:Nat){w:aq},okDn w->gM w<=n->cB n (aZ (cB n (aZ w t)) t')=cB n (aZ w t')
 | 0,w,h,hn=>rfl
 | n+1,w,h,hn=>by
  by_cases hd:jj (aZ w t)=true
  ·have hd':jj (aZ w t')=true:=by
    rw[VL,Bool.and_eq_true,decide_eq_true_iff,decide_eq_true_iff] at hd ⊢
    exact⟨hd.1,by omega⟩
   have c:=xD (w:=aZ w t) h hd
   have e1:cB (n+1) (aZ w t)=cB n (aZ (fO w) t):=by rw[cB,if_pos hd];rfl
   have e2:cB (n+1) (aZ w t')=cB n (aZ (fO w) t'):=by rw[cB,if_pos hd'];rfl
   have o:okDn (fO w):=c.2.1
   have r:gM (fO w)+1=gM w:=c.2.2
   have ih:=Lm ht n o (by omega)
   rw[e1,e2,← ih]
   have of':okDn (aZ (cB n (aZ (fO w) t)) t')/\gM (aZ (cB n (aZ (fO w) t)) t')<=n:=by
    have key:∀(k:Nat){v:aq},okDn v->okDn (cB k v)/\gM (cB k v)<=gM v:=by
     intro k
     induction k with
     | zero=>intro v hv;exact⟨hv,Nat.le_refl _⟩
     | succ k ihk =>
      intro v hv
      rw[cB]
      split
      ·rename_i hdv
       obtain⟨-,a,b⟩:=xD hv hdv
       have:=ihk a
       exact⟨this.1,by omega⟩
      ·exact⟨hv,Nat.le_refl _⟩
    have k:=key n (v:=aZ (fO w) t) o
    exact⟨k.1,by have:=k.2;show gM (cB n (aZ (fO w) t))<=n;have e:gM (aZ (fO w) t)=gM (fO w):=rfl;omega⟩
   exact DK _ _ of'.1 (by omega) of'.2
  ·have e1:cB (n+1) (aZ w t)=aZ w t:=by rw[cB,if_neg hd]
   rw[e1];rfl
theorem Nn{w:aq}{t t':Int}(h:okDn w)(ht:t<=t'):bo (aZ (bo (aZ w t)) t')=bo (aZ w t'):=by
 have e1:bo (aZ w t)=cB (gM w) (aZ w t):=yV (w:=aZ w t) h (Nat.le_refl _)
 have e2:bo (aZ w t')=cB (gM w) (aZ w t'):=yV (w:=aZ w t') h (Nat.le_refl _)
 rw[e1,e2,← Lm ht (gM w) h (Nat.le_refl _)]
 have key:∀(k:Nat){v:aq},okDn v->okDn (cB k v)/\gM (cB k v)<=gM v:=by
  intro k
  induction k with
  | zero=>intro v hv;exact⟨hv,Nat.le_refl _⟩
  | succ k ihk =>
   intro v hv
   rw[cB]
   split
   ·rename_i hdv
    obtain⟨-,a,b⟩:=xD hv hdv
    have:=ihk a
    exact⟨this.1,by omega⟩
   ·exact⟨hv,Nat.le_refl _⟩
 have k:=key (gM w) (v:=aZ w t) h
 exact yV (w:=aZ (cB (gM w) (aZ w t)) t') k.1 k.2
theorem tQ:∀(n:Nat)(w:aq),(cB n w).1=w.1/\(cB n w).2.1=w.2.1/\(cB n w).2.2.1=w.2.2.1/\(cB n w).2.2.2.2.2=w.2.2.2.2.2
 | 0,w=>⟨rfl,rfl,rfl,rfl⟩
 | n+1,w=>by
  rw[cB]
  split
  ·have k:=tQ n (fO w)
   exact⟨k.1.trans rfl,k.2.1.trans rfl,k.2.2.1.trans rfl,k.2.2.2.trans rfl⟩
  ·exact⟨rfl,rfl,rfl,rfl⟩
theorem Aw(w:aq):am (bo w)=am w/\aT (bo w)=aT w:=⟨congrArg (fun x:List Int×List aK×List nG×List jx=>x.2.1) (tQ _ w).2.2.2,(tQ _ w).2.1⟩
theorem T5(w:aq)(l:List aK):fO (cH w l)=cH (fO w) l:=rfl
theorem J1(l:List aK):∀(n:Nat)(w:aq),cB n (cH w l)=cH (cB n w) l
 | 0,w=>rfl
 | n+1,w=>by
  rw[cB,cB]
  by_cases hd:jj w=true
  ·rw[if_pos hd,if_pos (show jj (cH w l)=true from hd),T5,J1 l n]
  ·rw[if_neg hd,if_neg (show ¬ jj (cH w l)=true from hd)]
theorem TR{w:aq}{t:Int}(h:okDn w)(ht:t<=ax ((am w).headD default)):cC (bo (aZ w t))=cC w:=by
 have e:=(Aw (aZ w t)).1
 have e:am (bo (aZ w t))=am w:=e
 unfold cC
 rw[e]
 congr 1
 have e1:cH (bo (aZ w t)) (am w).tail=bo (aZ (cH w (am w).tail) t):=(J1 _ _ _).symm
 rw[e1]
 exact Nn (w:=cH w (am w).tail) h ht
def cP(w:aq)(to:Int):aq:=fL (dr to (am w)) w to
theorem ab9{to:Int}:∀(n m:Nat){w:aq}{K:Int},bT w K->dr to (am w)<=n->dr to (am w)<=m->K+2*(dr to (am w))<=1099511627776->fL n w to=fL m w to:=by
 have stop:∀{w:aq},dr to (am w)=0->cK w to=false:=by
  intro w hw
  unfold cK
  cases e:am w with
  | nil=>rfl
  | cons f r =>
   rw[e,ma] at hw
   exact decide_eq_false (by omega)
 intro n
 induction n with
 | zero =>
  intro m w K h hn hm hK
  have hb:=stop (w:=w) (by omega)
  cases m with
  | zero=>rfl
  | succ m=>rw[fL,fL,if_neg (by rw[hb];simp)]
 | succ n ih =>
  intro m w K h hn hm hK
  cases m with
  | zero =>
   have hb:=stop (w:=w) (by omega)
   rw[fL,fL,if_neg (by rw[hb];simp)]
  | succ m =>
   rw[fL,fL]
   split
   ·rename_i hb
    unfold cK at hb
    cases e:am w with
    | nil=>rw[e] at hb;cases hb
    | cons f r =>
     rw[e] at hb
     have hb:=of_decide_eq_true hb
     have hpos:1<=dr to (am w):=by rw[e,ma];omega
     obtain⟨s1,-,-,s4⟩:=h.step (by omega) e
     have:=s4 to hb
     exact ih m s1 (by omega) (by omega) (by omega)
   ·rfl
theorem zq{w:aq}{to K:Int}(h:bT w K)(hK:K+2*(dr to (am w))<=1099511627776)(hb:cK w to=true) :
  cP w to=cP (cC w) to/\bT (cC w) (K+2)/\dr to (am (cC w))+1<=dr to (am w):=by
 have hb0:=hb
 unfold cK at hb
 cases e:am w with
 | nil=>rw[e] at hb;cases hb
 | cons f r =>
  rw[e] at hb
  have hb:=of_decide_eq_true hb
  have hpos:1<=dr to (am w):=by rw[e,ma];omega
  obtain⟨s1,-,-,s4⟩:=h.step (by omega) e
  have:=s4 to hb
  refine⟨?_,s1,by rw[← e];exact this⟩
  obtain⟨k,hk⟩:∃ k,dr to (am w)=k+1:=⟨dr to (am w)-1,by omega⟩
  have e1:cP w to=fL k (cC w) to:=by unfold cP;rw[hk,fL,if_pos hb0]
  rw[e1]
  exact ab9 _ _ s1 (by omega) (Nat.le_refl _) (by omega)
theorem yf{w:aq}{to:Int}(hb:cK w to=false):∀ n:Nat,fL n w to=w
 | 0=>rfl
 | n+1=>by rw[fL,if_neg (by rw[hb];simp)]
theorem Sw{w:aq}{a b:Int}(h:a<=b)(hb:cK w a=true):cK w b=true:=by
 unfold cK at hb ⊢
 cases e:am w with
 | nil=>rw[e] at hb;cases hb
 | cons f r =>
  rw[e] at hb
  have hb:=of_decide_eq_true hb
  exact decide_eq_true (by omega)
theorem M5{a b:Int}(h:a<=b):∀ l:List aK,dr a l<=dr b l
 | []=>Nat.le_refl _
 | f::r=>by rw[ma,ma];have:=M5 h r;omega
theorem aw0{a b:Int}(hab:a<=b):∀(n:Nat){w:aq}{K:Int},bT w K->dr a (am w)<=n->K+2*(dr b (am w))<=1099511627776 →
  cP (cP w a) b=cP w b/\(∃ K',bT (cP w a) K'∧K'+2*(dr b (am (cP w a)))<=1099511627776)/\cK (cP w a) a=false/\aT (cP w a)<=max (aT w) a:=by
 intro n
 induction n with
 | zero =>
  intro w K h hn hK
  have hb:cK w a=false:=by
   unfold cK
   cases e:am w with
   | nil=>rfl
   | cons f r =>
    rw[e,ma] at hn
    exact decide_eq_false (by omega)
  have e:cP w a=w:=yf hb _
  rw[e]
  exact⟨rfl,⟨K,h,hK⟩,hb,by omega⟩
 | succ n ih =>
  intro w K h hn hK
  by_cases hb:cK w a=true
  ·have l:=M5 hab (am w)
   obtain⟨r1,r2,r3⟩:=zq h (by omega) hb
   obtain⟨q1,q2,q3⟩:=zq h hK (Sw hab hb)
   have now:aT (cC w)<=a:=by
    unfold cK at hb
    cases e:am w with
    | nil=>rw[e] at hb;cases hb
    | cons f r =>
     rw[e] at hb
     have hb:=of_decide_eq_true hb
     have hpos:1<=dr a (am w):=by rw[e,ma];omega
     obtain⟨-,-,s3,-⟩:=h.step (by omega) e
     omega
   rw[r1,q1]
   obtain⟨i1,i2,i3,i4⟩:=ih r2 (by omega) (by omega)
   exact⟨i1,i2,i3,by omega⟩
  ·have hb:cK w a=false:=by simpa using hb
   have e:cP w a=w:=yf hb _
   rw[e]
   exact⟨rfl,⟨K,h,hK⟩,hb,by omega⟩
theorem bT.okDn{w:aq}{K:Int}(h:bT w K):okDn w:=⟨h.done.1,by have:=u6 h.net;omega⟩
theorem W2{w:aq}{a:Int}(hb:cK w a=false){b:Int}(hb2:cK w b=true):a<=ax ((am w).headD default):=by
 unfold cK at hb hb2
 cases e:am w with
 | nil=>rw[e] at hb2;cases hb2
 | cons f r =>
  rw[e] at hb
  have hb:=of_decide_eq_false hb
  show a<=ax f
  omega
theorem bT.wait{w:aq}{K a:Int}(h:bT w K)(hb:cK w a=false)(ha:0<=a/\a<=1125899906842624):bT (aZ w a) K:=by
 refine⟨h.net,ha,h.ord,h.done,h.len,h.st,h.cl,h.cr,h.fl,fun x hx=>?_,h.fn⟩
 have hx:x∈am w:=hx
 have k:=h.fo x hx
 refine⟨⟨?_,k.t.2⟩,k.o,k.nd,k.l,k.g,k.b,k.d⟩
 show a<=ax x
 have hp:=h.fl
 unfold cK at hb
 cases e:am w with
 | nil=>rw[e] at hx;cases hx
 | cons f r =>
  rw[e] at hb hx hp
  have hb:=of_decide_eq_false hb
  rcases List.mem_cons.1 hx with rfl|hx
  ·omega
  ·rcases (List.pairwise_cons.1 hp).1 x hx with q|q <;> omega
theorem UJ{w:aq}{K a b:Int}(h:bT w K)(ha:0<=a)(hab:a<=b)(hb:b<=1125899906842624)(hK:K+2*(dr b (am w))<=1099511627776):jv (jv w a) b=jv w b:=by
 obtain⟨t1,⟨K',t2,t3⟩,t4,-⟩:=aw0 hab _ h (Nat.le_refl _) hK
 have ea:jv w a=bo (aZ (cP w a) a):=rfl
 have eb:jv w b=bo (aZ (cP w b) b):=rfl
 rw[ea,eb,← t1]
 generalize cP w a=u at t2 t3 t4
 have hv:bT (bo (aZ u a)) K':=(t2.wait t4 ⟨ha,by omega⟩).change
 have fl:am (bo (aZ u a))=am u:=(Aw _).1
 have hbz:cK (bo (aZ u a)) b=cK u b:=by unfold cK;rw[fl]
 show bo (aZ (cP (bo (aZ u a)) b) b)=_
 by_cases hz:cK u b=true
 ·obtain⟨r1,-,-⟩:=zq t2 t3 hz
  obtain⟨q1,-,-⟩:=zq hv (by rw[fl];exact t3) (hbz.trans hz)
  rw[q1,r1,TR t2.okDn (W2 t4 hz)]
 ·have hz:cK u b=false:=by simpa using hz
  rw[show cP (bo (aZ u a)) b=bo (aZ u a) from yf (hbz.trans hz) _,show cP u b=u from yf hz _]
  exact Nn t2.okDn hab
end Go.RS

/- Sim4: a packet that is sent later changes nothing that happens before. -/
namespace Go.RS
open Go.SX Go.Proofs
set_option maxRecDepth 100000
set_option linter.unusedVariables false
def LY(f:aK):Int×Int×Int×Int×List Int:=(f.1,f.2.2)
def Lr(c:Int)(l l':List aK):Prop:=∃ (g:aK) (pre post:List aK),l'=pre++g::post/\(pre++post).map LY=l.map LY/\c<ax g/\(∀ y∈pre,ax y<=ax g)∧∀ y∈post,ax g<=ax y
theorem Lr.len{c:Int}{l l':List aK}(h:Lr c l l'):l'.length=l.length+1:=by
 obtain⟨g,pre,post,rfl,h1,-⟩:=h
 have:=congrArg List.length h1
 rw[List.length_map,List.length_map,List.length_append] at this
 rw[List.length_append,List.length_cons];omega
end Go.RS

/- Sim5: what holds of a network in operation however long it runs: no counter is spoken of. -/
namespace Go.RS
open Go.SX Go.Proofs
set_option maxRecDepth 100000
set_option linter.unusedVariables false
structure qq (n:bw) (now:Int) (f:aK):Prop where
 t:now<=ax f/\ax f<=1125899906842624
 nd:0<=aP f/\aP f<n.1.length
 l:dR f = -1∨dR f∈bv (n.1.getD (aP f).toNat default)
 b:bytes (da f)
 d:((da f).length:Int)<=2000
structure db (w:aq):Prop where
 net:d7 (ao w)=0
 now:0<=aT w/\aT w<=1125899906842624
 done:0<=bz w/\bz w<=(ao w).2.2.length
 len:(aM w).length=(ao w).1.length
 st:∀ i:Nat,i<(ao w).1.length->bn ((aM w).getD i default)=(c8 (ao w) (bz w).toNat).getD i default/\(jf ((aM w).getD i default)).length=(aC ((ao w).1.getD i default)).length
 cl:(bJ w).length=(ao w).2.1.length
 fl:(am w).Pairwise fun a b=>ax a<=ax b
 fo:∀ f∈am w,qq (ao w) (aT w) f
 fn:(am w).length<=4096
theorem bT.weak{w:aq}{K:Int}(h:bT w K):db w :=
 ⟨h.net,h.now,h.done,h.len,fun i hi=>⟨(h.st i hi).2,(h.st i hi).1.ps⟩,h.cl,h.fl.imp fun q=>by rcases q with q|q <;> omega,
  fun f hf=>by have k:=h.fo f hf;exact⟨k.t,k.nd,k.l,k.b,k.d⟩,h.fn⟩
theorem db.chk{w:aq}(h:db w){i:Nat}(hi:i<(ao w).1.length):dE (bn ((aM w).getD i default)) (bv ((ao w).1.getD i default))=0:=by
 rw[(h.st i hi).1]
 exact JM h.net _ (by have:=h.done;omega) i hi
theorem db.chg{w:aq}(h:db w)(hd:jj w=true):db (fO w):=by
 have hd0:=hd
 unfold jj at hd
 rw[Bool.and_eq_true,decide_eq_true_iff,decide_eq_true_iff] at hd
 have hk:(bz w).toNat<(ao w).2.2.length:=by have:=h.done;omega
 obtain⟨-,⟨w0,w1⟩,-⟩:=Ab h.net hk
 have sz:=u6 h.net
 have eD:bz (fO w)=bz w+1:=af (n:=bz w+1) (by have:=h.done;omega) (by have:=h.done;omega)
 have eN:ao (fO w)=ao w:=rfl
 have hwho:bu (gY w)=bu ((ao w).2.2.getD (bz w).toNat default):=rfl
 have hlt:(bu (gY w)).toNat<(ao w).1.length:=by omega
 have hst:=h.st _ hlt
 refine⟨h.net,h.now,by have:=h.done;rw[eD,eN];omega,?_,fun i hi=>?_,h.cl,h.fl,h.fo,h.fn⟩
 ·show ((aM w).set _ _).length=_
  rw[List.length_set];exact h.len
 ·have hi:i<(ao w).1.length:=hi
  rw[eD,eN,show (bz w+1).toNat=(bz w).toNat+1 by have:=h.done;omega,c8]
  show bn (((aM w).set (bu (gY w)).toNat _).getD i default)=_/\(jf (((aM w).set (bu (gY w)).toNat _).getD i default)).length=_
  by_cases e:(bu (gY w)).toNat=i
  ·subst e
   rw[iw (by rw[h.len];exact hlt),show ((ao w).2.2.getD (bz w).toNat default)=gY w from rfl,iw (by rw[oW];exact hlt),← hst.1]
   exact⟨rfl,hst.2⟩
  ·rw[kA e,show ((ao w).2.2.getD (bz w).toNat default)=gY w from rfl,kA e]
   exact h.st i hi
theorem zI:∀(n:Nat){w:aq},db w->db (cB n w)
 | 0,w,h=>h
 | n+1,w,h=>by
  rw[cB]
  split
  ·rename_i hd;exact zI n (h.chg hd)
  ·exact h
theorem Qk{l:List aK}{f:aK}(h:l.Pairwise fun a b=>ax a<=ax b):(c9 l f).Pairwise fun a b=>ax a<=ax b:=by
 induction l with
 | nil=>simp[c9]
 | cons x l ih =>
  obtain⟨a,b⟩:=List.pairwise_cons.1 h
  have ih:=ih b
  by_cases c:ax x<=ax f
  ·have e:c9 (x::l) f=x::c9 l f:=by
    unfold c9
    rw[List.takeWhile_cons_of_pos (by simpa using c),List.dropWhile_cons_of_pos (by simpa using c)];rfl
   rw[e]
   refine List.pairwise_cons.2 ⟨fun y hy=>?_,ih⟩
   rcases wB.1 hy with rfl|hy
   ·exact c
   ·exact a y hy
  ·have e:c9 (x::l) f=f::x::l:=by
    unfold c9
    rw[List.takeWhile_cons_of_neg (by simpa using c),List.dropWhile_cons_of_neg (by simpa using c)];rfl
   rw[e]
   refine List.pairwise_cons.2 ⟨fun y hy=>?_,h⟩
   rcases List.mem_cons.1 hy with rfl|hy
   ·omega
   ·have:=a y hy;omega
theorem db.crosses{w:aq}(h:db w){f:aK}{out:Int×List Int}(hf:0<=aP f/\aP f<(ao w).1.length)
  (hk:out.1∈bv ((ao w).1.getD (aP f).toNat default)) (hb:bytes out.2) (hl:(out.2.length:Int)<=2000):db (dB w f out):=by
 have hi:(aP f).toNat<(ao w).1.length:=by omega
 obtain⟨⟨k0,k1⟩,snd,o1,o2⟩:=tP h.net hi hk
 rw[show (((aP f).toNat:Nat):Int)=aP f by omega] at o1 o2
 have ov:=xl (w:=w) (k:=out.1) snd h.now
 have base:db (qX w ((bJ w).set out.1.toNat (IntKind.i64.wrap (j5 w out.1+1)))):=by
  refine⟨h.net,h.now,h.done,h.len,h.st,?_,h.fl,h.fo,h.fn⟩
  show ((bJ w).set _ _).length=_
  rw[List.length_set];exact h.cl
 unfold dB
 dsimp only
 split
 ·exact⟨base.net,base.now,base.done,base.len,base.st,base.cl,base.fl,base.fo,base.fn⟩
 split
 ·exact⟨base.net,base.now,base.done,base.len,base.st,base.cl,base.fl,base.fo,base.fn⟩
 rename_i q
 refine⟨base.net,base.now,base.done,base.len,base.st,base.cl,Qk h.fl,?_,?_⟩
 ·intro x hx
  have hx:x∈c9 (am w) (jd w out.1,aX w,fA (ao w).2.1 out.1 (aP f),out.1,dO f,out.2):=hx
  rcases wB.1 hx with rfl|hx
  ·exact⟨⟨by show aT w<=jd w out.1;omega,by show jd w out.1<=_;omega⟩,o1,.inr o2,hb,hl⟩
  ·exact h.fo x hx
 ·show (c9 (am w) _).length<=4096
  rw[Av];omega
theorem db.out{w:aq}(h:db w){f:aK}(hf:qq (ao w) (aT w) f) :
  PI ((ao w).1.getD (aP f).toNat default) ((aM w).getD (aP f).toNat default) (aL w f):=by
 have hi:(aP f).toNat<(ao w).1.length:=by have:=hf.nd;omega
 obtain⟨-,-,h3⟩:=uB (h.chk hi)
 exact Fr (lk:=dR f) (t:=ax f) (qR h.net hi) (fun r hr=>(h3 r hr).2) hf.b
theorem db.land{w:aq}(h:db w){f:aK}(hf:qq (ao w) (aT w) f):db (fu w f):=by
 have hi:(aP f).toNat<(ao w).1.length:=by have:=hf.nd;omega
 have O:=h.out hf
 have T:=(Mn ((ao w).1.getD (aP f).toNat default) ((aM w).getD (aP f).toNat default) (dR f) (ax f) (da f)).2.1
 have eH:aL w f=dK ((ao w).1.getD (aP f).toNat default) ((aM w).getD (aP f).toNat default) (dR f) (ax f) (da f):=rfl
 rw[← eH] at T
 have ha:db (fv w ((aM w).set (aP f).toNat (aL w f).1)):=by
  refine⟨h.net,h.now,h.done,?_,fun i hl=>?_,h.cl,h.fl,h.fo,h.fn⟩
  ·show ((aM w).set _ _).length=_
   rw[List.length_set];exact h.len
  ·have hl:i<(ao w).1.length:=hl
   show bn (((aM w).set (aP f).toNat (aL w f).1).getD i default)=_/\(jf (((aM w).set (aP f).toNat (aL w f).1).getD i default)).length=_
   by_cases e:(aP f).toNat=i
   ·subst e
    rw[iw (by rw[h.len];exact hi)]
    exact⟨O.rt.trans (h.st _ hi).1,T.trans (h.st _ hi).2⟩
   ·rw[kA e]
    exact h.st i hl
 unfold fu
 dsimp only
 have key:∀ B:aq,db B->ao B=ao w->db (if 0<(aL w f).2.1.2.length then dB B f (aL w f).2.1 else B):=by
  intro B hB b1
  split
  ·rename_i hp
   have hr:(aL w f).2.2=0∨(aL w f).2.2=2:=by
    by_cases z0:(aL w f).2.2=0
    ·exact .inl z0
    by_cases z2:(aL w f).2.2=2
    ·exact .inr z2
    ·have:=O.none z0 z2
     rw[this] at hp
     exact absurd hp (by simp[gq])
   obtain⟨p1,p2,p3⟩:=O.some hr
   exact hB.crosses (by rw[b1];exact hf.nd) (by rw[b1];exact wE h.net hi p3) O.byt (by omega)
  ·exact hB
 apply key
 ·split <;> (split <;> exact⟨ha.net,ha.now,ha.done,ha.len,ha.st,ha.cl,ha.fl,ha.fo,ha.fn⟩)
 ·split <;> (split <;> rfl)
theorem WN{w:aq}(h:db w){f:aK}(hf:qq (ao w) (aT w) f):ao (fu w f)=ao w/\aT (fu w f)=aT w ∧
  (am (fu w f)=am w∨∃ g,aT w+1<=ax g/\am (fu w f)=c9 (am w) g):=by
 have hi:(aP f).toNat<(ao w).1.length:=by have:=hf.nd;omega
 have O:=h.out hf
 unfold fu
 dsimp only
 have key:∀ B:aq,ao B=ao w->aT B=aT w->am B=am w →
   (ao (if 0<(aL w f).2.1.2.length then dB B f (aL w f).2.1 else B)=ao w/\aT (if 0<(aL w f).2.1.2.length then dB B f (aL w f).2.1 else B)=aT w ∧
    (am (if 0<(aL w f).2.1.2.length then dB B f (aL w f).2.1 else B)=am w∨∃ g,aT w+1<=ax g/\am (if 0<(aL w f).2.1.2.length then dB B f (aL w f).2.1 else B)=c9 (am w) g)):=by
  intro B b1 b2 b3
  split
  ·rename_i hp
   obtain⟨c1,c2,c3⟩:=Lv B f (aL w f).2.1
   refine⟨c1.trans b1,c2.trans b2,?_⟩
   rcases c3 with c3|⟨g,g1,g2⟩
   ·exact .inl (c3.trans b3)
   ·have hr:(aL w f).2.2=0∨(aL w f).2.2=2:=by
     by_cases z0:(aL w f).2.2=0
     ·exact .inl z0
     by_cases z2:(aL w f).2.2=2
     ·exact .inr z2
     ·have:=O.none z0 z2
      rw[this] at hp
      exact absurd hp (by simp[gq])
    obtain⟨-,snd,-⟩:=tP h.net hi (wE h.net hi (O.some hr).2.2)
    have ov:=xl (w:=B) (k:=(aL w f).2.1.1) (by unfold cO;rw[b1];exact snd) (by rw[b2];exact h.now)
    exact .inr ⟨g,by rw[g1,← b2];exact ov.1,by rw[g2,b3]⟩
  ·exact⟨b1,b2,.inl b3⟩
 apply key
 all_goals (split <;> (split <;> rfl))
theorem db.step{w:aq}(h:db w){f:aK}{r:List aK}(e:am w=f::r) :
  db (cC w)/\ao (cC w)=ao w/\aT (cC w)=ax f∧∀ to,ax f<=to->dr to (am (cC w))+1<=dr to (am w):=by
 have hp:=h.fl
 rw[e] at hp
 obtain⟨p1,p2⟩:=List.pairwise_cons.1 hp
 have hf:=h.fo f (by rw[e];exact List.mem_cons_self)
 have hb:db (aZ (cH w r) (ax f)):=by
  refine⟨h.net,⟨by show 0<=ax f;have:=h.now;have:=hf.t;omega,hf.t.2⟩,h.done,h.len,h.st,h.cl,p2,fun x hx=>?_,?_⟩
  ·have hx:x∈r:=hx
   have k:=h.fo x (by rw[e];exact List.mem_cons_of_mem _ hx)
   exact⟨⟨p1 x hx,k.t.2⟩,k.nd,k.l,k.b,k.d⟩
  ·show r.length<=4096
   have:=h.fn
   rw[e,List.length_cons] at this;omega
 have es:cC w=fu (bo (aZ (cH w r) (ax f))) f:=by unfold cC;rw[e];rfl
 have c1:db (bo (aZ (cH w r) (ax f))):=zI _ hb
 have c2:=tQ ((ao w).2.2.length-(bz w).toNat) (aZ (cH w r) (ax f))
 have n1:ao (bo (aZ (cH w r) (ax f)))=ao w:=c2.1
 have n2:aT (bo (aZ (cH w r) (ax f)))=ax f:=c2.2.1
 have n4:am (bo (aZ (cH w r) (ax f)))=r:=(Aw _).1
 generalize bo (aZ (cH w r) (ax f))=v at c1 n1 n2 n4 es
 have hfv:qq (ao v) (aT v) f:=by
  rw[n1,n2]
  exact⟨⟨Int.le_refl _,hf.t.2⟩,hf.nd,hf.l,hf.b,hf.d⟩
 have L:=WN c1 hfv
 rw[es]
 refine⟨c1.land hfv,L.1.trans n1,L.2.1.trans n2,fun to hto=>?_⟩
 rw[e,ma]
 rcases L.2.2 with q|⟨g,g1,g2⟩
 ·rw[q,n4];omega
 ·rw[g2,n4,Kq]
  rw[n2] at g1
  omega
end Go.RS

/- Sim6: what is not answered stays so. -/
namespace Go.RS
open Go.SX Go.Proofs
set_option maxRecDepth 100000
set_option linter.unusedVariables false
theorem OV{b:List Int}(hb:bytes b)(h:gg b=0):bP (gQ b)=wb (bP b)/\bV (gQ b)=0/\(gQ b).drop 20=b.drop 20:=by
 have hd:bV b=0:=Classical.byContradiction fun k=>by rw[gg,if_pos k] at h;exact k h
 have ht:¬ (bP b).2.2.1<2:=fun k=>by rw[gg,if_neg (fun q=>q hd),if_pos k] at h;cases h
 obtain⟨⟨h1,⟨h2,h2'⟩,h3,h4,h5⟩,l1,l2⟩:=ww hb hd
 have hk:iX (wb (bP b)):=⟨h1,⟨by show 0<=(bP b).2.2.1-1;omega,by show (bP b).2.2.1-1<=255;omega⟩,h3,h4,h5⟩
 have hl:((b.drop 20).length:Int)<=1480:=by rw[List.length_drop];omega
 have e:de (wb (bP b),b.drop 20)=0:=by
  rw[de,if_neg (by rw[Decidable.not_not];exact hk),if_neg (by simp only;omega)]
 rw[gQ,if_pos h,cS,if_pos e]
 exact CS hk (rT hb 12) (rT hb 16) hl (rQ hb)
theorem Z4{b:List Int}(hb:bytes b)(hn:¬ cq b):¬ cq (if gg b=0 then gQ b else b):=by
 split
 ·rename_i h
  obtain⟨e1,e2,e3⟩:=OV hb h
  have hd:bV b=0:=Classical.byContradiction fun k=>by rw[gg,if_pos k] at h;exact k h
  rintro⟨-,k⟩
  apply hn
  refine⟨hd,?_⟩
  rw[aW,if_pos e2,e1,e3] at k
  rw[aW,if_pos hd]
  exact k
 ·exact hn
theorem Fx{b:List Int}{f kind code id ttl:Int}(hb:bytes b)(hf:u32 f)(h:fq b kind code id ttl=0):¬ cq (gA b f kind code id ttl):=by
 have hg:oY kind code id ttl:=Classical.byContradiction fun k=>by rw[fq,if_pos k] at h;cases h
 have ha:cq b:=Classical.byContradiction fun k=>by rw[fq,if_neg (fun q=>q hg),if_neg k] at h;cases h
 obtain⟨-,e,en,ei⟩:=Bg (src:=f) hg ha
 have hk:=hg.1
 rw[e]
 obtain⟨s1,s2,s3,s4⟩:=wc (src:=f) (dst:=bQ b) (proto:=1) (data:=fW (kind,code,b.take 28)) hg.2.2 (by omega) hf (rT hb 12) (Dh _) (Fm en (zi hb))
 intro k
 have hp1:cW (cS (f8 f (bQ b) 1 id ttl (fW (kind,code,b.take 28))))=1:=by rw[cW,s2]
 have:=(nu k).2.2.1 hp1
 rw[s3,(Kk en).1] at this
 simp only at this
 omega
theorem Zf{b:List Int}{f id ttl:Int}(hb:bytes b)(hf:u32 f)(h:fc b id ttl=0):¬ cq (gk b f id ttl):=by
 have hn:f5 id ttl:=Classical.byContradiction fun k=>by rw[fc,if_pos k] at h;cases h
 have hg:pC b:=Classical.byContradiction fun k=>by rw[fc,if_neg (fun q=>q hn),if_neg k] at h;cases h
 obtain⟨-,l1,l2⟩:=ww hb hg.1.1
 have hd:=rQ (n:=20) hb
 rcases hg with⟨ha,⟨g1,g2⟩|⟨g1,g2⟩|⟨g1,g2,g3,g4⟩⟩
 ·rw[(A6 (src:=f) hn ha g1 g2).1]
  have hE:((dj (true,(dW (b.drop 20)).2)).length:Int)<=1480/\bytes (dj (true,(dW (b.drop 20)).2)):=by
   have e:(dW (b.drop 20)).2.2.2=(b.drop 20).drop 8:=by unfold dW;rw[if_pos g2]
   refine M4 ?_ ?_
   ·show bytes (dW (b.drop 20)).2.2.2
    rw[e];exact rQ hd
   ·show ((dW (b.drop 20)).2.2.2.length:Int)<=1472
    rw[e];simp only[List.length_drop];omega
  obtain⟨s1,s2,s3,s4⟩:=wc (src:=f) (dst:=bQ b) (proto:=1) hn (by omega) hf (rT hb 12) hE.1 hE.2
  intro k
  have h8:=(nu k).2.2.1 (by rw[cW,s2])
  have h28:=(nu k).2.1
  rw[s3] at h8
  rw[s4] at h28
  unfold dj at h8 h28
  split at h8
  ·have:(bI (bK (true,(dW (b.drop 20)).2)) 2 (cf (bK (true,(dW (b.drop 20)).2)))).getD 0 default=0:=rfl
   rw[this] at h8;cases h8
  ·rename_i z
   rw[if_neg z] at h28;simp at h28
 ·rw[(Bu (src:=f) hn ha g1 g2).1]
  exact Fx hb hf (ET hn ha)
 ·rw[(Ad (src:=f) hn ha g1 g2 g3 g4).1]
  have hE:((dq f (bQ b) (jl (dI (bQ b) (eV b) (b.drop 20)))).length:Int)<=1480/\bytes (dq f (bQ b) (jl (dI (bQ b) (eV b) (b.drop 20)))):=JE rfl
  obtain⟨s1,s2,s3,s4⟩:=wc (src:=f) (dst:=bQ b) (proto:=6) hn (by omega) hf (rT hb 12) hE.1 hE.2
  intro k
  have h28:=(nu k).2.1
  rw[s4] at h28
  unfold dq at h28
  split at h28
  ·rename_i z
   have hfl:=(nu k).2.2.2.1 (by rw[cW,s2])
   rw[s3] at hfl
   unfold dq at hfl
   rw[if_pos z] at hfl
   have h13:(bI (ix (jl (dI (bQ b) (eV b) (b.drop 20)))) 16 (dA f (bQ b) 6 (ix (jl (dI (bQ b) (eV b) (b.drop 20)))))).getD 13 default=20:=rfl
   rw[h13,j6,vx] at hfl
   have:=hfl (by show 14<=20+_;omega)
   exact absurd this (by decide)
  ·simp at h28
theorem Yc{x:ac}{lk L:Int}(N:nq x)(A:oV x)(hL:0<=cL x L):u32 (jn x (bp x lk) L):=by
 have l1:cL x L<(aC x).length:=(rz hL).1
 unfold jn
 split
 ·exact (A7 A hL l1).1
 split
 ·exact A.2.1
 split
 ·exact A.2.2
 ·exact (A7 A (Bk x lk) (ax5 N lk)).1
theorem ac4{ki:Int}{w:cE}{f id:Int}(hb:bytes w.2.2.2.2.1)(hf:u32 f)(hn:f5 id (gJ w.1))(h:kE ki w 0=0):¬ cq (kB ki w f id):=by
 have ha:=C5 h
 unfold kB
 split
 ·exact Fx hb hf (by rw[fq,if_neg (fun k=>k ⟨.inl rfl,by omega,hn⟩),if_pos ha])
 split
 ·exact Fx hb hf (by rw[fq,if_neg (fun k=>k ⟨.inr rfl,by omega,hn⟩),if_pos ha])
 ·rename_i k2 k3
  have h:fc w.2.2.2.2.1 0 (gJ w.1)=0:=by
   unfold kE at h
   rw[if_neg k2,if_neg k3] at h;exact h
  have hg:pC w.2.2.2.2.1:=Classical.byContradiction fun q=>by
   rw[fc] at h
   split at h
   ·cases h
   ·cases h
  exact Zf hb hf (yC hn hg)
theorem P2{x:ac}{s:bt}{lk t:Int}{b:List Int}(N:nq x)(A:oV x)(hrt:∀ r∈bn s,jZ r (bv x))(hb:bytes b) :
  ((dK x s lk t b).2.2=2->cq b∧¬ cq (dK x s lk t b).2.1.2)/\((dK x s lk t b).2.2=0→¬ cq b→¬ cq (dK x s lk t b).2.1.2):=by
 constructor
 ·intro h2
  have hbo:cq b:=Classical.byContradiction fun k=>Zw k h2
  refine⟨hbo,?_⟩
  obtain⟨ki,e,hk⟩:=Gm h2
  rw[e] at h2 ⊢
  obtain⟨w,hw⟩:∃ w,w=Br x s lk t b:=⟨_,rfl⟩
  rw[← hw] at h2 ⊢
  obtain⟨a1,a2,a3⟩:=Fl h2
  have w1:w.1=x:=by rw[hw];rfl
  have w2:w.2.1=s:=by rw[hw];rfl
  have w3:w.2.2.1=lk:=by rw[hw];rfl
  have w5:w.2.2.2.2.1=b:=by rw[hw];rfl
  have w6:w.2.2.2.2.2=bP b:=by
   have:w.2.2.2.2.2=(aW b).1:=by rw[hw];rfl
   rw[this,aW,if_pos hbo.1]
  have hn:=NR (w:=w) (by rw[w1];exact N.id) (by rw[w1];exact N.form) (by rw[w6];exact rk hb 4)
  have hL:0<=cL x (iK (kB ki w) w):=by
   have:=Cl hrt (a:=j7 w.2.2.2.2.2) (by rw[← w2];exact a2) (ij w) (fw (kB ki w (adr w.1 (bp w.1 w.2.2.1)) 0))
   unfold iK gV
   rw[w1,w2]
   rw[w1] at this
   exact this
  have hf:u32 (ib (kB ki w) w (mA ki w)):=by
   unfold ib
   split
   ·rw[w1,w3];exact Yc N A hL
   ·rename_i k
    unfold mA at k ⊢
    split
    ·rw[w6];exact rT hb 16
    ·rename_i z;rw[if_neg z] at k;exact absurd rfl k
  have ho:(pm w ki).2.1.2=kB ki w (ib (kB ki w) w (mA ki w)) (fI w):=congrArg (fun r:lw=>r.2.1.2) a3
  rw[ho]
  exact ac4 (by rw[w5];exact hb) hf hn a1
 ·intro h0 hno
  have F:=Gw h0
  rw[EF (t:=t) F]
  show ¬ cq (if lk ≠ -1/\dC x=false then gQ b else b)
  split
  ·rename_i k
   have ht:=F.ttl
   have e1:(aW b).1=bP b:=by rw[aW,if_pos F.dec]
   rw[e1] at ht
   have hl:gg b=0:=by
    rw[gg,if_neg (fun q=>q F.dec)]
    exact if_neg (fun q=>ht ⟨k.1,k.2,q⟩)
   have:=Z4 hb hno
   rwa [if_pos hl] at this
  ·exact hno
end Go.RS

/- Sim7: every packet ends once, and every answer too. -/
namespace Go.RS
open Go.SX Go.Proofs
set_option maxRecDepth 100000
set_option linter.unusedVariables false
def uc(e:jx):Int:=e.1
def xr(e:jx):Int:=e.2.1
def sR(e:jx):Int:=e.2.2.2.2
def tR(fl:List aK)(en:List jx):Prop :=
 (∃ f,fl=[f]/\en=[])∨(∃ f e,fl=[f]/\en=[e]/\sR e=2/\xr e<=ax f∧¬ cq (da f)) ∨
  (fl=[]∧∃ e,en=[e]/\sR e≠2)∨(fl=[]∧∃ a e,en=[a,e]/\sR a=2/\sR e≠2/\xr a<=xr e)
def je(o:Int)(l:List aK):List aK:=l.filter fun f=>decide (dO f=o)
def kO(o:Int)(l:List jx):List jx:=l.filter fun e=>decide (uc e=o)
theorem IY{o:Int}{l:List aK}{g:aK}(h:dO g≠o):je o (c9 l g)=je o l:=by
 unfold je c9
 rw[List.filter_append,List.filter_cons_of_neg (by simpa using h),← List.filter_append,List.takeWhile_append_dropWhile]
theorem Aj{o:Int}{l:List aK}{g:aK}(h:dO g=o)(hl:je o l=[]):je o (c9 l g)=[g]:=by
 unfold je at hl ⊢
 rw[← List.takeWhile_append_dropWhile (p:=fun x=>decide (ax x<=ax g)) (l:=l),List.filter_append] at hl
 obtain⟨h1,h2⟩:=List.append_eq_nil_iff.1 hl
 unfold c9
 rw[List.filter_append,List.filter_cons_of_pos (by simpa using h),h1,h2];rfl
theorem Oz(w:aq)(f:aK)(out:Int×List Int) :
  (∃ why,(why=3∨why=7)/\aQ (dB w f out)=aQ w++[(dO f,ax f,aP f,out.1,why)]/\am (dB w f out)=am w) ∨
   (∃ g,dO g=dO f/\da g=out.2/\ax g=jd w out.1/\aQ (dB w f out)=aQ w/\am (dB w f out)=c9 (am w) g):=by
 unfold dB
 dsimp only
 split
 ·exact .inl ⟨3,.inl rfl,rfl,rfl⟩
 split
 ·exact .inl ⟨7,.inr rfl,rfl,rfl⟩
 ·exact .inr ⟨(jd w out.1,aX w,fA (ao w).2.1 out.1 (aP f),out.1,dO f,out.2),rfl,rfl,rfl,rfl,rfl⟩
structure ED (v:aq) (f:aK) (w:aq):Prop where
 a:∃ es:List jx,(∀ e∈es,uc e=dO f/\xr e=ax f)/\aQ w=aQ v++es ∧
  ((am w=am v/\((∃ e,es=[e]/\sR e≠2)∨(cq (da f)∧∃ a e,es=[a,e]/\sR a=2/\sR e≠2))) ∨
    ∃ g,dO g=dO f/\ax f<=ax g/\am w=c9 (am v) g/\((es=[]/\(¬ cq (da f)→¬ cq (da g)))∨(cq (da f)∧∃ a,es=[a]/\sR a=2∧¬ cq (da g))))
theorem lands{v:aq}(h:db v){f:aK}(hf:qq (ao v) (aT v) f)(ht:ax f=aT v)(A:∀ i:Nat,i<(ao v).1.length->oV ((ao v).1.getD i default)):ED v f (fu v f):=by
 have hi:(aP f).toNat<(ao v).1.length:=by have:=hf.nd;omega
 have N:=qR h.net hi
 have O:=h.out hf
 obtain⟨-,-,h3⟩:=uB (h.chk hi)
 have Z:=P2 (lk:=dR f) (t:=ax f) N (A _ hi) (fun r hr=>(h3 r hr).2) hf.b
 have eH:aL v f=dK ((ao v).1.getD (aP f).toNat default) ((aM v).getD (aP f).toNat default) (dR f) (ax f) (da f):=rfl
 rw[← eH] at Z
 have ov:0<(aL v f).2.1.2.length→∀ B:aq,ao B=ao v->aT B=aT v->ax f<=jd B (aL v f).2.1.1:=by
  intro hp B b1 b2
  have hr:(aL v f).2.2=0∨(aL v f).2.2=2:=by
   by_cases z0:(aL v f).2.2=0
   ·exact .inl z0
   by_cases z2:(aL v f).2.2=2
   ·exact .inr z2
   ·have:=O.none z0 z2
    rw[this] at hp
    exact absurd hp (by simp[gq])
  obtain⟨-,snd,-⟩:=tP h.net hi (wE h.net hi (O.some hr).2.2)
  have:=xl (w:=B) (k:=(aL v f).2.1.1) (by unfold cO;rw[b1];exact snd) (by rw[b2];exact h.now)
  omega
 unfold fu
 dsimp only
 generalize hb:(if (aL v f).2.2=1 then qW (fv v ((aM v).set (aP f).toNat (aL v f).1)) (aO (fv v ((aM v).set (aP f).toNat (aL v f).1))++[(ax f,aP f,da f)]) else fv v ((aM v).set (aP f).toNat (aL v f).1))=B
 have eB:ao B=ao v/\aT B=aT v/\am B=am v/\aQ B=aQ v:=by rw[← hb];split <;> exact⟨rfl,rfl,rfl,rfl⟩
 clear hb
 obtain⟨b1,b2,b3,b4⟩:=eB
 by_cases z0:(aL v f).2.2=0
 ·have hp:=(O.some (.inl z0)).1
  rw[if_pos hp,if_neg (show ¬ (aL v f).2.2≠0 from fun k=>k z0)]
  rcases Oz B f (aL v f).2.1 with⟨why,hw,e1,e2⟩|⟨g,g1,g2,g3,g4,g5⟩
  ·refine⟨⟨_,?_,by rw[e1,b4],.inl ⟨by rw[e2,b3],.inl ⟨_,rfl,?_⟩⟩⟩⟩
   ·intro e he;rw[List.mem_singleton.1 he];exact⟨rfl,rfl⟩
   ·show why≠2;omega
  ·exact⟨⟨[],fun e he=>(by cases he),by rw[g4,b4];simp,.inr ⟨g,g1,by rw[g3];exact ov hp B b1 b2,by rw[g5,b3],.inl ⟨rfl,fun k=>by rw[g2];exact Z.2 z0 k⟩⟩⟩⟩
 rw[if_pos z0]
 by_cases z2:(aL v f).2.2=2
 ·have hp:=(O.some (.inr z2)).1
  rw[if_pos hp]
  have zz:=Z.1 z2
  rcases Oz (kF B f (dR f) (aL v f).2.2) f (aL v f).2.1 with⟨why,hw,e1,e2⟩|⟨g,g1,g2,g3,g4,g5⟩
  ·refine⟨⟨[(dO f,ax f,aP f,dR f,(aL v f).2.2),(dO f,ax f,aP f,(aL v f).2.1.1,why)],?_,?_,.inl ⟨?_,.inr ⟨zz.1,_,_,rfl,z2,?_⟩⟩⟩⟩
   ·intro e he
    rcases List.mem_cons.1 he with rfl|he
    ·exact⟨rfl,rfl⟩
    ·rw[List.mem_singleton.1 he];exact⟨rfl,rfl⟩
   ·rw[e1]
    show (aQ B++[_])++[_]=_
    rw[b4,List.append_assoc];rfl
   ·rw[e2];exact b3
   ·show why≠2;omega
  ·refine⟨⟨[(dO f,ax f,aP f,dR f,(aL v f).2.2)],?_,?_,.inr ⟨g,g1,?_,?_,.inr ⟨zz.1,_,rfl,z2,by rw[g2];exact zz.2⟩⟩⟩⟩
   ·intro e he;rw[List.mem_singleton.1 he];exact⟨rfl,rfl⟩
   ·rw[g4]
    show aQ B++[_]=_
    rw[b4]
   ·rw[g3];exact ov hp _ b1 b2
   ·rw[g5]
    show c9 (am B) g=_
    rw[b3]
 ·have hn:=O.none z0 z2
  have hp:¬ 0<(aL v f).2.1.2.length:=by rw[hn];simp[gq]
  rw[if_neg hp]
  refine⟨⟨[(dO f,ax f,aP f,dR f,(aL v f).2.2)],?_,?_,.inl ⟨b3,.inl ⟨_,rfl,z2⟩⟩⟩⟩
  ·intro e he;rw[List.mem_singleton.1 he];exact⟨rfl,rfl⟩
  ·show aQ B++[_]=_
   rw[b4]
theorem KA(o:Int)(l m:List jx):kO o (l++m)=kO o l++kO o m:=List.filter_append ..
theorem VY{o:Int}{es:List jx}(h:∀ e∈es,uc e=o):kO o es=es:=List.filter_eq_self.2 fun e he=>decide_eq_true (h e he)
theorem K6{o:Int}{es:List jx}(h:∀ e∈es,uc e≠o):kO o es=[]:=List.filter_eq_nil_iff.2 fun e he=>by simpa using h e he
theorem Rb{v w:aq}{f:aK}{o:Int}(L:ED v f w)(h:tR (je o (f::am v)) (kO o (aQ v))):tR (je o (am w)) (kO o (aQ w)):=by
 obtain⟨es,h1,h2,h3⟩:=L.a
 by_cases ho:dO f=o
 ·have ef:je o (f::am v)=f::je o (am v):=List.filter_cons_of_pos (by simpa using ho)
  rw[ef] at h
  have ees:kO o es=es:=VY fun e he=>(h1 e he).1.trans ho
  rw[h2,KA,ees]
  rcases h with⟨f',q1,q2⟩|⟨f',e0,q1,q2,q3,q4,q5⟩|⟨q1,-⟩|⟨q1,-⟩
  ·rw[List.cons.injEq] at q1
   obtain⟨rfl,q1⟩:=q1
   rw[q2,List.nil_append]
   rcases h3 with⟨k1,⟨e,rfl,k2⟩|⟨-,a,e,rfl,k2,k3⟩⟩|⟨g,g1,g2,g3,⟨rfl,-⟩|⟨-,a,rfl,k2,k3⟩⟩
   ·exact .inr (.inr (.inl ⟨by rw[k1];exact q1,e,rfl,k2⟩))
   ·refine .inr (.inr (.inr ⟨by rw[k1];exact q1,a,e,rfl,k2,k3,?_⟩))
    rw[(h1 a (by simp)).2,(h1 e (by simp)).2];exact Int.le_refl _
   ·exact .inl ⟨g,by rw[g3];exact Aj (g1.trans ho) q1,rfl⟩
   ·refine .inr (.inl ⟨g,a,by rw[g3];exact Aj (g1.trans ho) q1,rfl,k2,?_,k3⟩)
    rw[(h1 a (by simp)).2];exact g2
  ·rw[List.cons.injEq] at q1
   obtain⟨rfl,q1⟩:=q1
   rw[q2]
   rcases h3 with⟨k1,⟨e,rfl,k2⟩|⟨k0,-⟩⟩|⟨g,g1,g2,g3,⟨rfl,k2⟩|⟨k0,-⟩⟩
   ·refine .inr (.inr (.inr ⟨by rw[k1];exact q1,e0,e,rfl,q3,k2,?_⟩))
    rw[(h1 e (by simp)).2];exact q4
   ·exact absurd k0 q5
   ·exact .inr (.inl ⟨g,e0,by rw[g3];exact Aj (g1.trans ho) q1,by simp,q3,by omega,k2 q5⟩)
   ·exact absurd k0 q5
  ·cases q1
  ·cases q1
 ·have ef:je o (f::am v)=je o (am v):=List.filter_cons_of_neg (by simpa using ho)
  rw[ef] at h
  have ees:kO o es=[]:=K6 fun e he=>by rw[(h1 e he).1];exact ho
  have efl:je o (am w)=je o (am v):=by
   rcases h3 with⟨k1,-⟩|⟨g,g1,-,g3,-⟩
   ·rw[k1]
   ·rw[g3];exact IY (by rw[g1];exact ho)
  rw[h2,KA,ees,List.append_nil,efl]
  exact h
theorem Tv(w:aq):aQ (bo w)=aQ w:=by
 have k:=(tQ ((ao w).2.2.length-(bz w).toNat) w).2.2.2
 exact congrArg (fun x:List Int×List aK×List nG×List jx=>x.2.2.2) k
theorem Rl{w:aq}(h:db w)(A:∀ i:Nat,i<(ao w).1.length->oV ((ao w).1.getD i default)){f:aK}{r:List aK}(e:am w=f::r){o:Int}(ho:tR (je o (am w)) (kO o (aQ w))) :
  tR (je o (am (cC w))) (kO o (aQ (cC w))):=by
 have hp:=h.fl
 rw[e] at hp ho
 obtain⟨p1,p2⟩:=List.pairwise_cons.1 hp
 have hf:=h.fo f (by rw[e];exact List.mem_cons_self)
 have hb:db (aZ (cH w r) (ax f)):=by
  refine⟨h.net,⟨by show 0<=ax f;have:=h.now;have:=hf.t;omega,hf.t.2⟩,h.done,h.len,h.st,h.cl,p2,fun x hx=>?_,?_⟩
  ·have hx:x∈r:=hx
   have k:=h.fo x (by rw[e];exact List.mem_cons_of_mem _ hx)
   exact⟨⟨p1 x hx,k.t.2⟩,k.nd,k.l,k.b,k.d⟩
  ·show r.length<=4096
   have:=h.fn
   rw[e,List.length_cons] at this;omega
 have es:cC w=fu (bo (aZ (cH w r) (ax f))) f:=by unfold cC;rw[e];rfl
 have c1:db (bo (aZ (cH w r) (ax f))):=zI _ hb
 have c2:=tQ ((ao w).2.2.length-(bz w).toNat) (aZ (cH w r) (ax f))
 have n1:ao (bo (aZ (cH w r) (ax f)))=ao w:=c2.1
 have n2:aT (bo (aZ (cH w r) (ax f)))=ax f:=c2.2.1
 have n4:am (bo (aZ (cH w r) (ax f)))=r:=(Aw _).1
 have n5:aQ (bo (aZ (cH w r) (ax f)))=aQ w:=Tv _
 generalize bo (aZ (cH w r) (ax f))=v at c1 n1 n2 n4 n5 es
 have hfv:qq (ao v) (aT v) f:=by
  rw[n1,n2]
  exact⟨⟨Int.le_refl _,hf.t.2⟩,hf.nd,hf.l,hf.b,hf.d⟩
 rw[es]
 refine Rb (lands c1 hfv n2.symm (fun i hi=>?_)) (by rw[n4,n5];exact ho)
 rw[n1] at hi ⊢
 exact A i hi
end Go.RS

/- Sim8: sending; a network that begins. -/
namespace Go.RS
open Go.SX Go.Proofs
set_option maxRecDepth 100000
set_option linter.unusedVariables false
def iY(w:aq)(at' who:Int)(b:List Int):aq:=wD w (at',0,who,-1,aX w,b)
theorem bT.send{w:aq}{K:Int}(h:bT w K)(hK:K<=2199023255552){at' who:Int}{b:List Int}(ha:aT w<=at'∧at'<=1125899906842624)(hw:0<=who/\who<(ao w).1.length)(hb:bytes b)(hl:(b.length:Int)<=2000)
  (hf:(am w).length<4096):bT (iY w at' who b) (K+1)/\aX (iY w at' who b)=aX w+1:=by
 have hord:=h.ord
 have ew:IntKind.i64.wrap (aX w+1)=aX w+1:=af (by omega) (by omega)
 have eo:aX (iY w at' who b)=aX w+1:=ew
 have h':=h.more (K':=K+1) (by omega)
 refine⟨⟨h'.net,h'.now,by rw[eo];omega,h'.done,h'.len,h'.st,h'.cl,h'.cr,?_,?_,?_⟩,eo⟩
 ·exact N2 h.fl fun x hx=>(h.fo x hx).o.2
 ·intro x hx
  have hx:x∈c9 (am w) (at',aX w,who,-1,aX w,b):=hx
  show rf (ao w) (aT w) (aX (iY w at' who b)) x
  rw[eo]
  rcases wB.1 hx with rfl|hx
  ·exact⟨ha,⟨by show 0<=aX w;omega,by show aX w<aX w+1;omega⟩,hw,.inl rfl,⟨by show 0<=aX w;omega,by show aX w<aX w+1;omega⟩,hb,hl⟩
  ·have k:=h.fo x hx
   exact⟨k.t,⟨k.o.1,by have:=k.o.2;omega⟩,k.nd,k.l,⟨k.g.1,by have:=k.g.2;omega⟩,k.b,k.d⟩
 ·show (c9 (am w) _).length<=4096
  rw[Av];omega
def jo(n:bw):aq:=(n,0,0,0,n.1.map lm,List.replicate n.2.1.length 0,[],[],[])
theorem bT.new{n:bw}(h:d7 n=0):bT (jo n) 0:=by
 refine⟨h,⟨by show (0:Int)<=0;omega,by show (0:Int)<=_;omega⟩,⟨by show (0:Int)<=0;omega,by show (0:Int)<=0;omega⟩,⟨by show (0:Int)<=0;omega,by show (0:Int)<=_;omega⟩,?_,fun i hi=>?_,?_,fun c hc=>?_,List.Pairwise.nil,fun f hf=>(by cases hf),by show (0:Nat)<=4096;omega⟩
 ·show (n.1.map lm).length=_
  rw[List.length_map];rfl
 ·have hi:i<n.1.length:=hi
  show fU (n.1.getD i default) ((n.1.map lm).getD i default) 0/\bn ((n.1.map lm).getD i default)=(c8 n (0:Int).toNat).getD i default
  rw[xI hi]
  refine⟨OY (qR h hi),?_⟩
  show aV (n.1.getD i default)=(n.1.map aV).getD i default
  rw[xI hi]
 ·show (List.replicate n.2.1.length (0:Int)).length=_
  rw[List.length_replicate];rfl
 ·have hc:c∈List.replicate n.2.1.length (0:Int):=hc
  rw[List.eq_of_mem_replicate hc];omega
theorem ZL{w:aq}{at' who:Int}{b:List Int}(hf:∀ f∈am w,dO f<aX w)(he:∀ e∈aQ w,uc e<aX w) :
  tR (je (aX w) (am (iY w at' who b))) (kO (aX w) (aQ (iY w at' who b))) ∧
   ∀ o,o≠aX w->je o (am (iY w at' who b))=je o (am w)/\kO o (aQ (iY w at' who b))=kO o (aQ w):=by
 refine⟨.inl ⟨(at',aX w,who,-1,aX w,b),Aj rfl ?_,K6 fun e h=>?_⟩,fun o ho=>⟨IY (fun k=>ho k.symm),rfl⟩⟩
 ·exact List.filter_eq_nil_iff.2 fun f h=>by have:=hf f h;simp;omega
 ·have:=he e h;omega
theorem Lr.one{c:Int}{l:List aK}{g:aK}(h:l.Pairwise fun a b=>ax a<=ax b)(hg:c<ax g):Lr c l (c9 l g):=by
 refine⟨g,l.takeWhile fun x=>decide (ax x<=ax g),l.dropWhile fun x=>decide (ax x<=ax g),rfl,by rw[List.takeWhile_append_dropWhile],hg,fun y hy=>?_,?_⟩
 ·simpa using List.all_eq_true.1 (List.all_takeWhile (p:=fun x=>decide (ax x<=ax g)) (l:=l)) y hy
 ·intro x hx
  have h2:=h
  rw[← List.takeWhile_append_dropWhile (p:=fun x=>decide (ax x<=ax g)) (l:=l)] at h2
  obtain⟨-,b,-⟩:=List.pairwise_append.1 h2
  cases hh:l.dropWhile (fun x=>decide (ax x<=ax g)) with
  | nil=>rw[hh] at hx;cases hx
  | cons y r =>
   have hy:¬ ax y<=ax g:=by
    have:=List.head_dropWhile_not (p:=fun x=>decide (ax x<=ax g)) (l:=l) (by rw[hh];simp)
    simp only[hh,List.head_cons] at this
    simpa using this
   rw[hh] at hx b
   rcases List.mem_cons.1 hx with rfl|hx
   ·omega
   ·have:=(List.pairwise_cons.1 b).1 x hx;omega
end Go.RS

/- SimA: how much a network in operation can still do: the number of its steps has a bound. -/
namespace Go.RS
open Go.SX Go.Proofs
set_option maxRecDepth 100000
set_option linter.unusedVariables false
def t8(b:List Int):Nat:=if bV b=0 then (bP b).2.2.1.toNat else 0
def mG(n:bw)(f:aK):Nat:=1+2*t8 (da f)+(if dC (n.1.getD (aP f).toNat default)=true then 1 else 0)+(if dR f = -1 then 2 else 0)+(if cq (da f) then 600 else 0)
def om(n:bw)(l:List aK):Nat:=(l.map (mG n)).sum
def gh(w:aq):Nat:=om (ao w) (am w)
def td(n:bw):Prop:=∀ i:Nat,i<n.1.length->oV (n.1.getD i default)
theorem IK{b:List Int}(hb:bytes b):t8 b<=255:=by
 unfold t8
 split
 ·rename_i h
  obtain⟨⟨-,⟨h1,h2⟩,-⟩,-⟩:=ww hb h
  omega
 ·omega
theorem aq7{n:bw}(h:d7 n=0):∀ l∈n.2.1,iQ n.1 l=false:=by
 unfold d7 at h
 obtain⟨-,h⟩:=nC h
 obtain⟨-,h⟩:=nC h
 obtain⟨-,h⟩:=nC h
 obtain⟨-,h⟩:=nC h
 obtain⟨-,h⟩:=nC h
 obtain⟨h,-⟩:=nC h
 unfold oO at h
 intro l hl
 split at h
 ·cases h
 ·rename_i k
  cases e:iQ n.1 l with
  | false=>rfl
  | true=>exact absurd (List.any_eq_true.2 ⟨l,hl,e⟩) k
theorem V1{n:bw}(h:d7 n=0){k x:Int}(hk:0<=k/\k<n.2.1.length)(hx:dC (n.1.getD x.toNat default)=true)(ho:0<=fA n.2.1 k x):dC (n.1.getD (fA n.2.1 k x).toNat default)=false:=by
 have hd:=aq7 h (n.2.1.getD k.toNat default) (bL hk.1 hk.2)
 unfold iQ at hd
 unfold fA at ho ⊢
 rw[if_neg (by omega)] at ho ⊢
 split at ho
 ·rename_i e
  rw[if_pos e]
  rw[← e,hx,Bool.true_and] at hd
  exact hd
 ·split at ho
  ·rename_i e0 e
   rw[if_neg e0,if_pos e]
   rw[← e,hx,Bool.and_true] at hd
   exact hd
  ·omega
theorem Xt{b:List Int}(hb:bytes b)(h:gg b=0):t8 (gQ b)+1=t8 b:=by
 obtain⟨e1,e2,-⟩:=OV hb h
 have hd:bV b=0:=Classical.byContradiction fun k=>by rw[gg,if_pos k] at h;exact k h
 have ht:¬ (bP b).2.2.1<2:=fun k=>by rw[gg,if_neg (fun q=>q hd),if_pos k] at h;cases h
 unfold t8
 rw[if_pos e2,if_pos hd,e1]
 show ((bP b).2.2.1-1).toNat+1=_
 omega
theorem ak1{v:aq}(h:db v){f:aK}(hf:qq (ao v) (aT v) f)(A:td (ao v))(hp:0<(aL v f).2.1.2.length)(t o og:Int) :
  mG (ao v) (t,o,fA (ao v).2.1 (aL v f).2.1.1 (aP f),(aL v f).2.1.1,og,(aL v f).2.1.2)+1<=mG (ao v) f:=by
 have hi:(aP f).toNat<(ao v).1.length:=by have:=hf.nd;omega
 have N:=qR h.net hi
 have O:=h.out hf
 obtain⟨-,-,h3⟩:=uB (h.chk hi)
 have Z:=P2 (lk:=dR f) (t:=ax f) N (A _ hi) (fun r hr=>(h3 r hr).2) hf.b
 have eH:aL v f=dK ((ao v).1.getD (aP f).toNat default) ((aM v).getD (aP f).toNat default) (dR f) (ax f) (da f):=rfl
 have hr:(aL v f).2.2=0∨(aL v f).2.2=2:=by
  by_cases z0:(aL v f).2.2=0
  ·exact .inl z0
  by_cases z2:(aL v f).2.2=2
  ·exact .inr z2
  ·have:=O.none z0 z2
   rw[this] at hp
   exact absurd hp (by simp[gq])
 obtain⟨⟨k0,k1⟩,-,⟨o1,-⟩,-⟩:=tP h.net hi (wE h.net hi (O.some hr).2.2)
 rw[show (((aP f).toNat:Nat):Int)=aP f by have:=hf.nd;omega] at o1
 have hk:¬ (aL v f).2.1.1 = -1:=by omega
 show 1+2*t8 (aL v f).2.1.2+(if dC ((ao v).1.getD (fA (ao v).2.1 (aL v f).2.1.1 (aP f)).toNat default)=true then 1 else 0)+(if (aL v f).2.1.1 = -1 then 2 else 0)+(if cq (aL v f).2.1.2 then 600 else 0)+1<=_
 rw[if_neg hk]
 have hD:=V1 (x:=aP f) h.net ⟨k0,k1⟩
 rw[← eH] at Z
 have hob:=O.byt
 have t1:=IK hob
 unfold mG
 generalize dC ((ao v).1.getD (fA (ao v).2.1 (aL v f).2.1.1 (aP f)).toNat default)=oy at *
 rcases hr with hr|hr
 ·have F:=Gw (by rw[← eH];exact hr)
  have e:=EF (t:=ax f) F
  rw[← eH] at e
  have e2:(aL v f).2.1.2=if dR f ≠ -1/\dC ((ao v).1.getD (aP f).toNat default)=false then gQ (da f) else da f:=by rw[e]
  have ha:(if cq (aL v f).2.1.2 then 600 else 0)<=(if cq (da f) then 600 else 0):=by
   split
   ·rename_i q
    rw[if_pos (Classical.byContradiction fun k=>Z.2 hr k q)];omega
   ·omega
  generalize (if cq (aL v f).2.1.2 then 600 else 0)=a1 at *
  generalize (if cq (da f) then 600 else 0)=a2 at *
  cases ox:dC ((ao v).1.getD (aP f).toNat default) with
  | true =>
   have:=hD ox o1
   rw[this] at *
   rw[e2,if_neg (by rw[ox];simp)]
   simp;omega
  | false =>
   by_cases hl:dR f = -1
   ·rw[e2,if_neg (fun q=>q.1 hl),if_pos hl]
    cases oy <;> simp <;> omega
   ·have hlow:gg (da f)=0:=by
     have ht:=F.ttl
     rw[aW,if_pos F.dec] at ht
     unfold gg
     rw[if_neg (fun k=>k F.dec),if_neg]
     intro q
     exact ht ⟨hl,ox,q⟩
    have:=Xt hf.b hlow
    rw[e2,if_pos ⟨hl,ox⟩,if_neg hl]
    cases oy <;> simp <;> omega
 ·obtain⟨z1,z2⟩:=Z.1 hr
  rw[if_neg z2,if_pos z1]
  cases oy <;> simp <;> omega
theorem K0(n:bw)(l:List aK)(f:aK):om n (c9 l f)=om n l+mG n f:=by
 have e:om n l=om n ((l.takeWhile fun x=>decide (ax x<=ax f))++(l.dropWhile fun x=>decide (ax x<=ax f))):=by rw[List.takeWhile_append_dropWhile]
 rw[e]
 unfold om c9
 simp only[List.map_append,List.map_cons,List.sum_append,List.sum_cons]
 omega
theorem Oe(w:aq)(f:aK)(out:Int×List Int):(aQ (dB w f out)).length<=(aQ w).length+1/\aO (dB w f out)=aO w ∧
  (am (dB w f out)=am w∨∃ t o,am (dB w f out)=c9 (am w) (t,o,fA (ao w).2.1 out.1 (aP f),out.1,dO f,out.2)):=by
 unfold dB
 dsimp only
 split
 ·exact⟨by show ((aQ w)++[_]).length<=_;simp,rfl,.inl rfl⟩
 ·split
  ·exact⟨by show ((aQ w)++[_]).length<=_;simp,rfl,.inl rfl⟩
  ·exact⟨by show (aQ w).length<=_;omega,rfl,.inr ⟨_,_,rfl⟩⟩
theorem Xr{v:aq}(h:db v){f:aK}(hf:qq (ao v) (aT v) f)(A:td (ao v)) :
  (aQ (fu v f)).length<=(aQ v).length+2/\(aO (fu v f)).length<=(aO v).length+1/\om (ao v) (am (fu v f))+1<=om (ao v) (am v)+mG (ao v) f:=by
 have h1:1<=mG (ao v) f:=by unfold mG;omega
 unfold fu
 dsimp only
 generalize hb:(if (aL v f).2.2=1 then qW (fv v ((aM v).set (aP f).toNat (aL v f).1)) (aO (fv v ((aM v).set (aP f).toNat (aL v f).1))++[(ax f,aP f,da f)]) else fv v ((aM v).set (aP f).toNat (aL v f).1))=B
 have eB:ao B=ao v/\am B=am v/\aQ B=aQ v/\(aO B).length<=(aO v).length+1:=by
  rw[← hb];split
  ·exact⟨rfl,rfl,rfl,by show ((aO v)++[_]).length<=_;simp⟩
  ·exact⟨rfl,rfl,rfl,by show (aO v).length<=_;omega⟩
 clear hb
 obtain⟨b1,b2,b3,b4⟩:=eB
 generalize hc:(if (aL v f).2.2≠0 then kF B f (dR f) (aL v f).2.2 else B)=C
 have eC:ao C=ao v/\am C=am v/\(aQ C).length<=(aQ v).length+1/\aO C=aO B:=by
  rw[← hc];split
  ·exact⟨b1,b2,by show ((aQ B)++[_]).length<=_;rw[b3];simp,rfl⟩
  ·exact⟨b1,b2,by rw[b3];omega,rfl⟩
 clear hc
 obtain⟨c1,c2,c3,c4⟩:=eC
 split
 ·rename_i hp
  obtain⟨d1,d2,d3⟩:=Oe C f (aL v f).2.1
  refine⟨by omega,by rw[d2,c4];exact b4,?_⟩
  rcases d3 with d3|⟨t,o,d3⟩
  ·rw[d3,c2];omega
  ·rw[d3,c2,K0,c1]
   have:=ak1 h hf A hp t o (dO f)
   omega
 ·exact⟨by omega,by rw[c4];exact b4,by rw[c2];omega⟩
theorem db.okDn{w:aq}(h:db w):okDn w:=⟨h.done.1,by have:=u6 h.net;omega⟩
theorem ab5{w:aq}(h:db w)(hd:jj w=true):bo w=bo (fO w):=by
 obtain⟨h1,h2,h3⟩:=xD h.okDn hd
 have e:=yV h.okDn (n:=gM (fO w)+1) (by omega)
 rw[e,cB,if_pos hd]
 rfl
theorem ad4{w:aq}(hd:¬ jj w=true):bo w=w:=by
 unfold bo
 cases (ao w).2.2.length-(bz w).toNat with
 | zero=>rfl
 | succ n=>rw[cB,if_neg hd]
theorem vB(w:aq):(bo w).1=w.1/\am (bo w)=am w/\aQ (bo w)=aQ w/\aO (bo w)=aO w/\aX (bo w)=aX w/\aT (bo w)=aT w:=by
 have k:=tQ ((ao w).2.2.length-(bz w).toNat) w
 have e:=k.2.2.2
 exact⟨k.1,congrArg (fun x:List Int×List aK×List nG×List jx=>x.2.1) e,congrArg (fun x:List Int×List aK×List nG×List jx=>x.2.2.2) e,congrArg (fun x:List Int×List aK×List nG×List jx=>x.2.2.1) e,k.2.2.1,k.2.1⟩
theorem VQ(n:bw)(f:aK)(l:List aK):om n (f::l)=mG n f+om n l:=by unfold om;rw[List.map_cons,List.sum_cons]
theorem rf.wk{n:bw}{t o:Int}{f:aK}(h:rf n t o f):qq n t f:=⟨h.t,h.nd,h.l,h.b,h.d⟩
def m4(n:bw):Prop:=(n.1.length:Int)<=1000000/\(n.2.1.length:Int)<=1000000/\(n.2.2.length:Int)<=1000000/\(∀ x∈n.1,((aC x).length:Int)<=1000000/\okL (aV x))∧∀ c∈n.2.2,((dh c).2.1.length:Int)<=1099511627776
def uf(w:aq):Prop:=m4 (ao w)/\((aM w).length:Int)<=1000000/\((bJ w).length:Int)<=1000000/\((am w).length:Int)<=1000000/\((aO w).length:Int)<=1000000000000/\((aQ w).length:Int)<=1000000000000 ∧
 (∀ s∈aM w,((jf s).length:Int)<=1000000/\okL (bn s))/\(∀ f∈am w,((da f).length:Int)<=1000000)∧∀ e∈aO w,(e.2.2.length:Int)<=1000000
theorem Sd(v:aq)(f:aK):aO (fu v f)=aO v∨aO (fu v f)=aO v++[(ax f,aP f,da f)]:=by
 unfold fu
 dsimp only
 generalize hb:(if (aL v f).2.2=1 then qW (fv v ((aM v).set (aP f).toNat (aL v f).1)) (aO (fv v ((aM v).set (aP f).toNat (aL v f).1))++[(ax f,aP f,da f)]) else fv v ((aM v).set (aP f).toNat (aL v f).1))=B
 have eB:aO B=aO v∨aO B=aO v++[(ax f,aP f,da f)]:=by
  rw[← hb];split
  ·exact .inr rfl
  ·exact .inl rfl
 clear hb
 generalize hc:(if (aL v f).2.2≠0 then kF B f (dR f) (aL v f).2.2 else B)=C
 have eC:aO C=aO B:=by rw[← hc];split <;> rfl
 split
 ·rw[(Oe C f _).2.1,eC];exact eB
 ·rw[eC];exact eB
structure cJ (B:Int) (w:aq):Prop where
 b:B<=549755813888
 sB:bT w (B-2*gh w)
 a:td (ao w)
 c:m4 (ao w)
 dd:∀ x∈aO w,(x.2.2.length:Int)<=2000
 e:((aQ w).length:Int)+2*gh w<=B
 d:((aO w).length:Int)+gh w<=B
abbrev oG(w:aq):Prop:=cJ 549755813888 w
theorem cJ.s{B:Int}{w:aq}(h:cJ B w):bT w (549755813888-2*gh w):=h.sB.more (by have:=h.b;omega)
theorem cJ.more{B B':Int}{w:aq}(h:cJ B w)(h1:B<=B')(h2:B'<=549755813888):cJ B' w:=⟨h2,h.sB.more (by omega),h.a,h.c,h.dd,by have:=h.e;omega,by have:=h.d;omega⟩
theorem cJ.sim{B:Int}{w:aq}(h:cJ B w):oG w:=h.more h.b (Int.le_refl _)
theorem cJ.change{B:Int}{w:aq}(h:cJ B w):cJ B (bo w):=by
 obtain⟨k1,k2,k3,k4,-⟩:=vB w
 have ep:gh (bo w)=gh w:=by unfold gh;rw[k2];show om (bo w).1 _=_;rw[k1];rfl
 exact⟨h.b,by rw[ep];exact h.sB.change,by show td (bo w).1;rw[k1];exact h.a,by show m4 (bo w).1;rw[k1];exact h.c,by rw[k4];exact h.dd,by rw[ep,k3];exact h.e,by rw[ep,k4];exact h.d⟩
theorem cJ.cp{B:Int}{w:aq}(h:cJ B w):uf w:=by
 have h1:=h.s.len
 have h2:=u6 h.s.net
 have h3:=h.s.cl
 have h4:=h.s.fn
 have h5:=h.e
 have h6:=h.d
 have h7:=h.b
 refine⟨h.c,by omega,by omega,by omega,by omega,by omega,fun s hs=>?_,fun f hf=>by have:=(h.s.fo f hf).d;omega,fun x hx=>by have:=h.dd x hx;omega⟩
 obtain⟨i,hi,rfl⟩:=List.mem_iff_getElem.1 hs
 have hi2:i<(ao w).1.length:=by omega
 obtain⟨st,-⟩:=h.s.st i hi2
 have e:(aM w).getD i default=(aM w)[i]:=by rw[List.getD_eq_getElem?_getD,List.getElem?_eq_getElem hi];rfl
 rw[e] at st
 have:=st.ps
 have:=(qR h.s.net hi2).n32
 exact⟨by omega,st.okl⟩
theorem Tw{w:aq}(h:db w)(A:td (ao w)){f:aK}{r:List aK}(e:am w=f::r) :
  gh (cC w)+1<=gh w/\(aQ (cC w)).length<=(aQ w).length+2/\(aO (cC w)).length<=(aO w).length+1:=by
 obtain⟨-,s2,-⟩:=h.step e
 have es:cC w=fu (bo (aZ (cH w r) (ax f))) f:=by unfold cC;rw[e];rfl
 obtain⟨k1,k2,k3,k4,-,k6⟩:=vB (aZ (cH w r) (ax f))
 have k2:am (bo (aZ (cH w r) (ax f)))=r:=k2
 have k6:aT (bo (aZ (cH w r) (ax f)))=ax f:=k6
 have k1:ao (bo (aZ (cH w r) (ax f)))=ao w:=k1
 have hf:=h.fo f (by rw[e];exact List.mem_cons_self ..)
 have hp:=h.fl
 rw[e] at hp
 have h0:db (aZ (cH w r) (ax f)):=by
  refine⟨h.net,⟨by have:=hf.t;have:=h.now;show 0<=ax f;omega,hf.t.2⟩,h.done,h.len,h.st,h.cl,(List.pairwise_cons.1 hp).2,fun x hx=>?_,?_⟩
  ·have k:=h.fo x (by rw[e];exact List.mem_cons_of_mem _ hx)
   exact⟨⟨(List.pairwise_cons.1 hp).1 x hx,k.t.2⟩,k.nd,k.l,k.b,k.d⟩
  ·have:=h.fn;rw[e] at this;simp at this;show r.length<=4096;omega
 have h1:db (bo (aZ (cH w r) (ax f))):=zI _ h0
 obtain⟨l1,l2,l3⟩:=Xr h1 (f:=f) (by rw[k1,k6];exact⟨⟨Int.le_refl _,hf.t.2⟩,hf.nd,hf.l,hf.b,hf.d⟩) (by rw[k1];exact A)
 rw[← es] at l1 l2 l3
 rw[k3] at l1
 rw[k4] at l2
 rw[k1,k2] at l3
 refine⟨?_,l1,l2⟩
 unfold gh
 rw[s2,e,VQ]
 omega
theorem cJ.step{B:Int}{w:aq}(h:cJ B w){f:aK}{r:List aK}(e:am w=f::r):cJ B (cC w)/\gh (cC w)+1<=gh w:=by
 obtain⟨p1,p2,p3⟩:=Tw h.s.weak h.a e
 obtain⟨s1,s2,-⟩:=h.sB.step (by have:=h.b;omega) e
 have h1:=h.e
 have h2:=h.d
 refine⟨⟨h.b,s1.more (by omega),by rw[s2];exact h.a,by rw[s2];exact h.c,?_,by omega,by omega⟩,p1⟩
 have es:cC w=fu (bo (aZ (cH w r) (ax f))) f:=by unfold cC;rw[e];rfl
 have k4:aO (bo (aZ (cH w r) (ax f)))=aO w:=(vB _).2.2.2.1
 have hf:=h.s.fo f (by rw[e];exact List.mem_cons_self ..)
 rw[es]
 rcases Sd (bo (aZ (cH w r) (ax f))) f with q|q
 ·rw[q,k4];exact h.dd
 ·rw[q,k4]
  intro x hx
  rcases List.mem_append.1 hx with hx|hx
  ·exact h.dd x hx
  ·rw[List.mem_singleton.1 hx];exact hf.d
theorem Rr{to:Int}:∀(n m:Nat){w:aq},db w->dr to (am w)<=n->dr to (am w)<=m->fL n w to=fL m w to:=by
 have stop:∀{w:aq},dr to (am w)=0->cK w to=false:=by
  intro w hw
  unfold cK
  cases e:am w with
  | nil=>rfl
  | cons f r =>
   rw[e,ma] at hw
   exact decide_eq_false (by omega)
 intro n
 induction n with
 | zero =>
  intro m w h hn hm
  have hb:=stop (w:=w) (by omega)
  cases m with
  | zero=>rfl
  | succ m=>rw[fL,fL,if_neg (by rw[hb];simp)]
 | succ n ih =>
  intro m w h hn hm
  cases m with
  | zero =>
   have hb:=stop (w:=w) (by omega)
   rw[fL,fL,if_neg (by rw[hb];simp)]
  | succ m =>
   rw[fL,fL]
   split
   ·rename_i hb
    unfold cK at hb
    cases e:am w with
    | nil=>rw[e] at hb;cases hb
    | cons f r =>
     rw[e] at hb
     have hb:=of_decide_eq_true hb
     have hpos:1<=dr to (am w):=by rw[e,ma];omega
     obtain⟨s1,-,-,s4⟩:=h.step e
     have:=s4 to hb
     exact ih m s1 (by omega) (by omega)
   ·rfl
theorem GQ{w:aq}{to:Int}(h:db w)(hb:cK w to=true):cP w to=cP (cC w) to:=by
 have hb0:=hb
 unfold cK at hb
 cases e:am w with
 | nil=>rw[e] at hb;cases hb
 | cons f r =>
  rw[e] at hb
  have hb:=of_decide_eq_true hb
  have hpos:1<=dr to (am w):=by rw[e,ma];omega
  obtain⟨s1,-,-,s4⟩:=h.step e
  have:=s4 to hb
  obtain⟨k,hk⟩:∃ k,dr to (am w)=k+1:=⟨dr to (am w)-1,by omega⟩
  have e1:cP w to=fL k (cC w) to:=by unfold cP;rw[hk,fL,if_pos hb0]
  rw[e1]
  exact Rr _ _ s1 (by omega) (Nat.le_refl _)
theorem GY{w:aq}{to:Int}(hb:cK w to=false):cP w to=w:=yf hb _
theorem cJ.run{B to:Int}:∀(n:Nat){w:aq},cJ B w->gh w<=n->cJ B (cP w to)/\cK (cP w to) to=false/\ao (cP w to)=ao w/\gh (cP w to)<=gh w
 | n,w,h,hn=>by
  cases hb:cK w to with
  | false=>rw[GY hb];exact⟨h,hb,rfl,Nat.le_refl _⟩
  | true =>
   rw[GQ h.s.weak hb]
   cases e:am w with
   | nil=>unfold cK at hb;rw[e] at hb;cases hb
   | cons f r =>
    obtain⟨k1,k2⟩:=h.step e
    obtain⟨-,s2,-⟩:=h.s.weak.step e
    cases n with
    | zero=>omega
    | succ n =>
     obtain⟨a,b,c,d⟩:=cJ.run n k1 (by omega)
     exact⟨a,b,c.trans s2,by omega⟩
def vo:aq:=(([],[],[]),0,0,0,[],[],[],[],[])
def mi(w:aq):Prop:=w=aZ vo (aT w)/\0<=aT w/\aT w<=1125899906842624
def fZ(w:aq):Prop:=oG w∨mi w
theorem mi.fl{w:aq}(h:mi w):am w=[]:=by rw[h.1];rfl
theorem mi.cp{w:aq}(h:mi w):uf w:=by
 rw[h.1]
 have Z:∀{b:Int},0<=b->((0:Nat):Int)<=b:=fun h=>h
 exact⟨⟨Z (by decide),Z (by decide),Z (by decide),fun x hx=>(by cases hx),fun x hx=>(by cases hx)⟩,Z (by decide),Z (by decide),Z (by decide),Z (by decide),Z (by decide),fun x hx=>(by cases hx),fun x hx=>(by cases hx),fun x hx=>(by cases hx)⟩
theorem fZ.cp{w:aq}(h:fZ w):uf w:=h.elim cJ.cp mi.cp
theorem fZ.fl{w:aq}(h:fZ w)(hf:am w≠[]):oG w:=h.resolve_right fun q=>hf q.fl
def rg(w:aq):Prop:=db w∨((ao w).2.2=[]/\bz w=0)
theorem mi.ch{w:aq}(h:mi w)(t:Int):rg (aZ w t) := .inr (by rw[h.1];exact⟨rfl,rfl⟩)
theorem mi.chg{w:aq}(h:mi w)(t:Int):bo (aZ w t)=aZ w t:=by rw[h.1];rfl
def ga(w:aq):aK:=(am w).headD default
def dk(w:aq):aq:=bo (aZ (cH w (am w).tail) (ax (ga w)))
def gX(w:aq):lw:=aL (dk w) (ga w)
def sD(w:aq):aq:=fv (dk w) ((aM (dk w)).set (aP (ga w)).toNat (gX w).1)
def kH(w:aq):aq:=if (gX w).2.2=1 then qW (sD w) (aO (sD w)++[(ax (ga w),aP (ga w),da (ga w))]) else sD w
def f7(w:aq):aq:=if (gX w).2.2≠0 then kF (kH w) (ga w) (dR (ga w)) (gX w).2.2 else kH w
theorem Jr(w:aq):cC w=if 0<(gX w).2.1.2.length then dB (f7 w) (ga w) (gX w).2.1 else f7 w:=by
 have e:cC w=fu (dk w) (ga w):=by unfold cC dk ga;rfl
 rw[e]
 unfold fu f7 kH sD gX
 rfl
theorem rI(w:aq):kH w=qW (sD w) (if (gX w).2.2=1 then aO (dk w)++[(ax (ga w),aP (ga w),da (ga w))] else aO (dk w)):=by unfold kH;split <;> rfl
theorem vG(w:aq):f7 w=Gj (kH w) (if (gX w).2.2≠0 then aQ (dk w)++[(dO (ga w),ax (ga w),aP (ga w),dR (ga w),(gX w).2.2)] else aQ (dk w)):=by
 unfold f7
 rw[rI]
 split <;> rfl
structure At (w:aq) (f:aK) (r:List aK):Prop where
 s:bT (dk w) (549755813888-2*gh w)
 fk:rf (ao (dk w)) (aT (dk w)) (aX (dk w)) f
 eF:ga w=f
 net:ao (dk w)=ao w
 now:aT (dk w)=ax f
 fl:am (dk w)=r
 en:aQ (dk w)=aQ w
 dl:aO (dk w)=aO w
 h0:bT (aZ (cH w (am w).tail) (ax (ga w))) (549755813888-2*gh w)
theorem cJ.at{B:Int}{w:aq}(h:cJ B w){f:aK}{r:List aK}(e:am w=f::r):At w f r:=by
 have hs:=h.s
 have hp:=hs.fl
 rw[e] at hp
 obtain⟨p1,p2⟩:=List.pairwise_cons.1 hp
 have hf:=hs.fo f (by rw[e];exact List.mem_cons_self)
 have hle:∀ x∈r,ax f<=ax x:=fun x hx=>by rcases p1 x hx with k|k <;> omega
 have ed:ga w=f:=by unfold ga;rw[e];rfl
 have et:(am w).tail=r:=by rw[e];rfl
 have hb:bT (aZ (cH w r) (ax f)) (549755813888-2*gh w):=by
  refine⟨hs.net,⟨by show 0<=ax f;have:=hs.now;have:=hf.t;omega,hf.t.2⟩,hs.ord,hs.done,hs.len,hs.st,hs.cl,hs.cr,p2,fun x hx=>?_,?_⟩
  ·have hx:x∈r:=hx
   have k:=hs.fo x (by rw[e];exact List.mem_cons_of_mem _ hx)
   exact⟨⟨hle x hx,k.t.2⟩,k.o,k.nd,k.l,k.g,k.b,k.d⟩
  ·show r.length<=4096
   have:=hs.fn
   rw[e,List.length_cons] at this;omega
 obtain⟨k1,k2,k3,k4,k5,k6⟩:=vB (aZ (cH w r) (ax f))
 have es:dk w=bo (aZ (cH w r) (ax f)):=by unfold dk;rw[ed,et]
 have n1:ao (dk w)=ao w:=by rw[es];exact k1
 have n2:aT (dk w)=ax f:=by rw[es];exact k6
 have n3:aX (dk w)=aX w:=by rw[es];exact k5
 refine⟨by rw[es];exact hb.change,?_,ed,n1,n2,by rw[es];exact k2,by rw[es];exact k3,by rw[es];exact k4,by rw[ed,et];exact hb⟩
 rw[n1,n2,n3]
 exact⟨⟨Int.le_refl _,hf.t.2⟩,hf.o,hf.nd,hf.l,hf.g,hf.b,hf.d⟩
theorem At.out{w:aq}{f:aK}{r:List aK}(h:At w f r)(hp:0<(gX w).2.1.2.length) :
  0<=(gX w).2.1.1/\(gX w).2.1.1<(ao w).2.1.length/\iN (ao w).1.length ((ao w).2.1.getD (gX w).2.1.1.toNat default):=by
 have hi:(aP f).toNat<(ao (dk w)).1.length:=by have:=h.fk.nd;omega
 have O:=h.s.weak.out h.fk.wk
 have eH:gX w=aL (dk w) f:=by unfold gX;rw[h.eF]
 rw[eH] at hp ⊢
 have hr:(aL (dk w) f).2.2=0∨(aL (dk w) f).2.2=2:=by
  by_cases z0:(aL (dk w) f).2.2=0
  ·exact .inl z0
  by_cases z2:(aL (dk w) f).2.2=2
  ·exact .inr z2
  ·have:=O.none z0 z2
   rw[this] at hp
   exact absurd hp (by simp[gq])
 obtain⟨⟨k0,k1⟩,k2,-⟩:=tP h.s.net hi (wE h.s.net hi (O.some hr).2.2)
 rw[h.net] at k1 k2
 exact⟨k0,k1,k2⟩
end Go.RS

/- SX: copying rows whose elements have several cells (for slices.Insert). -/
namespace Go.SX
open Go
variable {P:Program}
theorem BU(w:World)(dT sT ty iU:TypeId)(z g o dLen dCap:Nat)(a:Addr)(lK ro:Nat)(cur:Array Value)(t:TypeId)(cs:List Value)
  (hu:P.underlying dT=some (.slice iU)) (hs:(P.info? iU).map (·.size)=some z)
  (hg:w.heap[g]? = some (.cells cur t (0,0))) (hn:cs.length=Nat.min lK dLen*z)
  (hsrc:∀ j v,cs[j]? = some v->w.cell? (a.add j)=some v) (hfit:o+cs.length<=cur.size) (h1:∀ v∈cs,v.oneCell'=true) :
  (Builtin.copy_ #[dT,sT] ty #[.slice (some ⟨g,o,none⟩) dLen dCap,.slice (some a) lK ro]).run P w =
   .ok (goInt (Nat.min lK dLen)) (w.setRow g (cur.toList.take o++cs++cur.toList.drop (o+cs.length)).toArray):=by
 have hl:=run_loadCells_list (P:=P) w a cs hsrc
 have hst:=run_storeCells_at P g o t cs 0 cur w hg (by simpa using hfit) h1
 cases hq:P.info? iU with
 | none=>simp[hq] at hs
 | some i =>
  have hi:i.size=z:=by simpa[hq] using hs
  simp[Builtin.copy_,run_underlying hu,Builtin.lenOf,Builtin.firstCells,sizeOf,typeInfo,hq,hi,← hn,hl,hst]
end Go.SX
