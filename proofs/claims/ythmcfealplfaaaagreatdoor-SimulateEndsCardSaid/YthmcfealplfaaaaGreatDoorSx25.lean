/- Drawn: what holds of drawn networks: their nodes, links, routes and changes. -/
import Derived.Test.YthmcfealplfaaaaGreatDoorDrawsome
import Derived.Test.YthmcfealplfaaaaGreatDoorNetdraw
import Derived.Test.YthmcfealplfaaaaGreatDoorNodek
import Derived.Laws.CopyRow
import Derived.Test.YthmcfealplfaaaaGreatDoorIdent
import Derived.LaidMore
import Derived.Stop.Joined
import Derived.FnData
import Derived.MakeChecks
namespace Go.RS
open Go.SX Go.Proofs
set_option maxRecDepth 100000
set_option linter.unusedVariables false
structure NP (i:Int) (x:ac):Prop where
 own:IU x=1+i/3
 loop:ga x=0∨ga x=167903232+i
 src:(jG x=1∨jG x=2)∨(jG x=3/\ga x=167903232+i)∨(jG x=4/\167837696<=ng x)
 fix:ng x=0∨(167837696<=ng x/\ng x<167837736)
 id:(0<=oE x/\oE x<=5)/\(0<=kD x/\kD x<=65535)/\0<=wL x/\wL x<=1000000
 lim:io x=(0,0)∨(1<=(io x).1/\(io x).1<=3/\1<=(io x).2/\(io x).2<=200)
 first:gH x=64∨gH x=255∨gH x=128
 seed:0<=z6 x/\z6 x<=255
theorem NP.new{i:Int}{host:Bool}{f sd:Int}(hf:f=64∨f=255∨f=128)(h0:0<=sd)(h1:sd<=255):NP i (oY i host f sd) :=
 ⟨rfl,.inl rfl,.inl (.inl rfl),.inl rfl,⟨⟨by show (0:Int)<=0;decide,by show (0:Int)<=5;decide⟩,⟨by show (0:Int)<=0;decide,by show (0:Int)<=65535;decide⟩,by show (0:Int)<=0;decide,by show (0:Int)<=1000000;decide⟩,.inl rfl,hf,h0,h1⟩
theorem NP.same{i:Int}{x y:ac}(h:NP i x)(e:x.2=y.2):NP i y:=by
 obtain⟨p,x⟩:=x
 obtain⟨q,y⟩:=y
 cases e
 exact⟨h.own,h.loop,h.src,h.fix,h.id,h.lim,h.first,h.seed⟩
theorem NP.routes{i:Int}{x y:ac}(h:NP i x)(e:wJ x []=wJ y []):NP i y:=by
 have k:NP i (wJ x []):=⟨h.own,h.loop,h.src,h.fix,h.id,h.lim,h.first,h.seed⟩
 rw[e] at k
 exact⟨k.own,k.loop,k.src,k.fix,k.id,k.lim,k.first,k.seed⟩
theorem NP.way{i:Int}{x:ac}(h:NP i x){c:aH}(hc:bM c):NP i (fD x i c).1:=by
 have a:=cQ hc (n:=10) (by omega)
 have ca:=(bX hc 10).1
 have b:=cQ ca (n:=3) (by omega)
 have cb:=(bX ca 3).1
 have e:=cQ cb (n:=200) (by omega)
 have f:=cQ ca (n:=40) (by omega)
 unfold fD
 dsimp only
 split
 ·exact⟨h.own,h.loop,h.src,h.fix,h.id,h.lim,h.first,h.seed⟩
 split
 ·refine⟨h.own,h.loop,h.src,h.fix,h.id,.inr ?_,h.first,h.seed⟩
  show 1<=1+_/\1+_<=(3:Int)/\1<=1+_/\1+_<=(200:Int)
  omega
 split
 ·exact⟨h.own,h.loop,h.src,h.fix,h.id,h.lim,h.first,h.seed⟩
 split
 ·exact⟨h.own,h.loop,.inl (.inr rfl),h.fix,h.id,h.lim,h.first,h.seed⟩
 split
 ·exact⟨h.own,.inr rfl,.inr (.inl ⟨rfl,rfl⟩),h.fix,h.id,h.lim,h.first,h.seed⟩
 split
 ·refine⟨h.own,h.loop,.inr (.inr ⟨rfl,?_⟩),.inr ⟨?_,?_⟩,h.id,h.lim,h.first,h.seed⟩
  ·show 167837696<=167837696+_
   omega
  ·show 167837696<=167837696+_
   omega
  ·show 167837696+_<167837736
   omega
 ·exact h
theorem NP.od{i:Int}{x:ac}(h:NP i x){c:aH}(hc:bM c):NP i (th x i c).1:=by
 have k:=h.way hc
 have kc:=C7 (x:=x) (i:=i) hc
 have a:=cQ kc (n:=6) (by omega)
 have ca:=(bX kc 6).1
 have b:=cQ ca (n:=65536) (by omega)
 have cb:=(bX ca 65536).1
 have e:=cQ cb (n:=1000) (by omega)
 refine⟨k.own,k.loop,k.src,k.fix,?_,k.lim,k.first,k.seed⟩
 show (0<=(aj (fD x i c).2 6).1/\(aj (fD x i c).2 6).1<=5)/\(0<=(aj (aj (fD x i c).2 6).2 65536).1/\(aj (aj (fD x i c).2 6).2 65536).1<=65535)/\0<=(aj (aj (aj (fD x i c).2 6).2 65536).2 1000).1/\(aj (aj (aj (fD x i c).2 6).2 65536).2 1000).1<=1000000
 omega
theorem NP.opq{i:Int}{x:ac}(h:NP i x)(b:Bool):NP i (AU x b):=⟨h.own,h.loop,h.src,h.fix,h.id,h.lim,h.first,h.seed⟩
def oA(ns:List ac):Prop:=∀ i:Nat,i<ns.length->NP i (ns.getD i default)
theorem oA.set{ns:List ac}(h:oA ns){i:Nat}{x:ac}(hx:i<ns.length->NP i x):oA (ns.set i x):=fun j hj=>by
 rw[List.length_set] at hj
 by_cases e:i=j
 ·subst e;rw[ic hj];exact hx hj
 ·rw[j9 e];exact h j hj
structure LK (l0 l:aE):Prop where
 a:lA l=lA l0
 b:lB l=lB l0
 d:kR l=kR l0
 s:r4 l=r4 l0
 j:0<=gX l/\gX l<=9
 o:0<=oR l/\oR l<=65536
theorem LK.od{l0 l:aE}(h:LK l0 l){c:aH}(hc:bM c):LK l0 (odLink l c).1:=by
 have a:=cQ hc (n:=6) (by omega)
 have ca:=(bX hc 6).1
 have b:=cQ ca (n:=10) (by omega)
 have e:=cQ ca (n:=3) (by omega)
 unfold odLink
 dsimp only
 split
 ·refine⟨h.a,h.b,h.d,h.s,?_,h.o⟩
  show 0<=(aj (aj c 6).2 10).1/\(aj (aj c 6).2 10).1<=9
  omega
 split
 ·refine⟨h.a,h.b,h.d,h.s,h.j,?_⟩
  show 0<=([65536,20000,3]:List Int).getD (aj (aj c 6).2 3).1.toNat default/\([65536,20000,3]:List Int).getD (aj (aj c 6).2 3).1.toNat default<=65536
  rcases (show (aj (aj c 6).2 3).1=0∨(aj (aj c 6).2 3).1=1∨(aj (aj c 6).2 3).1=2 by omega) with e|e|e <;> rw[e] <;> decide
 ·exact h
structure mU (ls0 ls:List aE):Prop where
 n:ls.length=ls0.length
 k:∀ i:Nat,i<ls0.length->LK (ls0.getD i default) (ls.getD i default)
theorem mU.set{ls0 ls:List aE}(h:mU ls0 ls){i:Nat}{x:aE}(hx:i<ls0.length->LK (ls0.getD i default) x):mU ls0 (ls.set i x):=by
 refine⟨by rw[List.length_set];exact h.n,fun j hj=>?_⟩
 by_cases e:i=j
 ·subst e;rw[ic (by rw[h.n];exact hj)];exact hx hj
 ·rw[j9 e];exact h.k j hj
theorem mU.mem{ls0 ls:List aE}(h:mU ls0 ls){l:aE}(hl:l∈ls):∃ l0∈ls0,LK l0 l:=by
 obtain⟨i,hi,e⟩:=List.mem_iff_getElem.1 hl
 have:=h.k i (by rw[← h.n];exact hi)
 rw[List.getD_eq_getElem?_getD (l:=ls),List.getElem?_eq_getElem hi,e] at this
 exact⟨_,mq (by rw[← h.n];exact hi),this⟩
theorem mU.lnk{ls0 ls:List aE}(h:mU ls0 ls){i k:Int}(hk:lnk ls0 i k):lnk ls i k:=by
 obtain⟨k0,k1,k2⟩:=hk
 have e:=h.k k.toNat (by omega)
 exact⟨k0,by rw[h.n];exact k1,by rw[e.a,e.b];exact k2⟩
theorem HI(i:Int):∀(k:Nat)(ls ls':List aE),ls'.length=ls.length->(∀ j:Nat,j<ls.length->lA (ls'.getD j default)=lA (ls.getD j default)/\lB (ls'.getD j default)=lB (ls.getD j default))->portsF i k ls'=portsF i k ls
 | k,[],[],_,_=>rfl
 | k,x::r,[],h,_=>by cases h
 | k,[],x::r,h,_=>by cases h
 | k,x::r,y::t,h,e=>by
  have e0:=e 0 (by simp)
  rw[List.getD_cons_zero,List.getD_cons_zero] at e0
  rw[portsF,portsF,mZ,mZ,e0.1,e0.2,HI i (k+1) r t (by simpa using h) fun j hj=>by
   have:=e (j+1) (by simp;omega)
   rw[List.getD_cons_succ,List.getD_cons_succ] at this;exact this]
theorem mU.portsF{ls0 ls:List aE}(h:mU ls0 ls)(i:Int)(k:Nat):portsF i k ls=Go.RS.portsF i k ls0 :=
 HI i k ls0 ls h.n fun j hj=>⟨(h.k j hj).a,(h.k j hj).b⟩
theorem kT.lk{ls0 ls:List aE}(h:mU ls0 ls){aa:List Int}{i:Int}{t:List Rt}(k:kT ls0 aa i t):kT ls aa i t :=
 ⟨k.1,fun r hr=>by
  have q:=k.2 r hr
  exact⟨q.len,q.mem,q.ne,q.pw,fun x hx=>h.lnk (q.ln x hx),q.w0,q.w1⟩⟩
structure CH (ns:List ac) (c:aM):Prop where
 at':0<=fW c/\fW c<=180
 w:0<=bq c/\bq c<ns.length
 r:rb c=false
 p:∃ r∈aQ (ns.getD (bq c).toNat default),(cX c).1=r.1/\(cX c).2.2=r.2.2
 x:(cX c).2.1=[]∨∃ q∈aA (ns.getD (bq c).toNat default),(cX c).2.1=[q.2]
def AQ:List Int:=(List.range 10).flatMap fun (k:Nat)=>[dQ k+1,dQ k+2]
theorem Mi{a:Int}{k:Nat}(hk:k<10)(h:a=dQ k+1∨a=dQ k+2):a∈AQ:=by
 refine List.mem_flatMap.2 ⟨k,List.mem_range.2 hk,?_⟩
 rcases h with h|h <;> rw[h] <;> simp
theorem kT.sub{ls:List aE}{aa bb:List Int}{i:Int}{t:List Rt}(h:kT ls aa i t)(hs:∀ a∈aa,a∈bb):kT ls bb i t :=
 ⟨h.1,fun r hr=>by
  have q:=h.2 r hr
  exact⟨q.len,hs _ q.mem,q.ne,q.pw,q.ln,q.w0,q.w1⟩⟩
structure DN (n:bt):Prop where
 n3:3<=n.1.length
 n7:n.1.length<=7
 l2:2<=n.2.1.length
 l10:n.2.1.length<=10
 h3:n.2.2.length<=3
 g:∀ x∈n.2.1,(0<=lA x/\lA x<n.1.length)/\(0<=lB x/\lB x<n.1.length)/\lA x≠lB x/\(1<=kR x/\kR x<=20)/\(0<=gX x/\gX x<=9)/\(0<=oR x/\oR x<=65536)/\0<=r4 x/\r4 x<=255
 p:∀ i:Nat,i<n.1.length->aA (n.1.getD i default)=portsF i 0 n.2.1
 d:oA n.1
 t:∀ i:Nat,i<n.1.length->kT n.2.1 AQ i (aQ (n.1.getD i default))
 o:∀ x∈n.2.1,iP n.1 x=false
 c:∀ x∈n.2.2,CH n.1 x
 s:n.2.2.Pairwise fun a b=>fW a<=fW b
theorem Ji{s:aO}(h:oA s.1.1)(hc:bM s.2):∀{i:Nat},i<=s.1.1.length->oA (oN s i).1
 | 0,_=>h
 | i+1,hi=>by
  have k:=Ji h hc (i:=i) (by omega)
  have b:=(Fs s hc (i:=i) (by omega)).2
  rw[show ((i+1:Nat):Int)=(i:Int)+1 by omega,KP s (by omega)]
  unfold sW
  refine k.set fun hl=>?_
  have e:((i:Int).toNat:Nat)=i:=by omega
  rw[e] at hl ⊢
  exact (k i hl).od b
theorem ag7{ns:List ac}(h:oA ns){l:aE}(hl:0<=lB l):oA (oO ns l):=by
 unfold oO
 split
 ·exact h.set fun hi=>(h _ hi).opq _
 ·exact h
theorem Yr{ns:List ac}{l:aE}(hb:0<=lB l/\lB l<ns.length):iP (oO ns l) l=false:=by
 unfold oO
 split
 ·unfold iP
  rw[ic (by omega)]
  exact Bool.and_false _
 ·rename_i h
  unfold iP
  cases h1:dw (ns.getD (lA l).toNat default) <;> cases h2:dw (ns.getD (lB l).toNat default) <;> simp_all
theorem ah2{ns:List ac}{l m:aE}(h:iP ns m=false):iP (oO ns l) m=false:=by
 unfold oO
 split
 ·have set_op:∀(i j:Nat),dw (ns.getD j default)=false->dw ((ns.set i (AU (ns.getD i default) false)).getD j default)=false:=fun i j hj=>by
   by_cases e:i=j
   ·subst e
    by_cases hl:i<ns.length
    ·rw[ic hl];rfl
    ·rw[List.set_eq_of_length_le (by omega)];exact hj
   ·rw[j9 e];exact hj
  unfold iP at h ⊢
  rw[Bool.and_eq_false_iff] at h ⊢
  exact h.imp (set_op _ _) (set_op _ _)
 ·exact h
theorem Mf{ns:List ac}{l m:aE}(ha:lA l=lA m)(hb:lB l=lB m):iP ns l=iP ns m:=by unfold iP;rw[ha,hb]
structure Iq (s:aO) (i:Nat):Prop where
 np:oA (oL s i).1.1
 lk:mU s.1.2.1 (oL s i).1.2
 df:∀ k:Nat,k<i->iP (oL s i).1.1 (s.1.2.1.getD k default)=false
theorem Dt{s:aO}(h:oA s.1.1)(hc:bM s.2)(hg:fK s.1.1.length s.1.2.1)(hl:mU s.1.2.1 s.1.2.1):∀{i:Nat},i<=s.1.2.1.length->Iq s i
 | 0,_=>⟨Ji h hc (Nat.le_refl _),hl,fun k hk=>by omega⟩
 | i+1,hi=>by
  have k:=Dt h hc hg hl (i:=i) (by omega)
  obtain⟨ag,cb,ge,ll⟩:=tN s hc hg (i:=i) (by omega)
  have hb:=hg.at' (k:=i) (by omega)
  have e:((i:Int).toNat:Nat)=i:=by omega
  have lk1:=(k.lk.k i (by omega)).od cb
  have hn:=ag.n
  have step:oL s ((i+1:Nat):Int)=pJ (oL s i) i:=by
   rw[show ((i+1:Nat):Int)=(i:Int)+1 by omega,JB s (by omega),e]
  have fin:Iq s (i+1):=by
   refine⟨?_,?_,fun j hj=>?_⟩
   ·rw[step];unfold pJ;dsimp only
    refine ag7 k.np ?_
    rw[lk1.b];exact hb.2.1
   ·rw[step];unfold pJ;dsimp only
    exact k.lk.set fun _=>lk1
   ·rw[step];unfold pJ;dsimp only
    by_cases q:j=i
    ·subst q
     rw[← Mf (l:=(odLink ((oL s j).1.2.getD j default) (oL s j).2).1) lk1.a lk1.b]
     refine Yr ?_
     rw[lk1.b,hn];exact hb.2
    ·exact ah2 (k.df j (by omega))
  exact fin
structure BJ (ns:List ac) (m:Nat) (x:List aM×Int×aH):Prop where
 c:bM x.2.2
 a:0<=x.2.1/\x.2.1<=60*m
 n:x.1.length<=m
 h:∀ y∈x.1,CH ns y/\fW y<=x.2.1
 s:x.1.Pairwise fun a b=>fW a<=fW b
theorem BJ.next{ns:List ac}{m:Nat}{x:List aM×Int×aH}(h:BJ ns m x)(hm:m<3)(h0:0<ns.length)(hp:∀ x∈ns,aQ x≠[]->0<(aA x).length):BJ ns (m+1) (m3 ns x):=by
 have a:=cQ h.c (n:=60) (by omega)
 have k1:=(bX h.c 60).1
 have w:=cQ k1 (n:=(ns.length:Int)) (by omega)
 have k2:=(bX k1 (ns.length:Int)).1
 have ha:=h.a
 have hn:=h.n
 unfold m3
 dsimp only
 have hX:=bH (xs:=ns) w.1 w.2
 generalize eX:ns.getD (aj (aj x.2.2 60).2 (ns.length:Int)).1.toNat default=X at hX ⊢
 split
 ·refine⟨k2,?_,?_,fun y hy=>⟨(h.h y hy).1,?_⟩,h.s⟩
  ·show 0<=x.2.1+_/\x.2.1+_<=60*((m+1:Nat):Int)
   omega
  ·show x.1.length<=m+1
   omega
  ·have:=(h.h y hy).2
   show fW y<=x.2.1+_
   omega
 ·rename_i hr
  have hr':aQ X≠[]:=fun e=>hr (by rw[e];rfl)
  have q3:=cQ k2 (n:=((aQ X).length:Int)) (by omega)
  have b3:=(bX k2 ((aQ X).length:Int)).1
  have hpp:=hp X hX hr'
  have q4:=cQ b3 (n:=((aA X).length:Int)) (by omega)
  have b4:=(bX b3 ((aA X).length:Int)).1
  have b5:=(bX b4 4).1
  refine⟨b5,?_,?_,fun y hy=>?_,?_⟩
  ·show 0<=x.2.1+_/\x.2.1+_<=60*((m+1:Nat):Int)
   omega
  ·show (x.1++[_]).length<=m+1
   rw[List.length_append,List.length_singleton];omega
  ·rcases List.mem_append.1 hy with hy|hy
   ·refine⟨(h.h y hy).1,?_⟩
    have:=(h.h y hy).2
    show fW y<=x.2.1+_
    omega
   ·rw[List.mem_singleton.1 hy]
    refine⟨⟨?_,w,rfl,?_,?_⟩,Int.le_refl _⟩
    ·show 0<=x.2.1+_/\x.2.1+_<=180
     omega
    ·refine⟨(aQ X).getD (aj (aj (aj x.2.2 60).2 (ns.length:Int)).2 ((aQ X).length:Int)).1.toNat default,?_,rfl,rfl⟩
     show _∈aQ (ns.getD (aj (aj x.2.2 60).2 (ns.length:Int)).1.toNat default)
     rw[eX]
     exact bH q3.1 q3.2
    ·by_cases hz:(aj (aj (aj (aj (aj x.2.2 60).2 (ns.length:Int)).2 ((aQ X).length:Int)).2 ((aA X).length:Int)).2 4).1=3
     ·exact .inl (if_pos hz)
     ·refine .inr ⟨(aA X).getD (aj (aj (aj (aj x.2.2 60).2 (ns.length:Int)).2 ((aQ X).length:Int)).2 ((aA X).length:Int)).1.toNat default,?_,if_neg hz⟩
      show _∈aA (ns.getD (aj (aj x.2.2 60).2 (ns.length:Int)).1.toNat default)
      rw[eX]
      exact bH q4.1 q4.2
  ·refine List.pairwise_append.2 ⟨h.s,List.pairwise_singleton _ _,fun y hy z hz=>?_⟩
   have:=(h.h y hy).2
   rw[List.mem_singleton.1 hz]
   show fW y<=x.2.1+_
   omega
theorem xn{α:Type} [Inhabited α] {l:List α} {x:α} (h:x∈l):∃ i:Nat,i<l.length/\l.getD i default=x:=by
 obtain⟨i,hi,e⟩:=List.mem_iff_getElem.1 h
 exact⟨i,hi,by rw[List.getD_eq_getElem?_getD,List.getElem?_eq_getElem hi,e];rfl⟩
theorem RS.np{s r:aO}{nn nl:Nat}(h:RS s nn nl r):oA r.1.1:=fun i hi=>by
 have hi':i<nn:=by have:=h.i.n;have:=h.g.n;omega
 obtain⟨host,f,sd,hd,hf,h0,h1⟩:=h.g.d i hi'
 have e:=h.i.e i (by rw[h.g.n];exact hi')
 exact NP.routes (NP.same (NP.new (host:=host) hf h0 h1) hd.symm) e.symm
theorem RS.opq{s r:aO}{nn nl:Nat}(h:RS s nn nl r){i:Nat}(hi:i<nn):dw (r.1.1.getD i default)=false:=by
 obtain⟨host,f,sd,hd,-⟩:=h.g.d i hi
 have e:=congrArg dw (h.i.e i (by rw[h.g.n];exact hi))
 have e2:dw (s.1.1.getD i default)=dw (oY i host f sd):=congrArg (fun z=>dw (([]:List (Int×Int)),z)) hd
 exact e.trans e2
theorem RS.adr{s r:aO}{nn nl:Nat}(h:RS s nn nl r)(hl:nl<=10):∀ a∈fV s.1.1,a∈AQ:=fun a ha=>by
 unfold fV at ha
 obtain⟨x,hx,ha⟩:=List.mem_flatMap.1 ha
 obtain⟨q,hq,rfl⟩:=List.mem_map.1 ha
 obtain⟨i,hi,rfl⟩:=xn hx
 rw[h.g.p i (by rw[← h.g.n];exact hi)] at hq
 obtain⟨j,hj,e⟩:=xS.1 hq
 rw[h.g.l] at hj
 rw[Nat.zero_add] at e
 rcases e with⟨-,rfl⟩|⟨-,rfl⟩
 ·exact Mi (k:=j) (by omega) (.inl rfl)
 ·exact Mi (k:=j) (by omega) (.inr rfl)
theorem RS.links{s r:aO}{nn nl:Nat}(h:RS s nn nl r):r.1.2.1=s.1.2.1:=congrArg Prod.fst h.l
theorem RS.lk{s r:aO}{nn nl:Nat}(h:RS s nn nl r):mU r.1.2.1 r.1.2.1:=⟨rfl,fun i hi=>by
 rw[h.links] at hi ⊢
 have:=h.g.g _ (mq hi)
 exact⟨rfl,rfl,rfl,rfl,by omega,by omega⟩⟩
theorem RS.dn{s r:aO}{nn nl:Nat}(h:RS s nn nl r)(n3:3<=nn)(n7:nn<=7)(l2:2<=nl)(l10:nl<=10):DN r.1:=by
 have rn:r.1.1.length=nn:=h.i.n.trans h.g.n
 have rl:=h.links
 have rh:r.1.2.2=[]:=(congrArg Prod.snd h.l).trans h.g.h
 refine⟨by omega,by omega,by rw[rl,h.g.l];exact l2,by rw[rl,h.g.l];exact l10,by rw[rh];exact Nat.zero_le _,fun x hx=>?_,fun i hi=>?_,h.np,fun i hi=>?_,fun x hx=>?_,fun x hx=>?_,?_⟩
 ·rw[rl] at hx
  have:=h.g.g x hx
  rw[rn];omega
 ·rw[rl];exact h.ports (by omega)
 ·rw[rl];exact (h.tab (by omega)).sub (h.adr l10)
 ·rw[rl] at hx
  have g:=h.g.g x hx
  unfold iP
  rw[h.opq (i:=(lA x).toNat) (by omega)];rfl
 ·rw[rh] at hx;cases hx
 ·rw[rh];exact List.Pairwise.nil
theorem N9{s:aO}(h:bM s.2)(hg:fK s.1.1.length s.1.2.1)(h0:0<s.1.1.length)(hp:∀ x∈(oL s s.1.2.1.length).1.1,aQ x≠[]->0<(aA x).length):∀ i:Nat,i<=3->BJ (oL s s.1.2.1.length).1.1 i (oC s i)
 | 0,_=>⟨(bX (tN s h hg (Int.le_refl _)).2.1 4).1,⟨Int.le_refl _,Int.le_refl _⟩,Nat.le_refl _,fun y hy=>(by cases hy),List.Pairwise.nil⟩
 | i+1,hi=>by
  rw[Ep]
  exact (N9 h hg h0 hp i (by omega)).next (by omega) (by rw[(tN s h hg (Int.le_refl _)).1.n];exact h0) hp
theorem RS.odd{s r:aO}{nn nl:Nat}(h:RS s nn nl r)(n3:3<=nn)(n7:nn<=7)(l2:2<=nl)(l10:nl<=10):DN (lV r).1:=by
 have rn:r.1.1.length=nn:=h.i.n.trans h.g.n
 have rl:=h.links
 have pre:=h.preO (by omega) (by omega) (by omega)
 have ok:=tN r h.c pre.g (i:=r.1.2.1.length) (Int.le_refl _)
 have inv:=Dt h.np h.c pre.g h.lk (i:=r.1.2.1.length) (Nat.le_refl _)
 have ag:=ok.1
 have e:(lV r).1=((oL r r.1.2.1.length).1.1,(oL r r.1.2.1.length).1.2,(oC r (oK r).toNat).1):=by
  unfold lV oC oK oL oN
  rfl
 have kk:=cQ ok.2.1 (n:=4) (by omega)
 have hp:∀ x∈(oL r r.1.2.1.length).1.1,aQ x≠[]->0<(aA x).length:=fun x hx hr=>by
  obtain⟨i,hi,rfl⟩:=xn hx
  have q:=ag.e i (by rw[← ag.n];exact hi)
  rw[q.1]
  rw[q.2] at hr
  exact (pre.p _ (mq (by rw[← ag.n];exact hi)) hr).1
 have oc:=N9 h.c pre.g pre.n0 hp (oK r).toNat (by unfold oK;omega)
 rw[e]
 have ln:(oL r r.1.2.1.length).1.1.length=nn:=ag.n.trans rn
 have ll:(oL r r.1.2.1.length).1.2.length=nl:=by rw[inv.lk.n,rl,h.g.l]
 refine⟨by rw[ln];exact n3,by rw[ln];exact n7,by rw[ll];exact l2,by rw[ll];exact l10,?_,fun x hx=>?_,fun i hi=>?_,inv.np,fun i hi=>?_,fun x hx=>?_,fun x hx=>(oc.h x hx).1,oc.s⟩
 ·have:=oc.n
  have:(oK r).toNat<=3:=by unfold oK;omega
  dsimp only
  omega
 ·obtain⟨l0,hl0,k⟩:=inv.lk.mem hx
  rw[rl] at hl0
  have g:=h.g.g l0 hl0
  have ka:=k.a;have kb:=k.b;have kd:=k.d;have ks:=k.s;have kj:=k.j;have ko:=k.o
  rw[ln,ka,kb,kd,ks]
  omega
 ·dsimp only at hi ⊢
  rw[(ag.e i (by omega)).1,h.ports (by omega),inv.lk.portsF,rl]
 ·dsimp only at hi ⊢
  rw[(ag.e i (by omega)).2]
  refine kT.sub (kT.lk inv.lk ?_) (h.adr l10)
  rw[rl]
  exact h.tab (by omega)
 ·dsimp only at hx ⊢
  obtain⟨i,hi,rfl⟩:=xn hx
  have hi':i<r.1.2.1.length:=by rw[← inv.lk.n];exact hi
  have k:=inv.lk.k i hi'
  rw[Mf k.a k.b]
  exact inv.df i hi'
theorem KA{c:aH}(h:bM c)(plain:Bool):DN (oz plain c):=by
 have hn:=rS h
 obtain⟨m,m2,m10,G⟩:=Ab h plain
 have R:=G.rs plain
 unfold oz yr
 cases plain with
 | true=>exact R.dn (by omega) (by omega) m2 m10
 | false=>exact R.odd (by omega) (by omega) m2 m10
theorem UH{c:aH}(h:bM c)(plain:Bool):bM (uN plain c):=by
 obtain⟨m,m2,m10,G⟩:=Ab h plain
 have R:=G.rs plain
 unfold uN yr
 cases plain with
 | true=>exact R.c
 | false =>
  have hn:=rS h
  have pre:=R.preO (by omega) (by omega) (by omega)
  exact (F8 _ R.c pre.g _).1
end Go.RS

/- Drawn2: drawn networks have no error; who has an address; routes. -/
namespace Go.RS
open Go.SX Go.Proofs
set_option maxRecDepth 100000
set_option linter.unusedVariables false
theorem DN.port{n:bt}(h:DN n){i:Nat}(hi:i<n.1.length){q:lO}:q∈aA (n.1.getD i default)↔∃ j:Nat,j<n.2.1.length/\((lA (n.2.1.getD j default)=i/\q=(dQ j+1,(j:Int)))∨(lB (n.2.1.getD j default)=i/\q=(dQ j+2,(j:Int)))):=by
 rw[h.p i hi,xS];simp only[Nat.zero_add]
theorem DN.links{n:bt}(h:DN n){i:Nat}(hi:i<n.1.length){k:Int}:k∈br (n.1.getD i default)↔lnk n.2.1 i k:=by
 unfold br lnk
 rw[List.mem_map]
 constructor
 ·rintro⟨q,hq,rfl⟩
  obtain⟨j,hj,e⟩:=(h.port hi).1 hq
  rcases e with⟨e,rfl⟩|⟨e,rfl⟩
  ·exact⟨by dsimp only;omega,by dsimp only;omega,.inl (by simpa using e)⟩
  ·exact⟨by dsimp only;omega,by dsimp only;omega,.inr (by simpa using e)⟩
 ·rintro⟨k0,k1,e⟩
  have ek:((k.toNat:Nat):Int)=k:=by omega
  rcases e with e|e
  ·exact⟨_,(h.port hi).2 ⟨k.toNat,by omega,.inl ⟨e,rfl⟩⟩,ek⟩
  ·exact⟨_,(h.port hi).2 ⟨k.toNat,by omega,.inr ⟨e,rfl⟩⟩,ek⟩
theorem DN.uniq{n:bt}(h:DN n){i j:Nat}(hi:i<n.1.length)(hj:j<n.1.length){q p:lO}(hq:q∈aA (n.1.getD i default))(hp:p∈aA (n.1.getD j default))(e:q.1=p.1):i=j/\q.2=p.2:=by
 obtain⟨a,ha,ea⟩:=(h.port hi).1 hq
 obtain⟨b,hb,eb⟩:=(h.port hj).1 hp
 unfold dQ at ea eb
 rcases ea with⟨ea,rfl⟩|⟨ea,rfl⟩ <;> rcases eb with⟨eb,rfl⟩|⟨eb,rfl⟩ <;> dsimp only at e ⊢
 ·have:a=b:=by omega
  subst this;omega
 ·omega
 ·omega
 ·have:a=b:=by omega
  subst this;omega
theorem DN.padr{n:bt}(h:DN n){i:Nat}(hi:i<n.1.length){a:Int}(ha:a∈nR (n.1.getD i default)):167837697<=a/\a<=167837734:=by
 obtain⟨q,hq,rfl⟩:=List.mem_map.1 ha
 obtain⟨b,hb,eb⟩:=(h.port hi).1 hq
 have:=h.l10
 unfold dQ at eb
 rcases eb with⟨eb,rfl⟩|⟨eb,rfl⟩ <;> dsimp only <;> omega
theorem DN.loop{n:bt}(h:DN n){i:Nat}(hi:i<n.1.length):ga (n.1.getD i default)=0∨ga (n.1.getD i default)=167903232+i:=(h.d i hi).loop
theorem PO{x:ac}{a:Int}:a∈eZ x↔a∈nR x∨(ga x≠0/\a=ga x):=by
 unfold eZ
 rw[List.mem_append]
 by_cases e:ga x=0
 ·rw[if_pos e];simp[e]
 ·rw[if_neg e];simp[e]
theorem DN.apart{n:bt}(h:DN n){i j:Nat}(hi:i<n.1.length)(hj:j<n.1.length){a:Int}(ha:a∈eZ (n.1.getD i default))(hb:a∈eZ (n.1.getD j default)):i=j:=by
 rw[PO] at ha hb
 have li:=h.loop hi
 have lj:=h.loop hj
 rcases ha with ha|ha <;> rcases hb with hb|hb
 ·obtain⟨q,hq,e⟩:=List.mem_map.1 ha
  obtain⟨p,hp,e2⟩:=List.mem_map.1 hb
  exact (h.uniq hi hj hq hp (e.trans e2.symm)).1
 ·have:=h.padr hi ha;omega
 ·have:=h.padr hj hb;omega
 ·omega
theorem Nl{ls:List aE}{i:Int}{t:List Rt}(h:kT ls AQ i t):t.length<=20:=Fc h
theorem Wc{ls:List aE}{k:Int}(k0:0<=k)(k1:k<ls.length):fy ls k (lA (ls.getD k.toNat default))=lB (ls.getD k.toNat default):=by
 unfold fy;rw[if_neg (by omega),if_pos rfl]
theorem Yj{ls:List aE}{k:Int}(k0:0<=k)(k1:k<ls.length)(hn:lA (ls.getD k.toNat default)≠lB (ls.getD k.toNat default)):fy ls k (lB (ls.getD k.toNat default))=lA (ls.getD k.toNat default):=by
 unfold fy;rw[if_neg (by omega),if_neg (fun e=>hn e.symm),if_pos rfl]
theorem ZL{l:List Rt}{c:aM}{r:Rt}(h:r∈fF l c):r=cX c∨r∈l:=by
 unfold fF at h
 split at h
 ·exact .inr (List.mem_filter.1 h).1
 ·rcases Mc.1 h with h|h
  ·exact .inl h
  ·exact .inr h.1
theorem at7{n:bt}{who at':Int}(w0:0<=who)(w1:who<n.1.length){P:Rt->Prop}(h0:∀ r∈aQ (n.1.getD who.toNat default),P r)(hc:∀ c∈n.2.2,bq c=who->P (cX c)):∀ r∈BV n who at',P r:=by
 unfold BV Kx
 rw[if_neg (by omega)]
 have e:∀(l:List aM)(t:List Rt),(∀ c∈l,bq c=who->P (cX c))->(∀ r∈t,P r)→∀ r∈l.foldl (D3 who at') t,P r:=by
  intro l
  induction l with
  | nil=>intro t _ h;exact h
  | cons c l ih =>
   intro t hl ht
   rw[List.foldl_cons]
   refine ih _ (fun x hx=>hl x (List.mem_cons_of_mem _ hx)) fun r hr=>?_
   unfold D3 at hr
   split at hr
   ·rename_i q
    rcases ZL hr with rfl|hr
    ·exact hl c List.mem_cons_self q.1
    ·exact ht r hr
   ·exact ht r hr
 exact e _ _ (fun c hc'=>hc c (List.mem_of_mem_take hc')) h0
theorem DN.next{n:bt}(h:DN n){who at':Int}(w0:0<=who)(w1:who<n.1.length):∀ r∈BV n who at',∀ k∈r.2.1,lnk n.2.1 who k:=by
 have ew:((who.toNat:Nat):Int)=who:=by omega
 refine at7 w0 w1 (fun r hr k hk=>?_) (fun c hc hw k hk=>?_)
 ·have:=((h.t who.toNat (by omega)).2 r hr).ln k hk
  rw[ew] at this;exact this
 ·have q:=(h.c c hc).x
  rw[hw] at q
  rcases q with e|⟨q,hq,e⟩
  ·rw[e] at hk;cases hk
  ·rw[e] at hk
   rw[List.mem_singleton.1 hk]
   have:=(h.links (i:=who.toNat) (by omega)).1 (List.mem_map.2 ⟨q,hq,rfl⟩)
   rw[ew] at this;exact this
theorem DN.other{n:bt}(h:DN n){who k:Int}(hk:lnk n.2.1 who k):0<=fy n.2.1 k who/\fy n.2.1 k who<n.1.length:=by
 obtain⟨k0,k1,e⟩:=hk
 have g:=h.g _ (bH k0 k1)
 rcases e with e|e
 ·rw[← e,Wc k0 k1];exact g.2.1
 ·rw[← e,Yj k0 k1 g.2.2.1];exact g.1
end Go.RS

/- Drawn3: each node of a drawn network has a port. -/
namespace Go.RS
open Go.SX Go.Proofs
set_option maxRecDepth 100000
set_option linter.unusedVariables false
def iC(ls:List aE)(i:Int):Prop:=∃ l∈ls,lA l=i∨lB l=i
theorem iC.app{ls:List aE}{i:Int}(h:iC ls i)(m:List aE):iC (ls++m) i:=by
 obtain⟨l,hl,e⟩:=h
 exact⟨l,List.mem_append_left _ hl,e⟩
theorem iC.link{s:aO}{i:Int}(h:iC s.1.2.1 i)(a b:Int):iC (gf s a b).1.2.1 i:=h.app _
theorem Iv(s:aO)(a b:Int):iC (gf s a b).1.2.1 a:=⟨_,List.mem_append_right _ List.mem_cons_self,.inl rfl⟩
theorem Xb(s:aO)(a b:Int):iC (gf s a b).1.2.1 b:=⟨_,List.mem_append_right _ List.mem_cons_self,.inr rfl⟩
theorem G8(s:aO):∀ k j:Nat,j<k->iC ((List.range k).foldl oI s).1.2.1 j
 | 0,j,h=>absurd h (Nat.not_lt_zero _)
 | k+1,j,h=>by
  rw[List.range_succ,List.foldl_append]
  by_cases e:j<k
  ·exact (G8 s k j e).link (s:=ib ((List.range k).foldl oI s) false) _ _
  ·have:j=k:=by omega
   subst this
   exact Iv _ _ _
theorem SR{c:aH}(h:bM c){j:Nat}(hj:j<(bg c).toNat+2):iC (kW c).2.1.2.1 j:=by
 have hn:=rS h
 rw[BT]
 by_cases e:j<(bg c).toNat
 ·exact (G8 _ _ _ e).link (s:=ib ((List.range (bg c).toNat).foldl oI (sc c)) true) _ _
 by_cases e2:j=(bg c).toNat
 ·rw[show ((j:Nat):Int)=bg c by omega];exact Iv _ _ _
 ·rw[show ((j:Nat):Int)=bg c+1 by omega];exact Xb _ _ _
theorem WK{s:aO}{i:Int}(h:iC s.1.2.1 i)(n:Int):iC (pI n s).1.2.1 i:=by
 unfold pI
 dsimp only
 split
 ·exact h
 ·exact iC.app h _
theorem MI{n i:Int}:∀(k:Nat){s:aO},iC s.1.2.1 i->iC ((List.range k).foldl (fun s _=>pI n s) s).1.2.1 i
 | 0,s,h=>h
 | k+1,s,h=>by
  rw[List.range_succ,List.foldl_append]
  exact WK (MI k h) n
theorem PZ{s:aO}{i:Int}(h:iC s.1.2.1 i)(plain:Bool)(n:Int):iC (vp plain n s).1.2.1 i:=by
 rw[Cz]
 dsimp only
 have h1:iC (nH plain n s (aj s.2 4).1.toNat).1.2.1 i:=by
  unfold nH
  split
  ·exact MI _ h
  ·exact h
 generalize nH plain n s (aj s.2 4).1.toNat=t at h1 ⊢
 split
 ·split
  ·exact iC.app h1 _
  ·exact h1
 ·exact h1
theorem R9{s r:aO}{nn nl:Nat}(h:RS s nn nl r)(n3:3<=nn)(n7:nn<=7)(l10:nl<=10){i:Int}(ht:iC r.1.2.1 i):iC (lV r).1.2.1 i:=by
 have pre:=h.preO (by omega) (by omega) (by omega)
 have inv:=Dt h.np h.c pre.g h.lk (i:=r.1.2.1.length) (Nat.le_refl _)
 have e:(lV r).1.2.1=(oL r r.1.2.1.length).1.2:=by
  unfold lV oL oN
  rfl
 rw[e]
 obtain⟨l,hl,q⟩:=ht
 obtain⟨j,hj,rfl⟩:=xn hl
 have k:=inv.lk.k j hj
 refine⟨_,mq (by rw[inv.lk.n];exact hj),?_⟩
 rw[k.a,k.b];exact q
theorem Tb{s r:aO}{nn nl:Nat}(h:RS s nn nl r)(n3:3<=nn)(n7:nn<=7)(l10:nl<=10):(lV r).1.1.length=r.1.1.length:=by
 have pre:=h.preO (by omega) (by omega) (by omega)
 have ok:=tN r h.c pre.g (i:=r.1.2.1.length) (Int.le_refl _)
 have e:(lV r).1.1=(oL r r.1.2.1.length).1.1:=by
  unfold lV oL oN
  rfl
 rw[e]
 exact ok.1.n
theorem RJ{c:aH}(h:bM c)(plain:Bool){i:Nat}(hi:i<(oz plain c).1.length):iC (oz plain c).2.1 i:=by
 have hn:=rS h
 obtain⟨m,m2,m10,G⟩:=Ab h plain
 have R:=G.rs plain
 have rn:=R.i.n.trans R.g.n
 have t:=fun j=>fun (hj:j<(bg c).toNat+2)=>PZ (SR h hj) plain (kW c).1
 unfold oz yr at hi ⊢
 dsimp only at hi ⊢
 cases plain with
 | true =>
  rw[if_pos rfl] at hi ⊢
  rw[R.links]
  exact t i (by rw[← rn];exact hi)
 | false =>
  rw[if_neg (by decide)] at hi ⊢
  have ol:=Tb R (by omega) (by omega) m10
  refine R9 R (by omega) (by omega) m10 ?_
  rw[R.links]
  exact t i (by rw[← rn];omega)
theorem Ue{c:aH}(h:bM c)(plain:Bool){i:Nat}(hi:i<(oz plain c).1.length):0<(aA ((oz plain c).1.getD i default)).length:=by
 have D:=KA h plain
 obtain⟨l,hl,q⟩:=RJ h plain hi
 obtain⟨j,hj,rfl⟩:=xn hl
 rcases q with q|q
 ·exact List.length_pos_of_mem ((D.port hi).2 ⟨j,hj,.inl ⟨q,rfl⟩⟩)
 ·exact List.length_pos_of_mem ((D.port hi).2 ⟨j,hj,.inr ⟨q,rfl⟩⟩)
end Go.RS

/- Law12: the laws of buckets. -/
namespace Go.RS
open Go.SX Go.Proofs
set_option maxRecDepth 100000
set_option linter.unusedVariables false
end Go.RS

/- Law13: what a node does with several packets; a packet that is an answer or damaged is never answered. -/
namespace Go.RS
open Go.SX Go.Proofs
set_option maxRecDepth 100000
set_option linter.unusedVariables false
def oM(x:ac):Prop:=(∀ y∈aA x,u32 y.1)/\u32 (ga x)/\u32 (ng x)
theorem Uw{n:bt}(h:DN n){i:Nat}(hi:i<n.1.length):oM (n.1.getD i default):=by
 have d:=h.d i hi
 have l10:=h.l10
 have n7:=h.n7
 refine⟨fun y hy=>?_,?_,?_⟩
 ·obtain⟨j,hj,q⟩:=(h.port hi).1 hy
  unfold dQ at q
  rcases q with⟨-,rfl⟩|⟨-,rfl⟩ <;> (constructor <;> simp only <;> omega)
 ·rcases d.loop with q|q <;> (rw[q];constructor <;> omega)
 ·rcases d.fix with q|q
  ·rw[q];constructor <;> omega
  ·constructor <;> omega
def LR:Ct:=⟨[.agg xO],[.val (.sl bj),.val cI],fun d=>[],fun d=>((build d.1,dI d.1,()),())⟩
def Yg:ao LR.ps->az:=(fun _=>{})
theorem TF :
 ∀(a b c d e f:Int),((0<=a/\a<=4294967295)/\(0<=b/\b<=4294967295)/\ab c/\ab d/\ab e/\ab f)/\True->True->ad (! decide (dI (a,b,c,d,e,f)=0)) (([]:List Int)=build (a,b,c,d,e,f)/\dI (a,b,c,d,e,f)=dI (a,b,c,d,e,f)) (dI (a,b,c,d,e,f)=0/\((List.length (dA (a,b,c,d,e,f))):Int)<=1073741824/\cN (((0:Int),e,f,c,true,a,b),dA (a,b,c,d,e,f))=build (a,b,c,d,e,f)/\c8 (((0:Int),e,f,c,true,a,b),dA (a,b,c,d,e,f))=dI (a,b,c,d,e,f)):=by
  rintro s d pr f t l - -
  refine ae (fun h=>?_) (fun h=>?_)
  ·have h:¬ dI (s,d,pr,f,t,l)=0:=by simpa using h
   rw[build,if_neg h];exact⟨rfl,rfl⟩
  have h:dI (s,d,pr,f,t,l)=0:=by simpa using h
  have e0:=LI h
  have hl:=xW h
  refine⟨h,by omega,?_⟩
  rw[build,if_pos h,h]
  exact⟨rfl,e0⟩
theorem Oi:av Tryz.prog GL 34 LR.spec:=Ct.okH _ Tryz.func34 (by kernel_rfl) (ai (ai (ai aC Le) aj6) U8) ar Yg (aD (by kernel_rfl) TF)
theorem Kg{B:Int->Int->List Int}{F:Int->Int}{w:cy}{own:Int}(h:F 0≠0):(cq B F w own).2.2≠2:=by
 by_cases k:own=0/\jH w.1=true
 ·rw[tM k];show (4:Int)≠2;decide
 ·rw[ue k h];show (6:Int)≠2;decide
theorem ze{b:List Int}(h:¬ cf b)(k c i t:Int):fh b k c i t≠0:=by
 unfold fh
 by_cases g:oT k c i t
 ·rw[if_neg (by simpa using g),if_neg h];decide
 ·rw[if_pos g];decide
theorem Ly{b:List Int}(h:¬ cf b)(i t:Int):eT b i t≠0:=by
 unfold eT
 by_cases g:f5 i t
 ·rw[if_neg (by simpa using g),if_neg (fun k=>h k.1)];decide
 ·rw[if_pos g];decide
theorem ak6{x:ac}{s:bp}{lk t:Int}{b:List Int}(h:¬ cf b):(dD x s lk t b).2.2≠2:=by
 unfold dD dS
 split
 ·show (6:Int)≠2;decide
 split
 ·unfold gc
  rw[if_pos (.inr (by exact Ly h _ _))]
  show (1:Int)≠2;decide
 split
 ·show (6:Int)≠2;decide
 unfold dR
 split
 ·exact Kg (ze h _ _ _ _)
 split
 ·split
  ·show (8:Int)≠2;decide
  ·exact Kg (ze h _ _ _ _)
 ·show (0:Int)≠2;decide
theorem Dv{B:Int->Int->List Int}{F:Int->Int}{w:cy}{own:Int}:(cq B F w own).2.2≠0/\(cq B F w own).2.2≠1:=by
 by_cases k:own=0/\jH w.1=true
 ·rw[tM k];exact⟨(by show (4:Int)≠0;decide),(by show (4:Int)≠1;decide)⟩
 by_cases k1:F 0≠0
 ·rw[ue k k1];exact⟨(by show (6:Int)≠0;decide),(by show (6:Int)≠1;decide)⟩
 by_cases k2:d7 w.2.1 (j8 w.2.2.2.2.2)=false
 ·rw[ww k k1 k2];exact⟨(by show (8:Int)≠0;decide),(by show (8:Int)≠1;decide)⟩
 by_cases k3:(jr w).2=false
 ·rw[u3 k k1 k2 k3];exact⟨(by show (5:Int)≠0;decide),(by show (5:Int)≠1;decide)⟩
 ·rw[vU k k1 k2 k3];exact⟨(by show (2:Int)≠0;decide),(by show (2:Int)≠1;decide)⟩
structure Oe (x:ac) (s:bp) (lk:Int) (b:List Int):Prop where
 dec:bU b=0
 own:¬ j5 x (gU (aS b).1)=true
 host:¬ (lq x=true/\lk ≠ -1)
 ttl:¬ (lk ≠ -1/\dw x=false/\wC (aS b).1<2)
 way:¬ d7 s (gU (aS b).1)=false
def Aq(s:bp)(b:List Int):Rt:=bd (bh s) (gU (aS b).1)
theorem BW{x:ac}{s:bp}{lk t:Int}{b:List Int}(h:Oe x s lk b):dD x s lk t b=(fx s (Aq s b),(gZ x s (Aq s b) (fp b),if lk ≠ -1/\dw x=false then gE b else b),0):=by
 show dS (x,s,lk,t,b,mI)=_
 unfold dS
 rw[if_neg (by simpa using h.dec),if_neg h.own,if_neg h.host]
 have e:∀ w:cy,w.1=x->w.2.1=s->w.2.2.1=lk->w.2.2.2.2.1=b->w.2.2.2.2.2=(aS b).1->dR w=(fx s (Aq s b),(gZ x s (Aq s b) (fp b),if lk ≠ -1/\dw x=false then gE b else b),0):=by
  intro w e1 e2 e3 e4 e5
  unfold dR
  rw[e1,e2,e3,e4,e5,if_neg h.ttl,if_neg h.way]
  rfl
 exact e _ rfl rfl rfl rfl rfl
theorem CI{x:ac}{s:bp}{lk t:Int}{b:List Int}(h:(dD x s lk t b).2.2=0):Oe x s lk b:=by
 have h:(dS (x,s,lk,t,b,mI)).2.2=0:=h
 unfold dS at h
 by_cases k1:bU b≠0
 ·rw[if_pos k1] at h;exact absurd h (by show (6:Int)≠0;decide)
 rw[if_neg k1] at h
 by_cases k2:j5 x (gU (aS b).1)=true
 ·rw[if_pos k2] at h
  unfold gc at h
  split at h
  ·exact absurd h (by show (1:Int)≠0;decide)
  ·exact absurd h Dv.1
 rw[if_neg k2] at h
 by_cases k4:lq x=true/\lk ≠ -1
 ·rw[if_pos k4] at h;exact absurd h (by show (6:Int)≠0;decide)
 rw[if_neg k4] at h
 unfold dR at h
 split at h
 ·exact absurd h Dv.1
 rename_i k5
 split at h
 ·split at h
  ·exact absurd h (by show (8:Int)≠0;decide)
  ·exact absurd h Dv.1
 rename_i k6
 exact⟨by simpa using k1,k2,k4,k5,k6⟩
theorem ah0{p:bL}(g:cH p):bU (build p)=0/\(aS (build p)).1=qm p:=by
 have h:=OL g.ok g.s g.d
 exact⟨h.2.1,by rw[aS,if_pos h.2.1];exact h.1⟩
def Dd(x:ac)(s s':bp)(t why:Int):Prop :=
 bh s'=bh s/\(jc s').length=(jc s).length ∧
  ((why≠2/\mG s'=mG s/\(pD s'=pD s∨(pD s'=(ik (io x) (pD s) t).1/\(ik (io x) (pD s) t).2=false))) ∨
    (why=2/\mG s'=IntKind.i64.wrap (mG s+1)/\pD s'=(ik (io x) (pD s) t).1/\(ik (io x) (pD s) t).2=true))
theorem tD{x:ac}{s:bp}{t why:Int}(h:why≠2):Dd x s s t why:=⟨rfl,rfl,.inl ⟨h,rfl,.inl rfl⟩⟩
theorem VS(l:List Int)(i:Int):(nK l i).length=l.length:=by
 unfold nK;split
 ·exact List.length_set
 ·rfl
theorem FT{B:Int->Int->List Int}{F:Int->Int}{w:cy}{own:Int}:Dd w.1 w.2.1 (cq B F w own).1 w.2.2.2.1 (cq B F w own).2.2:=by
 by_cases k:own=0/\jH w.1=true
 ·rw[tM k];exact tD (by show (4:Int)≠2;decide)
 by_cases k1:F 0≠0
 ·rw[ue k k1];exact tD (by show (6:Int)≠2;decide)
 by_cases k2:d7 w.2.1 (j8 w.2.2.2.2.2)=false
 ·rw[ww k k1 k2];exact tD (by show (8:Int)≠2;decide)
 by_cases k3:(jr w).2=false
 ·rw[u3 k k1 k2 k3];exact⟨rfl,rfl,.inl ⟨(by show (5:Int)≠2;decide),rfl,.inr ⟨rfl,k3⟩⟩⟩
 ·rw[vU k k1 k2 k3]
  have k4:(jr w).2=true:=by simpa using k3
  refine⟨?_,?_,.inr ⟨rfl,?_,?_,k4⟩⟩
  ·rw[uW];rfl
  ·rw[uW];exact VS _ _
  ·rw[uW];rfl
  ·rw[uW];rfl
theorem Nq(x:ac)(s:bp)(lk t:Int)(b:List Int):Dd x s (dD x s lk t b).1 t (dD x s lk t b).2.2:=by
 unfold dD dS
 split
 ·exact tD (by show (6:Int)≠2;decide)
 split
 ·unfold gc
  split
  ·exact tD (by show (1:Int)≠2;decide)
  ·exact FT (w:=ry (x,s,lk,t,b,mI) (aS b).1)
 split
 ·exact tD (by show (6:Int)≠2;decide)
 unfold dR
 split
 ·exact FT (w:=ry (x,s,lk,t,b,mI) (aS b).1)
 split
 ·split
  ·exact tD (by show (8:Int)≠2;decide)
  ·exact FT (w:=ry (x,s,lk,t,b,mI) (aS b).1)
 ·refine⟨?_,?_,.inl ⟨(by show (0:Int)≠2;decide),?_,.inl ?_⟩⟩ <;> (rw[uW];rfl)
theorem J6{n:ac}{s:bp}{port a asked dst:Int}(hb:0<=kD n/\kD n<=65535)(ha:0<=asked/\asked<=65535):0<=jx n s port a asked dst/\jx n s port a asked dst<=65535:=by
 have hc:∀ x,0<=oB n x a/\oB n x a<=65535:=fun x=>by unfold oB;omega
 have hh:0<=mh (kD n) (0,dst,0,mG s,0)%65536/\mh (kD n) (0,dst,0,mG s,0)%65536<=65535:=by omega
 unfold jx
 split
 ·exact hb
 split
 ·exact hc _
 split
 ·split <;> exact hc _
 split
 ·exact ha
 split
 ·exact hh
 ·omega
theorem BO{x:ac}(A:oM x){i:Int}(h0:0<=i)(h1:i<(aA x).length):u32 (adr x i)/\j5 x (adr x i)=true:=by
 have hm:=bH h0 h1
 rw[NY h0 h1]
 refine⟨A.1 _ hm,?_⟩
 have:0<=jQ x ((aA x).getD i.toNat default).1:=I8 hm (by simp[iX])
 unfold j5
 rw[decide_eq_true this];rfl
theorem Rm{x:ac}{lk L:Int}(N:mL x)(A:oM x)(hi:0<=cF x lk)(hL:0<=cF x L) :
  u32 (jg x (bi x lk) L)/\(j5 x (jg x (bi x lk) L)=true∨(jG x=4/\jg x (bi x lk) L=ng x))/\(jG x=1->jg x (bi x lk) L=((aA x).getD (cF x lk).toNat default).1):=by
 have e:bi x lk=cF x lk:=by unfold bi;omega
 have i1:cF x lk<(aA x).length:=(qY hi).1
 have l1:cF x L<(aA x).length:=(qY hL).1
 rw[e]
 unfold jg
 by_cases s2:jG x=2
 ·rw[if_pos s2]
  have k:=BO A hL l1
  exact⟨k.1,.inl k.2,fun q=>by omega⟩
 rw[if_neg s2]
 by_cases s3:jG x=3
 ·rw[if_pos s3]
  have hne:ga x≠0:=fun q=>N.form (.inr (.inr (.inl ⟨s3,q⟩)))
  refine⟨A.2.1,.inl ?_,fun q=>by omega⟩
  unfold j5
  simp[hne]
 rw[if_neg s3]
 by_cases s4:jG x=4
 ·rw[if_pos s4]
  exact⟨A.2.2,.inr ⟨s4,rfl⟩,fun q=>by omega⟩
 rw[if_neg s4]
 have k:=BO A hi i1
 exact⟨k.1,.inl k.2,fun _=>NY hi i1⟩
theorem Gm{B:Int->Int->List Int}{F:Int->Int}{w:cy}{own:Int}(h:(cq B F w own).2.2=2) :
  F 0=0∧¬ d7 w.2.1 (j8 w.2.2.2.2.2)=false/\cq B F w own=(fx (gO w) (hT w),(iH B w,B (g9 B w own) (fI w)),2):=by
 by_cases k:own=0/\jH w.1=true
 ·rw[tM k] at h;exact absurd h (by show (4:Int)≠2;decide)
 by_cases k1:F 0≠0
 ·rw[ue k k1] at h;exact absurd h (by show (6:Int)≠2;decide)
 by_cases k2:d7 w.2.1 (j8 w.2.2.2.2.2)=false
 ·rw[ww k k1 k2] at h;exact absurd h (by show (8:Int)≠2;decide)
 by_cases k3:(jr w).2=false
 ·rw[u3 k k1 k2 k3] at h;exact absurd h (by show (5:Int)≠2;decide)
 ·exact⟨by simpa using k1,k2,vU k k1 k2 k3⟩
theorem EF{x:ac}{s:bp}{lk t:Int}{b:List Int}(h:(dD x s lk t b).2.2=2) :
  ∃ ki,dD x s lk t b=pk (zA x s lk t b) ki/\((ki=0/\j5 x (gU (aS b).1)=true/\xQ (aS b).1≠17)∨(ki=1/\xQ (aS b).1=17)∨ki=2∨ki=3):=by
 have e0:dD x s lk t b=dS (x,s,lk,t,b,mI):=rfl
 rw[e0] at h ⊢
 unfold dS at h ⊢
 by_cases k1:bU b≠0
 ·rw[if_pos k1] at h;exact absurd h (by show (6:Int)≠2;decide)
 rw[if_neg k1] at h ⊢
 by_cases k2:j5 x (gU (aS b).1)=true
 ·rw[if_pos k2] at h ⊢
  unfold gc at h ⊢
  split at h
  ·exact absurd h (by show (1:Int)≠2;decide)
  rename_i k3
  rw[if_neg k3]
  by_cases k4:xQ (aS b).1=17
  ·exact⟨1,by rw[Xi];exact congrArg (cq _ _ _) (if_pos k4),.inr (.inl ⟨rfl,k4⟩)⟩
  ·exact⟨0,by rw[ag5];exact congrArg (cq _ _ _) (if_neg k4),.inl ⟨rfl,k2,k4⟩⟩
 rw[if_neg k2] at h ⊢
 by_cases k4:lq x=true/\lk ≠ -1
 ·rw[if_pos k4] at h;exact absurd h (by show (6:Int)≠2;decide)
 rw[if_neg k4] at h ⊢
 unfold dR at h ⊢
 split at h
 ·rename_i k5
  exact⟨2,by rw[if_pos k5,Y4];rfl,.inr (.inr (.inl rfl))⟩
 rename_i k5
 rw[if_neg k5]
 split at h
 ·rename_i k6
  rw[if_pos k6]
  split at h
  ·exact absurd h (by show (8:Int)≠2;decide)
  rename_i k7
  exact⟨3,by rw[if_neg k7,WG];rfl,.inr (.inr (.inr rfl))⟩
 ·exact absurd h (by show (0:Int)≠2;decide)
theorem C2{w:cy}{ki:Int}(h:kE ki w 0=0):cf w.2.2.2.2.1:=Classical.byContradiction fun k=>by
 unfold kE at h
 split at h
 ·exact ze k _ _ _ _ h
 split at h
 ·exact ze k _ _ _ _ h
 ·exact Ly k _ _ h
structure Vu (x:ac) (lk:Int) (p:bL) (a:rN) (r:lu):Prop where
 is:yJ p a r.2.1.2
 left:a.2.2.2.1=gH x
 quoted:a.2.2.2.2.2=0∨a.2.2.2.2.2=p.2.2.2.2.2
 out:0<=cF x r.2.1.1
 exc:a.2.1=1->jG x=1->a.1=((aA x).getD (cF x lk).toNat default).1
 own:j5 x a.1=true∨(jG x=4/\a.1=ng x)
 cnt:(jc r.1).getD (cF x lk).toNat default=1
theorem YK{x:ac}{lk:Int}{p:bL}(N:mL x)(A:oM x)(g:cH p)(hlk:lk∈br x)(h:(dD x (lz x) lk 0 (build p)).2.2=2):∃ a,Vu x lk p a (dD x (lz x) lk 0 (build p)):=by
 have st:=J7 N
 obtain⟨ki,e,hk⟩:=EF h
 rw[e] at h ⊢
 obtain⟨d1,d2⟩:=ah0 g
 obtain⟨w,hw⟩:∃ w,w=zA x (lz x) lk 0 (build p):=⟨_,rfl⟩
 rw[← hw] at h ⊢
 obtain⟨a1,a2,a3⟩:=Gm h
 have w1:w.1=x:=by rw[hw];rfl
 have w2:w.2.1=lz x:=by rw[hw];rfl
 have w3:w.2.2.1=lk:=by rw[hw];rfl
 have w5:w.2.2.2.2.1=build p:=by rw[hw];rfl
 have w6:w.2.2.2.2.2=qm p:=by rw[hw];exact d2
 have hu:fg p.1:=by
  have:=C2 a1
  rw[w5] at this
  exact (EQ g).1 this
 have hi:=Co hlk
 have hin:bi x lk=cF x lk:=by unfold bi;omega
 have i1:cF x lk<(aA x).length:=(qY hi).1
 have hL:0<=cF x (iH (kB ki w) w):=by
  have:=Yb st (a:=j8 w.2.2.2.2.2) (by rw[← w2];exact a2) (gO w) (fp (kB ki w (adr w.1 (bi w.1 w.2.2.1)) 0))
  unfold iH hT
  rw[w1,w2]
  rw[w1] at this
  exact this
 obtain⟨s1,s2,s3⟩:=Rm N A hi hL
 have hr:=(lH.1 g.ok).2
 obtain⟨hf,ht,-⟩:=id hr
 have hb:0<=kD x/\kD x<=65535:=by
  have h:=N.id
  unfold iw at h
  split at h
  ·rename_i k;have:=of_decide_eq_true k;omega
  ·cases h
 have hid:f5 (fI w) (gH x):=by
  have f:=N.form
  unfold kL at f
  refine⟨?_,by omega,by omega⟩
  unfold fI
  rw[w1,w6]
  exact J6 hb ⟨by show 0<=p.2.2.2.2.1;omega,by show p.2.2.2.2.1<=65535;omega⟩
 have hc:(jc (pk w ki).1).getD (cF x lk).toNat default=1:=by
  have e1:(pk w ki).1=fx (gO w) (hT w):=congrArg (fun r:lu=>r.1) a3
  have e2:jc (pk w ki).1=nK (List.replicate (aA x).length 0) (cF x lk):=by
   rw[e1,uW]
   show nK (jc w.2.1) (bi w.1 w.2.2.1)=_
   rw[w1,w2,w3,hin];rfl
  rw[e2,DP (by rw[List.length_replicate];exact i1)]
  have:(cF x lk).toNat<(List.replicate (aA x).length (0:Int)).length:=by rw[List.length_replicate];omega
  rw[List.getD_eq_getElem?_getD,List.getElem?_set_self this,Option.getD_some,List.getD_eq_getElem?_getD,List.getElem?_eq_getElem this,Option.getD_some,List.getElem_replicate]
  decide
 have ho:(pk w ki).2.1=(iH (kB ki w) w,kB ki w (g9 (kB ki w) w (lS ki w)) (fI w)):=congrArg (fun r:lu=>r.2.1) a3
 have hsrc:jg w.1 (bi w.1 w.2.2.1) (iH (kB ki w) w)=jg x (bi x lk) (iH (kB ki w) w):=by rw[w1,w3]
 have hF:lS ki w=0->g9 (kB ki w) w (lS ki w)=jg x (bi x lk) (iH (kB ki w) w):=fun q=>by unfold g9;rw[if_pos q,hsrc]
 generalize hid2:fI w=id at hid ho
 generalize hLL:iH (kB ki w) w=L at hL s1 s2 s3 ho hF
 generalize jg x (bi x lk) L=F at s1 s2 s3 hF
 have hp17:xQ (aS (build p)).1=p.2.2.1:=by rw[d2];rfl
 rcases hk with⟨rfl,q1,q2⟩|⟨rfl,q1⟩|rfl|rfl
 ·have hd:gU (aS (build p)).1=p.2.1:=by rw[d2];rfl
  have ko:lS 0 w=p.2.1:=by show gU w.2.2.2.2.2=_;rw[w6];rfl
  rw[hd] at q1
  have hne:=YZ N q1
  have ef:g9 (kB 0 w) w (lS 0 w)=p.2.1:=by unfold g9;rw[ko,if_neg hne]
  rw[ef] at ho
  have eB:kB 0 w p.2.1 id=f7 (build p) p.2.1 id (gH x):=by show dk w _ _=_;unfold dk;rw[w5,w1]
  rw[eB] at ho
  have I:=(K6 g hu hid).2
  refine⟨qa p id (gH x),by rw[ho];exact I,?_,?_,by rw[ho];exact hL,?_,.inl ?_,hc⟩
  ·unfold qa;split
   ·rfl
   ·split <;> rfl
  ·unfold qa;split
   ·exact .inl rfl
   ·split
    ·exact .inr rfl
    ·exact .inl rfl
  ·intro k
   exfalso
   unfold qa at k
   split at k
   ·exact absurd k (by show (4:Int)≠1;decide)
   ·split at k
    ·exact absurd k (by show (3:Int)≠1;decide)
    ·exact absurd k (by show (2:Int)≠1;decide)
  ·have:(qa p id (gH x)).1=p.2.1:=by unfold qa;split;rfl;split <;> rfl
   rw[this];exact q1
 ·rw[hF rfl] at ho
  rw[hp17] at q1
  have hpr:cR (build p)=17:=by rw[cR,g.dec.1];exact q1
  have eB:kB 1 w F id=gv (build p) F 3 3 id (gH x):=by
   show dk w _ _=_;unfold dk f7
   rw[w5,w1,if_pos (K6 g hu hid).1,if_neg (by rw[hpr];decide),if_pos hpr]
  rw[eB] at ho
  have I:=(zL g hu s1 (kind:=3) (code:=3) ⟨.inr rfl,by omega,hid⟩).2.1
  exact⟨(F,tV 3 3,3,gH x,id,p.2.2.2.2.2),by rw[ho];exact I,rfl,.inr rfl,by rw[ho];exact hL,fun k=>absurd k (by show tV 3 3≠1;decide),s2,hc⟩
 ·rw[hF rfl] at ho
  have eB:kB 2 w F id=gv (build p) F 11 0 id (gH x):=by show cT w 11 0 _ _=_;unfold cT;rw[w5,w1]
  rw[eB] at ho
  have I:=(zL g hu s1 (kind:=11) (code:=0) ⟨.inl rfl,by omega,hid⟩).2.1
  exact⟨(F,tV 11 0,0,gH x,id,p.2.2.2.2.2),by rw[ho];exact I,rfl,.inr rfl,by rw[ho];exact hL,fun _ k=>s3 k,s2,hc⟩
 ·rw[hF rfl] at ho
  have eB:kB 3 w F id=gv (build p) F 3 0 id (gH x):=by show cT w 3 0 _ _=_;unfold cT;rw[w5,w1]
  rw[eB] at ho
  have I:=(zL g hu s1 (kind:=3) (code:=0) ⟨.inr rfl,by omega,hid⟩).2.1
  exact⟨(F,tV 3 0,0,gH x,id,p.2.2.2.2.2),by rw[ho];exact I,rfl,.inr rfl,by rw[ho];exact hL,fun k=>absurd k (by show tV 3 0≠1;decide),s2,hc⟩
theorem DI{B:Int->Int->List Int}{F:Int->Int}{w:cy}{own:Int}(h:(cq B F w own).2.2≠2):(cq B F w own).2.1=gh:=by
 by_cases k:own=0/\jH w.1=true
 ·rw[tM k]
 by_cases k1:F 0≠0
 ·rw[ue k k1]
 by_cases k2:d7 w.2.1 (j8 w.2.2.2.2.2)=false
 ·rw[ww k k1 k2]
 by_cases k3:(jr w).2=false
 ·rw[u3 k k1 k2 k3]
 ·rw[vU k k1 k2 k3] at h;exact absurd rfl h
theorem VO{x:ac}{s:bp}{lk t:Int}{b:List Int}(h:(dD x s lk t b).2.2≠2)(h0:(dD x s lk t b).2.2≠0):(dD x s lk t b).2.1=gh:=by
 unfold dD dS at h h0 ⊢
 split at h
 ·rename_i k;rw[if_pos k]
 rename_i k1
 rw[if_neg k1] at h0 ⊢
 split at h
 ·rename_i k2
  rw[if_pos k2]
  unfold gc at h ⊢
  split at h
  ·rename_i k;rw[if_pos k]
  ·rename_i k;rw[if_neg k];exact DI h
 rename_i k2
 rw[if_neg k2] at h0 ⊢
 split at h
 ·rename_i k;rw[if_pos k]
 rename_i k3
 rw[if_neg k3] at h0 ⊢
 unfold dR at h h0 ⊢
 split at h
 ·rename_i k;rw[if_pos k];exact DI h
 rename_i k4
 rw[if_neg k4] at h0 ⊢
 split at h
 ·rename_i k;rw[if_pos k]
  split at h
  ·rename_i k;rw[if_pos k]
  ·rename_i k;rw[if_neg k];exact DI h
 rename_i k5
 rw[if_neg k5] at h0
 exact absurd rfl h0
end Go.RS

/- Sim0: what a node sends: bytes, and how many. -/
namespace Go.RS
open Go.SX Go.Proofs
set_option maxRecDepth 100000
set_option linter.unusedVariables false
theorem AN{p:nF}(h:c8 p=0):(cN p).length=20+p.2.length/\(bytes p.2->bytes (cN p)):=by
 rw[cN,if_pos h]
 refine⟨by rw[List.length_append,pc],fun hb=>fP (Cl ?_) hb⟩
 exact Classical.byContradiction fun k=>by rw[c8,if_pos k] at h;cases h
theorem uM{b:List Int}(hb:bytes b)(h:bU b=0):iZ (bN b)/\20<=b.length/\b.length<=1500:=by
 have hp:=AL h
 have hl:=Ah hp
 have hd:=wn h
 have w:=qM hb 4
 have g:∀ i:Nat,0<=b.getD i default/\b.getD i default<=255:=fun i=>by
  by_cases k:i<b.length
  ·have:=hb _ (bH (i:=(i:Int)) (by omega) (by omega))
   simpa using this
  ·rw[List.getD_eq_getElem?_getD,List.getElem?_eq_none (by omega)];decide
 exact⟨⟨g 1,g 8,g 9,w.1,w.2⟩,by omega,by omega⟩
theorem Qx{b:List Int}(hb:bytes b)(h:fY b=0):(gE b).length=b.length/\bytes (gE b):=by
 have hd:bU b=0:=Classical.byContradiction fun k=>by rw[fY,if_pos k] at h;exact k h
 have ht:¬ (bN b).2.2.1<2:=fun k=>by rw[fY,if_neg (fun q=>q hd),if_pos k] at h;cases h
 obtain⟨⟨h1,⟨h2,h2'⟩,h3,h4,h5⟩,l1,l2⟩:=uM hb hd
 have e:c8 (u5 (bN b),b.drop 20)=0:=by
  rw[c8,if_neg,if_neg (by simp only[List.length_drop];omega)]
  rw[Decidable.not_not]
  exact⟨h1,⟨by show 0<=(bN b).2.2.1-1;omega,by show (bN b).2.2.1-1<=255;omega⟩,h3,h4,h5⟩
 have k:=AN e
 rw[gE,if_pos h]
 refine⟨?_,k.2 (rF hb)⟩
 rw[k.1];simp only[List.length_drop];omega
theorem Fv{b:List Int}{f kind code id ttl:Int}(hb:bytes b)(h:fh b kind code id ttl=0):0<(gv b f kind code id ttl).length/\bytes (gv b f kind code id ttl):=by
 have hg:oT kind code id ttl:=Classical.byContradiction fun k=>by rw[fh,if_pos k] at h;cases h
 have ha:cf b:=Classical.byContradiction fun k=>by rw[fh,if_neg (fun q=>q hg),if_neg k] at h;cases h
 obtain⟨-,e,en,ei⟩:=z5 (src:=f) hg ha
 have k:=AN ei
 rw[e]
 exact⟨by rw[k.1];omega,k.2 (CM en (z9 hb))⟩
theorem MO{e:kP}(h:bytes e.2.2.2)(hl:(e.2.2.2.length:Int)<=1472):((dh e).length:Int)<=1480/\bytes (dh e):=by
 unfold dh
 split
 ·exact⟨by rw[jU,yL];omega,qh (sO h)⟩
 ·exact⟨by simp,kM⟩
theorem L4{s d:Int}{e:jC}(h:e.2.2.2.2.2.2=[]):((de s d e).length:Int)<=1480/\bytes (de s d e):=by
 unfold de
 split
 ·rename_i k
  have ok:me e:=Classical.byContradiction fun q=>by rw[iS,if_pos q] at k;cases k
  exact⟨by rw[jU,vX,h];simp,qh (vz ok (by rw[h];exact kM))⟩
 ·exact⟨by simp,kM⟩
theorem WL{b:List Int}{f id ttl:Int}(hb:bytes b)(h:eT b id ttl=0):0<(f7 b f id ttl).length/\bytes (f7 b f id ttl):=by
 have hn:f5 id ttl:=Classical.byContradiction fun k=>by rw[eT,if_pos k] at h;cases h
 have hg:pf b:=Classical.byContradiction fun k=>by rw[eT,if_neg (fun q=>q hn),if_neg k] at h;cases h
 obtain⟨-,l1,l2⟩:=uM hb hg.1.1
 have hd:=rF (n:=20) hb
 rcases hg with⟨ha,⟨g1,g2⟩|⟨g1,g2⟩|⟨g1,g2,g3,g4⟩⟩
 ·rw[(zK (src:=f) hn ha g1 g2).1]
  have hl:=Lh (b.drop 20)
  have hE:((dh (true,(dO (b.drop 20)).2)).length:Int)<=1480/\bytes (dh (true,(dO (b.drop 20)).2)):=by
   have e:(dO (b.drop 20)).2.2.2=(b.drop 20).drop 8:=by unfold dO;rw[if_pos g2]
   refine MO ?_ ?_
   ·show bytes (dO (b.drop 20)).2.2.2
    rw[e];exact rF hd
   ·show ((dO (b.drop 20)).2.2.2.length:Int)<=1472
    rw[e];simp only[List.length_drop];omega
  have k:=AN (vy (src:=f) (dst:=bO b) hn (proto:=1) (by omega) hE.1)
  exact⟨by rw[k.1];omega,k.2 hE.2⟩
 ·rw[(zi (src:=f) hn ha g1 g2).1]
  exact Fv hb (Gb hn ha)
 ·rw[(zT (src:=f) hn ha g1 g2 g3 g4).1]
  have hE:((de f (bO b) (jn (dE (bO b) (eV b) (b.drop 20)))).length:Int)<=1480/\bytes (de f (bO b) (jn (dE (bO b) (eV b) (b.drop 20)))):=L4 rfl
  have k:=AN (vy (src:=f) (dst:=bO b) hn (proto:=6) (by omega) hE.1)
  exact⟨by rw[k.1];omega,k.2 hE.2⟩
theorem SL{ki:Int}{w:cy}{f id:Int}(hb:bytes w.2.2.2.2.1)(hn:f5 id (gH w.1))(h:kE ki w 0=0):0<(kB ki w f id).length/\bytes (kB ki w f id):=by
 have ha:=C2 h
 unfold kB
 split
 ·exact Fv hb (by rw[fh,if_neg (fun k=>k ⟨.inl rfl,by omega,hn⟩),if_pos ha])
 split
 ·exact Fv hb (by rw[fh,if_neg (fun k=>k ⟨.inr rfl,by omega,hn⟩),if_pos ha])
 ·rename_i k2 k3
  have h:eT w.2.2.2.2.1 0 (gH w.1)=0:=by
   unfold kE at h
   rw[if_neg k2,if_neg k3] at h;exact h
  have hg:pf w.2.2.2.2.1:=Classical.byContradiction fun q=>by
   rw[eT] at h
   split at h
   ·cases h
   ·cases h
  exact WL hb (wW hn hg)
structure Nz (x:ac) (s:bp) (r:lu):Prop where
 some:r.2.2=0∨r.2.2=2->0<r.2.1.2.length/\r.2.1.2.length<=1500/\0<=cF x r.2.1.1
 none:r.2.2≠0->r.2.2≠2->r.2.1=gh
 byt:bytes r.2.1.2
 rt:bh r.1=bh s
theorem Ol{w:cy}(hid:iw w.1=0)(hf:¬ kL w.1)(hI:0<=oD w.2.2.2.2.2/\oD w.2.2.2.2.2<=65535):f5 (fI w) (gH w.1):=by
 have hb:0<=kD w.1/\kD w.1<=65535:=by
  unfold iw at hid
  split at hid
  ·rename_i k;have:=of_decide_eq_true k;omega
  ·cases hid
 unfold kL at hf
 refine⟨?_,by omega,by omega⟩
 unfold fI
 exact J6 hb hI
theorem DJ{x:ac}{s:bp}(hrt:∀ r∈bh s,jS r (br x)){a:Int}(hw:¬ d7 s a=false)(s':bp)(k:mO):0<=cF x (gZ x s' (bd (bh s) a) k) :=
 Co (Ni (hrt _ (MM hw)) _ (Ke (yD hw)))
theorem EY{x:ac}{s:bp}{lk t:Int}{b:List Int}(N:mL x)(hs:∀ r∈bh s,jS r (br x))(hb:bytes b):Nz x s (dD x s lk t b):=by
 have T:=(Nq x s lk t b).1
 by_cases h0:(dD x s lk t b).2.2=0
 ·have F:=CI h0
  have e:=BW (t:=t) F
  obtain⟨-,l1,l2⟩:=uM hb F.dec
  have hlow:lk ≠ -1/\dw x=false->fY b=0:=fun k=>by
   have ht:=F.ttl
   have e1:(aS b).1=bN b:=by rw[aS,if_pos F.dec]
   rw[e1] at ht
   rw[fY,if_neg (fun q=>q F.dec)]
   exact if_neg (fun q=>ht ⟨k.1,k.2,q⟩)
  have key:(if lk ≠ -1/\dw x=false then gE b else b).length=b.length/\bytes (if lk ≠ -1/\dw x=false then gE b else b):=by
   split
   ·rename_i k;exact Qx hb (hlow k)
   ·exact⟨rfl,hb⟩
  refine⟨fun _=>?_,fun k=>absurd h0 k,?_,T⟩
  ·rw[e]
   exact⟨by show 0<List.length _;rw[key.1];omega,by show List.length _<=1500;rw[key.1];omega,DJ hs F.way _ _⟩
  ·rw[e];exact key.2
 by_cases h2:(dD x s lk t b).2.2=2
 ·obtain⟨ki,e,hk⟩:=EF h2
  rw[e] at h2
  obtain⟨w,hw⟩:∃ w,w=zA x s lk t b:=⟨_,rfl⟩
  rw[← hw] at h2 e
  obtain⟨a1,a2,a3⟩:=Gm h2
  have w1:w.1=x:=by rw[hw];rfl
  have w2:w.2.1=s:=by rw[hw];rfl
  have w5:w.2.2.2.2.1=b:=by rw[hw];rfl
  have hI:0<=oD w.2.2.2.2.2/\oD w.2.2.2.2.2<=65535:=by
   have:w.2.2.2.2.2=(aS b).1:=by rw[hw];rfl
   rw[this]
   unfold aS
   split
   ·exact qM hb 4
   ·exact⟨by show (0:Int)<=0;omega,by show (0:Int)<=65535;omega⟩
  have hn:=Ol (w:=w) (by rw[w1];exact N.id) (by rw[w1];exact N.form) hI
  have ho:(dD x s lk t b).2.1=(iH (kB ki w) w,kB ki w (g9 (kB ki w) w (lS ki w)) (fI w)):=by rw[e];exact congrArg (fun r:lu=>r.2.1) a3
  have k:=SL (f:=g9 (kB ki w) w (lS ki w)) (by rw[w5];exact hb) hn a1
  have kl:=YU ki w (g9 (kB ki w) w (lS ki w)) (fI w)
  have hL:0<=cF x (iH (kB ki w) w):=by
   have:=DJ hs (a:=j8 w.2.2.2.2.2) (by rw[← w2];exact a2) (gO w) (fp (kB ki w (adr w.1 (bi w.1 w.2.2.1)) 0))
   unfold iH hT
   rw[w1,w2]
   rw[w1] at this
   exact this
  refine⟨fun _=>?_,fun _ q=>absurd (by rw[e];exact h2) q,?_,T⟩
  ·rw[ho];exact⟨k.1,by have:((kB ki w (g9 (kB ki w) w (lS ki w)) (fI w)).length:Int)<=1500:=kl;show (kB ki w (g9 (kB ki w) w (lS ki w)) (fI w)).length<=1500;omega,hL⟩
  ·rw[ho];exact k.2
 ·have e:=VO h2 h0
  refine⟨fun k=>?_,fun _ _=>e,by rw[e];exact kM,T⟩
  rcases k with k|k
  ·exact absurd k h0
  ·exact absurd k h2
end Go.RS

/- Sim1: a network in operation, in plain terms. -/
namespace Go.RS
open Go.SX Go.Proofs
set_option maxRecDepth 100000
set_option linter.unusedVariables false
abbrev kz:CT := .pair cI (.pair cI (.pair cI (.pair cI (.pair cI (.sl bj)))))
abbrev aL:Type:=Int×Int×Int×Int×Int×List Int
abbrev tC:CT := .pair cI (.pair cI (.sl bj))
abbrev o5:Type:=Int×Int×List Int
abbrev sV:CT := .pair cI (.pair cI (.pair cI (.pair cI cI)))
abbrev fA:Type:=Int×Int×Int×Int×Int
abbrev iI:CT := .pair iq (.pair cI (.pair cI (.pair cI (.pair (.sl mr) (.pair (.sl cI) (.pair (.sl kz) (.pair (.sl tC) (.sl sV))))))))
abbrev aq:Type:=bt×Int×Int×Int×List bp×List Int×List aL×List o5×List fA
def ax(f:aL):Int:=f.1
def gR(f:aL):Int:=f.2.1
def aN(f:aL):Int:=f.2.2.1
def dP(f:aL):Int:=f.2.2.2.1
def dK(f:aL):Int:=f.2.2.2.2.1
def cW(f:aL):List Int:=f.2.2.2.2.2
def am(w:aq):bt:=w.1
def aV(w:aq):Int:=w.2.1
def aX(w:aq):Int:=w.2.2.1
def bR(w:aq):Int:=w.2.2.2.1
def bn(w:aq):List bp:=w.2.2.2.2.1
def dN(w:aq):List Int:=w.2.2.2.2.2.1
def au(w:aq):List aL:=w.2.2.2.2.2.2.1
def bv(w:aq):List o5:=w.2.2.2.2.2.2.2.1
def aR(w:aq):List fA:=w.2.2.2.2.2.2.2.2
def cD(w:aq)(t:Int):aq:=(w.1,t,w.2.2)
def fm(w:aq)(l:List bp):aq:=(w.1,w.2.1,w.2.2.1,w.2.2.2.1,l,w.2.2.2.2.2)
def mT(w:aq)(k:Int):aq:=(w.1,w.2.1,w.2.2.1,k,w.2.2.2.2)
def rp(w:aq)(l:List Int):aq:=(w.1,w.2.1,w.2.2.1,w.2.2.2.1,w.2.2.2.2.1,l,w.2.2.2.2.2.2)
def dH(w:aq)(l:List aL):aq:=(w.1,w.2.1,w.2.2.1,w.2.2.2.1,w.2.2.2.2.1,w.2.2.2.2.2.1,l,w.2.2.2.2.2.2.2)
def ra(w:aq)(l:List o5):aq:=(w.1,w.2.1,w.2.2.1,w.2.2.2.1,w.2.2.2.2.1,w.2.2.2.2.2.1,w.2.2.2.2.2.2.1,l,w.2.2.2.2.2.2.2.2)
def F3(w:aq)(l:List fA):aq:=(w.1,w.2.1,w.2.2.1,w.2.2.2.1,w.2.2.2.2.1,w.2.2.2.2.2.1,w.2.2.2.2.2.2.1,w.2.2.2.2.2.2.2.1,l)
def TY(w:aq)(k:Int):aq:=(w.1,w.2.1,k,w.2.2.2)
def CV(s:bp)(l:List Rt):bp:=(l,s.2)
def cY(l:List aL)(f:aL):List aL:=(l.takeWhile fun x=>decide (ax x<=ax f))++f::l.dropWhile fun x=>decide (ax x<=ax f)
def uI(w:aq)(f:aL):aq:=dH (TY w (IntKind.i64.wrap (aX w+1))) (cY (au w) (ax f,aX w,f.2.2))
def iz(w:aq):aM:=(am w).2.2.getD (bR w).toNat default
def lM(w:aq):Bool:=decide (bR w<(am w).2.2.length)&&decide (fW (iz w)<=aV w)
def kH(w:aq):aq :=
 mT (fm w ((bn w).set (bq (iz w)).toNat (CV ((bn w).getD (bq (iz w)).toNat default) (fF (bh ((bn w).getD (bq (iz w)).toNat default)) (iz w))))) (IntKind.i64.wrap (bR w+1))
def gg:Nat->aq->aq
 | 0,w=>w
 | n+1,w=>if lM w=true then gg n (kH w) else w
def bK(w:aq):aq:=gg ((am w).2.2.length-(bR w).toNat) w
def kx(w:aq)(f:aL)(link why:Int):aq:=F3 w (aR w++[(dK f,ax f,aN f,link,why)])
def qg(l:aE)(c:Int):Int:=kf (bits .xor .u64 (kf (IntKind.wrap .u64 (r4 l))) (IntKind.wrap .u64 c))
def cG(w:aq)(k:Int):aE:=(am w).2.1.getD k.toNat default
def j6(w:aq)(k:Int):Int:=(dN w).getD k.toNat default
def yg(w:aq)(k:Int):Int:=IntKind.i64.wrap (Int.tmod (Int.tdiv (qg (cG w k) (j6 w k)) 65536) (IntKind.wrap .u64 (IntKind.i64.wrap (gX (cG w k)+1))))
def i5(w:aq)(k:Int):Int:=IntKind.i64.wrap (IntKind.i64.wrap (aV w+kR (cG w k))+yg w k)
def dB(w:aq)(f:aL)(out:Int×List Int):aq :=
 let v:=rp w ((dN w).set out.1.toNat (IntKind.i64.wrap (j6 w out.1+1)))
 if Int.tmod (qg (cG w out.1) (j6 w out.1)) 65536<IntKind.wrap .u64 (oR (cG w out.1)) then kx v f out.1 3
 else if 1125899906842624<i5 w out.1∨(4096:Int)<=(au w).length then kx v f out.1 7
 else uI v (i5 w out.1,0,fy (am w).2.1 out.1 (aN f),out.1,dK f,out.2)
def aK(w:aq)(f:aL):lu:=dD ((am w).1.getD (aN f).toNat default) ((bn w).getD (aN f).toNat default) (dP f) (ax f) (cW f)
def fq(w:aq)(f:aL):aq :=
 let r:=aK w f
 let a:=fm w ((bn w).set (aN f).toNat r.1)
 let b:=if r.2.2=1 then ra a (bv a++[(ax f,aN f,cW f)]) else a
 let c:=if r.2.2≠0 then kx b f (dP f) r.2.2 else b
 if 0<r.2.1.2.length then dB c f r.2.1 else c
def cO(w:aq):aq:=fq (bK (cD (dH w (au w).tail) (ax ((au w).headD default)))) ((au w).headD default)
def iW(w:aq)(to:Int):Bool:=match au w with
 | []=>false
 | f::_=>decide (ax f<=to)
def jk:Nat->aq->Int->aq
 | 0,w,_=>w
 | n+1,w,to=>if iW w to=true then jk n (cO w) to else w
def iK(to:Int)(l:List aL):Nat:=(l.map fun f=>(to+1-ax f).toNat).sum
def tG(w:aq)(to:Int):aq:=bK (cD (jk (iK to (au w)) w to) to)
theorem uS{l:List aL}{f x:aL}:x∈cY l f↔x=f∨x∈l:=by
 unfold cY
 rw[List.mem_append,List.mem_cons]
 have e:=List.takeWhile_append_dropWhile (p:=fun x=>decide (ax x<=ax f)) (l:=l)
 constructor
 ·rintro (h|h|h)
  ·right;rw[← e];exact List.mem_append_left _ h
  ·exact .inl h
  ·right;rw[← e];exact List.mem_append_right _ h
 ·rintro (h|h)
  ·exact .inr (.inl h)
  ·rw[← e] at h
   rcases List.mem_append.1 h with h|h
   ·exact .inl h
   ·exact .inr (.inr h)
theorem zp(l:List aL)(f:aL):(cY l f).length=l.length+1:=by
 have e:=congrArg List.length (List.takeWhile_append_dropWhile (p:=fun x=>decide (ax x<=ax f)) (l:=l))
 rw[List.length_append] at e
 unfold cY
 rw[List.length_append,List.length_cons];omega
theorem JF(to:Int)(l:List aL)(f:aL):iK to (cY l f)=iK to l+(to+1-ax f).toNat:=by
 have e:iK to l=iK to ((l.takeWhile fun x=>decide (ax x<=ax f))++(l.dropWhile fun x=>decide (ax x<=ax f))):=by rw[List.takeWhile_append_dropWhile]
 rw[e]
 unfold iK cY
 simp only[List.map_append,List.map_cons,List.sum_append,List.sum_cons]
 omega
def eJ(a b:aL):Prop:=ax a<ax b∨ax a=ax b/\gR a<gR b
theorem Ob{l:List aL}{f:aL}(h:l.Pairwise eJ)(hn:∀ x∈l,gR x<gR f):(cY l f).Pairwise eJ:=by
 have e:=List.takeWhile_append_dropWhile (p:=fun x=>decide (ax x<=ax f)) (l:=l)
 have h2:=h
 rw[← e] at h2
 obtain⟨a,b,c⟩:=List.pairwise_append.1 h2
 have hd:∀ x∈l.dropWhile (fun x=>decide (ax x<=ax f)),ax f<ax x:=by
  intro x hx
  cases hh:l.dropWhile (fun x=>decide (ax x<=ax f)) with
  | nil=>rw[hh] at hx;cases hx
  | cons y r =>
   have hy:¬ ax y<=ax f:=by
    have:=List.head_dropWhile_not (p:=fun x=>decide (ax x<=ax f)) (l:=l) (by rw[hh];simp)
    simp only[hh,List.head_cons] at this
    simpa using this
   rw[hh] at hx b
   rcases List.mem_cons.1 hx with rfl|hx
   ·omega
   ·rcases (List.pairwise_cons.1 b).1 x hx with k|k <;> omega
 unfold cY
 refine List.pairwise_append.2 ⟨a,List.pairwise_cons.2 ⟨fun x hx=>.inl (hd x hx),b⟩,fun x hx y hy=>?_⟩
 have hxl:x∈l:=by rw[← e];exact List.mem_append_left _ hx
 have hxf:ax x<=ax f:=by
  have:=List.all_eq_true.1 (List.all_takeWhile (p:=fun x=>decide (ax x<=ax f)) (l:=l)) x hx
  simpa using this
 rcases List.mem_cons.1 hy with rfl|hy
 ·have:=hn x hxl
  unfold eJ
  omega
 ·exact .inl (by have:=hd y hy;omega)
end Go.RS

/- Sim2: what holds of a network in operation. -/
namespace Go.RS
open Go.SX Go.Proofs
set_option maxRecDepth 100000
set_option linter.unusedVariables false
theorem A7{n:bt}(h:dV n=0):nE n=0/\lw n=0/\lp n=0/\nX n=0/\m4 n=0:=by
 unfold dV at h
 obtain⟨h1,h⟩:=nh h
 obtain⟨h2,h⟩:=nh h
 obtain⟨h3,h⟩:=nh h
 obtain⟨h4,h⟩:=nh h
 obtain⟨h5,h⟩:=nh h
 obtain⟨h6,h⟩:=nh h
 exact⟨h1,h2,h3,h4,h⟩
theorem qN{n:bt}(h:dV n=0){i:Nat}(hi:i<n.1.length):mL (n.1.getD i default):=by
 have hb:=rz (A7 h).2.2.1 i hi
 unfold lX at hb
 split at hb
 ·rename_i k;exact absurd hb k
 ·rename_i k;exact Pk (Decidable.not_not.1 k)
theorem wK{n:bt}(h:dV n=0):1<=n.1.length/\n.1.length<=64/\n.2.1.length<=128/\n.2.2.length<=64:=by
 have:=(A7 h).1
 unfold nE at this
 split at this
 ·cases this
 ·omega
theorem Ar{n:bt}(h:dV n=0){k:Nat}(hk:k<n.2.2.length):(0<=fW (n.2.2.getD k default)/\fW (n.2.2.getD k default)<=1125899906842624)/\(0<=bq (n.2.2.getD k default)/\bq (n.2.2.getD k default)<n.1.length) ∧
  dj (fF ((cU n k).getD (bq (n.2.2.getD k default)).toNat default) (n.2.2.getD k default)) (br (n.1.getD (bq (n.2.2.getD k default)).toNat default))=0:=by
 have hs:=rz (A7 h).2.2.2.2 k hk
 unfold ig mw at hs
 split at hs
 ·cases hs
 rename_i a1
 split at hs
 ·cases hs
 split at hs
 ·cases hs
 rename_i a3
 split at hs
 ·cases hs
 exact⟨by omega,by omega,hs⟩
theorem JG{n:bt}(h:dV n=0):∀ k:Nat,k<=n.2.2.length→∀ i:Nat,i<n.1.length->dj ((cU n k).getD i default) (br (n.1.getD i default))=0
 | 0,_,i,hi=>by rw[cU,xK hi];exact (qN h hi).rt
 | k+1,hk,i,hi=>by
  obtain⟨-,h2,h3⟩:=Ar h (k:=k) (by omega)
  rw[cU]
  by_cases e:(bq (n.2.2.getD k default)).toNat=i
  ·rw[← e,ic (by rw[oa];omega)];exact h3
  ·rw[j9 e];exact JG h k (by omega) i hi
structure qT (n:bt) (now ord:Int) (f:aL):Prop where
 t:now<=ax f/\ax f<=1125899906842624
 o:0<=gR f/\gR f<ord
 nd:0<=aN f/\aN f<n.1.length
 l:dP f = -1∨dP f∈br (n.1.getD (aN f).toNat default)
 g:0<=dK f/\dK f<ord
 b:bytes (cW f)
 d:((cW f).length:Int)<=2000
structure ck (w:aq) (K:Int):Prop where
 net:dV (am w)=0
 now:0<=aV w/\aV w<=1125899906842624
 ord:0<=aX w/\aX w<=K
 done:0<=bR w/\bR w<=(am w).2.2.length
 len:(bn w).length=(am w).1.length
 st:∀ i:Nat,i<(am w).1.length->fR ((am w).1.getD i default) ((bn w).getD i default) K/\bh ((bn w).getD i default)=(cU (am w) (bR w).toNat).getD i default
 cl:(dN w).length=(am w).2.1.length
 cr:∀ c∈dN w,0<=c/\c<=K
 fl:(au w).Pairwise eJ
 fo:∀ f∈au w,qT (am w) (aV w) (aX w) f
 fn:(au w).length<=4096
theorem ck.more{w:aq}{K K':Int}(h:ck w K)(hk:K<=K'):ck w K' :=
 ⟨h.net,h.now,by have:=h.ord;omega,h.done,h.len,fun i hi=>⟨(h.st i hi).1.more hk,(h.st i hi).2⟩,h.cl,fun c hc=>by have:=h.cr c hc;omega,h.fl,h.fo,h.fn⟩
theorem fR.rts{x:ac}{s:bp}{K:Int}(h:fR x s K){l:List Rt}(hc:dj l (br x)=0):fR x (CV s l) K:=by
 obtain⟨h1,h2⟩:=tm hc
 obtain⟨-,-,h3⟩:=wE hc
 exact⟨h1,h2,fun r hr=>(h3 r hr).2,h.ps,h.tk,h.cn,h.cp⟩
theorem ck.chg{w:aq}{K:Int}(h:ck w K)(hd:lM w=true):ck (kH w) K/\bR (kH w)=bR w+1:=by
 unfold lM at hd
 rw[Bool.and_eq_true,decide_eq_true_iff,decide_eq_true_iff] at hd
 have hk:(bR w).toNat<(am w).2.2.length:=by have:=h.done;omega
 obtain⟨-,⟨w0,w1⟩,hc⟩:=Ar h.net hk
 have sz:=wK h.net
 have e1:IntKind.i64.wrap (bR w+1)=bR w+1:=af (by have:=h.done;omega) (by have:=h.done;omega)
 have eD:bR (kH w)=bR w+1:=e1
 have eN:am (kH w)=am w:=rfl
 have hwho:bq (iz w)=bq ((am w).2.2.getD (bR w).toNat default):=rfl
 have hlt:(bq (iz w)).toNat<(am w).1.length:=by omega
 have hst:=(h.st _ hlt)
 have hc:dj (fF ((cU (am w) (bR w).toNat).getD (bq (iz w)).toNat default) (iz w)) (br ((am w).1.getD (bq (iz w)).toNat default))=0:=hc
 rw[← hst.2] at hc
 refine⟨⟨h.net,h.now,h.ord,by have:=h.done;rw[eD,eN];omega,?_,fun i hi=>?_,h.cl,h.cr,h.fl,h.fo,h.fn⟩,eD⟩
 ·show ((bn w).set _ _).length=_
  rw[List.length_set];exact h.len
 ·have hi:i<(am w).1.length:=hi
  rw[eD,eN,show (bR w+1).toNat=(bR w).toNat+1 by have:=h.done;omega,cU]
  show fR _ (((bn w).set (bq (iz w)).toNat _).getD i default) K/\bh (((bn w).set (bq (iz w)).toNat _).getD i default)=_
  by_cases e:(bq (iz w)).toNat=i
  ·subst e
   rw[ic (by rw[h.len];exact hlt),show ((am w).2.2.getD (bR w).toNat default)=iz w from rfl,ic (by rw[oa];exact hlt),← hst.2]
   exact⟨hst.1.rts hc,rfl⟩
  ·rw[j9 e,show ((am w).2.2.getD (bR w).toNat default)=iz w from rfl,j9 e]
   exact h.st i hi
theorem Ce{K:Int}:∀(n:Nat){w:aq},ck w K->ck (gg n w) K/\(gg n w).1=w.1/\(gg n w).2.1=w.2.1/\(gg n w).2.2.1=w.2.2.1/\(gg n w).2.2.2.2.2=w.2.2.2.2.2
 | 0,w,h=>⟨h,rfl,rfl,rfl,rfl⟩
 | n+1,w,h=>by
  rw[gg]
  split
  ·rename_i hd
   have k:=Ce n (h.chg hd).1
   exact⟨k.1,k.2.1.trans rfl,k.2.2.1.trans rfl,k.2.2.2.1.trans rfl,k.2.2.2.2.trans rfl⟩
  ·exact⟨h,rfl,rfl,rfl,rfl⟩
theorem ck.change{w:aq}{K:Int}(h:ck w K):ck (bK w) K:=(Ce _ h).1
theorem tP{n:bt}(h:dV n=0){i:Nat}(hi:i<n.1.length){k:Int}(hk:k∈br (n.1.getD i default)) :
  (0<=k/\k<n.2.1.length)/\iB n.1.length (n.2.1.getD k.toNat default)/\(0<=fy n.2.1 k i/\fy n.2.1 k i<n.1.length)/\k∈br (n.1.getD (fy n.2.1 k i).toNat default):=by
 obtain⟨-,hc,hb,hp,-⟩:=A7 h
 have b:=rz hb i hi
 unfold lX at b
 split at b
 ·rename_i q;exact absurd b q
 rename_i hv
 have N:mL (n.1.getD i default):=Pk (Decidable.not_not.1 hv)
 split at b
 ·cases b
 rename_i hs
 have hst:nL n i k=false:=by
  cases q:nL n i k with
  | false=>rfl
  | true=>exact absurd (List.any_eq_true.2 ⟨k,hk,q⟩) hs
 unfold nL at hst
 simp only[Bool.or_eq_false_iff,decide_eq_false_iff_not,Bool.not_eq_false',Bool.or_eq_true,decide_eq_true_eq] at hst
 obtain⟨h1,h2⟩:=hst
 obtain⟨q,hq,rfl⟩:=List.mem_map.1 hk
 obtain⟨j,hj,rfl⟩:=List.mem_iff_getElem.1 hq
 have k0:0<=((aA (n.1.getD i default))[j]).2:=by
  have:=(KQ (N.ports j hj)).2
  rw[List.getD_eq_getElem?_getD (l:=aA _),List.getElem?_eq_getElem hj,Option.getD_some] at this
  omega
 generalize ((aA (n.1.getD i default))[j]).2=k at hk h1 h2 k0
 have hkl:k.toNat<n.2.1.length:=by omega
 have snd:iB n.1.length (n.2.1.getD k.toNat default):=by
  unfold lw at hc
  split at hc
  ·rename_i z;exact of_decide_eq_true (List.all_eq_true.1 z _ (mq hkl))
  ·cases hc
 have lo:nQ n k.toNat=false:=by
  unfold nX at hp
  split at hp
  ·cases hp
  ·rename_i z
   cases q:nQ n k.toNat with
   | false=>rfl
   | true=>exact absurd (List.any_eq_true.2 ⟨k.toNat,List.mem_range.2 hkl,q⟩) z
 unfold nQ at lo
 simp only[Bool.or_eq_false_iff,decide_eq_false_iff_not] at lo
 obtain⟨l1,l2⟩:=lo
 rw[show ((k.toNat:Nat):Int)=k by omega] at l1 l2
 have mem:∀ x:ac,¬ cF x k<0->k∈br x:=fun x hx=>by
  obtain⟨a,b⟩:=qY (q:=gG k) (l:=aA x) (by unfold cF at hx;omega)
  have hm:=mq (xs:=aA x) (i:=(fM (gG k) (aA x)).toNat) (by unfold cF at hx;omega)
  exact List.mem_map.2 ⟨_,hm,of_decide_eq_true b⟩
 refine⟨⟨k0,by omega⟩,snd,?_⟩
 obtain⟨s1,s2,s3,s4,s5,-⟩:=snd
 unfold fy
 rw[if_neg (by omega)]
 by_cases e:(i:Int)=lA (n.2.1.getD k.toNat default)
 ·rw[if_pos e]
  exact⟨⟨s3,s4⟩,mem _ l2⟩
 ·have e2:lB (n.2.1.getD k.toNat default)=i:=by
   rcases h2 with z|z
   ·exact absurd z.symm e
   ·exact z
  rw[if_neg e,if_pos e2.symm]
  exact⟨⟨s1,s2⟩,mem _ l1⟩
theorem Gs{n:Int}(h0:0<=n)(h1:n<=9223372036854775807):IntKind.u64.wrap n=n:=by
 obtain⟨m,rfl⟩:∃ m:Nat,n=m:=⟨n.toNat,by omega⟩
 rw[EO];omega
theorem Y0(x:Int):0<=kf x:=Int.natCast_nonneg _
theorem xV{w:aq}{k:Int}(hs:iB (am w).1.length (cG w k))(hn:0<=aV w/\aV w<=1125899906842624):aV w+1<=i5 w k/\i5 w k<=aV w+kR (cG w k)+gX (cG w k):=by
 obtain⟨-,-,-,-,-,d1,d2,j1,j2,-⟩:=hs
 have hh:0<=qg (cG w k) (j6 w k):=Y0 _
 have e1:IntKind.i64.wrap (gX (cG w k)+1)=gX (cG w k)+1:=af (by omega) (by omega)
 have e2:IntKind.u64.wrap (gX (cG w k)+1)=gX (cG w k)+1:=Gs (by omega) (by omega)
 have hd:0<=Int.tdiv (qg (cG w k) (j6 w k)) 65536:=Int.tdiv_nonneg hh (by omega)
 have t0:=Int.tmod_nonneg (gX (cG w k)+1) hd
 have t1:=Int.tmod_lt_of_pos (Int.tdiv (qg (cG w k) (j6 w k)) 65536) (show 0<gX (cG w k)+1 by omega)
 have el:yg w k=Int.tmod (Int.tdiv (qg (cG w k) (j6 w k)) 65536) (gX (cG w k)+1):=by
  unfold yg
  rw[e1,e2,af (by omega) (by omega)]
 have e3:IntKind.i64.wrap (aV w+kR (cG w k))=aV w+kR (cG w k):=af (by omega) (by omega)
 have e4:i5 w k=aV w+kR (cG w k)+yg w k:=by
  unfold i5
  rw[e3,af (by omega) (by omega)]
 omega
theorem ck.ends{w:aq}{K:Int}(h:ck w K)(f:aL)(link why:Int):ck (kx w f link why) K:=⟨h.net,h.now,h.ord,h.done,h.len,h.st,h.cl,h.cr,h.fl,h.fo,h.fn⟩
theorem ck.dels{w:aq}{K:Int}(h:ck w K)(l:List o5):ck (ra w l) K:=⟨h.net,h.now,h.ord,h.done,h.len,h.st,h.cl,h.cr,h.fl,h.fo,h.fn⟩
theorem ck.crosses{w:aq}{K:Int}(h:ck w K)(hK:K<=2199023255552){f:aL}{out:Int×List Int}(hf:0<=aN f/\aN f<(am w).1.length)(hg:0<=dK f/\dK f<aX w)
  (hk:out.1∈br ((am w).1.getD (aN f).toNat default)) (hb:bytes out.2) (hl:(out.2.length:Int)<=2000):ck (dB w f out) (K+1):=by
 have hi:(aN f).toNat<(am w).1.length:=by omega
 obtain⟨⟨k0,k1⟩,snd,o1,o2⟩:=tP h.net hi hk
 rw[show (((aN f).toNat:Nat):Int)=aN f by omega] at o1 o2
 have ov:=xV (w:=w) (k:=out.1) snd h.now
 have hcl:out.1.toNat<(dN w).length:=by rw[h.cl];omega
 have hc0:j6 w out.1∈dN w:=mq hcl
 have hc1:=h.cr _ hc0
 have hord:=h.ord
 have base:ck (rp w ((dN w).set out.1.toNat (IntKind.i64.wrap (j6 w out.1+1)))) (K+1):=by
  have h':=h.more (K':=K+1) (by omega)
  refine⟨h'.net,h'.now,h'.ord,h'.done,h'.len,h'.st,?_,fun c hc=>?_,h'.fl,h'.fo,h'.fn⟩
  ·show ((dN w).set _ _).length=_
   rw[List.length_set];exact h.cl
  ·have hc:c∈(dN w).set out.1.toNat (IntKind.i64.wrap (j6 w out.1+1)):=hc
   rcases List.mem_or_eq_of_mem_set hc with hc|rfl
   ·have:=h.cr c hc;omega
   ·rw[af (by omega) (by omega)];omega
 unfold dB
 dsimp only
 split
 ·exact base.ends _ _ _
 split
 ·exact base.ends _ _ _
 rename_i q
 have ew:IntKind.i64.wrap (aX w+1)=aX w+1:=af (by omega) (by omega)
 refine⟨base.net,base.now,?_,base.done,base.len,base.st,base.cl,base.cr,?_,?_,?_⟩
 ·show 0<=IntKind.i64.wrap (aX w+1)/\IntKind.i64.wrap (aX w+1)<=K+1
  rw[ew];omega
 ·exact Ob h.fl fun x hx=>(h.fo x hx).o.2
 ·intro x hx
  have hx:x∈cY (au w) (i5 w out.1,aX w,fy (am w).2.1 out.1 (aN f),out.1,dK f,out.2):=hx
  show qT (am w) (aV w) (IntKind.i64.wrap (aX w+1)) x
  rw[ew]
  rcases uS.1 hx with rfl|hx
  ·exact⟨⟨by show aV w<=i5 w out.1;omega,by show i5 w out.1<=_;omega⟩,⟨by show 0<=aX w;omega,by show aX w<aX w+1;omega⟩,o1,.inr o2,⟨hg.1,by show dK f<aX w+1;omega⟩,hb,hl⟩
  ·have k:=h.fo x hx
   exact⟨k.t,⟨k.o.1,by have:=k.o.2;omega⟩,k.nd,k.l,⟨k.g.1,by have:=k.g.2;omega⟩,k.b,k.d⟩
 ·show (cY (au w) _).length<=4096
  rw[zp];omega
theorem ck.land{w:aq}{K:Int}(h:ck w K)(hK:K<=1099511627776){f:aL}(hf:qT (am w) (aV w) (aX w) f)(ht:ax f=aV w):ck (fq w f) (K+2):=by
 have hi:(aN f).toNat<(am w).1.length:=by have:=hf.nd;omega
 obtain⟨st,rt⟩:=h.st _ hi
 have N:=qN h.net hi
 have O:=EY (lk:=dP f) (t:=ax f) N st.rt hf.b
 have S:=RV (link:=dP f) (b:=cW f) (at':=ax f) N st ⟨by have:=h.ord;omega,by omega⟩ ⟨by have:=h.now;omega,by have:=h.now;omega⟩
 have eH:aK w f=dD ((am w).1.getD (aN f).toNat default) ((bn w).getD (aN f).toNat default) (dP f) (ax f) (cW f):=rfl
 rw[← eH] at O S
 have ha:ck (fm w ((bn w).set (aN f).toNat (aK w f).1)) (K+1):=by
  have h':=h.more (K':=K+1) (by omega)
  refine⟨h'.net,h'.now,h'.ord,h'.done,?_,fun i hl=>?_,h'.cl,h'.cr,h'.fl,h'.fo,h'.fn⟩
  ·show ((bn w).set _ _).length=_
   rw[List.length_set];exact h.len
  ·have hl:i<(am w).1.length:=hl
   show fR _ (((bn w).set (aN f).toNat (aK w f).1).getD i default) _/\bh (((bn w).set (aN f).toNat (aK w f).1).getD i default)=_
   by_cases e:(aN f).toNat=i
   ·subst e
    rw[ic (by rw[h.len];exact hi)]
    exact⟨S,O.rt.trans rt⟩
   ·rw[j9 e]
    exact h'.st i hl
 have hb:ck (if (aK w f).2.2=1 then ra (fm w ((bn w).set (aN f).toNat (aK w f).1)) (bv (fm w ((bn w).set (aN f).toNat (aK w f).1))++[(ax f,aN f,cW f)]) else fm w ((bn w).set (aN f).toNat (aK w f).1)) (K+1):=by
  split
  ·exact ha.dels _
  ·exact ha
 unfold fq
 dsimp only
 generalize hB:(if (aK w f).2.2=1 then ra (fm w ((bn w).set (aN f).toNat (aK w f).1)) (bv (fm w ((bn w).set (aN f).toNat (aK w f).1))++[(ax f,aN f,cW f)]) else fm w ((bn w).set (aN f).toNat (aK w f).1))=B at hb
 have eB:am B=am w/\aX B=aX w:=by rw[← hB];split <;> exact⟨rfl,rfl⟩
 have hc:ck (if (aK w f).2.2≠0 then kx B f (dP f) (aK w f).2.2 else B) (K+1):=by
  split
  ·exact hb.ends _ _ _
  ·exact hb
 have eC:am (if (aK w f).2.2≠0 then kx B f (dP f) (aK w f).2.2 else B)=am w/\aX (if (aK w f).2.2≠0 then kx B f (dP f) (aK w f).2.2 else B)=aX w:=by
  split
  ·exact eB
  ·exact eB
 generalize (if (aK w f).2.2≠0 then kx B f (dP f) (aK w f).2.2 else B)=C at hc eC
 split
 ·rename_i hp
  have hr:(aK w f).2.2=0∨(aK w f).2.2=2:=by
   by_cases z0:(aK w f).2.2=0
   ·exact .inl z0
   by_cases z2:(aK w f).2.2=2
   ·exact .inr z2
   ·have:=O.none z0 z2
    rw[this] at hp
    exact absurd hp (by simp[gh])
  obtain⟨p1,p2,p3⟩:=O.some hr
  have hm:(aK w f).2.1.1∈br ((am w).1.getD (aN f).toNat default):=by
   obtain⟨a,b⟩:=qY (q:=gG (aK w f).2.1.1) (l:=aA ((am w).1.getD (aN f).toNat default)) p3
   have hm:=mq (xs:=aA ((am w).1.getD (aN f).toNat default)) (i:=(fM (gG (aK w f).2.1.1) (aA ((am w).1.getD (aN f).toNat default))).toNat) (by unfold cF at p3;omega)
   exact List.mem_map.2 ⟨_,hm,of_decide_eq_true b⟩
  have z:=ck.crosses hc (by omega) (by rw[eC.1];exact hf.nd) (by rw[eC.2];exact hf.g) (by rw[eC.1];exact hm) O.byt (by omega)
  rwa [show K+1+1=K+2 by omega] at z
 ·exact hc.more (by omega)
theorem G0(w:aq)(f:aL)(out:Int×List Int):am (dB w f out)=am w/\aV (dB w f out)=aV w ∧
  (au (dB w f out)=au w∨∃ g,ax g=i5 w out.1/\au (dB w f out)=cY (au w) g):=by
 unfold dB
 dsimp only
 split
 ·exact⟨rfl,rfl,.inl rfl⟩
 split
 ·exact⟨rfl,rfl,.inl rfl⟩
 ·exact⟨rfl,rfl,.inr ⟨_,rfl,rfl⟩⟩
theorem vL{n:bt}(h:dV n=0){i:Nat}(hi:i<n.1.length){k:Int}(hp:0<=cF (n.1.getD i default) k):k∈br (n.1.getD i default):=by
 obtain⟨a,b⟩:=qY (q:=gG k) (l:=aA (n.1.getD i default)) hp
 have hm:=mq (xs:=aA (n.1.getD i default)) (i:=(fM (gG k) (aA (n.1.getD i default))).toNat) (by unfold cF at hp;omega)
 exact List.mem_map.2 ⟨_,hm,of_decide_eq_true b⟩
theorem Qm{w:aq}{K:Int}(h:ck w K){f:aL}(hf:qT (am w) (aV w) (aX w) f):am (fq w f)=am w/\aV (fq w f)=aV w ∧
  (au (fq w f)=au w∨∃ g,aV w+1<=ax g/\au (fq w f)=cY (au w) g):=by
 have hi:(aN f).toNat<(am w).1.length:=by have:=hf.nd;omega
 obtain⟨st,rt⟩:=h.st _ hi
 have N:=qN h.net hi
 have O:=EY (lk:=dP f) (t:=ax f) N st.rt hf.b
 have eH:aK w f=dD ((am w).1.getD (aN f).toNat default) ((bn w).getD (aN f).toNat default) (dP f) (ax f) (cW f):=rfl
 rw[← eH] at O
 unfold fq
 dsimp only
 have key:∀ B:aq,am B=am w->aV B=aV w->au B=au w->dN B=dN w →
   (am (if 0<(aK w f).2.1.2.length then dB B f (aK w f).2.1 else B)=am w/\aV (if 0<(aK w f).2.1.2.length then dB B f (aK w f).2.1 else B)=aV w ∧
    (au (if 0<(aK w f).2.1.2.length then dB B f (aK w f).2.1 else B)=au w∨∃ g,aV w+1<=ax g/\au (if 0<(aK w f).2.1.2.length then dB B f (aK w f).2.1 else B)=cY (au w) g)):=by
  intro B b1 b2 b3 b4
  split
  ·rename_i hp
   obtain⟨c1,c2,c3⟩:=G0 B f (aK w f).2.1
   refine⟨c1.trans b1,c2.trans b2,?_⟩
   rcases c3 with c3|⟨g,g1,g2⟩
   ·exact .inl (c3.trans b3)
   ·have hr:(aK w f).2.2=0∨(aK w f).2.2=2:=by
     by_cases z0:(aK w f).2.2=0
     ·exact .inl z0
     by_cases z2:(aK w f).2.2=2
     ·exact .inr z2
     ·have:=O.none z0 z2
      rw[this] at hp
      exact absurd hp (by simp[gh])
    have hl:=vL h.net hi (O.some hr).2.2
    obtain⟨-,snd,-⟩:=tP h.net hi hl
    have ov:=xV (w:=B) (k:=(aK w f).2.1.1) (by unfold cG;rw[b1];exact snd) (by rw[b2];exact h.now)
    refine .inr ⟨g,by rw[g1,← b2];exact ov.1,by rw[g2,b3]⟩
  ·exact⟨b1,b2,.inl b3⟩
 apply key
 all_goals (split <;> (split <;> rfl))
theorem vG(to:Int)(f:aL)(r:List aL):iK to (f::r)=(to+1-ax f).toNat+iK to r:=by
 unfold iK;rw[List.map_cons,List.sum_cons]
theorem ck.step{w:aq}{K:Int}(h:ck w K)(hK:K<=1099511627776){f:aL}{r:List aL}(e:au w=f::r) :
  ck (cO w) (K+2)/\am (cO w)=am w/\aV (cO w)=ax f∧∀ to,ax f<=to->iK to (au (cO w))+1<=iK to (au w):=by
 have hp:=h.fl
 rw[e] at hp
 obtain⟨p1,p2⟩:=List.pairwise_cons.1 hp
 have hf:=h.fo f (by rw[e];exact List.mem_cons_self)
 have hle:∀ x∈r,ax f<=ax x:=fun x hx=>by rcases p1 x hx with k|k <;> omega
 have ed:(au w).headD default=f:=by rw[e];rfl
 have et:(au w).tail=r:=by rw[e];rfl
 have hb:ck (cD (dH w r) (ax f)) K:=by
  refine⟨h.net,⟨by show 0<=ax f;have:=h.now;have:=hf.t;omega,hf.t.2⟩,h.ord,h.done,h.len,h.st,h.cl,h.cr,p2,fun x hx=>?_,?_⟩
  ·have hx:x∈r:=hx
   have k:=h.fo x (by rw[e];exact List.mem_cons_of_mem _ hx)
   exact⟨⟨hle x hx,k.t.2⟩,k.o,k.nd,k.l,k.g,k.b,k.d⟩
  ·show r.length<=4096
   have:=h.fn
   rw[e,List.length_cons] at this;omega
 have hc:=Ce ((am w).2.2.length-(bR w).toNat) hb
 have es:cO w=fq (bK (cD (dH w r) (ax f))) f:=by unfold cO;rw[ed,et]
 have ec:bK (cD (dH w r) (ax f))=gg ((am w).2.2.length-(bR w).toNat) (cD (dH w r) (ax f)):=rfl
 rw[← ec] at hc
 obtain⟨c1,c2,c3,c4,c5⟩:=hc
 generalize bK (cD (dH w r) (ax f))=v at c1 c2 c3 c4 c5 es
 have n1:am v=am w:=c2
 have n2:aV v=ax f:=c3
 have n3:aX v=aX w:=c4
 have n4:au v=r:=congrArg (fun x:List Int×List aL×List o5×List fA=>x.2.1) c5
 have hfv:qT (am v) (aV v) (aX v) f:=by
  rw[n1,n2,n3]
  exact⟨⟨Int.le_refl _,hf.t.2⟩,hf.o,hf.nd,hf.l,hf.g,hf.b,hf.d⟩
 have L:=Qm c1 hfv
 rw[es]
 refine⟨c1.land hK hfv n2.symm,L.1.trans n1,L.2.1.trans n2,fun to hto=>?_⟩
 rw[e,vG]
 rcases L.2.2 with q|⟨g,g1,g2⟩
 ·rw[q,n4];omega
 ·rw[g2,n4,JF]
  rw[n2] at g1
  omega
theorem ck.run{to:Int}:∀(n:Nat){w:aq}{K:Int},ck w K->iK to (au w)<=n->K+2*n<=1099511627776->ck (jk n w to) (K+2*n)/\iW (jk n w to) to=false/\am (jk n w to)=am w
 | 0,w,K,h,hw,hK=>by
  refine⟨by simpa[jk] using h,?_,rfl⟩
  show iW w to=false
  unfold iW
  cases e:au w with
  | nil=>rfl
  | cons f r =>
   rw[e,vG] at hw
   exact decide_eq_false (by omega)
 | n+1,w,K,h,hw,hK=>by
  rw[jk]
  split
  ·rename_i hb
   unfold iW at hb
   cases e:au w with
   | nil=>rw[e] at hb;cases hb
   | cons f r =>
    rw[e] at hb
    have hb:=of_decide_eq_true hb
    obtain⟨s1,s2,-,s4⟩:=h.step (by omega) e
    have:=s4 to hb
    obtain⟨t1,t2,t3⟩:=ck.run (to:=to) n s1 (by omega) (by omega)
    rw[show K+2+2*(n:Int)=K+2*((n+1:Nat):Int) by omega] at t1
    exact⟨t1,t2,t3.trans s2⟩
  ·rename_i hb
   exact⟨h.more (by omega),by simpa using hb,rfl⟩
end Go.RS

/- Sim3: running in two parts. -/
namespace Go.RS
open Go.SX Go.Proofs
set_option maxRecDepth 100000
set_option linter.unusedVariables false
def okDn(w:aq):Prop:=0<=bR w/\((am w).2.2.length:Int)<=1099511627776
def rq(w:aq):Nat:=(am w).2.2.length-(bR w).toNat
theorem Nj{w:aq}(h:okDn w)(hd:lM w=true):bR (kH w)=bR w+1/\okDn (kH w)/\rq (kH w)+1=rq w:=by
 unfold lM at hd
 rw[Bool.and_eq_true,decide_eq_true_iff,decide_eq_true_iff] at hd
 obtain⟨h0,h1⟩:=h
 have e:bR (kH w)=bR w+1:=af (n:=bR w+1) (by omega) (by omega)
 refine⟨e,⟨by rw[e];omega,h1⟩,?_⟩
 unfold rq
 rw[e]
 show (am w).2.2.length-_+1=_
 omega
theorem Mb{w:aq}(h:okDn w)(hd:lM w=true):0<rq w:=by
 unfold lM at hd
 rw[Bool.and_eq_true,decide_eq_true_iff,decide_eq_true_iff] at hd
 have:=h.1
 unfold rq;omega
theorem IQ:∀(n m:Nat){w:aq},okDn w->rq w<=n->rq w<=m->gg n w=gg m w
 | 0,0,_,_,_,_=>rfl
 | 0,m+1,w,h,hn,_=>by
  rw[gg,gg,if_neg]
  intro hd;have:=Mb h hd;omega
 | n+1,0,w,h,_,hm=>by
  rw[gg,gg,if_neg]
  intro hd;have:=Mb h hd;omega
 | n+1,m+1,w,h,hn,hm=>by
  rw[gg,gg]
  split
  ·rename_i hd
   obtain⟨-,o,r⟩:=Nj h hd
   exact IQ n m o (by omega) (by omega)
  ·rfl
theorem Qr{w:aq}(h:okDn w){n:Nat}(hn:rq w<=n):bK w=gg n w:=IQ _ _ h (Nat.le_refl _) hn
theorem t8:∀(n:Nat)(w:aq),(gg n w).1=w.1/\(gg n w).2.1=w.2.1/\(gg n w).2.2.1=w.2.2.1/\(gg n w).2.2.2.2.2=w.2.2.2.2.2
 | 0,w=>⟨rfl,rfl,rfl,rfl⟩
 | n+1,w=>by
  rw[gg]
  split
  ·have k:=t8 n (kH w)
   exact⟨k.1.trans rfl,k.2.1.trans rfl,k.2.2.1.trans rfl,k.2.2.2.trans rfl⟩
  ·exact⟨rfl,rfl,rfl,rfl⟩
theorem LT(w:aq):au (bK w)=au w/\aV (bK w)=aV w:=⟨congrArg (fun x:List Int×List aL×List o5×List fA=>x.2.1) (t8 _ w).2.2.2,(t8 _ w).2.1⟩
def jD(w:aq)(to:Int):aq:=jk (iK to (au w)) w to
theorem af7{w:aq}{to:Int}(hb:iW w to=false):∀ n:Nat,jk n w to=w
 | 0=>rfl
 | n+1=>by rw[jk,if_neg (by rw[hb];simp)]
theorem ck.okDn{w:aq}{K:Int}(h:ck w K):okDn w:=⟨h.done.1,by have:=wK h.net;omega⟩
theorem ck.wait{w:aq}{K a:Int}(h:ck w K)(hb:iW w a=false)(ha:0<=a/\a<=1125899906842624):ck (cD w a) K:=by
 refine⟨h.net,ha,h.ord,h.done,h.len,h.st,h.cl,h.cr,h.fl,fun x hx=>?_,h.fn⟩
 have hx:x∈au w:=hx
 have k:=h.fo x hx
 refine⟨⟨?_,k.t.2⟩,k.o,k.nd,k.l,k.g,k.b,k.d⟩
 show a<=ax x
 have hp:=h.fl
 unfold iW at hb
 cases e:au w with
 | nil=>rw[e] at hx;cases hx
 | cons f r =>
  rw[e] at hb hx hp
  have hb:=of_decide_eq_false hb
  rcases List.mem_cons.1 hx with rfl|hx
  ·omega
  ·rcases (List.pairwise_cons.1 hp).1 x hx with q|q <;> omega
end Go.RS

/- Sim4: a packet that is sent later changes nothing that happens before. -/
namespace Go.RS
open Go.SX Go.Proofs
set_option maxRecDepth 100000
set_option linter.unusedVariables false
def OH(f:aL):Int×Int×Int×Int×List Int:=(f.1,f.2.2)
def Lr(c:Int)(l l':List aL):Prop:=∃ (g:aL) (pre post:List aL),l'=pre++g::post/\(pre++post).map OH=l.map OH/\c<ax g/\(∀ y∈pre,ax y<=ax g)∧∀ y∈post,ax g<=ax y
theorem Lr.len{c:Int}{l l':List aL}(h:Lr c l l'):l'.length=l.length+1:=by
 obtain⟨g,pre,post,rfl,h1,-⟩:=h
 have:=congrArg List.length h1
 rw[List.length_map,List.length_map,List.length_append] at this
 rw[List.length_append,List.length_cons];omega
end Go.RS

/- Sim5: what holds of a network in operation however long it runs: no counter is spoken of. -/
namespace Go.RS
open Go.SX Go.Proofs
set_option maxRecDepth 100000
set_option linter.unusedVariables false
structure pO (n:bt) (now:Int) (f:aL):Prop where
 t:now<=ax f/\ax f<=1125899906842624
 nd:0<=aN f/\aN f<n.1.length
 l:dP f = -1∨dP f∈br (n.1.getD (aN f).toNat default)
 b:bytes (cW f)
 d:((cW f).length:Int)<=2000
structure cZ (w:aq):Prop where
 net:dV (am w)=0
 now:0<=aV w/\aV w<=1125899906842624
 done:0<=bR w/\bR w<=(am w).2.2.length
 len:(bn w).length=(am w).1.length
 st:∀ i:Nat,i<(am w).1.length->bh ((bn w).getD i default)=(cU (am w) (bR w).toNat).getD i default/\(jc ((bn w).getD i default)).length=(aA ((am w).1.getD i default)).length
 cl:(dN w).length=(am w).2.1.length
 fl:(au w).Pairwise fun a b=>ax a<=ax b
 fo:∀ f∈au w,pO (am w) (aV w) f
 fn:(au w).length<=4096
theorem ck.weak{w:aq}{K:Int}(h:ck w K):cZ w :=
 ⟨h.net,h.now,h.done,h.len,fun i hi=>⟨(h.st i hi).2,(h.st i hi).1.ps⟩,h.cl,h.fl.imp fun q=>by rcases q with q|q <;> omega,
  fun f hf=>by have k:=h.fo f hf;exact⟨k.t,k.nd,k.l,k.b,k.d⟩,h.fn⟩
theorem cZ.chk{w:aq}(h:cZ w){i:Nat}(hi:i<(am w).1.length):dj (bh ((bn w).getD i default)) (br ((am w).1.getD i default))=0:=by
 rw[(h.st i hi).1]
 exact JG h.net _ (by have:=h.done;omega) i hi
theorem cZ.chg{w:aq}(h:cZ w)(hd:lM w=true):cZ (kH w):=by
 have hd0:=hd
 unfold lM at hd
 rw[Bool.and_eq_true,decide_eq_true_iff,decide_eq_true_iff] at hd
 have hk:(bR w).toNat<(am w).2.2.length:=by have:=h.done;omega
 obtain⟨-,⟨w0,w1⟩,-⟩:=Ar h.net hk
 have sz:=wK h.net
 have eD:bR (kH w)=bR w+1:=af (n:=bR w+1) (by have:=h.done;omega) (by have:=h.done;omega)
 have eN:am (kH w)=am w:=rfl
 have hwho:bq (iz w)=bq ((am w).2.2.getD (bR w).toNat default):=rfl
 have hlt:(bq (iz w)).toNat<(am w).1.length:=by omega
 have hst:=h.st _ hlt
 refine⟨h.net,h.now,by have:=h.done;rw[eD,eN];omega,?_,fun i hi=>?_,h.cl,h.fl,h.fo,h.fn⟩
 ·show ((bn w).set _ _).length=_
  rw[List.length_set];exact h.len
 ·have hi:i<(am w).1.length:=hi
  rw[eD,eN,show (bR w+1).toNat=(bR w).toNat+1 by have:=h.done;omega,cU]
  show bh (((bn w).set (bq (iz w)).toNat _).getD i default)=_/\(jc (((bn w).set (bq (iz w)).toNat _).getD i default)).length=_
  by_cases e:(bq (iz w)).toNat=i
  ·subst e
   rw[ic (by rw[h.len];exact hlt),show ((am w).2.2.getD (bR w).toNat default)=iz w from rfl,ic (by rw[oa];exact hlt),← hst.1]
   exact⟨rfl,hst.2⟩
  ·rw[j9 e,show ((am w).2.2.getD (bR w).toNat default)=iz w from rfl,j9 e]
   exact h.st i hi
theorem Bc:∀(n:Nat){w:aq},cZ w->cZ (gg n w)
 | 0,w,h=>h
 | n+1,w,h=>by
  rw[gg]
  split
  ·rename_i hd;exact Bc n (h.chg hd)
  ·exact h
theorem YO{l:List aL}{f:aL}(h:l.Pairwise fun a b=>ax a<=ax b):(cY l f).Pairwise fun a b=>ax a<=ax b:=by
 induction l with
 | nil=>simp[cY]
 | cons x l ih =>
  obtain⟨a,b⟩:=List.pairwise_cons.1 h
  have ih:=ih b
  by_cases c:ax x<=ax f
  ·have e:cY (x::l) f=x::cY l f:=by
    unfold cY
    rw[List.takeWhile_cons_of_pos (by simpa using c),List.dropWhile_cons_of_pos (by simpa using c)];rfl
   rw[e]
   refine List.pairwise_cons.2 ⟨fun y hy=>?_,ih⟩
   rcases uS.1 hy with rfl|hy
   ·exact c
   ·exact a y hy
  ·have e:cY (x::l) f=f::x::l:=by
    unfold cY
    rw[List.takeWhile_cons_of_neg (by simpa using c),List.dropWhile_cons_of_neg (by simpa using c)];rfl
   rw[e]
   refine List.pairwise_cons.2 ⟨fun y hy=>?_,h⟩
   rcases List.mem_cons.1 hy with rfl|hy
   ·omega
   ·have:=a y hy;omega
theorem cZ.crosses{w:aq}(h:cZ w){f:aL}{out:Int×List Int}(hf:0<=aN f/\aN f<(am w).1.length)
  (hk:out.1∈br ((am w).1.getD (aN f).toNat default)) (hb:bytes out.2) (hl:(out.2.length:Int)<=2000):cZ (dB w f out):=by
 have hi:(aN f).toNat<(am w).1.length:=by omega
 obtain⟨⟨k0,k1⟩,snd,o1,o2⟩:=tP h.net hi hk
 rw[show (((aN f).toNat:Nat):Int)=aN f by omega] at o1 o2
 have ov:=xV (w:=w) (k:=out.1) snd h.now
 have base:cZ (rp w ((dN w).set out.1.toNat (IntKind.i64.wrap (j6 w out.1+1)))):=by
  refine⟨h.net,h.now,h.done,h.len,h.st,?_,h.fl,h.fo,h.fn⟩
  show ((dN w).set _ _).length=_
  rw[List.length_set];exact h.cl
 unfold dB
 dsimp only
 split
 ·exact⟨base.net,base.now,base.done,base.len,base.st,base.cl,base.fl,base.fo,base.fn⟩
 split
 ·exact⟨base.net,base.now,base.done,base.len,base.st,base.cl,base.fl,base.fo,base.fn⟩
 rename_i q
 refine⟨base.net,base.now,base.done,base.len,base.st,base.cl,YO h.fl,?_,?_⟩
 ·intro x hx
  have hx:x∈cY (au w) (i5 w out.1,aX w,fy (am w).2.1 out.1 (aN f),out.1,dK f,out.2):=hx
  rcases uS.1 hx with rfl|hx
  ·exact⟨⟨by show aV w<=i5 w out.1;omega,by show i5 w out.1<=_;omega⟩,o1,.inr o2,hb,hl⟩
  ·exact h.fo x hx
 ·show (cY (au w) _).length<=4096
  rw[zp];omega
theorem cZ.out{w:aq}(h:cZ w){f:aL}(hf:pO (am w) (aV w) f) :
  Nz ((am w).1.getD (aN f).toNat default) ((bn w).getD (aN f).toNat default) (aK w f):=by
 have hi:(aN f).toNat<(am w).1.length:=by have:=hf.nd;omega
 obtain⟨-,-,h3⟩:=wE (h.chk hi)
 exact EY (lk:=dP f) (t:=ax f) (qN h.net hi) (fun r hr=>(h3 r hr).2) hf.b
theorem cZ.land{w:aq}(h:cZ w){f:aL}(hf:pO (am w) (aV w) f):cZ (fq w f):=by
 have hi:(aN f).toNat<(am w).1.length:=by have:=hf.nd;omega
 have O:=h.out hf
 have T:=(Nq ((am w).1.getD (aN f).toNat default) ((bn w).getD (aN f).toNat default) (dP f) (ax f) (cW f)).2.1
 have eH:aK w f=dD ((am w).1.getD (aN f).toNat default) ((bn w).getD (aN f).toNat default) (dP f) (ax f) (cW f):=rfl
 rw[← eH] at T
 have ha:cZ (fm w ((bn w).set (aN f).toNat (aK w f).1)):=by
  refine⟨h.net,h.now,h.done,?_,fun i hl=>?_,h.cl,h.fl,h.fo,h.fn⟩
  ·show ((bn w).set _ _).length=_
   rw[List.length_set];exact h.len
  ·have hl:i<(am w).1.length:=hl
   show bh (((bn w).set (aN f).toNat (aK w f).1).getD i default)=_/\(jc (((bn w).set (aN f).toNat (aK w f).1).getD i default)).length=_
   by_cases e:(aN f).toNat=i
   ·subst e
    rw[ic (by rw[h.len];exact hi)]
    exact⟨O.rt.trans (h.st _ hi).1,T.trans (h.st _ hi).2⟩
   ·rw[j9 e]
    exact h.st i hl
 unfold fq
 dsimp only
 have key:∀ B:aq,cZ B->am B=am w->cZ (if 0<(aK w f).2.1.2.length then dB B f (aK w f).2.1 else B):=by
  intro B hB b1
  split
  ·rename_i hp
   have hr:(aK w f).2.2=0∨(aK w f).2.2=2:=by
    by_cases z0:(aK w f).2.2=0
    ·exact .inl z0
    by_cases z2:(aK w f).2.2=2
    ·exact .inr z2
    ·have:=O.none z0 z2
     rw[this] at hp
     exact absurd hp (by simp[gh])
   obtain⟨p1,p2,p3⟩:=O.some hr
   exact hB.crosses (by rw[b1];exact hf.nd) (by rw[b1];exact vL h.net hi p3) O.byt (by omega)
  ·exact hB
 apply key
 ·split <;> (split <;> exact⟨ha.net,ha.now,ha.done,ha.len,ha.st,ha.cl,ha.fl,ha.fo,ha.fn⟩)
 ·split <;> (split <;> rfl)
theorem ZO{w:aq}(h:cZ w){f:aL}(hf:pO (am w) (aV w) f):am (fq w f)=am w/\aV (fq w f)=aV w ∧
  (au (fq w f)=au w∨∃ g,aV w+1<=ax g/\au (fq w f)=cY (au w) g):=by
 have hi:(aN f).toNat<(am w).1.length:=by have:=hf.nd;omega
 have O:=h.out hf
 unfold fq
 dsimp only
 have key:∀ B:aq,am B=am w->aV B=aV w->au B=au w →
   (am (if 0<(aK w f).2.1.2.length then dB B f (aK w f).2.1 else B)=am w/\aV (if 0<(aK w f).2.1.2.length then dB B f (aK w f).2.1 else B)=aV w ∧
    (au (if 0<(aK w f).2.1.2.length then dB B f (aK w f).2.1 else B)=au w∨∃ g,aV w+1<=ax g/\au (if 0<(aK w f).2.1.2.length then dB B f (aK w f).2.1 else B)=cY (au w) g)):=by
  intro B b1 b2 b3
  split
  ·rename_i hp
   obtain⟨c1,c2,c3⟩:=G0 B f (aK w f).2.1
   refine⟨c1.trans b1,c2.trans b2,?_⟩
   rcases c3 with c3|⟨g,g1,g2⟩
   ·exact .inl (c3.trans b3)
   ·have hr:(aK w f).2.2=0∨(aK w f).2.2=2:=by
     by_cases z0:(aK w f).2.2=0
     ·exact .inl z0
     by_cases z2:(aK w f).2.2=2
     ·exact .inr z2
     ·have:=O.none z0 z2
      rw[this] at hp
      exact absurd hp (by simp[gh])
    obtain⟨-,snd,-⟩:=tP h.net hi (vL h.net hi (O.some hr).2.2)
    have ov:=xV (w:=B) (k:=(aK w f).2.1.1) (by unfold cG;rw[b1];exact snd) (by rw[b2];exact h.now)
    exact .inr ⟨g,by rw[g1,← b2];exact ov.1,by rw[g2,b3]⟩
  ·exact⟨b1,b2,.inl b3⟩
 apply key
 all_goals (split <;> (split <;> rfl))
theorem cZ.step{w:aq}(h:cZ w){f:aL}{r:List aL}(e:au w=f::r) :
  cZ (cO w)/\am (cO w)=am w/\aV (cO w)=ax f∧∀ to,ax f<=to->iK to (au (cO w))+1<=iK to (au w):=by
 have hp:=h.fl
 rw[e] at hp
 obtain⟨p1,p2⟩:=List.pairwise_cons.1 hp
 have hf:=h.fo f (by rw[e];exact List.mem_cons_self)
 have hb:cZ (cD (dH w r) (ax f)):=by
  refine⟨h.net,⟨by show 0<=ax f;have:=h.now;have:=hf.t;omega,hf.t.2⟩,h.done,h.len,h.st,h.cl,p2,fun x hx=>?_,?_⟩
  ·have hx:x∈r:=hx
   have k:=h.fo x (by rw[e];exact List.mem_cons_of_mem _ hx)
   exact⟨⟨p1 x hx,k.t.2⟩,k.nd,k.l,k.b,k.d⟩
  ·show r.length<=4096
   have:=h.fn
   rw[e,List.length_cons] at this;omega
 have es:cO w=fq (bK (cD (dH w r) (ax f))) f:=by unfold cO;rw[e];rfl
 have c1:cZ (bK (cD (dH w r) (ax f))):=Bc _ hb
 have c2:=t8 ((am w).2.2.length-(bR w).toNat) (cD (dH w r) (ax f))
 have n1:am (bK (cD (dH w r) (ax f)))=am w:=c2.1
 have n2:aV (bK (cD (dH w r) (ax f)))=ax f:=c2.2.1
 have n4:au (bK (cD (dH w r) (ax f)))=r:=(LT _).1
 generalize bK (cD (dH w r) (ax f))=v at c1 n1 n2 n4 es
 have hfv:pO (am v) (aV v) f:=by
  rw[n1,n2]
  exact⟨⟨Int.le_refl _,hf.t.2⟩,hf.nd,hf.l,hf.b,hf.d⟩
 have L:=ZO c1 hfv
 rw[es]
 refine⟨c1.land hfv,L.1.trans n1,L.2.1.trans n2,fun to hto=>?_⟩
 rw[e,vG]
 rcases L.2.2 with q|⟨g,g1,g2⟩
 ·rw[q,n4];omega
 ·rw[g2,n4,JF]
  rw[n2] at g1
  omega
end Go.RS

/- Sim6: what is not answered stays so. -/
namespace Go.RS
open Go.SX Go.Proofs
set_option maxRecDepth 100000
set_option linter.unusedVariables false
theorem Kw{b:List Int}(hb:bytes b)(h:fY b=0):bN (gE b)=u5 (bN b)/\bU (gE b)=0/\(gE b).drop 20=b.drop 20:=by
 have hd:bU b=0:=Classical.byContradiction fun k=>by rw[fY,if_pos k] at h;exact k h
 have ht:¬ (bN b).2.2.1<2:=fun k=>by rw[fY,if_neg (fun q=>q hd),if_pos k] at h;cases h
 obtain⟨⟨h1,⟨h2,h2'⟩,h3,h4,h5⟩,l1,l2⟩:=uM hb hd
 have hk:iZ (u5 (bN b)):=⟨h1,⟨by show 0<=(bN b).2.2.1-1;omega,by show (bN b).2.2.1-1<=255;omega⟩,h3,h4,h5⟩
 have hl:((b.drop 20).length:Int)<=1480:=by rw[List.length_drop];omega
 have e:c8 (u5 (bN b),b.drop 20)=0:=by
  rw[c8,if_neg (by rw[Decidable.not_not];exact hk),if_neg (by simp only;omega)]
 rw[gE,if_pos h,cN,if_pos e]
 exact Cg hk (sF hb 12) (sF hb 16) hl (rF hb)
theorem TU{b:List Int}(hb:bytes b)(hn:¬ cf b):¬ cf (if fY b=0 then gE b else b):=by
 split
 ·rename_i h
  obtain⟨e1,e2,e3⟩:=Kw hb h
  have hd:bU b=0:=Classical.byContradiction fun k=>by rw[fY,if_pos k] at h;exact k h
  rintro⟨-,k⟩
  apply hn
  refine⟨hd,?_⟩
  rw[aS,if_pos e2,e1,e3] at k
  rw[aS,if_pos hd]
  exact k
 ·exact hn
theorem FG{b:List Int}{f kind code id ttl:Int}(hb:bytes b)(hf:u32 f)(h:fh b kind code id ttl=0):¬ cf (gv b f kind code id ttl):=by
 have hg:oT kind code id ttl:=Classical.byContradiction fun k=>by rw[fh,if_pos k] at h;cases h
 have ha:cf b:=Classical.byContradiction fun k=>by rw[fh,if_neg (fun q=>q hg),if_neg k] at h;cases h
 obtain⟨-,e,en,ei⟩:=z5 (src:=f) hg ha
 have hk:=hg.1
 rw[e]
 obtain⟨s1,s2,s3,s4⟩:=vh (src:=f) (dst:=bO b) (proto:=1) (data:=fL (kind,code,b.take 28)) hg.2.2 (by omega) hf (sF hb 12) (Gj _) (CM en (z9 hb))
 intro k
 have hp1:cR (cN (fS f (bO b) 1 id ttl (fL (kind,code,b.take 28))))=1:=by rw[cR,s2]
 have:=(m7 k).2.2.1 hp1
 rw[s3,(Kt en).1] at this
 simp only at this
 omega
theorem PW{b:List Int}{f id ttl:Int}(hb:bytes b)(hf:u32 f)(h:eT b id ttl=0):¬ cf (f7 b f id ttl):=by
 have hn:f5 id ttl:=Classical.byContradiction fun k=>by rw[eT,if_pos k] at h;cases h
 have hg:pf b:=Classical.byContradiction fun k=>by rw[eT,if_neg (fun q=>q hn),if_neg k] at h;cases h
 obtain⟨-,l1,l2⟩:=uM hb hg.1.1
 have hd:=rF (n:=20) hb
 rcases hg with⟨ha,⟨g1,g2⟩|⟨g1,g2⟩|⟨g1,g2,g3,g4⟩⟩
 ·rw[(zK (src:=f) hn ha g1 g2).1]
  have hE:((dh (true,(dO (b.drop 20)).2)).length:Int)<=1480/\bytes (dh (true,(dO (b.drop 20)).2)):=by
   have e:(dO (b.drop 20)).2.2.2=(b.drop 20).drop 8:=by unfold dO;rw[if_pos g2]
   refine MO ?_ ?_
   ·show bytes (dO (b.drop 20)).2.2.2
    rw[e];exact rF hd
   ·show ((dO (b.drop 20)).2.2.2.length:Int)<=1472
    rw[e];simp only[List.length_drop];omega
  obtain⟨s1,s2,s3,s4⟩:=vh (src:=f) (dst:=bO b) (proto:=1) hn (by omega) hf (sF hb 12) hE.1 hE.2
  intro k
  have h8:=(m7 k).2.2.1 (by rw[cR,s2])
  have h28:=(m7 k).2.1
  rw[s3] at h8
  rw[s4] at h28
  unfold dh at h8 h28
  split at h8
  ·have:(bz (bG (true,(dO (b.drop 20)).2)) 2 (bV (bG (true,(dO (b.drop 20)).2)))).getD 0 default=0:=rfl
   rw[this] at h8;cases h8
  ·rename_i z
   rw[if_neg z] at h28;simp at h28
 ·rw[(zi (src:=f) hn ha g1 g2).1]
  exact FG hb hf (Gb hn ha)
 ·rw[(zT (src:=f) hn ha g1 g2 g3 g4).1]
  have hE:((de f (bO b) (jn (dE (bO b) (eV b) (b.drop 20)))).length:Int)<=1480/\bytes (de f (bO b) (jn (dE (bO b) (eV b) (b.drop 20)))):=L4 rfl
  obtain⟨s1,s2,s3,s4⟩:=vh (src:=f) (dst:=bO b) (proto:=6) hn (by omega) hf (sF hb 12) hE.1 hE.2
  intro k
  have h28:=(m7 k).2.1
  rw[s4] at h28
  unfold de at h28
  split at h28
  ·rename_i z
   have hfl:=(m7 k).2.2.2.1 (by rw[cR,s2])
   rw[s3] at hfl
   unfold de at hfl
   rw[if_pos z] at hfl
   have h13:(bz (iy (jn (dE (bO b) (eV b) (b.drop 20)))) 16 (dr f (bO b) 6 (iy (jn (dE (bO b) (eV b) (b.drop 20)))))).getD 13 default=20:=rfl
   rw[h13,jU,vX] at hfl
   have:=hfl (by show 14<=20+_;omega)
   exact absurd this (by decide)
  ·simp at h28
theorem Xy{x:ac}{lk L:Int}(N:mL x)(A:oM x)(hL:0<=cF x L):u32 (jg x (bi x lk) L):=by
 have l1:cF x L<(aA x).length:=(qY hL).1
 unfold jg
 split
 ·exact (BO A hL l1).1
 split
 ·exact A.2.1
 split
 ·exact A.2.2
 ·exact (BO A (An x lk) (Vd N lk)).1
theorem R4{ki:Int}{w:cy}{f id:Int}(hb:bytes w.2.2.2.2.1)(hf:u32 f)(hn:f5 id (gH w.1))(h:kE ki w 0=0):¬ cf (kB ki w f id):=by
 have ha:=C2 h
 unfold kB
 split
 ·exact FG hb hf (by rw[fh,if_neg (fun k=>k ⟨.inl rfl,by omega,hn⟩),if_pos ha])
 split
 ·exact FG hb hf (by rw[fh,if_neg (fun k=>k ⟨.inr rfl,by omega,hn⟩),if_pos ha])
 ·rename_i k2 k3
  have h:eT w.2.2.2.2.1 0 (gH w.1)=0:=by
   unfold kE at h
   rw[if_neg k2,if_neg k3] at h;exact h
  have hg:pf w.2.2.2.2.1:=Classical.byContradiction fun q=>by
   rw[eT] at h
   split at h
   ·cases h
   ·cases h
  exact PW hb hf (wW hn hg)
theorem Ma{x:ac}{s:bp}{lk t:Int}{b:List Int}(N:mL x)(A:oM x)(hrt:∀ r∈bh s,jS r (br x))(hb:bytes b) :
  ((dD x s lk t b).2.2=2->cf b∧¬ cf (dD x s lk t b).2.1.2)/\((dD x s lk t b).2.2=0→¬ cf b→¬ cf (dD x s lk t b).2.1.2):=by
 constructor
 ·intro h2
  have hbo:cf b:=Classical.byContradiction fun k=>ak6 k h2
  refine⟨hbo,?_⟩
  obtain⟨ki,e,hk⟩:=EF h2
  rw[e] at h2 ⊢
  obtain⟨w,hw⟩:∃ w,w=zA x s lk t b:=⟨_,rfl⟩
  rw[← hw] at h2 ⊢
  obtain⟨a1,a2,a3⟩:=Gm h2
  have w1:w.1=x:=by rw[hw];rfl
  have w2:w.2.1=s:=by rw[hw];rfl
  have w3:w.2.2.1=lk:=by rw[hw];rfl
  have w5:w.2.2.2.2.1=b:=by rw[hw];rfl
  have w6:w.2.2.2.2.2=bN b:=by
   have:w.2.2.2.2.2=(aS b).1:=by rw[hw];rfl
   rw[this,aS,if_pos hbo.1]
  have hn:=Ol (w:=w) (by rw[w1];exact N.id) (by rw[w1];exact N.form) (by rw[w6];exact qM hb 4)
  have hL:0<=cF x (iH (kB ki w) w):=by
   have:=DJ hrt (a:=j8 w.2.2.2.2.2) (by rw[← w2];exact a2) (gO w) (fp (kB ki w (adr w.1 (bi w.1 w.2.2.1)) 0))
   unfold iH hT
   rw[w1,w2]
   rw[w1] at this
   exact this
  have hf:u32 (g9 (kB ki w) w (lS ki w)):=by
   unfold g9
   split
   ·rw[w1,w3];exact Xy N A hL
   ·rename_i k
    unfold lS at k ⊢
    split
    ·rw[w6];exact sF hb 16
    ·rename_i z;rw[if_neg z] at k;exact absurd rfl k
  have ho:(pk w ki).2.1.2=kB ki w (g9 (kB ki w) w (lS ki w)) (fI w):=congrArg (fun r:lu=>r.2.1.2) a3
  rw[ho]
  exact R4 (by rw[w5];exact hb) hf hn a1
 ·intro h0 hno
  have F:=CI h0
  rw[BW (t:=t) F]
  show ¬ cf (if lk ≠ -1/\dw x=false then gE b else b)
  split
  ·rename_i k
   have ht:=F.ttl
   have e1:(aS b).1=bN b:=by rw[aS,if_pos F.dec]
   rw[e1] at ht
   have hl:fY b=0:=by
    rw[fY,if_neg (fun q=>q F.dec)]
    exact if_neg (fun q=>ht ⟨k.1,k.2,q⟩)
   have:=TU hb hno
   rwa [if_pos hl] at this
  ·exact hno
end Go.RS

/- Sim7: every packet ends once, and every answer too. -/
namespace Go.RS
open Go.SX Go.Proofs
set_option maxRecDepth 100000
set_option linter.unusedVariables false
def nJ(e:fA):Int:=e.1
def md(e:fA):Int:=e.2.1
def kv(e:fA):Int:=e.2.2.2.2
def pX(fl:List aL)(en:List fA):Prop :=
 (∃ f,fl=[f]/\en=[])∨(∃ f e,fl=[f]/\en=[e]/\kv e=2/\md e<=ax f∧¬ cf (cW f)) ∨
  (fl=[]∧∃ e,en=[e]/\kv e≠2)∨(fl=[]∧∃ a e,en=[a,e]/\kv a=2/\kv e≠2/\md a<=md e)
def ja(o:Int)(l:List aL):List aL:=l.filter fun f=>decide (dK f=o)
def fc(o:Int)(l:List fA):List fA:=l.filter fun e=>decide (nJ e=o)
theorem Od{o:Int}{l:List aL}{g:aL}(h:dK g≠o):ja o (cY l g)=ja o l:=by
 unfold ja cY
 rw[List.filter_append,List.filter_cons_of_neg (by simpa using h),← List.filter_append,List.takeWhile_append_dropWhile]
theorem AI{o:Int}{l:List aL}{g:aL}(h:dK g=o)(hl:ja o l=[]):ja o (cY l g)=[g]:=by
 unfold ja at hl ⊢
 rw[← List.takeWhile_append_dropWhile (p:=fun x=>decide (ax x<=ax g)) (l:=l),List.filter_append] at hl
 obtain⟨h1,h2⟩:=List.append_eq_nil_iff.1 hl
 unfold cY
 rw[List.filter_append,List.filter_cons_of_pos (by simpa using h),h1,h2];rfl
theorem Na(w:aq)(f:aL)(out:Int×List Int) :
  (∃ why,(why=3∨why=7)/\aR (dB w f out)=aR w++[(dK f,ax f,aN f,out.1,why)]/\au (dB w f out)=au w) ∨
   (∃ g,dK g=dK f/\cW g=out.2/\ax g=i5 w out.1/\aR (dB w f out)=aR w/\au (dB w f out)=cY (au w) g):=by
 unfold dB
 dsimp only
 split
 ·exact .inl ⟨3,.inl rfl,rfl,rfl⟩
 split
 ·exact .inl ⟨7,.inr rfl,rfl,rfl⟩
 ·exact .inr ⟨(i5 w out.1,aX w,fy (am w).2.1 out.1 (aN f),out.1,dK f,out.2),rfl,rfl,rfl,rfl,rfl⟩
structure BX (v:aq) (f:aL) (w:aq):Prop where
 a:∃ es:List fA,(∀ e∈es,nJ e=dK f/\md e=ax f)/\aR w=aR v++es ∧
  ((au w=au v/\((∃ e,es=[e]/\kv e≠2)∨(cf (cW f)∧∃ a e,es=[a,e]/\kv a=2/\kv e≠2))) ∨
    ∃ g,dK g=dK f/\ax f<=ax g/\au w=cY (au v) g/\((es=[]/\(¬ cf (cW f)→¬ cf (cW g)))∨(cf (cW f)∧∃ a,es=[a]/\kv a=2∧¬ cf (cW g))))
theorem lands{v:aq}(h:cZ v){f:aL}(hf:pO (am v) (aV v) f)(ht:ax f=aV v)(A:∀ i:Nat,i<(am v).1.length->oM ((am v).1.getD i default)):BX v f (fq v f):=by
 have hi:(aN f).toNat<(am v).1.length:=by have:=hf.nd;omega
 have N:=qN h.net hi
 have O:=h.out hf
 obtain⟨-,-,h3⟩:=wE (h.chk hi)
 have Z:=Ma (lk:=dP f) (t:=ax f) N (A _ hi) (fun r hr=>(h3 r hr).2) hf.b
 have eH:aK v f=dD ((am v).1.getD (aN f).toNat default) ((bn v).getD (aN f).toNat default) (dP f) (ax f) (cW f):=rfl
 rw[← eH] at Z
 have ov:0<(aK v f).2.1.2.length→∀ B:aq,am B=am v->aV B=aV v->ax f<=i5 B (aK v f).2.1.1:=by
  intro hp B b1 b2
  have hr:(aK v f).2.2=0∨(aK v f).2.2=2:=by
   by_cases z0:(aK v f).2.2=0
   ·exact .inl z0
   by_cases z2:(aK v f).2.2=2
   ·exact .inr z2
   ·have:=O.none z0 z2
    rw[this] at hp
    exact absurd hp (by simp[gh])
  obtain⟨-,snd,-⟩:=tP h.net hi (vL h.net hi (O.some hr).2.2)
  have:=xV (w:=B) (k:=(aK v f).2.1.1) (by unfold cG;rw[b1];exact snd) (by rw[b2];exact h.now)
  omega
 unfold fq
 dsimp only
 generalize hb:(if (aK v f).2.2=1 then ra (fm v ((bn v).set (aN f).toNat (aK v f).1)) (bv (fm v ((bn v).set (aN f).toNat (aK v f).1))++[(ax f,aN f,cW f)]) else fm v ((bn v).set (aN f).toNat (aK v f).1))=B
 have eB:am B=am v/\aV B=aV v/\au B=au v/\aR B=aR v:=by rw[← hb];split <;> exact⟨rfl,rfl,rfl,rfl⟩
 clear hb
 obtain⟨b1,b2,b3,b4⟩:=eB
 by_cases z0:(aK v f).2.2=0
 ·have hp:=(O.some (.inl z0)).1
  rw[if_pos hp,if_neg (show ¬ (aK v f).2.2≠0 from fun k=>k z0)]
  rcases Na B f (aK v f).2.1 with⟨why,hw,e1,e2⟩|⟨g,g1,g2,g3,g4,g5⟩
  ·refine⟨⟨_,?_,by rw[e1,b4],.inl ⟨by rw[e2,b3],.inl ⟨_,rfl,?_⟩⟩⟩⟩
   ·intro e he;rw[List.mem_singleton.1 he];exact⟨rfl,rfl⟩
   ·show why≠2;omega
  ·exact⟨⟨[],fun e he=>(by cases he),by rw[g4,b4];simp,.inr ⟨g,g1,by rw[g3];exact ov hp B b1 b2,by rw[g5,b3],.inl ⟨rfl,fun k=>by rw[g2];exact Z.2 z0 k⟩⟩⟩⟩
 rw[if_pos z0]
 by_cases z2:(aK v f).2.2=2
 ·have hp:=(O.some (.inr z2)).1
  rw[if_pos hp]
  have zz:=Z.1 z2
  rcases Na (kx B f (dP f) (aK v f).2.2) f (aK v f).2.1 with⟨why,hw,e1,e2⟩|⟨g,g1,g2,g3,g4,g5⟩
  ·refine⟨⟨[(dK f,ax f,aN f,dP f,(aK v f).2.2),(dK f,ax f,aN f,(aK v f).2.1.1,why)],?_,?_,.inl ⟨?_,.inr ⟨zz.1,_,_,rfl,z2,?_⟩⟩⟩⟩
   ·intro e he
    rcases List.mem_cons.1 he with rfl|he
    ·exact⟨rfl,rfl⟩
    ·rw[List.mem_singleton.1 he];exact⟨rfl,rfl⟩
   ·rw[e1]
    show (aR B++[_])++[_]=_
    rw[b4,List.append_assoc];rfl
   ·rw[e2];exact b3
   ·show why≠2;omega
  ·refine⟨⟨[(dK f,ax f,aN f,dP f,(aK v f).2.2)],?_,?_,.inr ⟨g,g1,?_,?_,.inr ⟨zz.1,_,rfl,z2,by rw[g2];exact zz.2⟩⟩⟩⟩
   ·intro e he;rw[List.mem_singleton.1 he];exact⟨rfl,rfl⟩
   ·rw[g4]
    show aR B++[_]=_
    rw[b4]
   ·rw[g3];exact ov hp _ b1 b2
   ·rw[g5]
    show cY (au B) g=_
    rw[b3]
 ·have hn:=O.none z0 z2
  have hp:¬ 0<(aK v f).2.1.2.length:=by rw[hn];simp[gh]
  rw[if_neg hp]
  refine⟨⟨[(dK f,ax f,aN f,dP f,(aK v f).2.2)],?_,?_,.inl ⟨b3,.inl ⟨_,rfl,z2⟩⟩⟩⟩
  ·intro e he;rw[List.mem_singleton.1 he];exact⟨rfl,rfl⟩
  ·show aR B++[_]=_
   rw[b4]
theorem Bz(o:Int)(l m:List fA):fc o (l++m)=fc o l++fc o m:=List.filter_append ..
theorem V9{o:Int}{es:List fA}(h:∀ e∈es,nJ e=o):fc o es=es:=List.filter_eq_self.2 fun e he=>decide_eq_true (h e he)
theorem Nw{o:Int}{es:List fA}(h:∀ e∈es,nJ e≠o):fc o es=[]:=List.filter_eq_nil_iff.2 fun e he=>by simpa using h e he
theorem am1{v w:aq}{f:aL}{o:Int}(L:BX v f w)(h:pX (ja o (f::au v)) (fc o (aR v))):pX (ja o (au w)) (fc o (aR w)):=by
 obtain⟨es,h1,h2,h3⟩:=L.a
 by_cases ho:dK f=o
 ·have ef:ja o (f::au v)=f::ja o (au v):=List.filter_cons_of_pos (by simpa using ho)
  rw[ef] at h
  have ees:fc o es=es:=V9 fun e he=>(h1 e he).1.trans ho
  rw[h2,Bz,ees]
  rcases h with⟨f',q1,q2⟩|⟨f',e0,q1,q2,q3,q4,q5⟩|⟨q1,-⟩|⟨q1,-⟩
  ·rw[List.cons.injEq] at q1
   obtain⟨rfl,q1⟩:=q1
   rw[q2,List.nil_append]
   rcases h3 with⟨k1,⟨e,rfl,k2⟩|⟨-,a,e,rfl,k2,k3⟩⟩|⟨g,g1,g2,g3,⟨rfl,-⟩|⟨-,a,rfl,k2,k3⟩⟩
   ·exact .inr (.inr (.inl ⟨by rw[k1];exact q1,e,rfl,k2⟩))
   ·refine .inr (.inr (.inr ⟨by rw[k1];exact q1,a,e,rfl,k2,k3,?_⟩))
    rw[(h1 a (by simp)).2,(h1 e (by simp)).2];exact Int.le_refl _
   ·exact .inl ⟨g,by rw[g3];exact AI (g1.trans ho) q1,rfl⟩
   ·refine .inr (.inl ⟨g,a,by rw[g3];exact AI (g1.trans ho) q1,rfl,k2,?_,k3⟩)
    rw[(h1 a (by simp)).2];exact g2
  ·rw[List.cons.injEq] at q1
   obtain⟨rfl,q1⟩:=q1
   rw[q2]
   rcases h3 with⟨k1,⟨e,rfl,k2⟩|⟨k0,-⟩⟩|⟨g,g1,g2,g3,⟨rfl,k2⟩|⟨k0,-⟩⟩
   ·refine .inr (.inr (.inr ⟨by rw[k1];exact q1,e0,e,rfl,q3,k2,?_⟩))
    rw[(h1 e (by simp)).2];exact q4
   ·exact absurd k0 q5
   ·exact .inr (.inl ⟨g,e0,by rw[g3];exact AI (g1.trans ho) q1,by simp,q3,by omega,k2 q5⟩)
   ·exact absurd k0 q5
  ·cases q1
  ·cases q1
 ·have ef:ja o (f::au v)=ja o (au v):=List.filter_cons_of_neg (by simpa using ho)
  rw[ef] at h
  have ees:fc o es=[]:=Nw fun e he=>by rw[(h1 e he).1];exact ho
  have efl:ja o (au w)=ja o (au v):=by
   rcases h3 with⟨k1,-⟩|⟨g,g1,-,g3,-⟩
   ·rw[k1]
   ·rw[g3];exact Od (by rw[g1];exact ho)
  rw[h2,Bz,ees,List.append_nil,efl]
  exact h
theorem aa3(w:aq):aR (bK w)=aR w:=by
 have k:=(t8 ((am w).2.2.length-(bR w).toNat) w).2.2.2
 exact congrArg (fun x:List Int×List aL×List o5×List fA=>x.2.2.2) k
theorem XM{w:aq}(h:cZ w)(A:∀ i:Nat,i<(am w).1.length->oM ((am w).1.getD i default)){f:aL}{r:List aL}(e:au w=f::r){o:Int}(ho:pX (ja o (au w)) (fc o (aR w))) :
  pX (ja o (au (cO w))) (fc o (aR (cO w))):=by
 have hp:=h.fl
 rw[e] at hp ho
 obtain⟨p1,p2⟩:=List.pairwise_cons.1 hp
 have hf:=h.fo f (by rw[e];exact List.mem_cons_self)
 have hb:cZ (cD (dH w r) (ax f)):=by
  refine⟨h.net,⟨by show 0<=ax f;have:=h.now;have:=hf.t;omega,hf.t.2⟩,h.done,h.len,h.st,h.cl,p2,fun x hx=>?_,?_⟩
  ·have hx:x∈r:=hx
   have k:=h.fo x (by rw[e];exact List.mem_cons_of_mem _ hx)
   exact⟨⟨p1 x hx,k.t.2⟩,k.nd,k.l,k.b,k.d⟩
  ·show r.length<=4096
   have:=h.fn
   rw[e,List.length_cons] at this;omega
 have es:cO w=fq (bK (cD (dH w r) (ax f))) f:=by unfold cO;rw[e];rfl
 have c1:cZ (bK (cD (dH w r) (ax f))):=Bc _ hb
 have c2:=t8 ((am w).2.2.length-(bR w).toNat) (cD (dH w r) (ax f))
 have n1:am (bK (cD (dH w r) (ax f)))=am w:=c2.1
 have n2:aV (bK (cD (dH w r) (ax f)))=ax f:=c2.2.1
 have n4:au (bK (cD (dH w r) (ax f)))=r:=(LT _).1
 have n5:aR (bK (cD (dH w r) (ax f)))=aR w:=aa3 _
 generalize bK (cD (dH w r) (ax f))=v at c1 n1 n2 n4 n5 es
 have hfv:pO (am v) (aV v) f:=by
  rw[n1,n2]
  exact⟨⟨Int.le_refl _,hf.t.2⟩,hf.nd,hf.l,hf.b,hf.d⟩
 rw[es]
 refine am1 (lands c1 hfv n2.symm (fun i hi=>?_)) (by rw[n4,n5];exact ho)
 rw[n1] at hi ⊢
 exact A i hi
end Go.RS

/- Sim8: sending; a network that begins. -/
namespace Go.RS
open Go.SX Go.Proofs
set_option maxRecDepth 100000
set_option linter.unusedVariables false
def iQ(w:aq)(at' who:Int)(b:List Int):aq:=uI w (at',0,who,-1,aX w,b)
theorem ck.send{w:aq}{K:Int}(h:ck w K)(hK:K<=2199023255552){at' who:Int}{b:List Int}(ha:aV w<=at'∧at'<=1125899906842624)(hw:0<=who/\who<(am w).1.length)(hb:bytes b)(hl:(b.length:Int)<=2000)
  (hf:(au w).length<4096):ck (iQ w at' who b) (K+1)/\aX (iQ w at' who b)=aX w+1:=by
 have hord:=h.ord
 have ew:IntKind.i64.wrap (aX w+1)=aX w+1:=af (by omega) (by omega)
 have eo:aX (iQ w at' who b)=aX w+1:=ew
 have h':=h.more (K':=K+1) (by omega)
 refine⟨⟨h'.net,h'.now,by rw[eo];omega,h'.done,h'.len,h'.st,h'.cl,h'.cr,?_,?_,?_⟩,eo⟩
 ·exact Ob h.fl fun x hx=>(h.fo x hx).o.2
 ·intro x hx
  have hx:x∈cY (au w) (at',aX w,who,-1,aX w,b):=hx
  show qT (am w) (aV w) (aX (iQ w at' who b)) x
  rw[eo]
  rcases uS.1 hx with rfl|hx
  ·exact⟨ha,⟨by show 0<=aX w;omega,by show aX w<aX w+1;omega⟩,hw,.inl rfl,⟨by show 0<=aX w;omega,by show aX w<aX w+1;omega⟩,hb,hl⟩
  ·have k:=h.fo x hx
   exact⟨k.t,⟨k.o.1,by have:=k.o.2;omega⟩,k.nd,k.l,⟨k.g.1,by have:=k.g.2;omega⟩,k.b,k.d⟩
 ·show (cY (au w) _).length<=4096
  rw[zp];omega
def js(n:bt):aq:=(n,0,0,0,n.1.map lz,List.replicate n.2.1.length 0,[],[],[])
theorem ck.new{n:bt}(h:dV n=0):ck (js n) 0:=by
 refine⟨h,⟨by show (0:Int)<=0;omega,by show (0:Int)<=_;omega⟩,⟨by show (0:Int)<=0;omega,by show (0:Int)<=0;omega⟩,⟨by show (0:Int)<=0;omega,by show (0:Int)<=_;omega⟩,?_,fun i hi=>?_,?_,fun c hc=>?_,List.Pairwise.nil,fun f hf=>(by cases hf),by show (0:Nat)<=4096;omega⟩
 ·show (n.1.map lz).length=_
  rw[List.length_map];rfl
 ·have hi:i<n.1.length:=hi
  show fR (n.1.getD i default) ((n.1.map lz).getD i default) 0/\bh ((n.1.map lz).getD i default)=(cU n (0:Int).toNat).getD i default
  rw[xK hi]
  refine⟨J7 (qN h hi),?_⟩
  show aQ (n.1.getD i default)=(n.1.map aQ).getD i default
  rw[xK hi]
 ·show (List.replicate n.2.1.length (0:Int)).length=_
  rw[List.length_replicate];rfl
 ·have hc:c∈List.replicate n.2.1.length (0:Int):=hc
  rw[List.eq_of_mem_replicate hc];omega
theorem VK{w:aq}{at' who:Int}{b:List Int}(hf:∀ f∈au w,dK f<aX w)(he:∀ e∈aR w,nJ e<aX w) :
  pX (ja (aX w) (au (iQ w at' who b))) (fc (aX w) (aR (iQ w at' who b))) ∧
   ∀ o,o≠aX w->ja o (au (iQ w at' who b))=ja o (au w)/\fc o (aR (iQ w at' who b))=fc o (aR w):=by
 refine⟨.inl ⟨(at',aX w,who,-1,aX w,b),AI rfl ?_,Nw fun e h=>?_⟩,fun o ho=>⟨Od (fun k=>ho k.symm),rfl⟩⟩
 ·exact List.filter_eq_nil_iff.2 fun f h=>by have:=hf f h;simp;omega
 ·have:=he e h;omega
theorem Lr.one{c:Int}{l:List aL}{g:aL}(h:l.Pairwise fun a b=>ax a<=ax b)(hg:c<ax g):Lr c l (cY l g):=by
 refine⟨g,l.takeWhile fun x=>decide (ax x<=ax g),l.dropWhile fun x=>decide (ax x<=ax g),rfl,by rw[List.takeWhile_append_dropWhile],hg,fun y hy=>?_,?_⟩
 ·simpa using List.all_eq_true.1 (List.all_takeWhile (p:=fun x=>decide (ax x<=ax g)) (l:=l)) y hy
 ·intro x hx
  have h2:=h
  rw[← List.takeWhile_append_dropWhile (p:=fun x=>decide (ax x<=ax g)) (l:=l)] at h2
  obtain⟨-,b,-⟩:=List.pairwise_append.1 h2
  cases hh:l.dropWhile (fun x=>decide (ax x<=ax g)) with
  | nil=>rw[hh] at hx;cases hx
  | cons y r =>
   have hy:¬ ax y<=ax g:=by
    have:=List.head_dropWhile_not (p:=fun x=>decide (ax x<=ax g)) (l:=l) (by rw[hh];simp)
    simp only[hh,List.head_cons] at this
    simpa using this
   rw[hh] at hx b
   rcases List.mem_cons.1 hx with rfl|hx
   ·omega
   ·have:=(List.pairwise_cons.1 b).1 x hx;omega
end Go.RS

/- SimA: how much a network in operation can still do: the number of its steps has a bound. -/
namespace Go.RS
open Go.SX Go.Proofs
set_option maxRecDepth 100000
set_option linter.unusedVariables false
def tQ(b:List Int):Nat:=if bU b=0 then (bN b).2.2.1.toNat else 0
def mW(n:bt)(f:aL):Nat:=1+2*tQ (cW f)+(if dw (n.1.getD (aN f).toNat default)=true then 1 else 0)+(if dP f = -1 then 2 else 0)+(if cf (cW f) then 600 else 0)
def ni(n:bt)(l:List aL):Nat:=(l.map (mW n)).sum
def gb(w:aq):Nat:=ni (am w) (au w)
def tZ(n:bt):Prop:=∀ i:Nat,i<n.1.length->oM (n.1.getD i default)
theorem HJ{b:List Int}(hb:bytes b):tQ b<=255:=by
 unfold tQ
 split
 ·rename_i h
  obtain⟨⟨-,⟨h1,h2⟩,-⟩,-⟩:=uM hb h
  omega
 ·omega
theorem YV{n:bt}(h:dV n=0):∀ l∈n.2.1,iP n.1 l=false:=by
 unfold dV at h
 obtain⟨-,h⟩:=nh h
 obtain⟨-,h⟩:=nh h
 obtain⟨-,h⟩:=nh h
 obtain⟨-,h⟩:=nh h
 obtain⟨-,h⟩:=nh h
 obtain⟨h,-⟩:=nh h
 unfold oG at h
 intro l hl
 split at h
 ·cases h
 ·rename_i k
  cases e:iP n.1 l with
  | false=>rfl
  | true=>exact absurd (List.any_eq_true.2 ⟨l,hl,e⟩) k
theorem Ry{n:bt}(h:dV n=0){k x:Int}(hk:0<=k/\k<n.2.1.length)(hx:dw (n.1.getD x.toNat default)=true)(ho:0<=fy n.2.1 k x):dw (n.1.getD (fy n.2.1 k x).toNat default)=false:=by
 have hd:=YV h (n.2.1.getD k.toNat default) (bH hk.1 hk.2)
 unfold iP at hd
 unfold fy at ho ⊢
 rw[if_neg (by omega)] at ho ⊢
 split at ho
 ·rename_i e
  rw[if_pos e]
  rw[← e,hx,Bool.true_and] at hd
  exact hd
 ·split at ho
  ·rename_i e0 e
   rw[if_neg e0,if_pos e]
   rw[← e,hx,Bool.and_true] at hd
   exact hd
  ·omega
theorem WF{b:List Int}(hb:bytes b)(h:fY b=0):tQ (gE b)+1=tQ b:=by
 obtain⟨e1,e2,-⟩:=Kw hb h
 have hd:bU b=0:=Classical.byContradiction fun k=>by rw[fY,if_pos k] at h;exact k h
 have ht:¬ (bN b).2.2.1<2:=fun k=>by rw[fY,if_neg (fun q=>q hd),if_pos k] at h;cases h
 unfold tQ
 rw[if_pos e2,if_pos hd,e1]
 show ((bN b).2.2.1-1).toNat+1=_
 omega
theorem V3{v:aq}(h:cZ v){f:aL}(hf:pO (am v) (aV v) f)(A:tZ (am v))(hp:0<(aK v f).2.1.2.length)(t o og:Int) :
  mW (am v) (t,o,fy (am v).2.1 (aK v f).2.1.1 (aN f),(aK v f).2.1.1,og,(aK v f).2.1.2)+1<=mW (am v) f:=by
 have hi:(aN f).toNat<(am v).1.length:=by have:=hf.nd;omega
 have N:=qN h.net hi
 have O:=h.out hf
 obtain⟨-,-,h3⟩:=wE (h.chk hi)
 have Z:=Ma (lk:=dP f) (t:=ax f) N (A _ hi) (fun r hr=>(h3 r hr).2) hf.b
 have eH:aK v f=dD ((am v).1.getD (aN f).toNat default) ((bn v).getD (aN f).toNat default) (dP f) (ax f) (cW f):=rfl
 have hr:(aK v f).2.2=0∨(aK v f).2.2=2:=by
  by_cases z0:(aK v f).2.2=0
  ·exact .inl z0
  by_cases z2:(aK v f).2.2=2
  ·exact .inr z2
  ·have:=O.none z0 z2
   rw[this] at hp
   exact absurd hp (by simp[gh])
 obtain⟨⟨k0,k1⟩,-,⟨o1,-⟩,-⟩:=tP h.net hi (vL h.net hi (O.some hr).2.2)
 rw[show (((aN f).toNat:Nat):Int)=aN f by have:=hf.nd;omega] at o1
 have hk:¬ (aK v f).2.1.1 = -1:=by omega
 show 1+2*tQ (aK v f).2.1.2+(if dw ((am v).1.getD (fy (am v).2.1 (aK v f).2.1.1 (aN f)).toNat default)=true then 1 else 0)+(if (aK v f).2.1.1 = -1 then 2 else 0)+(if cf (aK v f).2.1.2 then 600 else 0)+1<=_
 rw[if_neg hk]
 have hD:=Ry (x:=aN f) h.net ⟨k0,k1⟩
 rw[← eH] at Z
 have hob:=O.byt
 have t1:=HJ hob
 unfold mW
 generalize dw ((am v).1.getD (fy (am v).2.1 (aK v f).2.1.1 (aN f)).toNat default)=oy at *
 rcases hr with hr|hr
 ·have F:=CI (by rw[← eH];exact hr)
  have e:=BW (t:=ax f) F
  rw[← eH] at e
  have e2:(aK v f).2.1.2=if dP f ≠ -1/\dw ((am v).1.getD (aN f).toNat default)=false then gE (cW f) else cW f:=by rw[e]
  have ha:(if cf (aK v f).2.1.2 then 600 else 0)<=(if cf (cW f) then 600 else 0):=by
   split
   ·rename_i q
    rw[if_pos (Classical.byContradiction fun k=>Z.2 hr k q)];omega
   ·omega
  generalize (if cf (aK v f).2.1.2 then 600 else 0)=a1 at *
  generalize (if cf (cW f) then 600 else 0)=a2 at *
  cases ox:dw ((am v).1.getD (aN f).toNat default) with
  | true =>
   have:=hD ox o1
   rw[this] at *
   rw[e2,if_neg (by rw[ox];simp)]
   simp;omega
  | false =>
   by_cases hl:dP f = -1
   ·rw[e2,if_neg (fun q=>q.1 hl),if_pos hl]
    cases oy <;> simp <;> omega
   ·have hlow:fY (cW f)=0:=by
     have ht:=F.ttl
     rw[aS,if_pos F.dec] at ht
     unfold fY
     rw[if_neg (fun k=>k F.dec),if_neg]
     intro q
     exact ht ⟨hl,ox,q⟩
    have:=WF hf.b hlow
    rw[e2,if_pos ⟨hl,ox⟩,if_neg hl]
    cases oy <;> simp <;> omega
 ·obtain⟨z1,z2⟩:=Z.1 hr
  rw[if_neg z2,if_pos z1]
  cases oy <;> simp <;> omega
theorem Lf(n:bt)(l:List aL)(f:aL):ni n (cY l f)=ni n l+mW n f:=by
 have e:ni n l=ni n ((l.takeWhile fun x=>decide (ax x<=ax f))++(l.dropWhile fun x=>decide (ax x<=ax f))):=by rw[List.takeWhile_append_dropWhile]
 rw[e]
 unfold ni cY
 simp only[List.map_append,List.map_cons,List.sum_append,List.sum_cons]
 omega
theorem HA(w:aq)(f:aL)(out:Int×List Int):(aR (dB w f out)).length<=(aR w).length+1/\bv (dB w f out)=bv w ∧
  (au (dB w f out)=au w∨∃ t o,au (dB w f out)=cY (au w) (t,o,fy (am w).2.1 out.1 (aN f),out.1,dK f,out.2)):=by
 unfold dB
 dsimp only
 split
 ·exact⟨by show ((aR w)++[_]).length<=_;simp,rfl,.inl rfl⟩
 ·split
  ·exact⟨by show ((aR w)++[_]).length<=_;simp,rfl,.inl rfl⟩
  ·exact⟨by show (aR w).length<=_;omega,rfl,.inr ⟨_,_,rfl⟩⟩
theorem aa6{v:aq}(h:cZ v){f:aL}(hf:pO (am v) (aV v) f)(A:tZ (am v)) :
  (aR (fq v f)).length<=(aR v).length+2/\(bv (fq v f)).length<=(bv v).length+1/\ni (am v) (au (fq v f))+1<=ni (am v) (au v)+mW (am v) f:=by
 have h1:1<=mW (am v) f:=by unfold mW;omega
 unfold fq
 dsimp only
 generalize hb:(if (aK v f).2.2=1 then ra (fm v ((bn v).set (aN f).toNat (aK v f).1)) (bv (fm v ((bn v).set (aN f).toNat (aK v f).1))++[(ax f,aN f,cW f)]) else fm v ((bn v).set (aN f).toNat (aK v f).1))=B
 have eB:am B=am v/\au B=au v/\aR B=aR v/\(bv B).length<=(bv v).length+1:=by
  rw[← hb];split
  ·exact⟨rfl,rfl,rfl,by show ((bv v)++[_]).length<=_;simp⟩
  ·exact⟨rfl,rfl,rfl,by show (bv v).length<=_;omega⟩
 clear hb
 obtain⟨b1,b2,b3,b4⟩:=eB
 generalize hc:(if (aK v f).2.2≠0 then kx B f (dP f) (aK v f).2.2 else B)=C
 have eC:am C=am v/\au C=au v/\(aR C).length<=(aR v).length+1/\bv C=bv B:=by
  rw[← hc];split
  ·exact⟨b1,b2,by show ((aR B)++[_]).length<=_;rw[b3];simp,rfl⟩
  ·exact⟨b1,b2,by rw[b3];omega,rfl⟩
 clear hc
 obtain⟨c1,c2,c3,c4⟩:=eC
 split
 ·rename_i hp
  obtain⟨d1,d2,d3⟩:=HA C f (aK v f).2.1
  refine⟨by omega,by rw[d2,c4];exact b4,?_⟩
  rcases d3 with d3|⟨t,o,d3⟩
  ·rw[d3,c2];omega
  ·rw[d3,c2,Lf,c1]
   have:=V3 h hf A hp t o (dK f)
   omega
 ·exact⟨by omega,by rw[c4];exact b4,by rw[c2];omega⟩
theorem cZ.okDn{w:aq}(h:cZ w):okDn w:=⟨h.done.1,by have:=wK h.net;omega⟩
theorem ZG{w:aq}(h:cZ w)(hd:lM w=true):bK w=bK (kH w):=by
 obtain⟨h1,h2,h3⟩:=Nj h.okDn hd
 have e:=Qr h.okDn (n:=rq (kH w)+1) (by omega)
 rw[e,gg,if_pos hd]
 rfl
theorem S4{w:aq}(hd:¬ lM w=true):bK w=w:=by
 unfold bK
 cases (am w).2.2.length-(bR w).toNat with
 | zero=>rfl
 | succ n=>rw[gg,if_neg hd]
theorem Bs(w:aq):(bK w).1=w.1/\au (bK w)=au w/\aR (bK w)=aR w/\bv (bK w)=bv w/\aX (bK w)=aX w/\aV (bK w)=aV w:=by
 have k:=t8 ((am w).2.2.length-(bR w).toNat) w
 have e:=k.2.2.2
 exact⟨k.1,congrArg (fun x:List Int×List aL×List o5×List fA=>x.2.1) e,congrArg (fun x:List Int×List aL×List o5×List fA=>x.2.2.2) e,congrArg (fun x:List Int×List aL×List o5×List fA=>x.2.2.1) e,k.2.2.1,k.2.1⟩
theorem QW(n:bt)(f:aL)(l:List aL):ni n (f::l)=mW n f+ni n l:=by unfold ni;rw[List.map_cons,List.sum_cons]
theorem qT.wk{n:bt}{t o:Int}{f:aL}(h:qT n t o f):pO n t f:=⟨h.t,h.nd,h.l,h.b,h.d⟩
def mR(n:bt):Prop:=(n.1.length:Int)<=1000000/\(n.2.1.length:Int)<=1000000/\(n.2.2.length:Int)<=1000000/\(∀ x∈n.1,((aA x).length:Int)<=1000000/\okL (aQ x))∧∀ c∈n.2.2,((cX c).2.1.length:Int)<=1099511627776
def uh(w:aq):Prop:=mR (am w)/\((bn w).length:Int)<=1000000/\((dN w).length:Int)<=1000000/\((au w).length:Int)<=1000000/\((bv w).length:Int)<=1000000000000/\((aR w).length:Int)<=1000000000000 ∧
 (∀ s∈bn w,((jc s).length:Int)<=1000000/\okL (bh s))/\(∀ f∈au w,((cW f).length:Int)<=1000000)∧∀ e∈bv w,(e.2.2.length:Int)<=1000000
theorem Qq(v:aq)(f:aL):bv (fq v f)=bv v∨bv (fq v f)=bv v++[(ax f,aN f,cW f)]:=by
 unfold fq
 dsimp only
 generalize hb:(if (aK v f).2.2=1 then ra (fm v ((bn v).set (aN f).toNat (aK v f).1)) (bv (fm v ((bn v).set (aN f).toNat (aK v f).1))++[(ax f,aN f,cW f)]) else fm v ((bn v).set (aN f).toNat (aK v f).1))=B
 have eB:bv B=bv v∨bv B=bv v++[(ax f,aN f,cW f)]:=by
  rw[← hb];split
  ·exact .inr rfl
  ·exact .inl rfl
 clear hb
 generalize hc:(if (aK v f).2.2≠0 then kx B f (dP f) (aK v f).2.2 else B)=C
 have eC:bv C=bv B:=by rw[← hc];split <;> rfl
 split
 ·rw[(HA C f _).2.1,eC];exact eB
 ·rw[eC];exact eB
structure cE (B:Int) (w:aq):Prop where
 b:B<=549755813888
 sB:ck w (B-2*gb w)
 a:tZ (am w)
 c:mR (am w)
 dd:∀ x∈bv w,(x.2.2.length:Int)<=2000
 e:((aR w).length:Int)+2*gb w<=B
 d:((bv w).length:Int)+gb w<=B
abbrev o7(w:aq):Prop:=cE 549755813888 w
theorem cE.s{B:Int}{w:aq}(h:cE B w):ck w (549755813888-2*gb w):=h.sB.more (by have:=h.b;omega)
theorem cE.more{B B':Int}{w:aq}(h:cE B w)(h1:B<=B')(h2:B'<=549755813888):cE B' w:=⟨h2,h.sB.more (by omega),h.a,h.c,h.dd,by have:=h.e;omega,by have:=h.d;omega⟩
theorem cE.sim{B:Int}{w:aq}(h:cE B w):o7 w:=h.more h.b (Int.le_refl _)
theorem cE.change{B:Int}{w:aq}(h:cE B w):cE B (bK w):=by
 obtain⟨k1,k2,k3,k4,-⟩:=Bs w
 have ep:gb (bK w)=gb w:=by unfold gb;rw[k2];show ni (bK w).1 _=_;rw[k1];rfl
 exact⟨h.b,by rw[ep];exact h.sB.change,by show tZ (bK w).1;rw[k1];exact h.a,by show mR (bK w).1;rw[k1];exact h.c,by rw[k4];exact h.dd,by rw[ep,k3];exact h.e,by rw[ep,k4];exact h.d⟩
theorem cE.cp{B:Int}{w:aq}(h:cE B w):uh w:=by
 have h1:=h.s.len
 have h2:=wK h.s.net
 have h3:=h.s.cl
 have h4:=h.s.fn
 have h5:=h.e
 have h6:=h.d
 have h7:=h.b
 refine⟨h.c,by omega,by omega,by omega,by omega,by omega,fun s hs=>?_,fun f hf=>by have:=(h.s.fo f hf).d;omega,fun x hx=>by have:=h.dd x hx;omega⟩
 obtain⟨i,hi,rfl⟩:=List.mem_iff_getElem.1 hs
 have hi2:i<(am w).1.length:=by omega
 obtain⟨st,-⟩:=h.s.st i hi2
 have e:(bn w).getD i default=(bn w)[i]:=by rw[List.getD_eq_getElem?_getD,List.getElem?_eq_getElem hi];rfl
 rw[e] at st
 have:=st.ps
 have:=(qN h.s.net hi2).n32
 exact⟨by omega,st.okl⟩
theorem Ux{w:aq}(h:cZ w)(A:tZ (am w)){f:aL}{r:List aL}(e:au w=f::r) :
  gb (cO w)+1<=gb w/\(aR (cO w)).length<=(aR w).length+2/\(bv (cO w)).length<=(bv w).length+1:=by
 obtain⟨-,s2,-⟩:=h.step e
 have es:cO w=fq (bK (cD (dH w r) (ax f))) f:=by unfold cO;rw[e];rfl
 obtain⟨k1,k2,k3,k4,-,k6⟩:=Bs (cD (dH w r) (ax f))
 have k2:au (bK (cD (dH w r) (ax f)))=r:=k2
 have k6:aV (bK (cD (dH w r) (ax f)))=ax f:=k6
 have k1:am (bK (cD (dH w r) (ax f)))=am w:=k1
 have hf:=h.fo f (by rw[e];exact List.mem_cons_self ..)
 have hp:=h.fl
 rw[e] at hp
 have h0:cZ (cD (dH w r) (ax f)):=by
  refine⟨h.net,⟨by have:=hf.t;have:=h.now;show 0<=ax f;omega,hf.t.2⟩,h.done,h.len,h.st,h.cl,(List.pairwise_cons.1 hp).2,fun x hx=>?_,?_⟩
  ·have k:=h.fo x (by rw[e];exact List.mem_cons_of_mem _ hx)
   exact⟨⟨(List.pairwise_cons.1 hp).1 x hx,k.t.2⟩,k.nd,k.l,k.b,k.d⟩
  ·have:=h.fn;rw[e] at this;simp at this;show r.length<=4096;omega
 have h1:cZ (bK (cD (dH w r) (ax f))):=Bc _ h0
 obtain⟨l1,l2,l3⟩:=aa6 h1 (f:=f) (by rw[k1,k6];exact⟨⟨Int.le_refl _,hf.t.2⟩,hf.nd,hf.l,hf.b,hf.d⟩) (by rw[k1];exact A)
 rw[← es] at l1 l2 l3
 rw[k3] at l1
 rw[k4] at l2
 rw[k1,k2] at l3
 refine⟨?_,l1,l2⟩
 unfold gb
 rw[s2,e,QW]
 omega
theorem cE.step{B:Int}{w:aq}(h:cE B w){f:aL}{r:List aL}(e:au w=f::r):cE B (cO w)/\gb (cO w)+1<=gb w:=by
 obtain⟨p1,p2,p3⟩:=Ux h.s.weak h.a e
 obtain⟨s1,s2,-⟩:=h.sB.step (by have:=h.b;omega) e
 have h1:=h.e
 have h2:=h.d
 refine⟨⟨h.b,s1.more (by omega),by rw[s2];exact h.a,by rw[s2];exact h.c,?_,by omega,by omega⟩,p1⟩
 have es:cO w=fq (bK (cD (dH w r) (ax f))) f:=by unfold cO;rw[e];rfl
 have k4:bv (bK (cD (dH w r) (ax f)))=bv w:=(Bs _).2.2.2.1
 have hf:=h.s.fo f (by rw[e];exact List.mem_cons_self ..)
 rw[es]
 rcases Qq (bK (cD (dH w r) (ax f))) f with q|q
 ·rw[q,k4];exact h.dd
 ·rw[q,k4]
  intro x hx
  rcases List.mem_append.1 hx with hx|hx
  ·exact h.dd x hx
  ·rw[List.mem_singleton.1 hx];exact hf.d
theorem aa9{to:Int}:∀(n m:Nat){w:aq},cZ w->iK to (au w)<=n->iK to (au w)<=m->jk n w to=jk m w to:=by
 have stop:∀{w:aq},iK to (au w)=0->iW w to=false:=by
  intro w hw
  unfold iW
  cases e:au w with
  | nil=>rfl
  | cons f r =>
   rw[e,vG] at hw
   exact decide_eq_false (by omega)
 intro n
 induction n with
 | zero =>
  intro m w h hn hm
  have hb:=stop (w:=w) (by omega)
  cases m with
  | zero=>rfl
  | succ m=>rw[jk,jk,if_neg (by rw[hb];simp)]
 | succ n ih =>
  intro m w h hn hm
  cases m with
  | zero =>
   have hb:=stop (w:=w) (by omega)
   rw[jk,jk,if_neg (by rw[hb];simp)]
  | succ m =>
   rw[jk,jk]
   split
   ·rename_i hb
    unfold iW at hb
    cases e:au w with
    | nil=>rw[e] at hb;cases hb
    | cons f r =>
     rw[e] at hb
     have hb:=of_decide_eq_true hb
     have hpos:1<=iK to (au w):=by rw[e,vG];omega
     obtain⟨s1,-,-,s4⟩:=h.step e
     have:=s4 to hb
     exact ih m s1 (by omega) (by omega)
   ·rfl
theorem HC{w:aq}{to:Int}(h:cZ w)(hb:iW w to=true):jD w to=jD (cO w) to:=by
 have hb0:=hb
 unfold iW at hb
 cases e:au w with
 | nil=>rw[e] at hb;cases hb
 | cons f r =>
  rw[e] at hb
  have hb:=of_decide_eq_true hb
  have hpos:1<=iK to (au w):=by rw[e,vG];omega
  obtain⟨s1,-,-,s4⟩:=h.step e
  have:=s4 to hb
  obtain⟨k,hk⟩:∃ k,iK to (au w)=k+1:=⟨iK to (au w)-1,by omega⟩
  have e1:jD w to=jk k (cO w) to:=by unfold jD;rw[hk,jk,if_pos hb0]
  rw[e1]
  exact aa9 _ _ s1 (by omega) (Nat.le_refl _)
theorem Kv{w:aq}{to:Int}(hb:iW w to=false):jD w to=w:=af7 hb _
theorem cE.run{B to:Int}:∀(n:Nat){w:aq},cE B w->gb w<=n->cE B (jD w to)/\iW (jD w to) to=false/\am (jD w to)=am w/\gb (jD w to)<=gb w
 | n,w,h,hn=>by
  cases hb:iW w to with
  | false=>rw[Kv hb];exact⟨h,hb,rfl,Nat.le_refl _⟩
  | true =>
   rw[HC h.s.weak hb]
   cases e:au w with
   | nil=>unfold iW at hb;rw[e] at hb;cases hb
   | cons f r =>
    obtain⟨k1,k2⟩:=h.step e
    obtain⟨-,s2,-⟩:=h.s.weak.step e
    cases n with
    | zero=>omega
    | succ n =>
     obtain⟨a,b,c,d⟩:=cE.run n k1 (by omega)
     exact⟨a,b,c.trans s2,by omega⟩
def uZ:aq:=(([],[],[]),0,0,0,[],[],[],[],[])
def lW(w:aq):Prop:=w=cD uZ (aV w)/\0<=aV w/\aV w<=1125899906842624
def ju(w:aq):Prop:=o7 w∨lW w
theorem lW.fl{w:aq}(h:lW w):au w=[]:=by rw[h.1];rfl
theorem lW.cp{w:aq}(h:lW w):uh w:=by
 rw[h.1]
 have Z:∀{b:Int},0<=b->((0:Nat):Int)<=b:=fun h=>h
 exact⟨⟨Z (by decide),Z (by decide),Z (by decide),fun x hx=>(by cases hx),fun x hx=>(by cases hx)⟩,Z (by decide),Z (by decide),Z (by decide),Z (by decide),Z (by decide),fun x hx=>(by cases hx),fun x hx=>(by cases hx),fun x hx=>(by cases hx)⟩
theorem ju.cp{w:aq}(h:ju w):uh w:=h.elim cE.cp lW.cp
theorem ju.fl{w:aq}(h:ju w)(hf:au w≠[]):o7 w:=h.resolve_right fun q=>hf q.fl
def rm(w:aq):Prop:=cZ w∨((am w).2.2=[]/\bR w=0)
theorem lW.ch{w:aq}(h:lW w)(t:Int):rm (cD w t) := .inr (by rw[h.1];exact⟨rfl,rfl⟩)
theorem lW.chg{w:aq}(h:lW w)(t:Int):bK (cD w t)=cD w t:=by rw[h.1];rfl
def fU(w:aq):aL:=(au w).headD default
def c9(w:aq):aq:=bK (cD (dH w (au w).tail) (ax (fU w)))
def gP(w:aq):lu:=aK (c9 w) (fU w)
def r9(w:aq):aq:=fm (c9 w) ((bn (c9 w)).set (aN (fU w)).toNat (gP w).1)
def kF(w:aq):aq:=if (gP w).2.2=1 then ra (r9 w) (bv (r9 w)++[(ax (fU w),aN (fU w),cW (fU w))]) else r9 w
def fZ(w:aq):aq:=if (gP w).2.2≠0 then kx (kF w) (fU w) (dP (fU w)) (gP w).2.2 else kF w
theorem JI(w:aq):cO w=if 0<(gP w).2.1.2.length then dB (fZ w) (fU w) (gP w).2.1 else fZ w:=by
 have e:cO w=fq (c9 w) (fU w):=by unfold cO c9 fU;rfl
 rw[e]
 unfold fq fZ kF r9 gP
 rfl
theorem sw(w:aq):kF w=ra (r9 w) (if (gP w).2.2=1 then bv (c9 w)++[(ax (fU w),aN (fU w),cW (fU w))] else bv (c9 w)):=by unfold kF;split <;> rfl
theorem wm(w:aq):fZ w=F3 (kF w) (if (gP w).2.2≠0 then aR (c9 w)++[(dK (fU w),ax (fU w),aN (fU w),dP (fU w),(gP w).2.2)] else aR (c9 w)):=by
 unfold fZ
 rw[sw]
 split <;> rfl
structure At (w:aq) (f:aL) (r:List aL):Prop where
 s:ck (c9 w) (549755813888-2*gb w)
 fk:qT (am (c9 w)) (aV (c9 w)) (aX (c9 w)) f
 eF:fU w=f
 net:am (c9 w)=am w
 now:aV (c9 w)=ax f
 fl:au (c9 w)=r
 en:aR (c9 w)=aR w
 dl:bv (c9 w)=bv w
 h0:ck (cD (dH w (au w).tail) (ax (fU w))) (549755813888-2*gb w)
theorem cE.at{B:Int}{w:aq}(h:cE B w){f:aL}{r:List aL}(e:au w=f::r):At w f r:=by
 have hs:=h.s
 have hp:=hs.fl
 rw[e] at hp
 obtain⟨p1,p2⟩:=List.pairwise_cons.1 hp
 have hf:=hs.fo f (by rw[e];exact List.mem_cons_self)
 have hle:∀ x∈r,ax f<=ax x:=fun x hx=>by rcases p1 x hx with k|k <;> omega
 have ed:fU w=f:=by unfold fU;rw[e];rfl
 have et:(au w).tail=r:=by rw[e];rfl
 have hb:ck (cD (dH w r) (ax f)) (549755813888-2*gb w):=by
  refine⟨hs.net,⟨by show 0<=ax f;have:=hs.now;have:=hf.t;omega,hf.t.2⟩,hs.ord,hs.done,hs.len,hs.st,hs.cl,hs.cr,p2,fun x hx=>?_,?_⟩
  ·have hx:x∈r:=hx
   have k:=hs.fo x (by rw[e];exact List.mem_cons_of_mem _ hx)
   exact⟨⟨hle x hx,k.t.2⟩,k.o,k.nd,k.l,k.g,k.b,k.d⟩
  ·show r.length<=4096
   have:=hs.fn
   rw[e,List.length_cons] at this;omega
 obtain⟨k1,k2,k3,k4,k5,k6⟩:=Bs (cD (dH w r) (ax f))
 have es:c9 w=bK (cD (dH w r) (ax f)):=by unfold c9;rw[ed,et]
 have n1:am (c9 w)=am w:=by rw[es];exact k1
 have n2:aV (c9 w)=ax f:=by rw[es];exact k6
 have n3:aX (c9 w)=aX w:=by rw[es];exact k5
 refine⟨by rw[es];exact hb.change,?_,ed,n1,n2,by rw[es];exact k2,by rw[es];exact k3,by rw[es];exact k4,by rw[ed,et];exact hb⟩
 rw[n1,n2,n3]
 exact⟨⟨Int.le_refl _,hf.t.2⟩,hf.o,hf.nd,hf.l,hf.g,hf.b,hf.d⟩
theorem At.out{w:aq}{f:aL}{r:List aL}(h:At w f r)(hp:0<(gP w).2.1.2.length) :
  0<=(gP w).2.1.1/\(gP w).2.1.1<(am w).2.1.length/\iB (am w).1.length ((am w).2.1.getD (gP w).2.1.1.toNat default):=by
 have hi:(aN f).toNat<(am (c9 w)).1.length:=by have:=h.fk.nd;omega
 have O:=h.s.weak.out h.fk.wk
 have eH:gP w=aK (c9 w) f:=by unfold gP;rw[h.eF]
 rw[eH] at hp ⊢
 have hr:(aK (c9 w) f).2.2=0∨(aK (c9 w) f).2.2=2:=by
  by_cases z0:(aK (c9 w) f).2.2=0
  ·exact .inl z0
  by_cases z2:(aK (c9 w) f).2.2=2
  ·exact .inr z2
  ·have:=O.none z0 z2
   rw[this] at hp
   exact absurd hp (by simp[gh])
 obtain⟨⟨k0,k1⟩,k2,-⟩:=tP h.s.net hi (vL h.s.net hi (O.some hr).2.2)
 rw[h.net] at k1 k2
 exact⟨k0,k1,k2⟩
end Go.RS

/- SX: copying rows whose elements have several cells (for slices.Insert). -/
namespace Go.SX
open Go
variable {P:Program}
theorem zU(w:World)(dT sT ty iD:TypeId)(z g o dLen dCap:Nat)(a:Addr)(lG qz:Nat)(cur:Array Value)(t:TypeId)(cs:List Value)
  (hu:P.underlying dT=some (.slice iD)) (hs:(P.info? iD).map (·.size)=some z)
  (hg:w.heap[g]? = some (.cells cur t (0,0))) (hn:cs.length=Nat.min lG dLen*z)
  (hsrc:∀ j v,cs[j]? = some v->w.cell? (a.add j)=some v) (hfit:o+cs.length<=cur.size) (h1:∀ v∈cs,v.oneCell'=true) :
  (Builtin.copy_ #[dT,sT] ty #[.slice (some ⟨g,o,none⟩) dLen dCap,.slice (some a) lG qz]).run P w =
   .ok (goInt (Nat.min lG dLen)) (w.setRow g (cur.toList.take o++cs++cur.toList.drop (o+cs.length)).toArray):=by
 have hl:=run_loadCells_list (P:=P) w a cs hsrc
 have hst:=run_storeCells_at P g o t cs 0 cur w hg (by simpa using hfit) h1
 cases hq:P.info? iD with
 | none=>simp[hq] at hs
 | some i =>
  have hi:i.size=z:=by simpa[hq] using hs
  simp[Builtin.copy_,run_underlying hu,Builtin.lenOf,Builtin.firstCells,sizeOf,typeInfo,hq,hi,← hn,hl,hst]
end Go.SX

/- SX, part 25: package-level variables that hold known data. -/
namespace Go.SX
open Go.ChangeShapes Go.WideShapes Go.ChangeAt Go.RowKit
set_option linter.unusedVariables false
def uQ{H:Type}(f:(t:CT)->TypeId->t.D->DataW H):List Field->(t:CT)->t.D->List (DataW H)
 | [],_,_=>[]
 | [fd],t,d=>[f t fd.type d]
 | fd::g::r,.pair a b,(x,y)=>f a fd.type x::uQ f (g::r) b y
 | _::_::_,_,_=>[]
def vA{H:Type}(f:(t:CT)->TypeId->t.D->DataW H)(e:TypeId):Nat->(t:CT)->t.D->List (DataW H)
 | 0,_,_=>[]
 | 1,t,d=>[f t e d]
 | n+2,.pair a b,(x,y)=>f a e x::vA f e (n+1) b y
 | _+2,_,_=>[]
def lR{H:Type}(P:Program):Nat->(t:CT)->TypeId->t.D->DataW H
 | 0,_,_,_ => .agg []
 | n+1,t,τ,d=>match P.underlying τ,t,d with
  | some (.int k),.int _,d => .lit (.int k d)
  | some .bool,.bool,d => .lit (.bool d)
  | some (.struct fs),t,d => .agg (uQ (lR P n) fs.toList t d)
  | some (.array k e),t,d => .agg (vA (lR P n) e k t d)
  | _,_,_ => .agg []
def qp:CT->Bool
 | .int _=>true
 | .bool=>true
 | .pair a b=>qp a&&qp b
 | _=>false
section
variable {H:Type} {enc:TypeId×Value->H} {P:Program} {w:World} {base:Nat} {held:Bool}
theorem Pu{A:Nat->Prop}{f:CT->TypeId->Bool}{F:(t:CT)->TypeId->t.D->DataW H}{cs:List Value}{n:Nat}
  (hf:∀ t τ cs d p,f t τ=true->qp t=true->DataW.trod enc P w base (fun _=>true) held n τ cs=some (F t τ d,p)->Rd A w t (fun j=>cs[j]?) 0 d) :
  ∀(fs:List Field)(t:CT)(o:Nat)(d:t.D)(xs:List (DataW H×List MemPlace)),qG P f fs t o=true->qp t=true->xs.length=fs.length->xs.map (·.1)=uQ F fs t d →
   (∀ i (h1:i<fs.length) (h2:i<xs.length),DataW.trod enc P w base (fun _=>true) held n fs[i].type ((cs.drop fs[i].offset).take (P.cellsOf fs[i].type))=some xs[i])->Rd A w t (fun j=>cs[j]?) o d
 | [],t,o,d,xs,h,_,_,_,_=>by cases h
 | [fd],t,o,d,xs,h,ht,hl,he,hx=>by
  simp only[qG,Bool.and_eq_true] at h
  obtain⟨⟨h1,h2⟩,h3⟩:=h
  have h2:=Nat.eq_of_beq_eq_true h2
  have h3:=Nat.eq_of_beq_eq_true h3
  match xs,hl with
  | [x],_ =>
   have:=hx 0 (by simp) (by simp)
   simp only[List.getElem_cons_zero] at this
   simp only[List.map_cons,List.map_nil,uQ,List.cons.injEq,and_true] at he
   have hd:=hf t fd.type _ d x.2 h1 ht (by rw[this,← he])
   rw[h2] at hd
   exact r6 h3 hd
 | fd::g::r,.pair a b,o,(d1,d2),xs,h,ht,hl,he,hx=>by
  simp only[qG,Bool.and_eq_true] at h
  obtain⟨⟨⟨h1,h2⟩,h3⟩,h4⟩:=h
  simp only[qp,Bool.and_eq_true] at ht
  have h2:=Nat.eq_of_beq_eq_true h2
  have h3:=Nat.eq_of_beq_eq_true h3
  match xs,hl with
  | x::ys,hl =>
   simp only[List.map_cons,uQ,List.cons.injEq] at he
   have:=hx 0 (by simp) (by simp)
   simp only[List.getElem_cons_zero] at this
   have hd:=hf a fd.type _ d1 x.2 h1 ht.1 (by rw[this,← he.1])
   rw[h2] at hd
   have hd':=Pu hf (g::r) b (o+a.size) d2 ys h4 ht.2 (by simpa using hl) he.2 (fun i k1 k2=>by
    have:=hx (i+1) (by simpa using k1) (by simpa using k2)
    simpa only[List.getElem_cons_succ] using this)
   exact⟨r6 h3 hd,hd'⟩
 | _::_::_,.int _,_,_,_,h,_,_,_,_=>by cases h
 | _::_::_,.bool,_,_,_,h,_,_,_,_=>by cases h
 | _::_::_,.str,_,_,_,h,_,_,_,_=>by cases h
 | _::_::_,.sl _,_,_,_,h,_,_,_,_=>by cases h
theorem O3{A:Nat->Prop}{f:CT->TypeId->Bool}{F:(t:CT)->TypeId->t.D->DataW H}{cs:List Value}{n:Nat}{e:TypeId}
  (hf:∀ t τ cs d p,f t τ=true->qp t=true->DataW.trod enc P w base (fun _=>true) held n τ cs=some (F t τ d,p)->Rd A w t (fun j=>cs[j]?) 0 d) :
  ∀(k:Nat)(t:CT)(i:Nat)(d:t.D)(xs:List (DataW H×List MemPlace)),qU P f e k t=true->qp t=true->xs.length=k->xs.map (·.1)=vA F e k t d →
   (∀ j (h2:j<xs.length),DataW.trod enc P w base (fun _=>true) held n e ((cs.drop ((i+j)*P.cellsOf e)).take (P.cellsOf e))=some xs[j])->Rd A w t (fun j=>cs[j]?) (i*P.cellsOf e) d
 | 0,t,i,d,xs,h,_,_,_,_=>by cases h
 | 1,t,i,d,xs,h,ht,hl,he,hx=>by
  simp only[qU,Bool.and_eq_true] at h
  obtain⟨h1,h2⟩:=h
  have h2:=Nat.eq_of_beq_eq_true h2
  match xs,hl with
  | [x],_ =>
   have:=hx 0 (by simp)
   simp only[List.getElem_cons_zero] at this
   simp only[List.map_cons,List.map_nil,vA,List.cons.injEq,and_true] at he
   have hd:=hf t e _ d x.2 h1 ht (by rw[this,← he])
   exact r6 h2 hd
 | k+2,.pair a b,i,(d1,d2),xs,h,ht,hl,he,hx=>by
  simp only[qU,Bool.and_eq_true] at h
  obtain⟨⟨h1,h2⟩,h4⟩:=h
  simp only[qp,Bool.and_eq_true] at ht
  have h2:=Nat.eq_of_beq_eq_true h2
  match xs,hl with
  | x::ys,hl =>
   simp only[List.map_cons,vA,List.cons.injEq] at he
   have:=hx 0 (by simp)
   simp only[List.getElem_cons_zero] at this
   have hd:=hf a e _ d1 x.2 h1 ht.1 (by rw[this,← he.1])
   have hd':=O3 hf (k+1) b (i+1) d2 ys h4 ht.2 (by simpa using hl) he.2 (fun j k2=>by
    have:=hx (j+1) (by simpa using k2)
    simp only[List.getElem_cons_succ] at this
    rw[← this];congr 4;omega)
   refine⟨r6 h2 hd,?_⟩
   rw[Nat.add_mul,Nat.one_mul] at hd'
   rw[← h2];exact hd'
 | _+2,.int _,_,_,_,h,_,_,_,_=>by cases h
 | _+2,.bool,_,_,_,h,_,_,_,_=>by cases h
 | _+2,.str,_,_,_,h,_,_,_,_=>by cases h
 | _+2,.sl _,_,_,_,h,_,_,_,_=>by cases h
theorem Er:∀(n:Nat)(t:CT)(τ:TypeId)(fuel:Nat)(cs:List Value)(d:t.D)(p:List MemPlace),jM P n t τ=true->qp t=true->DataW.trod enc P w base (fun _=>true) held fuel τ cs=some (lR P n t τ d,p) →
  Rd (fun b=>b<w.heap.size) w t (fun j=>cs[j]?) 0 d
 | 0,t,τ,fuel,cs,d,p,h,_,_=>by cases h
 | n+1,t,τ,fuel,cs,d,p,h,ht,hx=>by
  cases hu:P.underlying τ with
  | none=>cases t <;> simp[jM,hu] at h
  | some ty =>
   cases ty with
   | int k =>
    cases t with
    | int k' =>
     simp only[jM,hu] at h
     cases jq h
     obtain⟨m,rfl,e,hw⟩:=DataW.trod_int hu hx
     unfold lR at e
     rw[hu] at e
     simp only[Prod.mk.injEq,DataW.lit.injEq,Lit.int.injEq,true_and] at e
     obtain⟨rfl,-⟩:=e
     exact⟨by simp,Mp hw⟩
    | _=>simp[jM,hu] at h
   | bool =>
    cases t with
    | bool =>
     obtain⟨b,rfl,e⟩:=DataW.trod_bool hu hx
     unfold lR at e
     rw[hu] at e
     simp only[Prod.mk.injEq,DataW.lit.injEq,Lit.bool.injEq] at e
     obtain⟨rfl,-⟩:=e
     simp[Rd]
    | _=>simp[jM,hu] at h
   | struct fs =>
    have h':qG P (jM P n) fs.toList t 0=true:=by cases t <;> simpa[jM,hu] using h
    have ed:lR (H:=H) P (n+1) t τ d = .agg (uQ (lR P n) fs.toList t d):=by
     cases t <;> first|(cases ht;done)|(unfold lR;rw[hu])
    obtain⟨xs,m,_,e,hl,hlen,hf⟩:=DataW.trod_struct hu hx
    rw[ed] at e
    simp only[Prod.mk.injEq,DataW.agg.injEq] at e
    refine Pu (F:=lR P n) (n:=m) (fun t τ cs d p h1 h2 h3=>Er n t τ m cs d p h1 h2 h3) fs.toList _ 0 d xs h' ht (by simpa using hlen) e.1.symm fun i h1 h2=>?_
    have:=hf i fs[i] (Array.getElem?_eq_getElem (by simpa using h1))
    rw[List.getElem?_eq_getElem h2] at this
    simpa using this
   | array k e' =>
    have h':qU P (jM P n) e' k t=true:=by cases t <;> simpa[jM,hu] using h
    have ed:lR (H:=H) P (n+1) t τ d = .agg (vA (lR P n) e' k t d):=by
     cases t <;> first|(cases ht;done)|(unfold lR;rw[hu])
    obtain⟨xs,m,_,e,hl,hlen,hf⟩:=DataW.trod_array hu hx
    rw[ed] at e
    simp only[Prod.mk.injEq,DataW.agg.injEq] at e
    have:=O3 (F:=lR P n) (n:=m) (cs:=cs) (e:=e') (fun t τ cs d p h1 h2 h3=>Er n t τ m cs d p h1 h2 h3) k _ 0 d xs h' ht hlen e.1.symm fun j h2=>by
     have:=hf j (by omega)
     rw[List.getElem?_eq_getElem h2] at this
     simpa using this
    simpa using this
   | _=>cases t <;> first|(cases ht;done)|(simp[jM,hu] at h;done)
end
theorem globs_one{P:Program}{w:World}{name:String}{t:CT}{v:t.D}{g n:Nat}{τ:TypeId}{d:DataW Unit}(h:laidMetH P [(name,d)] w)(hh:([(name,d)].all fun x=>x.2.handleName?.isNone)=true)
  (hg:P.globalNamed name=some g) (hτ:(P.globals[g]?).map (·.type)=some τ) (hf:jM P n t τ=true) (hs:qp t=true) (hd:d=lR P n t τ v) :
  g<w.heap.size/\Rd (fun b=>b<w.heap.size) w t (fun o=>w.cell? ⟨g,o,none⟩) 0 v:=by
 rw[MakeChecks.laidMetH_plain _ _ _ hh] at h
 obtain⟨ps,⟨g0,t0,cs0,f0,p0,q0,hg0,ht0,hv0,hd0,_,_⟩,_,_⟩:=h
 obtain rfl:=Option.some.inj (hg.symm.trans hg0)
 obtain rfl:=Option.some.inj (hτ.symm.trans ht0)
 rw[hd] at hd0
 have hr:=Er n t τ f0 cs0.toList v p0 hf hs hd0
 have hlt:g<w.heap.size:=by
  have hv:=hv0
  simp only[World.var?,hg,Option.bind_some] at hv
  split at hv
  ·rename_i hb;exact (Array.getElem?_eq_some_iff.1 hb).1
  ·cases hv
 refine⟨hlt,?_⟩
 refine fw (fun _ h=>h) (fun _ _ _=>rfl) t _ _ _ _ (fun j hj=>?_) hr
 have:=World.var?_cell hg hv0 j
 rw[Nat.zero_add,this];simp
end Go.SX
