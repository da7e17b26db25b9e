/- Drawn: what holds of drawn networks: their nodes, links, routes and changes. -/
import Derived.Test.YtfgcoeablgoccaaGreatDoorNetg
import Derived.Test.YtfgcoeablgoccaaGreatDoorNetdraw
import Derived.Test.YtfgcoeablgoccaaGreatDoorNodek
namespace Go.RS
open Go.SX Go.Proofs
set_option maxRecDepth 100000
set_option linter.unusedVariables false
structure NP (i:Int) (x:Node):Prop where
  own:nOwner x=1+i/3
  loop:nLoop x=0∨nLoop x=167903232+i
  src:(nSource x=1∨nSource x=2)∨(nSource x=3/\nLoop x=167903232+i)∨(nSource x=4/\167837696<=nFixed x)
  fix:nFixed x=0∨(167837696<=nFixed x/\nFixed x<167837736)
  id:(0<=nID x/\nID x<=5)/\(0<=nBase x/\nBase x<=65535)/\0<=nSpeed x/\nSpeed x<=1000000
  lim:nLimit x=(0,0)∨(1<=(nLimit x).1/\(nLimit x).1<=3/\1<=(nLimit x).2/\(nLimit x).2<=200)
  first:nFirst x=64∨nFirst x=255∨nFirst x=128
  seed:0<=nSeed x/\nSeed x<=255
theorem NP.new {i:Int} {host:Bool} {f sd:Int} (hf:f=64∨f=255∨f=128) (h0:0<=sd) (h1:sd<=255):NP i (newNode i host f sd) :=
  ⟨rfl,.inl rfl,.inl (.inl rfl),.inl rfl,⟨⟨by show (0:Int)<=0;decide,by show (0:Int)<=5;decide⟩,⟨by show (0:Int)<=0;decide,by show (0:Int)<=65535;decide⟩,by show (0:Int)<=0;decide,by show (0:Int)<=1000000;decide⟩,.inl rfl,hf,h0,h1⟩
theorem NP.same {i:Int} {x y:Node} (h:NP i x) (e:x.2=y.2):NP i y:=by
  obtain ⟨p,x⟩:=x
  obtain ⟨q,y⟩:=y
  cases e
  exact ⟨h.own,h.loop,h.src,h.fix,h.id,h.lim,h.first,h.seed⟩
theorem NP.routes {i:Int} {x y:Node} (h:NP i x) (e:setRoutes x []=setRoutes y []):NP i y:=by
  have k:NP i (setRoutes x []):=⟨h.own,h.loop,h.src,h.fix,h.id,h.lim,h.first,h.seed⟩
  rw [e] at k
  exact ⟨k.own,k.loop,k.src,k.fix,k.id,k.lim,k.first,k.seed⟩
theorem NP.way {i:Int} {x:Node} (h:NP i x) {c:Codes} (hc:okB c):NP i (odWay x i c).1:=by
  have a:=nextV_lt hc (n:=10) (by omega)
  have ca:=(nextV_ok hc 10).1
  have b:=nextV_lt ca (n:=3) (by omega)
  have cb:=(nextV_ok ca 3).1
  have e:=nextV_lt cb (n:=200) (by omega)
  have f:=nextV_lt ca (n:=40) (by omega)
  unfold odWay
  dsimp only
  split
  · exact ⟨h.own,h.loop,h.src,h.fix,h.id,h.lim,h.first,h.seed⟩
  split
  · refine ⟨h.own,h.loop,h.src,h.fix,h.id,.inr ?_,h.first,h.seed⟩
    show 1<=1+_/\1+_<=(3:Int)/\1<=1+_/\1+_<=(200:Int)
    omega
  split
  · exact ⟨h.own,h.loop,h.src,h.fix,h.id,h.lim,h.first,h.seed⟩
  split
  · exact ⟨h.own,h.loop,.inl (.inr rfl),h.fix,h.id,h.lim,h.first,h.seed⟩
  split
  · exact ⟨h.own,.inr rfl,.inr (.inl ⟨rfl,rfl⟩),h.fix,h.id,h.lim,h.first,h.seed⟩
  split
  · refine ⟨h.own,h.loop,.inr (.inr ⟨rfl,?_⟩),.inr ⟨?_,?_⟩,h.id,h.lim,h.first,h.seed⟩
    · show 167837696<=167837696+_
      omega
    · show 167837696<=167837696+_
      omega
    · show 167837696+_<167837736
      omega
  · exact h
theorem NP.od {i:Int} {x:Node} (h:NP i x) {c:Codes} (hc:okB c):NP i (odNode x i c).1:=by
  have k:=h.way hc
  have kc:=odWay_ok (x:=x) (i:=i) hc
  have a:=nextV_lt kc (n:=6) (by omega)
  have ca:=(nextV_ok kc 6).1
  have b:=nextV_lt ca (n:=65536) (by omega)
  have cb:=(nextV_ok ca 65536).1
  have e:=nextV_lt cb (n:=1000) (by omega)
  refine ⟨k.own,k.loop,k.src,k.fix,?_,k.lim,k.first,k.seed⟩
  show (0<=(nextV (odWay x i c).2 6).1/\(nextV (odWay x i c).2 6).1<=5)/\(0<=(nextV (nextV (odWay x i c).2 6).2 65536).1/\(nextV (nextV (odWay x i c).2 6).2 65536).1<=65535)/\0<=(nextV (nextV (nextV (odWay x i c).2 6).2 65536).2 1000).1/\(nextV (nextV (nextV (odWay x i c).2 6).2 65536).2 1000).1<=1000000
  omega
theorem NP.opq {i:Int} {x:Node} (h:NP i x) (b:Bool):NP i (odOpaque x b):=⟨h.own,h.loop,h.src,h.fix,h.id,h.lim,h.first,h.seed⟩
def allNP (ns:List Node):Prop:=∀ i:Nat,i<ns.length->NP i (ns.getD i default)
theorem allNP.set {ns:List Node} (h:allNP ns) {i:Nat} {x:Node} (hx:i<ns.length->NP i x):allNP (ns.set i x):=fun j hj=>by
  rw [List.length_set] at hj
  by_cases e:i=j
  · subst e;rw [getD_set hj];exact hx hj
  · rw [getD_setne e];exact h j hj
structure LK (l0 l:Link):Prop where
  a:lA l=lA l0
  b:lB l=lB l0
  d:lDelay l=lDelay l0
  s:lSeed l=lSeed l0
  j:0<=lJitter l/\lJitter l<=9
  o:0<=lLoss l/\lLoss l<=65536
theorem LK.od {l0 l:Link} (h:LK l0 l) {c:Codes} (hc:okB c):LK l0 (odLink l c).1:=by
  have a:=nextV_lt hc (n:=6) (by omega)
  have ca:=(nextV_ok hc 6).1
  have b:=nextV_lt ca (n:=10) (by omega)
  have e:=nextV_lt ca (n:=3) (by omega)
  unfold odLink
  dsimp only
  split
  · refine ⟨h.a,h.b,h.d,h.s,?_,h.o⟩
    show 0<=(nextV (nextV c 6).2 10).1/\(nextV (nextV c 6).2 10).1<=9
    omega
  split
  · refine ⟨h.a,h.b,h.d,h.s,h.j,?_⟩
    show 0<=([65536,20000,3]:List Int).getD (nextV (nextV c 6).2 3).1.toNat default/\([65536,20000,3]:List Int).getD (nextV (nextV c 6).2 3).1.toNat default<=65536
    rcases (show (nextV (nextV c 6).2 3).1=0∨(nextV (nextV c 6).2 3).1=1∨(nextV (nextV c 6).2 3).1=2 by omega) with e|e|e <;> rw [e] <;> decide
  · exact h
structure allLK (ls0 ls:List Link):Prop where
  n:ls.length=ls0.length
  k:∀ i:Nat,i<ls0.length->LK (ls0.getD i default) (ls.getD i default)
theorem allLK.set {ls0 ls:List Link} (h:allLK ls0 ls) {i:Nat} {x:Link} (hx:i<ls0.length->LK (ls0.getD i default) x):allLK ls0 (ls.set i x):=by
  refine ⟨by rw [List.length_set];exact h.n,fun j hj => ?_⟩
  by_cases e:i=j
  · subst e;rw [getD_set (by rw [h.n];exact hj)];exact hx hj
  · rw [getD_setne e];exact h.k j hj
theorem allLK.mem {ls0 ls:List Link} (h:allLK ls0 ls) {l:Link} (hl:l∈ls):∃ l0∈ls0,LK l0 l:=by
  obtain ⟨i,hi,e⟩:=List.mem_iff_getElem.1 hl
  have:=h.k i (by rw [← h.n];exact hi)
  rw [List.getD_eq_getElem?_getD (l:=ls),List.getElem?_eq_getElem hi,e] at this
  exact ⟨_,getD_memN (by rw [← h.n];exact hi),this⟩
theorem allLK.lnk {ls0 ls:List Link} (h:allLK ls0 ls) {i k:Int} (hk:lnk ls0 i k):lnk ls i k:=by
  obtain ⟨k0,k1,k2⟩:=hk
  have e:=h.k k.toNat (by omega)
  exact ⟨k0,by rw [h.n];exact k1,by rw [e.a,e.b];exact k2⟩
theorem portsF_congr (i:Int):∀ (k:Nat) (ls ls':List Link),ls'.length=ls.length->(∀ j:Nat,j<ls.length->lA (ls'.getD j default)=lA (ls.getD j default)/\lB (ls'.getD j default)=lB (ls.getD j default))->portsF i k ls'=portsF i k ls
  | k,[],[],_,_=>rfl
  | k,x::r,[],h,_=>by cases h
  | k,[],x::r,h,_=>by cases h
  | k,x::r,y::t,h,e=>by
    have e0:=e 0 (by simp)
    rw [List.getD_cons_zero,List.getD_cons_zero] at e0
    rw [portsF,portsF,port1,port1,e0.1,e0.2,portsF_congr i (k+1) r t (by simpa using h) fun j hj=>by
      have:=e (j+1) (by simp;omega)
      rw [List.getD_cons_succ,List.getD_cons_succ] at this;exact this]
theorem allLK.portsF {ls0 ls:List Link} (h:allLK ls0 ls) (i:Int) (k:Nat):portsF i k ls=Go.RS.portsF i k ls0 :=
  portsF_congr i k ls0 ls h.n fun j hj=>⟨(h.k j hj).a,(h.k j hj).b⟩
theorem tabOK.lk {ls0 ls:List Link} (h:allLK ls0 ls) {aa:List Int} {i:Int} {t:List Rt} (k:tabOK ls0 aa i t):tabOK ls aa i t :=
  ⟨k.1,fun r hr=>by
    have q:=k.2 r hr
    exact ⟨q.len,q.mem,q.ne,q.pw,fun x hx=>h.lnk (q.ln x hx),q.w0,q.w1⟩⟩
structure CH (ns:List Node) (c:Change):Prop where
  at':0<=hAt c/\hAt c<=180
  w:0<=hWho c/\hWho c<ns.length
  r:hRem c=false
  p:∃ r∈nRoutes (ns.getD (hWho c).toNat default),(hRoute c).1=r.1/\(hRoute c).2.2=r.2.2
  x:(hRoute c).2.1=[]∨∃ q∈nPorts (ns.getD (hWho c).toNat default),(hRoute c).2.1=[q.2]
def aaF:List Int:=(List.range 10).flatMap fun (k:Nat)=>[baseA k+1,baseA k+2]
theorem mem_aaF {a:Int} {k:Nat} (hk:k<10) (h:a=baseA k+1∨a=baseA k+2):a∈aaF:=by
  refine List.mem_flatMap.2 ⟨k,List.mem_range.2 hk,?_⟩
  rcases h with h|h <;> rw [h] <;> simp
theorem tabOK.sub {ls:List Link} {aa bb:List Int} {i:Int} {t:List Rt} (h:tabOK ls aa i t) (hs:∀ a∈aa,a∈bb):tabOK ls bb i t :=
  ⟨h.1,fun r hr=>by
    have q:=h.2 r hr
    exact ⟨q.len,hs _ q.mem,q.ne,q.pw,q.ln,q.w0,q.w1⟩⟩
structure DN (n:Net):Prop where
  n3:3<=n.1.length
  n7:n.1.length<=7
  l2:2<=n.2.1.length
  l10:n.2.1.length<=10
  h3:n.2.2.length<=3
  g:∀ x∈n.2.1,(0<=lA x/\lA x<n.1.length)/\(0<=lB x/\lB x<n.1.length)/\lA x≠lB x/\(1<=lDelay x/\lDelay x<=20)/\(0<=lJitter x/\lJitter x<=9)/\(0<=lLoss x/\lLoss x<=65536)/\0<=lSeed x/\lSeed x<=255
  p:∀ i:Nat,i<n.1.length->nPorts (n.1.getD i default)=portsF i 0 n.2.1
  d:allNP n.1
  t:∀ i:Nat,i<n.1.length->tabOK n.2.1 aaF i (nRoutes (n.1.getD i default))
  o:∀ x∈n.2.1,deafL n.1 x=false
  c:∀ x∈n.2.2,CH n.1 x
  s:n.2.2.Pairwise fun a b=>hAt a<=hAt b
theorem oN_np {s:Scene} (h:allNP s.1.1) (hc:okB s.2):∀ {i:Nat},i<=s.1.1.length->allNP (oN s i).1
  | 0,_=>h
  | i+1,hi=>by
    have k:=oN_np h hc (i:=i) (by omega)
    have b:=(oN_ok s hc (i:=i) (by omega)).2
    rw [show ((i+1:Nat):Int)=(i:Int)+1 by omega,oN_next s (by omega)]
    unfold odNodes
    refine k.set fun hl => ?_
    have e:((i:Int).toNat:Nat)=i:=by omega
    rw [e] at hl ⊢
    exact (k i hl).od b
theorem clear_np {ns:List Node} (h:allNP ns) {l:Link} (hl:0<=lB l):allNP (odClear ns l):=by
  unfold odClear
  split
  · exact h.set fun hi=>(h _ hi).opq _
  · exact h
theorem clear_deaf {ns:List Node} {l:Link} (hb:0<=lB l/\lB l<ns.length):deafL (odClear ns l) l=false:=by
  unfold odClear
  split
  · unfold deafL
    rw [getD_set (by omega)]
    exact Bool.and_false _
  · rename_i h
    unfold deafL
    cases h1:nOpaque (ns.getD (lA l).toNat default) <;> cases h2:nOpaque (ns.getD (lB l).toNat default) <;> simp_all
theorem clear_keep {ns:List Node} {l m:Link} (h:deafL ns m=false):deafL (odClear ns l) m=false:=by
  unfold odClear
  split
  · have set_op:∀ (i j:Nat),nOpaque (ns.getD j default)=false->nOpaque ((ns.set i (odOpaque (ns.getD i default) false)).getD j default)=false:=fun i j hj=>by
      by_cases e:i=j
      · subst e
        by_cases hl:i<ns.length
        · rw [getD_set hl];rfl
        · rw [List.set_eq_of_length_le (by omega)];exact hj
      · rw [getD_setne e];exact hj
    unfold deafL at h ⊢
    rw [Bool.and_eq_false_iff] at h ⊢
    exact h.imp (set_op _ _) (set_op _ _)
  · exact h
theorem deafL_lk {ns:List Node} {l m:Link} (ha:lA l=lA m) (hb:lB l=lB m):deafL ns l=deafL ns m:=by unfold deafL;rw [ha,hb]
structure OLI (s:Scene) (i:Nat):Prop where
  np:allNP (oL s i).1.1
  lk:allLK s.1.2.1 (oL s i).1.2
  df:∀ k:Nat,k<i->deafL (oL s i).1.1 (s.1.2.1.getD k default)=false
theorem oL_inv {s:Scene} (h:allNP s.1.1) (hc:okB s.2) (hg:goodEnds s.1.1.length s.1.2.1) (hl:allLK s.1.2.1 s.1.2.1):∀ {i:Nat},i<=s.1.2.1.length->OLI s i
  | 0,_=>⟨oN_np h hc (Nat.le_refl _),hl,fun k hk=>by omega⟩
  | i+1,hi=>by
    have k:=oL_inv h hc hg hl (i:=i) (by omega)
    obtain ⟨ag,cb,ge,ll⟩:=oL_ok s hc hg (i:=i) (by omega)
    have hb:=hg.at' (k:=i) (by omega)
    have e:((i:Int).toNat:Nat)=i:=by omega
    have lk1:=(k.lk.k i (by omega)).od cb
    have hn:=ag.n
    have step:oL s ((i+1:Nat):Int)=odLinks (oL s i) i:=by
      rw [show ((i+1:Nat):Int)=(i:Int)+1 by omega,oL_next s (by omega),e]
    have fin:OLI s (i+1):=by
      refine ⟨?_,?_,fun j hj => ?_⟩
      · rw [step];unfold odLinks;dsimp only
        refine clear_np k.np ?_
        rw [lk1.b];exact hb.2.1
      · rw [step];unfold odLinks;dsimp only
        exact k.lk.set fun _=>lk1
      · rw [step];unfold odLinks;dsimp only
        by_cases q:j=i
        · subst q
          rw [← deafL_lk (l:=(odLink ((oL s j).1.2.getD j default) (oL s j).2).1) lk1.a lk1.b]
          refine clear_deaf ?_
          rw [lk1.b,hn];exact hb.2
        · exact clear_keep (k.df j (by omega))
    exact fin
structure OCI (ns:List Node) (m:Nat) (x:List Change×Int×Codes):Prop where
  c:okB x.2.2
  a:0<=x.2.1/\x.2.1<=60*m
  n:x.1.length<=m
  h:∀ y∈x.1,CH ns y/\hAt y<=x.2.1
  s:x.1.Pairwise fun a b=>hAt a<=hAt b
theorem OCI.next {ns:List Node} {m:Nat} {x:List Change×Int×Codes} (h:OCI ns m x) (hm:m<3) (h0:0<ns.length) (hp:∀ x∈ns,nRoutes x≠[]->0<(nPorts x).length):OCI ns (m+1) (odChange ns x):=by
  have a:=nextV_lt h.c (n:=60) (by omega)
  have k1:=(nextV_ok h.c 60).1
  have w:=nextV_lt k1 (n:=(ns.length:Int)) (by omega)
  have k2:=(nextV_ok k1 (ns.length:Int)).1
  have ha:=h.a
  have hn:=h.n
  unfold odChange
  dsimp only
  have hX:=getD_mem (xs:=ns) w.1 w.2
  generalize eX:ns.getD (nextV (nextV x.2.2 60).2 (ns.length:Int)).1.toNat default=X at hX ⊢
  split
  · refine ⟨k2,?_,?_,fun y hy=>⟨(h.h y hy).1,?_⟩,h.s⟩
    · show 0<=x.2.1+_/\x.2.1+_<=60*((m+1:Nat):Int)
      omega
    · show x.1.length<=m+1
      omega
    · have:=(h.h y hy).2
      show hAt y<=x.2.1+_
      omega
  · rename_i hr
    have hr':nRoutes X≠[]:=fun e=>hr (by rw [e];rfl)
    have q3:=nextV_lt k2 (n:=((nRoutes X).length:Int)) (by omega)
    have b3:=(nextV_ok k2 ((nRoutes X).length:Int)).1
    have hpp:=hp X hX hr'
    have q4:=nextV_lt b3 (n:=((nPorts X).length:Int)) (by omega)
    have b4:=(nextV_ok b3 ((nPorts X).length:Int)).1
    have b5:=(nextV_ok b4 4).1
    refine ⟨b5,?_,?_,fun y hy => ?_,?_⟩
    · show 0<=x.2.1+_/\x.2.1+_<=60*((m+1:Nat):Int)
      omega
    · show (x.1++[_]).length<=m+1
      rw [List.length_append,List.length_singleton];omega
    · rcases List.mem_append.1 hy with hy|hy
      · refine ⟨(h.h y hy).1,?_⟩
        have:=(h.h y hy).2
        show hAt y<=x.2.1+_
        omega
      · rw [List.mem_singleton.1 hy]
        refine ⟨⟨?_,w,rfl,?_,?_⟩,Int.le_refl _⟩
        · show 0<=x.2.1+_/\x.2.1+_<=180
          omega
        · refine ⟨(nRoutes X).getD (nextV (nextV (nextV x.2.2 60).2 (ns.length:Int)).2 ((nRoutes X).length:Int)).1.toNat default,?_,rfl,rfl⟩
          show _∈nRoutes (ns.getD (nextV (nextV x.2.2 60).2 (ns.length:Int)).1.toNat default)
          rw [eX]
          exact getD_mem q3.1 q3.2
        · by_cases hz:(nextV (nextV (nextV (nextV (nextV x.2.2 60).2 (ns.length:Int)).2 ((nRoutes X).length:Int)).2 ((nPorts X).length:Int)).2 4).1=3
          · exact .inl (if_pos hz)
          · refine .inr ⟨(nPorts X).getD (nextV (nextV (nextV (nextV x.2.2 60).2 (ns.length:Int)).2 ((nRoutes X).length:Int)).2 ((nPorts X).length:Int)).1.toNat default,?_,if_neg hz⟩
            show _∈nPorts (ns.getD (nextV (nextV x.2.2 60).2 (ns.length:Int)).1.toNat default)
            rw [eX]
            exact getD_mem q4.1 q4.2
    · refine List.pairwise_append.2 ⟨h.s,List.pairwise_singleton _ _,fun y hy z hz => ?_⟩
      have:=(h.h y hy).2
      rw [List.mem_singleton.1 hz]
      show hAt y<=x.2.1+_
      omega
theorem getD_of_mem {α:Type} [Inhabited α] {l:List α} {x:α} (h:x∈l):∃ i:Nat,i<l.length/\l.getD i default=x:=by
  obtain ⟨i,hi,e⟩:=List.mem_iff_getElem.1 h
  exact ⟨i,hi,by rw [List.getD_eq_getElem?_getD,List.getElem?_eq_getElem hi,e];rfl⟩
theorem RS.np {s r:Scene} {nn nl:Nat} (h:RS s nn nl r):allNP r.1.1:=fun i hi=>by
  have hi':i<nn:=by have:=h.i.n;have:=h.g.n;omega
  obtain ⟨host,f,sd,hd,hf,h0,h1⟩:=h.g.d i hi'
  have e:=h.i.e i (by rw [h.g.n];exact hi')
  exact NP.routes (NP.same (NP.new (host:=host) hf h0 h1) hd.symm) e.symm
theorem RS.opq {s r:Scene} {nn nl:Nat} (h:RS s nn nl r) {i:Nat} (hi:i<nn):nOpaque (r.1.1.getD i default)=false:=by
  obtain ⟨host,f,sd,hd,-⟩:=h.g.d i hi
  have e:=congrArg nOpaque (h.i.e i (by rw [h.g.n];exact hi))
  have e2:nOpaque (s.1.1.getD i default)=nOpaque (newNode i host f sd):=congrArg (fun z=>nOpaque (([]:List (Int×Int)),z)) hd
  exact e.trans e2
theorem RS.adr {s r:Scene} {nn nl:Nat} (h:RS s nn nl r) (hl:nl<=10):∀ a∈allA s.1.1,a∈aaF:=fun a ha=>by
  unfold allA at ha
  obtain ⟨x,hx,ha⟩:=List.mem_flatMap.1 ha
  obtain ⟨q,hq,rfl⟩:=List.mem_map.1 ha
  obtain ⟨i,hi,rfl⟩:=getD_of_mem hx
  rw [h.g.p i (by rw [← h.g.n];exact hi)] at hq
  obtain ⟨j,hj,e⟩:=mem_portsF.1 hq
  rw [h.g.l] at hj
  rw [Nat.zero_add] at e
  rcases e with ⟨-,rfl⟩|⟨-,rfl⟩
  · exact mem_aaF (k:=j) (by omega) (.inl rfl)
  · exact mem_aaF (k:=j) (by omega) (.inr rfl)
theorem RS.links {s r:Scene} {nn nl:Nat} (h:RS s nn nl r):r.1.2.1=s.1.2.1:=congrArg Prod.fst h.l
theorem RS.lk {s r:Scene} {nn nl:Nat} (h:RS s nn nl r):allLK r.1.2.1 r.1.2.1:=⟨rfl,fun i hi=>by
  rw [h.links] at hi ⊢
  have:=h.g.g _ (getD_memN hi)
  exact ⟨rfl,rfl,rfl,rfl,by omega,by omega⟩⟩
theorem RS.dn {s r:Scene} {nn nl:Nat} (h:RS s nn nl r) (n3:3<=nn) (n7:nn<=7) (l2:2<=nl) (l10:nl<=10):DN r.1:=by
  have rn:r.1.1.length=nn:=h.i.n.trans h.g.n
  have rl:=h.links
  have rh:r.1.2.2=[]:=(congrArg Prod.snd h.l).trans h.g.h
  refine ⟨by omega,by omega,by rw [rl,h.g.l];exact l2,by rw [rl,h.g.l];exact l10,by rw [rh];exact Nat.zero_le _,fun x hx => ?_,fun i hi => ?_,h.np,fun i hi => ?_,fun x hx => ?_,fun x hx => ?_,?_⟩
  · rw [rl] at hx
    have:=h.g.g x hx
    rw [rn];omega
  · rw [rl];exact h.ports (by omega)
  · rw [rl];exact (h.tab (by omega)).sub (h.adr l10)
  · rw [rl] at hx
    have g:=h.g.g x hx
    unfold deafL
    rw [h.opq (i:=(lA x).toNat) (by omega)];rfl
  · rw [rh] at hx;cases hx
  · rw [rh];exact List.Pairwise.nil
theorem oC_inv {s:Scene} (h:okB s.2) (hg:goodEnds s.1.1.length s.1.2.1) (h0:0<s.1.1.length) (hp:∀ x∈(oL s s.1.2.1.length).1.1,nRoutes x≠[]->0<(nPorts x).length):∀ i:Nat,i<=3->OCI (oL s s.1.2.1.length).1.1 i (oC s i)
  | 0,_=>⟨(nextV_ok (oL_ok s h hg (Int.le_refl _)).2.1 4).1,⟨Int.le_refl _,Int.le_refl _⟩,Nat.le_refl _,fun y hy=>(by cases hy),List.Pairwise.nil⟩
  | i+1,hi=>by
    rw [oC_next]
    exact (oC_inv h hg h0 hp i (by omega)).next (by omega) (by rw [(oL_ok s h hg (Int.le_refl _)).1.n];exact h0) hp
theorem RS.odd {s r:Scene} {nn nl:Nat} (h:RS s nn nl r) (n3:3<=nn) (n7:nn<=7) (l2:2<=nl) (l10:nl<=10):DN (oddS r).1:=by
  have rn:r.1.1.length=nn:=h.i.n.trans h.g.n
  have rl:=h.links
  have pre:=h.preO (by omega) (by omega) (by omega)
  have ok:=oL_ok r h.c pre.g (i:=r.1.2.1.length) (Int.le_refl _)
  have inv:=oL_inv h.np h.c pre.g h.lk (i:=r.1.2.1.length) (Nat.le_refl _)
  have ag:=ok.1
  have e:(oddS r).1=((oL r r.1.2.1.length).1.1,(oL r r.1.2.1.length).1.2,(oC r (oK r).toNat).1):=by
    unfold oddS oC oK oL oN
    rfl
  have kk:=nextV_lt ok.2.1 (n:=4) (by omega)
  have hp:∀ x∈(oL r r.1.2.1.length).1.1,nRoutes x≠[]->0<(nPorts x).length:=fun x hx hr=>by
    obtain ⟨i,hi,rfl⟩:=getD_of_mem hx
    have q:=ag.e i (by rw [← ag.n];exact hi)
    rw [q.1]
    rw [q.2] at hr
    exact (pre.p _ (getD_memN (by rw [← ag.n];exact hi)) hr).1
  have oc:=oC_inv h.c pre.g pre.n0 hp (oK r).toNat (by unfold oK;omega)
  rw [e]
  have ln:(oL r r.1.2.1.length).1.1.length=nn:=ag.n.trans rn
  have ll:(oL r r.1.2.1.length).1.2.length=nl:=by rw [inv.lk.n,rl,h.g.l]
  refine ⟨by rw [ln];exact n3,by rw [ln];exact n7,by rw [ll];exact l2,by rw [ll];exact l10,?_,fun x hx => ?_,fun i hi => ?_,inv.np,fun i hi => ?_,fun x hx => ?_,fun x hx=>(oc.h x hx).1,oc.s⟩
  · have:=oc.n
    have:(oK r).toNat<=3:=by unfold oK;omega
    dsimp only
    omega
  · obtain ⟨l0,hl0,k⟩:=inv.lk.mem hx
    rw [rl] at hl0
    have g:=h.g.g l0 hl0
    have ka:=k.a;have kb:=k.b;have kd:=k.d;have ks:=k.s;have kj:=k.j;have ko:=k.o
    rw [ln,ka,kb,kd,ks]
    omega
  · dsimp only at hi ⊢
    rw [(ag.e i (by omega)).1,h.ports (by omega),inv.lk.portsF,rl]
  · dsimp only at hi ⊢
    rw [(ag.e i (by omega)).2]
    refine tabOK.sub (tabOK.lk inv.lk ?_) (h.adr l10)
    rw [rl]
    exact h.tab (by omega)
  · dsimp only at hx ⊢
    obtain ⟨i,hi,rfl⟩:=getD_of_mem hx
    have hi':i<r.1.2.1.length:=by rw [← inv.lk.n];exact hi
    have k:=inv.lk.k i hi'
    rw [deafL_lk k.a k.b]
    exact inv.df i hi'
theorem net_dn {c:Codes} (h:okB c) (plain:Bool):DN (netV plain c):=by
  have hn:=lineN_ok h
  obtain ⟨m,m2,m10,G⟩:=net_ok h plain
  have R:=G.rs plain
  unfold netV netS
  cases plain with
  | true=>exact R.dn (by omega) (by omega) m2 m10
  | false=>exact R.odd (by omega) (by omega) m2 m10
theorem net_codes {c:Codes} (h:okB c) (plain:Bool):okB (netC plain c):=by
  obtain ⟨m,m2,m10,G⟩:=net_ok h plain
  have R:=G.rs plain
  unfold netC netS
  cases plain with
  | true=>exact R.c
  | false =>
    have hn:=lineN_ok h
    have pre:=R.preO (by omega) (by omega) (by omega)
    exact (oC_ok _ R.c pre.g _).1
end Go.RS

/- Drawn2: drawn networks have no error; who has an address; routes. -/
namespace Go.RS
open Go.SX Go.Proofs
set_option maxRecDepth 100000
set_option linter.unusedVariables false
theorem DN.port {n:Net} (h:DN n) {i:Nat} (hi:i<n.1.length) {q:Port}:q∈nPorts (n.1.getD i default)↔∃ j:Nat,j<n.2.1.length/\((lA (n.2.1.getD j default)=i/\q=(baseA j+1,(j:Int)))∨(lB (n.2.1.getD j default)=i/\q=(baseA j+2,(j:Int)))):=by
  rw [h.p i hi,mem_portsF];simp only [Nat.zero_add]
theorem DN.links {n:Net} (h:DN n) {i:Nat} (hi:i<n.1.length) {k:Int}:k∈pLinks (n.1.getD i default)↔lnk n.2.1 i k:=by
  unfold pLinks lnk
  rw [List.mem_map]
  constructor
  · rintro ⟨q,hq,rfl⟩
    obtain ⟨j,hj,e⟩:=(h.port hi).1 hq
    rcases e with ⟨e,rfl⟩|⟨e,rfl⟩
    · exact ⟨by dsimp only;omega,by dsimp only;omega,.inl (by simpa using e)⟩
    · exact ⟨by dsimp only;omega,by dsimp only;omega,.inr (by simpa using e)⟩
  · rintro ⟨k0,k1,e⟩
    have ek:((k.toNat:Nat):Int)=k:=by omega
    rcases e with e|e
    · exact ⟨_,(h.port hi).2 ⟨k.toNat,by omega,.inl ⟨e,rfl⟩⟩,ek⟩
    · exact ⟨_,(h.port hi).2 ⟨k.toNat,by omega,.inr ⟨e,rfl⟩⟩,ek⟩
theorem DN.uniq {n:Net} (h:DN n) {i j:Nat} (hi:i<n.1.length) (hj:j<n.1.length) {q p:Port} (hq:q∈nPorts (n.1.getD i default)) (hp:p∈nPorts (n.1.getD j default)) (e:q.1=p.1):i=j/\q.2=p.2:=by
  obtain ⟨a,ha,ea⟩:=(h.port hi).1 hq
  obtain ⟨b,hb,eb⟩:=(h.port hj).1 hp
  unfold baseA at ea eb
  rcases ea with ⟨ea,rfl⟩|⟨ea,rfl⟩ <;> rcases eb with ⟨eb,rfl⟩|⟨eb,rfl⟩ <;> dsimp only at e ⊢
  · have:a=b:=by omega
    subst this;omega
  · omega
  · omega
  · have:a=b:=by omega
    subst this;omega
theorem DN.padr {n:Net} (h:DN n) {i:Nat} (hi:i<n.1.length) {a:Int} (ha:a∈pAddrs (n.1.getD i default)):167837697<=a/\a<=167837734:=by
  obtain ⟨q,hq,rfl⟩:=List.mem_map.1 ha
  obtain ⟨b,hb,eb⟩:=(h.port hi).1 hq
  have:=h.l10
  unfold baseA at eb
  rcases eb with ⟨eb,rfl⟩|⟨eb,rfl⟩ <;> dsimp only <;> omega
theorem DN.loop {n:Net} (h:DN n) {i:Nat} (hi:i<n.1.length):nLoop (n.1.getD i default)=0∨nLoop (n.1.getD i default)=167903232+i:=(h.d i hi).loop
theorem mem_adrs {x:Node} {a:Int}:a∈adrs x↔a∈pAddrs x∨(nLoop x≠0/\a=nLoop x):=by
  unfold adrs
  rw [List.mem_append]
  by_cases e:nLoop x=0
  · rw [if_pos e];simp [e]
  · rw [if_neg e];simp [e]
theorem DN.apart {n:Net} (h:DN n) {i j:Nat} (hi:i<n.1.length) (hj:j<n.1.length) {a:Int} (ha:a∈adrs (n.1.getD i default)) (hb:a∈adrs (n.1.getD j default)):i=j:=by
  rw [mem_adrs] at ha hb
  have li:=h.loop hi
  have lj:=h.loop hj
  rcases ha with ha|ha <;> rcases hb with hb|hb
  · obtain ⟨q,hq,e⟩:=List.mem_map.1 ha
    obtain ⟨p,hp,e2⟩:=List.mem_map.1 hb
    exact (h.uniq hi hj hq hp (e.trans e2.symm)).1
  · have:=h.padr hi ha;omega
  · have:=h.padr hj hb;omega
  · omega
theorem other_a {ls:List Link} {k:Int} (k0:0<=k) (k1:k<ls.length):otherV ls k (lA (ls.getD k.toNat default))=lB (ls.getD k.toNat default):=by
  unfold otherV;rw [if_neg (by omega),if_pos rfl]
theorem other_b {ls:List Link} {k:Int} (k0:0<=k) (k1:k<ls.length) (hn:lA (ls.getD k.toNat default)≠lB (ls.getD k.toNat default)):otherV ls k (lB (ls.getD k.toNat default))=lA (ls.getD k.toNat default):=by
  unfold otherV;rw [if_neg (by omega),if_neg (fun e=>hn e.symm),if_pos rfl]
theorem mem_chV {l:List Rt} {c:Change} {r:Rt} (h:r∈chV l c):r=hRoute c∨r∈l:=by
  unfold chV at h
  split at h
  · exact .inr (List.mem_filter.1 h).1
  · rcases putL_mem.1 h with h|h
    · exact .inl h
    · exact .inr h.1
theorem routes_all {n:Net} {who at':Int} (w0:0<=who) (w1:who<n.1.length) {P:Rt->Prop} (h0:∀ r∈nRoutes (n.1.getD who.toNat default),P r) (hc:∀ c∈n.2.2,hWho c=who->P (hRoute c)):∀ r∈routesV n who at',P r:=by
  unfold routesV routesK
  rw [if_neg (by omega)]
  have e:∀ (l:List Change) (t:List Rt),(∀ c∈l,hWho c=who->P (hRoute c))->(∀ r∈t,P r)→∀ r∈l.foldl (stepC who at') t,P r:=by
    intro l
    induction l with
    | nil=>intro t _ h;exact h
    | cons c l ih =>
      intro t hl ht
      rw [List.foldl_cons]
      refine ih _ (fun x hx=>hl x (List.mem_cons_of_mem _ hx)) fun r hr => ?_
      unfold stepC at hr
      split at hr
      · rename_i q
        rcases mem_chV hr with rfl|hr
        · exact hl c List.mem_cons_self q.1
        · exact ht r hr
      · exact ht r hr
  exact e _ _ (fun c hc'=>hc c (List.mem_of_mem_take hc')) h0
theorem DN.next {n:Net} (h:DN n) {who at':Int} (w0:0<=who) (w1:who<n.1.length):∀ r∈routesV n who at',∀ k∈r.2.1,lnk n.2.1 who k:=by
  have ew:((who.toNat:Nat):Int)=who:=by omega
  refine routes_all w0 w1 (fun r hr k hk => ?_) (fun c hc hw k hk => ?_)
  · have:=((h.t who.toNat (by omega)).2 r hr).ln k hk
    rw [ew] at this;exact this
  · have q:=(h.c c hc).x
    rw [hw] at q
    rcases q with e|⟨q,hq,e⟩
    · rw [e] at hk;cases hk
    · rw [e] at hk
      rw [List.mem_singleton.1 hk]
      have:=(h.links (i:=who.toNat) (by omega)).1 (List.mem_map.2 ⟨q,hq,rfl⟩)
      rw [ew] at this;exact this
theorem DN.other {n:Net} (h:DN n) {who k:Int} (hk:lnk n.2.1 who k):0<=otherV n.2.1 k who/\otherV n.2.1 k who<n.1.length:=by
  obtain ⟨k0,k1,e⟩:=hk
  have g:=h.g _ (getD_mem k0 k1)
  rcases e with e|e
  · rw [← e,other_a k0 k1];exact g.2.1
  · rw [← e,other_b k0 k1 g.2.2.1];exact g.1
end Go.RS

/- Drawn3: each node of a drawn network has a port. -/
namespace Go.RS
open Go.SX Go.Proofs
set_option maxRecDepth 100000
set_option linter.unusedVariables false
def tch (ls:List Link) (i:Int):Prop:=∃ l∈ls,lA l=i∨lB l=i
theorem tch.app {ls:List Link} {i:Int} (h:tch ls i) (m:List Link):tch (ls++m) i:=by
  obtain ⟨l,hl,e⟩:=h
  exact ⟨l,List.mem_append_left _ hl,e⟩
theorem tch.link {s:Scene} {i:Int} (h:tch s.1.2.1 i) (a b:Int):tch (linkS s a b).1.2.1 i:=h.app _
theorem tch_a (s:Scene) (a b:Int):tch (linkS s a b).1.2.1 a:=⟨_,List.mem_append_right _ List.mem_cons_self,.inl rfl⟩
theorem tch_b (s:Scene) (a b:Int):tch (linkS s a b).1.2.1 b:=⟨_,List.mem_append_right _ List.mem_cons_self,.inr rfl⟩
theorem chain_tch (s:Scene):∀ k j:Nat,j<k->tch ((List.range k).foldl chainS s).1.2.1 j
  | 0,j,h=>absurd h (Nat.not_lt_zero _)
  | k+1,j,h=>by
    rw [List.range_succ,List.foldl_append]
    by_cases e:j<k
    · exact (chain_tch s k j e).link (s:=nodeS ((List.range k).foldl chainS s) false) _ _
    · have:j=k:=by omega
      subst this
      exact tch_a _ _ _
theorem line_tch {c:Codes} (h:okB c) {j:Nat} (hj:j<(lineN c).toNat+2):tch (lineS c).2.1.2.1 j:=by
  have hn:=lineN_ok h
  rw [lineS_eq]
  by_cases e:j<(lineN c).toNat
  · exact (chain_tch _ _ _ e).link (s:=nodeS ((List.range (lineN c).toNat).foldl chainS (line0 c)) true) _ _
  by_cases e2:j=(lineN c).toNat
  · rw [show ((j:Nat):Int)=lineN c by omega];exact tch_a _ _ _
  · rw [show ((j:Nat):Int)=lineN c+1 by omega];exact tch_b _ _ _
theorem short_tch {s:Scene} {i:Int} (h:tch s.1.2.1 i) (n:Int):tch (shortS n s).1.2.1 i:=by
  unfold shortS
  dsimp only
  split
  · exact h
  · exact tch.app h _
theorem shorts_tch {n i:Int}:∀ (k:Nat) {s:Scene},tch s.1.2.1 i->tch ((List.range k).foldl (fun s _=>shortS n s) s).1.2.1 i
  | 0,s,h=>h
  | k+1,s,h=>by
    rw [List.range_succ,List.foldl_append]
    exact short_tch (shorts_tch k h) n
theorem more_tch {s:Scene} {i:Int} (h:tch s.1.2.1 i) (plain:Bool) (n:Int):tch (moreS plain n s).1.2.1 i:=by
  rw [moreS_eq]
  dsimp only
  have h1:tch (more1 plain n s (nextV s.2 4).1.toNat).1.2.1 i:=by
    unfold more1
    split
    · exact shorts_tch _ h
    · exact h
  generalize more1 plain n s (nextV s.2 4).1.toNat=t at h1 ⊢
  split
  · split
    · exact tch.app h1 _
    · exact h1
  · exact h1
theorem odd_tch {s r:Scene} {nn nl:Nat} (h:RS s nn nl r) (n3:3<=nn) (n7:nn<=7) (l10:nl<=10) {i:Int} (ht:tch r.1.2.1 i):tch (oddS r).1.2.1 i:=by
  have pre:=h.preO (by omega) (by omega) (by omega)
  have inv:=oL_inv h.np h.c pre.g h.lk (i:=r.1.2.1.length) (Nat.le_refl _)
  have e:(oddS r).1.2.1=(oL r r.1.2.1.length).1.2:=by
    unfold oddS oL oN
    rfl
  rw [e]
  obtain ⟨l,hl,q⟩:=ht
  obtain ⟨j,hj,rfl⟩:=getD_of_mem hl
  have k:=inv.lk.k j hj
  refine ⟨_,getD_memN (by rw [inv.lk.n];exact hj),?_⟩
  rw [k.a,k.b];exact q
theorem odd_len {s r:Scene} {nn nl:Nat} (h:RS s nn nl r) (n3:3<=nn) (n7:nn<=7) (l10:nl<=10):(oddS r).1.1.length=r.1.1.length:=by
  have pre:=h.preO (by omega) (by omega) (by omega)
  have ok:=oL_ok r h.c pre.g (i:=r.1.2.1.length) (Int.le_refl _)
  have e:(oddS r).1.1=(oL r r.1.2.1.length).1.1:=by
    unfold oddS oL oN
    rfl
  rw [e]
  exact ok.1.n
theorem net_tch {c:Codes} (h:okB c) (plain:Bool) {i:Nat} (hi:i<(netV plain c).1.length):tch (netV plain c).2.1 i:=by
  have hn:=lineN_ok h
  obtain ⟨m,m2,m10,G⟩:=net_ok h plain
  have R:=G.rs plain
  have rn:=R.i.n.trans R.g.n
  have t:=fun j=>fun (hj:j<(lineN c).toNat+2)=>more_tch (line_tch h hj) plain (lineS c).1
  unfold netV netS at hi ⊢
  dsimp only at hi ⊢
  cases plain with
  | true =>
    rw [if_pos rfl] at hi ⊢
    rw [R.links]
    exact t i (by rw [← rn];exact hi)
  | false =>
    rw [if_neg (by decide)] at hi ⊢
    have ol:=odd_len R (by omega) (by omega) m10
    refine odd_tch R (by omega) (by omega) m10 ?_
    rw [R.links]
    exact t i (by rw [← rn];omega)
theorem net_ports {c:Codes} (h:okB c) (plain:Bool) {i:Nat} (hi:i<(netV plain c).1.length):0<(nPorts ((netV plain c).1.getD i default)).length:=by
  have D:=net_dn h plain
  obtain ⟨l,hl,q⟩:=net_tch h plain hi
  obtain ⟨j,hj,rfl⟩:=getD_of_mem hl
  rcases q with q|q
  · exact List.length_pos_of_mem ((D.port hi).2 ⟨j,hj,.inl ⟨q,rfl⟩⟩)
  · exact List.length_pos_of_mem ((D.port hi).2 ⟨j,hj,.inr ⟨q,rfl⟩⟩)
end Go.RS

/- Law12: the laws of buckets. -/
namespace Go.RS
open Go.SX Go.Proofs
set_option maxRecDepth 100000
set_option linter.unusedVariables false
end Go.RS

/- Law13: what a node does with several packets; a packet that is an answer or damaged is never answered. -/
namespace Go.RS
open Go.SX Go.Proofs
set_option maxRecDepth 100000
set_option linter.unusedVariables false
def simpleV:Node:=([(167772161,0),(167837697,1)],0,0,false,[((0,0),[1],1),((167772160,24),[0],1)],1,0,0,0,0,(0,0),false,false,64,0)
def simpleP:Probe:=(167772169,167903232,17,0,0,1)
theorem simple_ok:nodeV simpleV=0:=by decide +kernel
theorem simple_does:(handleV simpleV (startV simpleV) 0 5 (build simpleP)).2.2=2/\(handleV simpleV (startV simpleV) 0 5 (build simpleP)).2.1.1=0/\(handleV simpleV (startV simpleV) 0 5 (build simpleP)).2.1.2.length=56/\sSent (handleV simpleV (startV simpleV) 0 5 (build simpleP)).1=1:=by decide +kernel
def ct_law13_simple:Ct:=⟨[],[.agg cNode],fun _=>[],fun _=>((simpleV,()),())⟩
def an_law13_simple:PDs ct_law13_simple.ps->Anns:=(fun _=>{})
theorem vc_law13_simple :
 True->True->([((167772161:Int),(0:Int)),((167837697:Int),(1:Int))],(0:Int),(0:Int),false,[(((0:Int),(0:Int)),[(1:Int)],(1:Int)),(((167772160:Int),(24:Int)),[(0:Int)],(1:Int))],(1:Int),(0:Int),(0:Int),(0:Int),(0:Int),((0:Int),(0:Int)),false,false,(64:Int),(0:Int))=simpleV:=by
  intro _ _;rfl
theorem ok_law13_simple:SpecOK Tryz.prog GL 30 ct_law13_simple.spec:=Ct.okH _ Tryz.func30 (by kernel_rfl) noSpecs_ok hmix an_law13_simple (hideMp (by kernel_rfl) vc_law13_simple)
def ct_law13_awake:Ct:=⟨[],[.val .bool],fun _=>[],fun _=>((true,()),())⟩
def an_law13_awake:PDs ct_law13_awake.ps->Anns:=(fun _=>{})
def Qcg2 :=
 ((167772169:Int),(167903232:Int),(17:Int),(0:Int),(0:Int),(1:Int))
theorem vc_law13_awake :
 True->True-> ∀(a:Node),a=simpleV-> ∀(b:List Int) (c:Int),b=build (Qcg2)/\c=probeErr (Qcg2)-> ∀(d:Int),d=nodeV a->ifP (! decide (d=0)) (false=true) (okL (nRoutes a)/\((List.length (nPorts a)):Int)<=1000000/\ ∀(e:List Route) (f:Int) (g:List Int) (h i j:Int),(e,f,g,(h,i),j)=startV a->sortedR (sRoutes (e,f,g,(h,i),j))/\okL (sRoutes (e,f,g,(h,i),j))/\((List.length (sPortSent (e,f,g,(h,i),j))):Int)<=1000000/\(b.length:Int)<=1000000/\ ∀(k:List Route) (l:Int) (m:List Int) (n o p q:Int) (r:List Int) (s:Int),(k,l,m,(n,o),p)=(handleV a (e,f,g,(h,i),j) (0:Int) (5:Int) b).1/\(q,r)=(handleV a (e,f,g,(h,i),j) (0:Int) (5:Int) b).2.1/\s=(handleV a (e,f,g,(h,i),j) (0:Int) (5:Int) b).2.2-> ∀(t:Bool),t=decide (s=2)->(t->(t->t)/\True)/\(t->(t->t)/\True)/\(t->t)/\ ∀(u:Bool),(u=bif t then decide (q=0) else false)->(u->(u->u)/\True)/\(u->(u->u)/\True)/\(u->(u->u)/\True)/\(u->u)/\ ∀(v:Bool),(v=bif u then decide
 ((r.length:Int)=56) else false)->(v->(v->v)/\True)/\(v->(v->v)/\True)/\(v->v)/\(bif v then decide (l=1) else false)=true):=by
  delta Qcg2
  rintro - - d hd b e ⟨rfl,-⟩ k rfl
  rw [hd]
  refine ifP_split (fun h => ?_) (fun h => ?_)
  · rw [simple_ok] at h;simp at h
  have hst:=start_ok (nodeV_ok simple_ok)
  refine ⟨(check_okL (nodeV_ok simple_ok).rt).2,by decide,?_⟩
  rintro x3 x4 x5 x6 x7 x8 h8
  rw [h8]
  refine ⟨hst.srt,hst.okl,by decide,by have:=build_len simpleP;show ((build simpleP).length:Int)<=1000000;omega,?_⟩
  rintro y1 y2 y3 y4 y5 y6 z1 z2 z3 ⟨q1,q2,q3⟩
  obtain ⟨d1,d2,d3,d4⟩:=simple_does
  have q3:z3=2:=q3.trans d1
  have q2a:z1=0:=(congrArg Prod.fst q2).trans d2
  have q2b:z2.length=56:=(congrArg List.length (congrArg Prod.snd q2)).trans d3
  have q4:y2=1:=(congrArg (fun s:NState=>s.2.1) q1).trans d4
  subst q3 q2a q4
  have q5:(z2.length:Int)=56:=by omega
  intro b1 hb1
  (repeat refine ⟨(by first|(simp;done)|(rw [hb1];simp;done)|(cases b1 <;> simp)),?_⟩)
  intro b2 hb2
  (repeat refine ⟨(by first|(simp;done)|(rw [hb2];simp;done)|(cases b2 <;> simp)),?_⟩)
  intro b3 hb3
  (repeat refine ⟨(by first|(simp;done)|(rw [hb3];simp;done)|(cases b3 <;> simp)),?_⟩)
  rw [hb3,hb2,hb1]
  simp [q5]
theorem ok_law13_awake:SpecOK Tryz.prog GL 9 ct_law13_awake.spec:=Ct.okH _ Tryz.func9 (by kernel_rfl) (withSpec_ok (withSpec_ok (withSpec_ok (withSpec_ok (withSpec_ok noSpecs_ok (Ct.named ok_law13_simple)) (Ct.named ok_ref07_Build)) (Ct.named ok_node_Check)) (Ct.named ok_node_Start)) (Ct.named ok_node_Handle)) hmix an_law13_awake (hideMp (by kernel_rfl) vc_law13_awake)
def adrOK (x:Node):Prop:=(∀ y∈nPorts x,u32 y.1)/\u32 (nLoop x)/\u32 (nFixed x)
theorem simple_adr:adrOK simpleV:=by unfold adrOK u32;decide
def placeOK (x:Node) (link:Int) (b:List Int):Prop:=((link = -1∨link∈pLinks x)/\adrOK x)/\(b.length:Int)<=1600
theorem adr_ok {n:Net} (h:DN n) {i:Nat} (hi:i<n.1.length):adrOK (n.1.getD i default):=by
  have d:=h.d i hi
  have l10:=h.l10
  have n7:=h.n7
  refine ⟨fun y hy => ?_,?_,?_⟩
  · obtain ⟨j,hj,q⟩:=(h.port hi).1 hy
    unfold baseA at q
    rcases q with ⟨-,rfl⟩|⟨-,rfl⟩ <;> (constructor <;> simp only <;> omega)
  · rcases d.loop with q|q <;> (rw [q];constructor <;> omega)
  · rcases d.fix with q|q
    · rw [q];constructor <;> omega
    · constructor <;> omega
def ct_law13_place:Cn:=⟨[.box 96 cCodes,.val (.sl cU8)],[.agg cNode,.val cI,.val (.sl cU8)],fun d=>[okC d.1,(d.2.1.length:Int)<=1600],fun d y=>okC y.2.1/\placeOK y.1.1 y.1.2.1 y.1.2.2.1,fun d h=>⟨((simpleV,-1,[],()),(d.1,())),h.1,⟨.inl rfl,simple_adr⟩,by simp⟩⟩
def an_law13_place:PDs ct_law13_place.ps->Anns:=(fun _=>{})
def Qcg1 (d:List Node) (i:Int) :=
 d.getD i.toNat default
theorem vc_law13_place :
 ∀(a:List Int) (b:Int) (c:List Int),((a.length<=maxLen/\ ∀(d:Int),d∈a->0<=d/\d<=255)/\R64 b)/\(c.length<=maxLen/\ ∀(d:Int),d∈c->0<=d/\d<=255)/\True->okC (a,b)/\(c.length:Int)<=1600->okC (a,b)/\ ∀(d:List Node) (e:List Link) (f:List Change) (g:List Int) (h:Int),(d,e,f)=netV false (a,b)/\(g,h)=netC false (a,b)->okC (g,h)/\ ∀(i:Int) (j:List Int) (k:Int),0<=i/\(i<(d.length:Int)∨i=0)/\okC (j,k)->0<=i/\i<(d.length:Int)/\okC (j,k)/\ ∀(l:Int) (m:List Int) (n:Int),0<=l/\(l<((List.length (Qcg1 d i).1):Int)∨l=0)/\okC (m,n)->0<=l/\l<((List.length (Qcg1 d i).1):Int)/\okC (m,n)/\ ∀(o:Int) (p:List Int) (q:Int),0<=o/\(o<6∨o=0)/\okC (p,q)->ifP (decide (o=5)) (okC (p,q)/\ ∀(r s t u v w:Int) (x:List Int) (y:Int),okC (x,y)/\u32 r/\u32 s/\probeErr (r,s,t,u,v,w)=0->okC (x,y)/\ ∀(z:Int) (A:List Int) (B:Int),okC (A,B)/\0<=z/\z<=4294967295->okC (A,B)/\ ∀(C:Int) (D:List Int) (E:Int),okC (D,E)/\0<=C/\C<=4294967295->
 ∀(F:List Int) (G:Int),F=build (z,C,t,u,v,w)/\G=probeErr (z,C,t,u,v,w)->okC (D,E)/\ ∀(H:Int) (I:List Int) (J:Int),0<=H/\(H<12∨H=0)/\okC (I,J)->ifP (decide (H=9)) (okC (I,J)/\Good (z,C,t,u,v,w)/\ ∀(K L:List Int) (M:Int),okC (L,M)/\answered (z,C,t,u,v,w) K->okC (L,M)/\placeOK (Qcg1 d i) (-1:Int) K) (ifP (decide (H=10)) (okC (I,J)/\(F.length:Int)<=1000000/\ ∀(K L:List Int) (M:Int),(K.length:Int)<=(F.length:Int)+(1:Int)/\okC (L,M)->okC (L,M)/\placeOK (Qcg1 d i) (-1:Int) K) (ifP (decide (H=11)) (okC (I,J)/\placeOK (Qcg1 d i) (-1:Int) c) (okC (I,J)/\placeOK (Qcg1 d i) (-1:Int) F)))) (okC (p,q)/\ ∀(r s t u v w:Int) (x:List Int) (y:Int),okC (x,y)/\u32 r/\u32 s/\probeErr (r,s,t,u,v,w)=0->okC (x,y)/\ ∀(z:Int) (A:List Int) (B:Int),okC (A,B)/\0<=z/\z<=4294967295->okC (A,B)/\ ∀(C:Int) (D:List Int) (E:Int),okC (D,E)/\0<=C/\C<=4294967295-> ∀(F:List Int) (G:Int),F=build (z,C,t,u,v,w)/\G=probeErr
 (z,C,t,u,v,w)->okC (D,E)/\ ∀(H:Int) (I:List Int) (J:Int),0<=H/\(H<12∨H=0)/\okC (I,J)->ifP (decide (H=9)) (okC (I,J)/\Good (z,C,t,u,v,w)/\ ∀(K L:List Int) (M:Int),okC (L,M)/\answered (z,C,t,u,v,w) K->okC (L,M)/\placeOK (Qcg1 d i) (List.getD (Qcg1 d i).1 l.toNat default).2 K) (ifP (decide (H=10)) (okC (I,J)/\(F.length:Int)<=1000000/\ ∀(K L:List Int) (M:Int),(K.length:Int)<=(F.length:Int)+(1:Int)/\okC (L,M)->okC (L,M)/\placeOK (Qcg1 d i) (List.getD (Qcg1 d i).1 l.toNat default).2 K) (ifP (decide (H=11)) (okC (I,J)/\placeOK (Qcg1 d i) (List.getD (Qcg1 d i).1 l.toNat default).2 c) (okC (I,J)/\placeOK (Qcg1 d i) (List.getD (Qcg1 d i).1 l.toNat default).2 F)))):=by
  delta Qcg1
  rintro l p raw ⟨⟨⟨-,hw⟩,-⟩,-⟩ ⟨hc,hraw⟩
  have hB:okB (l,p):=⟨hc,hw⟩
  have hdn:=net_dn hB false
  have hports:=fun {i:Nat}=>net_ports hB false (i:=i)
  have hcB:=net_codes hB false
  refine ⟨hc,?_⟩
  rintro ns ls hs l1 p1 ⟨hnet,hcod⟩
  rw [← hnet] at hdn hports
  rw [← hcod] at hcB
  have n3:3<=ns.length:=hdn.n3
  refine ⟨hcB.1,?_⟩
  rintro i l2 p2 ⟨i0,i1,hc2⟩
  have hi:i<ns.length:=by omega
  have hpi:=hports (i:=i.toNat) (by show i.toNat<ns.length;omega)
  have hpi:0<(ns.getD i.toNat default).1.length:=hpi
  refine ⟨i0,hi,hc2,?_⟩
  rintro k l3 p3 ⟨k0,k1,hc3⟩
  have hk:k<((ns.getD i.toNat default).1.length:Int):=by omega
  refine ⟨k0,hk,hc3,?_⟩
  rintro m l4 p4 ⟨m0,m1,hc4⟩
  have hmem:((ns.getD i.toNat default).1.getD k.toNat default).2∈pLinks (ns.getD i.toNat default):=List.mem_map_of_mem (getD_mem k0 hk)
  have hadr:adrOK (ns.getD i.toNat default):=adr_ok hdn (by show i.toNat<ns.length;omega)
  generalize ns.getD i.toNat default=X at hmem hadr ⊢
  generalize (X.1.getD k.toNat default).2=lk at hmem ⊢
  refine ifP_split (fun _ => ?_) (fun _ => ?_)
  all_goals
    refine ⟨hc4,?_⟩
    rintro s d pr f t tl l5 p5 ⟨hc5,us,ud,he⟩
    refine ⟨hc5,?_⟩
    rintro a l6 p6 ⟨hc6,a0,a1⟩
    refine ⟨hc6,?_⟩
    rintro b l7 p7 ⟨hc7,b0,b1⟩
    have hg:Good (a,b,pr,f,t,tl):=⟨he,⟨a0,a1⟩,⟨b0,b1⟩⟩
    have hbl:=build_len (a,b,pr,f,t,tl)
    rintro pk e ⟨rfl,-⟩
    refine ⟨hc7,?_⟩
    rintro c l8 p8 ⟨c0,c1,hc8⟩
    refine ifP_split (fun _=>⟨hc8,hg,?_⟩) (fun _=>ifP_split (fun _=>⟨hc8,by omega,?_⟩) (fun _=>ifP_split (fun _ => ?_) (fun _ => ?_)))
    · rintro x l9 p9 ⟨hc9,hx⟩
      have:=(answered_no hx).2
      exact ⟨hc9,⟨by first|exact .inl rfl|exact .inr hmem,hadr⟩,by omega⟩
    · rintro x l9 p9 ⟨hx,hc9⟩
      exact ⟨hc9,⟨by first|exact .inl rfl|exact .inr hmem,hadr⟩,by omega⟩
    · exact ⟨hc8,⟨by first|exact .inl rfl|exact .inr hmem,hadr⟩,hraw⟩
    · exact ⟨hc8,⟨by first|exact .inl rfl|exact .inr hmem,hadr⟩,by omega⟩
theorem ok_law13_place:SpecOK Tryz.prog GL 23 ct_law13_place.spec:=Cn.okH _ Tryz.func23 (by kernel_rfl) (withSpec_ok (withSpec_ok (withSpec_ok (withSpec_ok (withSpec_ok (withSpec_ok (withSpec_ok noSpecs_ok (Ct.named ok_draw_Codes_Net)) ok_Next) ok_draw_Codes_Right) ok_draw_Codes_Some) (Ct.named ok_ref07_Build)) ok_draw_Codes_Answer) ok_draw_Codes_Spoilt) hmix an_law13_place (hideMp (by kernel_rfl) vc_law13_place)
def lpQuiet:LPs:=[(false,.sl cU8)]
theorem errE_no {b:List Int} (h:¬ ansOK b) (k c i t:Int):errE b k c i t≠0:=by
  unfold errE
  by_cases g:errGood k c i t
  · rw [if_neg (by simpa using g),if_neg h];decide
  · rw [if_pos g];decide
theorem hostE_no {b:List Int} (h:¬ ansOK b) (i t:Int):hostE b i t≠0:=by
  unfold hostE
  by_cases g:numOK i t
  · rw [if_neg (by simpa using g),if_neg (fun k=>h k.1)];decide
  · rw [if_pos g];decide
theorem ansV_why {B:Int->Int->List Int} {F:Int->Int} {w:Work} {own:Int}:(ansV B F w own).2.2≠0/\(ansV B F w own).2.2≠1:=by
  by_cases k:own=0/\nSilent w.1=true
  · rw [ansV_sil k];exact ⟨(by show (4:Int)≠0;decide),(by show (4:Int)≠1;decide)⟩
  by_cases k1:F 0≠0
  · rw [ansV_bad k k1];exact ⟨(by show (6:Int)≠0;decide),(by show (6:Int)≠1;decide)⟩
  by_cases k2:wayB w.2.1 (hSrc w.2.2.2.2.2)=false
  · rw [ansV_rt k k1 k2];exact ⟨(by show (8:Int)≠0;decide),(by show (8:Int)≠1;decide)⟩
  by_cases k3:(takeV w).2=false
  · rw [ansV_lim k k1 k2 k3];exact ⟨(by show (5:Int)≠0;decide),(by show (5:Int)≠1;decide)⟩
  · rw [ansV_go k k1 k2 k3];exact ⟨(by show (2:Int)≠0;decide),(by show (2:Int)≠1;decide)⟩
structure Fwds (x:Node) (s:NState) (lk:Int) (b:List Int):Prop where
  dec:decErr b=0
  own:¬ ownsA x (hDst (decPkt b).1)=true
  host:¬ (nHost x=true/\lk ≠ -1)
  ttl:¬ (lk ≠ -1/\nOpaque x=false/\hTTL (decPkt b).1<2)
  way:¬ wayB s (hDst (decPkt b).1)=false
def fwdR (s:NState) (b:List Int):Rt:=lookR (sRoutes s) (hDst (decPkt b).1)
theorem fwd_mk {x:Node} {s:NState} {lk t:Int} {b:List Int} (h:Fwds x s lk b):handleV x s lk t b=(pickS s (fwdR s b),(pickL x s (fwdR s b) (keyB b),if lk ≠ -1/\nOpaque x=false then lowB b else b),0):=by
  show hdV (x,s,lk,t,b,hdr0)=_
  unfold hdV
  rw [if_neg (by simpa using h.dec),if_neg h.own,if_neg h.host]
  have e:∀ w:Work,w.1=x->w.2.1=s->w.2.2.1=lk->w.2.2.2.2.1=b->w.2.2.2.2.2=(decPkt b).1->fwdV w=(pickS s (fwdR s b),(pickL x s (fwdR s b) (keyB b),if lk ≠ -1/\nOpaque x=false then lowB b else b),0):=by
    intro w e1 e2 e3 e4 e5
    unfold fwdV
    rw [e1,e2,e3,e4,e5,if_neg h.ttl,if_neg h.way]
    rfl
  exact e _ rfl rfl rfl rfl rfl
theorem fwd_inv {x:Node} {s:NState} {lk t:Int} {b:List Int} (h:(handleV x s lk t b).2.2=0):Fwds x s lk b:=by
  have h:(hdV (x,s,lk,t,b,hdr0)).2.2=0:=h
  unfold hdV at h
  by_cases k1:decErr b≠0
  · rw [if_pos k1] at h;exact absurd h (by show (6:Int)≠0;decide)
  rw [if_neg k1] at h
  by_cases k2:ownsA x (hDst (decPkt b).1)=true
  · rw [if_pos k2] at h
    unfold recvV at h
    split at h
    · exact absurd h (by show (1:Int)≠0;decide)
    · exact absurd h ansV_why.1
  rw [if_neg k2] at h
  by_cases k4:nHost x=true/\lk ≠ -1
  · rw [if_pos k4] at h;exact absurd h (by show (6:Int)≠0;decide)
  rw [if_neg k4] at h
  unfold fwdV at h
  split at h
  · exact absurd h ansV_why.1
  rename_i k5
  split at h
  · split at h
    · exact absurd h (by show (8:Int)≠0;decide)
    · exact absurd h ansV_why.1
  rename_i k6
  exact ⟨by simpa using k1,k2,k4,k5,k6⟩
theorem read_build2 {b:List Int} (h:readE b=0):Good (readP b)/\build (readP b)=b:=by
  have hk:readOK b:=Classical.byContradiction fun k=>by rw [readE,if_neg k] at h;cases h
  have hb:bytes b:=by have:=build_bytes (cand b);rwa [hk.2.2] at this
  rw [readP,if_pos hk]
  exact ⟨⟨hk.2.1,bytes_num4 hb 12,bytes_num4 hb 16⟩,hk.2.2⟩
theorem dec_good {p:Probe} (g:Good p):decErr (build p)=0/\(decPkt (build p)).1=hdrP p:=by
  have h:=dec_build g.ok g.s g.d
  exact ⟨h.2.1,by rw [decPkt,if_pos h.2.1];exact h.1⟩
def TokStep (x:Node) (s s':NState) (t why:Int):Prop :=
  sRoutes s'=sRoutes s/\(sPortSent s').length=(sPortSent s).length ∧
    ((why≠2/\sSent s'=sSent s/\(sTokens s'=sTokens s∨(sTokens s'=(bTake (nLimit x) (sTokens s) t).1/\(bTake (nLimit x) (sTokens s) t).2=false))) ∨
      (why=2/\sSent s'=IntKind.i64.wrap (sSent s+1)/\sTokens s'=(bTake (nLimit x) (sTokens s) t).1/\(bTake (nLimit x) (sTokens s) t).2=true))
theorem tok_same {x:Node} {s:NState} {t why:Int} (h:why≠2):TokStep x s s t why:=⟨rfl,rfl,.inl ⟨h,rfl,.inl rfl⟩⟩
theorem bump_len (l:List Int) (i:Int):(bump l i).length=l.length:=by
  unfold bump;split
  · exact List.length_set
  · rfl
theorem ansV_tok {B:Int->Int->List Int} {F:Int->Int} {w:Work} {own:Int}:TokStep w.1 w.2.1 (ansV B F w own).1 w.2.2.2.1 (ansV B F w own).2.2:=by
  by_cases k:own=0/\nSilent w.1=true
  · rw [ansV_sil k];exact tok_same (by show (4:Int)≠2;decide)
  by_cases k1:F 0≠0
  · rw [ansV_bad k k1];exact tok_same (by show (6:Int)≠2;decide)
  by_cases k2:wayB w.2.1 (hSrc w.2.2.2.2.2)=false
  · rw [ansV_rt k k1 k2];exact tok_same (by show (8:Int)≠2;decide)
  by_cases k3:(takeV w).2=false
  · rw [ansV_lim k k1 k2 k3];exact ⟨rfl,rfl,.inl ⟨(by show (5:Int)≠2;decide),rfl,.inr ⟨rfl,k3⟩⟩⟩
  · rw [ansV_go k k1 k2 k3]
    have k4:(takeV w).2=true:=by simpa using k3
    refine ⟨?_,?_,.inr ⟨rfl,?_,?_,k4⟩⟩
    · rw [pickS_eq];rfl
    · rw [pickS_eq];exact bump_len _ _
    · rw [pickS_eq];rfl
    · rw [pickS_eq];rfl
theorem handleV_tok (x:Node) (s:NState) (lk t:Int) (b:List Int):TokStep x s (handleV x s lk t b).1 t (handleV x s lk t b).2.2:=by
  unfold handleV hdV
  split
  · exact tok_same (by show (6:Int)≠2;decide)
  split
  · unfold recvV
    split
    · exact tok_same (by show (1:Int)≠2;decide)
    · exact ansV_tok (w:=setH (x,s,lk,t,b,hdr0) (decPkt b).1)
  split
  · exact tok_same (by show (6:Int)≠2;decide)
  unfold fwdV
  split
  · exact ansV_tok (w:=setH (x,s,lk,t,b,hdr0) (decPkt b).1)
  split
  · split
    · exact tok_same (by show (8:Int)≠2;decide)
    · exact ansV_tok (w:=setH (x,s,lk,t,b,hdr0) (decPkt b).1)
  · refine ⟨?_,?_,.inl ⟨(by show (0:Int)≠2;decide),?_,.inl ?_⟩⟩ <;> (rw [pickS_eq];rfl)
theorem idNext_in {n:Node} {s:NState} {port a asked dst:Int} (hb:0<=nBase n/\nBase n<=65535) (ha:0<=asked/\asked<=65535):0<=idNext n s port a asked dst/\idNext n s port a asked dst<=65535:=by
  have hc:∀ x,0<=idCount n x a/\idCount n x a<=65535:=fun x=>by unfold idCount;omega
  have hh:0<=hash (nBase n) (0,dst,0,sSent s,0)%65536/\hash (nBase n) (0,dst,0,sSent s,0)%65536<=65535:=by omega
  unfold idNext
  split
  · exact hb
  split
  · exact hc _
  split
  · split <;> exact hc _
  split
  · exact ha
  split
  · exact hh
  · omega
theorem adr_own {x:Node} (A:adrOK x) {i:Int} (h0:0<=i) (h1:i<(nPorts x).length):u32 (adr x i)/\ownsA x (adr x i)=true:=by
  have hm:=getD_mem h0 h1
  rw [adr_in h0 h1]
  refine ⟨A.1 _ hm,?_⟩
  have:0<=portA x ((nPorts x).getD i.toNat default).1:=findP_has hm (by simp [isA])
  unfold ownsA
  rw [decide_eq_true this];rfl
theorem srcA_ok {x:Node} {lk L:Int} (N:NodeOK x) (A:adrOK x) (hi:0<=portL x lk) (hL:0<=portL x L) :
    u32 (srcA x (inP x lk) L)/\(ownsA x (srcA x (inP x lk) L)=true∨(nSource x=4/\srcA x (inP x lk) L=nFixed x))/\(nSource x=1->srcA x (inP x lk) L=((nPorts x).getD (portL x lk).toNat default).1):=by
  have e:inP x lk=portL x lk:=by unfold inP;omega
  have i1:portL x lk<(nPorts x).length:=(findP_mem hi).1
  have l1:portL x L<(nPorts x).length:=(findP_mem hL).1
  rw [e]
  unfold srcA
  by_cases s2:nSource x=2
  · rw [if_pos s2]
    have k:=adr_own A hL l1
    exact ⟨k.1,.inl k.2,fun q=>by omega⟩
  rw [if_neg s2]
  by_cases s3:nSource x=3
  · rw [if_pos s3]
    have hne:nLoop x≠0:=fun q=>N.form (.inr (.inr (.inl ⟨s3,q⟩)))
    refine ⟨A.2.1,.inl ?_,fun q=>by omega⟩
    unfold ownsA
    simp [hne]
  rw [if_neg s3]
  by_cases s4:nSource x=4
  · rw [if_pos s4]
    exact ⟨A.2.2,.inr ⟨s4,rfl⟩,fun q=>by omega⟩
  rw [if_neg s4]
  have k:=adr_own A hi i1
  exact ⟨k.1,.inl k.2,fun _=>adr_in hi i1⟩
theorem ansV_two {B:Int->Int->List Int} {F:Int->Int} {w:Work} {own:Int} (h:(ansV B F w own).2.2=2) :
    F 0=0∧¬ wayB w.2.1 (hSrc w.2.2.2.2.2)=false/\ansV B F w own=(pickS (ansS w) (ansRt w),(ansL B w,B (ansF B w own) (ansID w)),2):=by
  by_cases k:own=0/\nSilent w.1=true
  · rw [ansV_sil k] at h;exact absurd h (by show (4:Int)≠2;decide)
  by_cases k1:F 0≠0
  · rw [ansV_bad k k1] at h;exact absurd h (by show (6:Int)≠2;decide)
  by_cases k2:wayB w.2.1 (hSrc w.2.2.2.2.2)=false
  · rw [ansV_rt k k1 k2] at h;exact absurd h (by show (8:Int)≠2;decide)
  by_cases k3:(takeV w).2=false
  · rw [ansV_lim k k1 k2 k3] at h;exact absurd h (by show (5:Int)≠2;decide)
  · exact ⟨by simpa using k1,k2,ansV_go k k1 k2 k3⟩
theorem ans_inv {x:Node} {s:NState} {lk t:Int} {b:List Int} (h:(handleV x s lk t b).2.2=2) :
    ∃ ki,handleV x s lk t b=refA (refW x s lk t b) ki/\((ki=0/\ownsA x (hDst (decPkt b).1)=true/\hProto (decPkt b).1≠17)∨(ki=1/\hProto (decPkt b).1=17)∨ki=2∨ki=3):=by
  have e0:handleV x s lk t b=hdV (x,s,lk,t,b,hdr0):=rfl
  rw [e0] at h ⊢
  unfold hdV at h ⊢
  by_cases k1:decErr b≠0
  · rw [if_pos k1] at h;exact absurd h (by show (6:Int)≠2;decide)
  rw [if_neg k1] at h ⊢
  by_cases k2:ownsA x (hDst (decPkt b).1)=true
  · rw [if_pos k2] at h ⊢
    unfold recvV at h ⊢
    split at h
    · exact absurd h (by show (1:Int)≠2;decide)
    rename_i k3
    rw [if_neg k3]
    by_cases k4:hProto (decPkt b).1=17
    · exact ⟨1,by rw [refA_1];exact congrArg (ansV _ _ _) (if_pos k4),.inr (.inl ⟨rfl,k4⟩)⟩
    · exact ⟨0,by rw [refA_0];exact congrArg (ansV _ _ _) (if_neg k4),.inl ⟨rfl,k2,k4⟩⟩
  rw [if_neg k2] at h ⊢
  by_cases k4:nHost x=true/\lk ≠ -1
  · rw [if_pos k4] at h;exact absurd h (by show (6:Int)≠2;decide)
  rw [if_neg k4] at h ⊢
  unfold fwdV at h ⊢
  split at h
  · rename_i k5
    exact ⟨2,by rw [if_pos k5,refA_2];rfl,.inr (.inr (.inl rfl))⟩
  rename_i k5
  rw [if_neg k5]
  split at h
  · rename_i k6
    rw [if_pos k6]
    split at h
    · exact absurd h (by show (8:Int)≠2;decide)
    rename_i k7
    exact ⟨3,by rw [if_neg k7,refA_3];rfl,.inr (.inr (.inr rfl))⟩
  · exact absurd h (by show (0:Int)≠2;decide)
theorem ne2 {w:Work} {ki:Int} (h:kE ki w 0=0):ansOK w.2.2.2.2.1:=Classical.byContradiction fun k=>by
  unfold kE at h
  split at h
  · exact errE_no k _ _ _ _ h
  split at h
  · exact errE_no k _ _ _ _ h
  · exact hostE_no k _ _ h
structure Sends (x:Node) (lk:Int) (p:Probe) (a:Ans) (r:HRes):Prop where
  is:IsAns p a r.2.1.2
  left:a.2.2.2.1=nFirst x
  quoted:a.2.2.2.2.2=0∨a.2.2.2.2.2=p.2.2.2.2.2
  out:0<=portL x r.2.1.1
  exc:a.2.1=1->nSource x=1->a.1=((nPorts x).getD (portL x lk).toNat default).1
  own:ownsA x a.1=true∨(nSource x=4/\a.1=nFixed x)
  cnt:(sPortSent r.1).getD (portL x lk).toNat default=1
theorem sends {x:Node} {lk:Int} {p:Probe} (N:NodeOK x) (A:adrOK x) (g:Good p) (hlk:lk∈pLinks x) (h:(handleV x (startV x) lk 0 (build p)).2.2=2):∃ a,Sends x lk p a (handleV x (startV x) lk 0 (build p)):=by
  have st:=start_ok N
  obtain ⟨ki,e,hk⟩:=ans_inv h
  rw [e] at h ⊢
  obtain ⟨d1,d2⟩:=dec_good g
  obtain ⟨w,hw⟩:∃ w,w=refW x (startV x) lk 0 (build p):=⟨_,rfl⟩
  rw [← hw] at h ⊢
  obtain ⟨a1,a2,a3⟩:=ansV_two h
  have w1:w.1=x:=by rw [hw];rfl
  have w2:w.2.1=startV x:=by rw [hw];rfl
  have w3:w.2.2.1=lk:=by rw [hw];rfl
  have w5:w.2.2.2.2.1=build p:=by rw [hw];rfl
  have w6:w.2.2.2.2.2=hdrP p:=by rw [hw];exact d2
  have hu:usable p.1:=by
    have:=ne2 a1
    rw [w5] at this
    exact (ans_build g).1 this
  have hi:=portL_has hlk
  have hin:inP x lk=portL x lk:=by unfold inP;omega
  have i1:portL x lk<(nPorts x).length:=(findP_mem hi).1
  have hL:0<=portL x (ansL (kB ki w) w):=by
    have:=nextOut st (a:=hSrc w.2.2.2.2.2) (by rw [← w2];exact a2) (ansS w) (keyB (kB ki w (adr w.1 (inP w.1 w.2.2.1)) 0))
    unfold ansL ansRt
    rw [w1,w2]
    rw [w1] at this
    exact this
  obtain ⟨s1,s2,s3⟩:=srcA_ok N A hi hL
  have hr:=(probe_ok.1 g.ok).2
  obtain ⟨hf,ht,-⟩:=id hr
  have hb:0<=nBase x/\nBase x<=65535:=by
    have h:=N.id
    unfold idCheck at h
    split at h
    · rename_i k;have:=of_decide_eq_true k;omega
    · cases h
  have hid:numOK (ansID w) (nFirst x):=by
    have f:=N.form
    unfold formBad at f
    refine ⟨?_,by omega,by omega⟩
    unfold ansID
    rw [w1,w6]
    exact idNext_in hb ⟨by show 0<=p.2.2.2.2.1;omega,by show p.2.2.2.2.1<=65535;omega⟩
  have hc:(sPortSent (refA w ki).1).getD (portL x lk).toNat default=1:=by
    have e1:(refA w ki).1=pickS (ansS w) (ansRt w):=congrArg (fun r:HRes=>r.1) a3
    have e2:sPortSent (refA w ki).1=bump (List.replicate (nPorts x).length 0) (portL x lk):=by
      rw [e1,pickS_eq]
      show bump (sPortSent w.2.1) (inP w.1 w.2.2.1)=_
      rw [w1,w2,w3,hin];rfl
    rw [e2,bump_in (by rw [List.length_replicate];exact i1)]
    have:(portL x lk).toNat<(List.replicate (nPorts x).length (0:Int)).length:=by rw [List.length_replicate];omega
    rw [List.getD_eq_getElem?_getD,List.getElem?_set_self this,Option.getD_some,List.getD_eq_getElem?_getD,List.getElem?_eq_getElem this,Option.getD_some,List.getElem_replicate]
    decide
  have ho:(refA w ki).2.1=(ansL (kB ki w) w,kB ki w (ansF (kB ki w) w (kOwn ki w)) (ansID w)):=congrArg (fun r:HRes=>r.2.1) a3
  have hsrc:srcA w.1 (inP w.1 w.2.2.1) (ansL (kB ki w) w)=srcA x (inP x lk) (ansL (kB ki w) w):=by rw [w1,w3]
  have hF:kOwn ki w=0->ansF (kB ki w) w (kOwn ki w)=srcA x (inP x lk) (ansL (kB ki w) w):=fun q=>by unfold ansF;rw [if_pos q,hsrc]
  generalize hid2:ansID w=id at hid ho
  generalize hLL:ansL (kB ki w) w=L at hL s1 s2 s3 ho hF
  generalize srcA x (inP x lk) L=F at s1 s2 s3 hF
  have hp17:hProto (decPkt (build p)).1=p.2.2.1:=by rw [d2];rfl
  rcases hk with ⟨rfl,q1,q2⟩|⟨rfl,q1⟩|rfl|rfl
  · have hd:hDst (decPkt (build p)).1=p.2.1:=by rw [d2];rfl
    have ko:kOwn 0 w=p.2.1:=by show hDst w.2.2.2.2.2=_;rw [w6];rfl
    rw [hd] at q1
    have hne:=owns_ne N q1
    have ef:ansF (kB 0 w) w (kOwn 0 w)=p.2.1:=by unfold ansF;rw [ko,if_neg hne]
    rw [ef] at ho
    have eB:kB 0 w p.2.1 id=hostB (build p) p.2.1 id (nFirst x):=by show wHostB w _ _=_;unfold wHostB;rw [w5,w1]
    rw [eB] at ho
    have I:=(is_host g hu hid).2
    refine ⟨wantA p id (nFirst x),by rw [ho];exact I,?_,?_,by rw [ho];exact hL,?_,.inl ?_,hc⟩
    · unfold wantA;split
      · rfl
      · split <;> rfl
    · unfold wantA;split
      · exact .inl rfl
      · split
        · exact .inr rfl
        · exact .inl rfl
    · intro k
      exfalso
      unfold wantA at k
      split at k
      · exact absurd k (by show (4:Int)≠1;decide)
      · split at k
        · exact absurd k (by show (3:Int)≠1;decide)
        · exact absurd k (by show (2:Int)≠1;decide)
    · have:(wantA p id (nFirst x)).1=p.2.1:=by unfold wantA;split;rfl;split <;> rfl
      rw [this];exact q1
  · rw [hF rfl] at ho
    rw [hp17] at q1
    have hpr:protoOf (build p)=17:=by rw [protoOf,g.dec.1];exact q1
    have eB:kB 1 w F id=errB (build p) F 3 3 id (nFirst x):=by
      show wHostB w _ _=_;unfold wHostB hostB
      rw [w5,w1,if_pos (is_host g hu hid).1,if_neg (by rw [hpr];decide),if_pos hpr]
    rw [eB] at ho
    have I:=(is_notice g hu s1 (kind:=3) (code:=3) ⟨.inr rfl,by omega,hid⟩).2.1
    exact ⟨(F,kindN 3 3,3,nFirst x,id,p.2.2.2.2.2),by rw [ho];exact I,rfl,.inr rfl,by rw [ho];exact hL,fun k=>absurd k (by show kindN 3 3≠1;decide),s2,hc⟩
  · rw [hF rfl] at ho
    have eB:kB 2 w F id=errB (build p) F 11 0 id (nFirst x):=by show wErrB w 11 0 _ _=_;unfold wErrB;rw [w5,w1]
    rw [eB] at ho
    have I:=(is_notice g hu s1 (kind:=11) (code:=0) ⟨.inl rfl,by omega,hid⟩).2.1
    exact ⟨(F,kindN 11 0,0,nFirst x,id,p.2.2.2.2.2),by rw [ho];exact I,rfl,.inr rfl,by rw [ho];exact hL,fun _ k=>s3 k,s2,hc⟩
  · rw [hF rfl] at ho
    have eB:kB 3 w F id=errB (build p) F 3 0 id (nFirst x):=by show wErrB w 3 0 _ _=_;unfold wErrB;rw [w5,w1]
    rw [eB] at ho
    have I:=(is_notice g hu s1 (kind:=3) (code:=0) ⟨.inr rfl,by omega,hid⟩).2.1
    exact ⟨(F,kindN 3 0,0,nFirst x,id,p.2.2.2.2.2),by rw [ho];exact I,rfl,.inr rfl,by rw [ho];exact hL,fun k=>absurd k (by show kindN 3 0≠1;decide),s2,hc⟩
theorem ansV_out {B:Int->Int->List Int} {F:Int->Int} {w:Work} {own:Int} (h:(ansV B F w own).2.2≠2):(ansV B F w own).2.1=out0:=by
  by_cases k:own=0/\nSilent w.1=true
  · rw [ansV_sil k]
  by_cases k1:F 0≠0
  · rw [ansV_bad k k1]
  by_cases k2:wayB w.2.1 (hSrc w.2.2.2.2.2)=false
  · rw [ansV_rt k k1 k2]
  by_cases k3:(takeV w).2=false
  · rw [ansV_lim k k1 k2 k3]
  · rw [ansV_go k k1 k2 k3] at h;exact absurd rfl h
theorem handleV_out {x:Node} {s:NState} {lk t:Int} {b:List Int} (h:(handleV x s lk t b).2.2≠2) (h0:(handleV x s lk t b).2.2≠0):(handleV x s lk t b).2.1=out0:=by
  unfold handleV hdV at h h0 ⊢
  split at h
  · rename_i k;rw [if_pos k]
  rename_i k1
  rw [if_neg k1] at h0 ⊢
  split at h
  · rename_i k2
    rw [if_pos k2]
    unfold recvV at h ⊢
    split at h
    · rename_i k;rw [if_pos k]
    · rename_i k;rw [if_neg k];exact ansV_out h
  rename_i k2
  rw [if_neg k2] at h0 ⊢
  split at h
  · rename_i k;rw [if_pos k]
  rename_i k3
  rw [if_neg k3] at h0 ⊢
  unfold fwdV at h h0 ⊢
  split at h
  · rename_i k;rw [if_pos k];exact ansV_out h
  rename_i k4
  rw [if_neg k4] at h0 ⊢
  split at h
  · rename_i k;rw [if_pos k]
    split at h
    · rename_i k;rw [if_pos k]
    · rename_i k;rw [if_neg k];exact ansV_out h
  rename_i k5
  rw [if_neg k5] at h0
  exact absurd rfl h0
theorem fwd_data {x:Node} {s:NState} {lk t:Int} {p:Probe} (g:Good p) (hl:lk ≠ -1) (h:(handleV x s lk t (build p)).2.2=0):0<(handleV x s lk t (build p)).2.1.2.length:=by
  have F:=fwd_inv h
  rw [fwd_mk F]
  show 0<(if lk ≠ -1/\nOpaque x=false then lowB (build p) else build p).length
  have hb:=g.len
  split
  · rename_i k
    have hT:hTTL (decPkt (build p)).1=p.2.2.2.2.2:=by rw [(dec_good g).2];rfl
    have h2:2<=p.2.2.2.2.2:=by
      have:=F.ttl
      rw [hT] at this
      by_cases q:p.2.2.2.2.2<2
      · exact absurd ⟨k.1,k.2,q⟩ this
      · omega
    obtain ⟨-,e,e0⟩:=(low_build g.ok g.s g.d).2 h2
    have g':Good (p.1,p.2.1,p.2.2.1,p.2.2.2.1,p.2.2.2.2.1,p.2.2.2.2.2-1):=⟨e0,g.s,g.d⟩
    rw [e]
    rcases g'.len with q|q <;> omega
  · rcases hb with q|q <;> omega
def ct_law13_NodeAnswers:Ct:=lawCt lpQuiet
def an_law13_NodeAnswers:PDs ct_law13_NodeAnswers.ps->Anns:=(fun _=>{})
def Qcg0 (b:Node) :=
 (nRoutes b,(0:Int),List.replicate (List.length (nPorts b)) (0:Int),(w (b.2.2.2.2.2.2.2.2.2.2.1.1*b.2.2.2.2.2.2.2.2.2.2.1.2),(0:Int)),(0:Int))
theorem vc_law13_NodeAnswers :
 ∀(a:List Int),(a.length<=maxLen/\ ∀(b:Int),b∈a->0<=b/\b<=255)/\True->True->(0:Int)<=400/\okC (if (a.length:Int)<=400 then a else List.take (Int.toNat (400:Int)) a,(0:Int))/\(↑(0:Nat):Int)<=1600/\ ∀(b:Node) (c:Int) (d e:List Int) (f:Int),okC (e,f)/\placeOK b c d->(d.length:Int)<=1099511627776/\ ∀(g h i j k l m:Int),(g,h,i,j,k,l)=readP d/\m=readE d-> ∀(n:Bool),n= ! decide (nodeV b=0)->((! n)->((! n)->(! n))/\True)/\(n=false->(! n))/\ ∀(o:Bool),(o=bif n then true else ! decide (m=0))->((! o)->((! o)->(! o))/\True)/\(o=false->(! o))/\ifP (bif o then true else decide (c= -1)) (true=true) (okL (nRoutes b)/\((List.length (nPorts b)):Int)<=1000000/\sortedR (sRoutes (Qcg0 b))/\okL (sRoutes (Qcg0 b))/\((List.length (sPortSent (Qcg0 b))):Int)<=1000000/\(d.length:Int)<=1000000/\ ∀(p:List Route) (q:Int) (r:List Int) (s t u v:Int) (x:List Int) (y:Int),(p,q,r,(s,t),u)=(handleV b (Qcg0 b) c (0:Int)
 d).1/\(v,x)=(handleV b (Qcg0 b) c (0:Int) d).2.1/\y=(handleV b (Qcg0 b) c (0:Int) d).2.2->ifP (! decide (y=2)) (∀(z:Bool),z=decide (q=0)->(z->(z->z)/\True)/\(z->(z->z)/\True)/\(z->(z->z)/\True)/\(z->(z->z)/\True)/\(z->(z->z)/\(z->z)/\True)/\(z->z)/\(bif z then decide (y=0)==decide (0<(x.length:Int)) else false)=true) ((x.length:Int)<=1000000/\ ∀(z A B C D E F G H I J K L:Int),(z,A,B,C,D,E)=(readA x).1/\(F,G,H,I,J,K)=(readA x).2/\L=readAE x-> ∀(M:Bool),M= ! decide (L=0)->((! M)->((! M)->(! M))/\((! M)->(! M))/\True)/\(M=false->(! M))/\ ∀(N:Bool),(N=bif M then true else ! (decide (z=g)&&(decide (A=h)&&(decide (B=i)&&(decide (C=j)&&(decide (D=k)&&(decide (E=0)&&true)))))))->((! N)->((! N)->(! N))/\True)/\((! N)->((! N)->(! N))/\True)/\((! N)->((! N)->(! N))/\((! N)->(! N))/\True)/\(N=false->(! N))/\ ∀(O:Bool),(O=bif N then true else ! decide (I=b.2.2.2.2.2.2.2.2.2.2.2.2.2.1))->((! O)->((!
 O)->(! O))/\True)/\((! O)->((! O)->(! O))/\True)/\((! O)->((! O)->(! O))/\True)/\ ∀(P:Bool),P= ! decide (K=0)->((! O&&P)->((! O&&P)->(! O&&P))/\True)/\((! O&&P)->((! O&&P)->(! O&&P))/\((! O&&P)->(! O&&P))/\True)/\((! O)->((! O)->(! O))/\(P->(! O&&P))/\True)/\(O=false->(! O))/\ ∀(Q:Bool),(Q=bif O then true else bif P then ! decide (K=l) else false)->((! Q)->((! Q)->(! Q))/\True)/\((! Q)->((! Q)->(! Q))/\True)/\(Q=false->(! Q))/\ ∀(R:Bool),(R=bif Q then true else ! decide (q=1))->((! R)->((! R)->(! R))/\True)/\((! R)->((! R)->(! R))/\((! R)->(! R))/\0<=portL b c/\portL b c<(r.length:Int)/\True)/\((! R)->((! R)->(! R))/\True)/\((! R)->((! R)->(! R))/\True)/\(R=false->(! R))/\ ∀(S:Bool),(S=bif R then true else ! decide (r.getD (Int.toNat (portL b c)) default=1))->((! S)->((! S)->(! S))/\True)/\((! S)->((! S)->(! S))/\((! S)->(! S))/\True)/\((! S)->((! S)->(! S))/\True)/\(S=false->(! S))/\ifP
 (bif S then true else decide (portL b v<0)) (false=true) (∀(T:Bool),T=decide (G=1)->(T->(T->T)/\True)/\(T->(T->T)/\True)/\(T->T)/\ ∀(U:Bool),(U=bif T then decide (b.2.2.2.2.2.1=1) else false)->(U->(U->U)/\True)/\(U->(U->U)/\True)/\(U->(U->U)/\(U->U)/\0<=portL b c/\portL b c<(b.1.length:Int)/\True)/\(U->(U->U)/\True)/\(U->(U->U)/\True)/\(U->(U->U)/\(U->U)/\True)/\(U->U)/\ifP (bif U then ! decide (F=(List.getD b.1 (Int.toNat (portL b c)) default).1) else false) (false=true) (∀(V:Bool),V=ownsA b F->((! V)->((! V)->(! V))/\True)/\((! V)->((! V)->(! V))/\True)/\((! V)->((! V)->(! V))/\True)/\ ∀(W:Bool),W=decide (b.2.2.2.2.2.1=4)->((! V&&W)->((! V&&W)->(! V&&W))/\True)/\((! V&&W)->((! V&&W)->(! V&&W))/\True)/\((! V&&W)->((! V&&W)->(! V&&W))/\((! V&&W)->(! V&&W))/\True)/\((! V)->((! V)->(! V))/\(W->(! V&&W))/\True)/\(V=false->(! V))/\(bif V then true else bif W then decide (F=b.2.2.2.2.2.2.1)
 else false)=true)))):=by
  delta Qcg0
  rintro cl - -
  refine ⟨by omega,okC_new _ (by omega) cl,by omega,?_⟩
  rintro d lk bs l1 p1 ⟨hc,⟨hpl,A⟩,hbl⟩
  refine ⟨by omega,?_⟩
  rintro s1 s2 s3 s4 s5 s6 e ⟨hp,he⟩
  intro b1 hb1
  (repeat refine ⟨(by first|(simp;done)|(rw [hb1];simp;done)|(cases b1 <;> simp)),?_⟩)
  intro b2 hb2
  (repeat refine ⟨(by first|(simp;done)|(rw [hb2];simp;done)|(cases b2 <;> simp)),?_⟩)
  refine ifP_or (fun _=>rfl) (fun h1 h2 => ?_)
  have h3:nodeV d=0/\e=0:=by
    rw [hb2,hb1] at h1
    by_cases k:nodeV d=0
    · rw [k] at h1;exact ⟨k,by simpa using h1⟩
    · simp [k] at h1
  obtain ⟨hn,he0⟩:=h3
  have hlk:lk ≠ -1:=of_decide_eq_false h2
  have hmem:lk∈pLinks d:=hpl.resolve_left hlk
  have he0:readE bs=0:=he.symm.trans he0
  obtain ⟨g,hb⟩:=read_build2 he0
  rw [← hp] at g hb
  have N:=nodeV_ok hn
  have st:=start_ok N
  have n32:=N.n32
  have hps:((List.replicate (nPorts d).length (0:Int)).length:Int)<=1000000:=by rw [List.length_replicate];omega
  refine ⟨st.okl,by omega,st.srt,st.okl,hps,by omega,?_⟩
  rintro a1 a2 a3 a4 a5 a6 o1 o2 why ⟨q1,q2,q3⟩
  have q1:(a1,a2,a3,(a4,a5),a6)=(handleV d (startV d) lk 0 bs).1:=q1
  have q2:(o1,o2)=(handleV d (startV d) lk 0 bs).2.1:=q2
  have q3:why=(handleV d (startV d) lk 0 bs).2.2:=q3
  have T:=handleV_tok d (startV d) lk 0 bs
  rw [← q1,← q3] at T
  obtain ⟨-,T2,T3⟩:=T
  have T2:a3.length=(nPorts d).length:=by
    have:a3.length=(List.replicate (nPorts d).length (0:Int)).length:=T2
    rw [this,List.length_replicate]
  refine ifP_split (fun k => ?_) (fun k => ?_)
  · have k:why≠2:=by simpa using k
    have z:a2=0:=by
      rcases T3 with ⟨-,q,-⟩|⟨q,-⟩
      · exact q
      · exact absurd q k
    have z2:(decide (why=0) == decide (0<(o2.length:Int)))=true:=by
      by_cases w0:why=0
      · have:=fwd_data g hlk (s:=startV d) (t:=0) (by rw [hb,← q3];exact w0)
        rw [hb,← q2] at this
        have t0:0<o2.length:=this
        simp [w0,t0]
      · have:=handleV_out (x:=d) (s:=startV d) (lk:=lk) (t:=0) (b:=bs) (by rw [← q3];exact k) (by rw [← q3];exact w0)
        rw [← q2] at this
        have:o2=[]:=congrArg Prod.snd this
        simp [w0,this]
    intro b3 hb3
    (repeat refine ⟨(by first|(simp;done)|(rw [hb3];simp;done)|(cases b3 <;> simp)),?_⟩)
    rw [hb3,z,z2];rfl
  have k:why=2:=by simpa using k
  have z:a2=1:=by
    rcases T3 with ⟨q,-⟩|⟨-,q,-⟩
    · exact absurd k q
    · exact q.trans (by show IntKind.wrap .i64 (0+1)=1;decide)
  obtain ⟨⟨c1,c2,c3,c4,c5,c6⟩,W⟩:=sends N A g hmem (by rw [hb,← q3];exact k)
  rw [hb] at W
  have I:=W.is
  have wl:c4=nFirst d:=W.left
  have wq:c6=0∨c6=s6:=W.quoted
  have wo:=W.out
  have we:c2=1->nSource d=1->c1=((nPorts d).getD (portL d lk).toNat default).1:=W.exc
  have ww:ownsA d c1=true∨(nSource d=4/\c1=nFixed d):=W.own
  have wc:=W.cnt
  rw [← q2] at I wo
  rw [← q1] at wc
  have wo:0<=portL d o1:=wo
  have wd:a3.getD (portL d lk).toNat default=1:=wc
  have I2:readA o2=(noT (s1,s2,s3,s4,s5,s6) 0,(c1,c2,c3,c4,c5,c6)):=I.rd
  have I3:readAE o2=0:=I.re
  have I4:o2.length<=1500:=I.len
  have hi:=portL_has hmem
  have hi3:portL d lk<(d.1.length:Int):=(findP_mem hi).1
  have hi2:portL d lk<(a3.length:Int):=by rw [T2];exact hi3
  clear T2 T3 q1 q2 q3 W I hpl hmem hp he hb h1 h2 hb1 hb2 hps
  refine ⟨by omega,?_⟩
  rintro x20 x21 x22 x23 x24 x25 x26 x27 x28 x29 x30 x31 x32 ⟨e1,e2,e3⟩
  rw [I2] at e1 e2
  rw [I3] at e3
  simp only [noT,Prod.mk.injEq] at e1 e2
  obtain ⟨rfl,rfl,rfl,rfl,rfl,rfl⟩:=e1
  obtain ⟨rfl,rfl,rfl,rfl,rfl,rfl⟩:=e2
  subst e3 z
  have wl2:d.2.2.2.2.2.2.2.2.2.2.2.2.2.1=x29:=wl.symm
  intro b3 hb3
  have f3:b3=false:=by rw [hb3];rfl
  subst f3;clear hb3
  (repeat refine ⟨(by first|(simp;done)|(simp [hi,hi2,hi3];done)|(intros;simp_all;done)),?_⟩)
  intro b4 hb4
  have f4:b4=false:=by rw [hb4];simp
  subst f4;clear hb4
  (repeat refine ⟨(by first|(simp;done)|(simp [hi,hi2,hi3];done)|(intros;simp_all;done)),?_⟩)
  intro b5 hb5
  have f5:b5=false:=by rw [hb5,wl2];simp
  subst f5;clear hb5
  (repeat refine ⟨(by first|(simp;done)|(simp [hi,hi2,hi3];done)|(intros;simp_all;done)),?_⟩)
  intro b6 hb6
  (repeat refine ⟨(by first|(simp;done)|(cases b6 <;> simp)),?_⟩)
  intro b7 hb7
  have f7:b7=false:=by
    rw [hb7,hb6]
    rcases wq with q|q <;> rw [q] <;> simp
  subst f7;clear hb7
  (repeat refine ⟨(by first|(simp;done)|(simp [hi,hi2,hi3];done)|(intros;simp_all;done)),?_⟩)
  intro b8 hb8
  have f8:b8=false:=by rw [hb8];simp
  subst f8;clear hb8
  (repeat refine ⟨(by first|(simp;done)|(simp [hi,hi2,hi3];done)|(intros;simp_all;done)),?_⟩)
  intro b9 hb9
  have f9:b9=false:=by rw [hb9,wd];simp
  subst f9;clear hb9
  (repeat refine ⟨(by first|(simp;done)|(simp [hi,hi2,hi3];done)|(intros;simp_all;done)),?_⟩)
  refine ifP_split (fun k => ?_) (fun _ => ?_)
  · exfalso
    have k:=of_decide_eq_true k
    omega
  intro b10 hb10
  (repeat refine ⟨(by first|(simp;done)|(cases b10 <;> simp)),?_⟩)
  intro b11 hb11
  (repeat refine ⟨(by first|(simp;done)|(simp [hi,hi2,hi3];done)|(cases b11 <;> simp [hi,hi3] <;> done)),?_⟩)
  refine ifP_split (fun k => ?_) (fun _ => ?_)
  · exfalso
    rw [hb11,hb10] at k
    by_cases m1:x27=1
    · by_cases m2:nSource d=1
      · have m3:=we m1 m2
        have m4:x26=(d.1.getD (portL d lk).toNat default).1:=m3
        rw [← m4] at k;simp at k
      · have m2:¬ d.2.2.2.2.2.1=1:=m2
        simp [m2] at k
    · simp [m1] at k
  intro b12 hb12
  (repeat refine ⟨(by first|(simp;done)|(cases b12 <;> simp)),?_⟩)
  intro b13 hb13
  (repeat refine ⟨(by first|(simp;done)|(cases b12 <;> cases b13 <;> simp)),?_⟩)
  rw [hb12,hb13]
  rcases ww with q|⟨q,q'⟩
  · rw [q];rfl
  · have q:d.2.2.2.2.2.1=4:=q
    have q':x26=d.2.2.2.2.2.2.1:=q'
    rw [q,q']
    cases ownsA d d.2.2.2.2.2.2.1 <;> simp
theorem ok_law13_NodeAnswers:SpecOK Tryz.prog GL 8 ct_law13_NodeAnswers.spec:=Ct.okH _ Tryz.func8 (by kernel_rfl) (withSpec_ok (withSpec_ok (withSpec_ok (withSpec_ok (withSpec_ok (withSpec_ok (withSpec_ok (withSpec_ok (withSpec_ok (withSpec_ok noSpecs_ok ok_law13_awake) ok_draw_New) ok_law13_place) (Ct.named ok_ref07_Read)) ok_ref13_Check) ok_node_Start) (Ct.named ok_node_Handle)) (Ct.named ok_reply_Read)) ok_node_PortOf) ok_node_Owns) hmix an_law13_NodeAnswers (hideMp (by kernel_rfl) vc_law13_NodeAnswers)
end Go.RS
