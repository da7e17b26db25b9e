/- Drawn: what holds of drawn networks: their nodes, links, routes and changes. -/
import Derived.Test.YtfgcoeablgoccaaGreatDoorNetg
import Derived.Test.YtfgcoeablgoccaaGreatDoorNetdraw
import Derived.Test.YtfgcoeablgoccaaGreatDoorNodek
namespace Go.RS
open Go.SX Go.Proofs
set_option maxRecDepth 100000
set_option linter.unusedVariables false
structure NP (i:Int) (x:Node):Prop where
  own:nOwner x=1+i/3
  loop:nLoop x=0∨nLoop x=167903232+i
  src:(nSource x=1∨nSource x=2)∨(nSource x=3/\nLoop x=167903232+i)∨(nSource x=4/\167837696<=nFixed x)
  fix:nFixed x=0∨(167837696<=nFixed x/\nFixed x<167837736)
  id:(0<=nID x/\nID x<=5)/\(0<=nBase x/\nBase x<=65535)/\0<=nSpeed x/\nSpeed x<=1000000
  lim:nLimit x=(0,0)∨(1<=(nLimit x).1/\(nLimit x).1<=3/\1<=(nLimit x).2/\(nLimit x).2<=200)
  first:nFirst x=64∨nFirst x=255∨nFirst x=128
  seed:0<=nSeed x/\nSeed x<=255
theorem NP.new {i:Int} {host:Bool} {f sd:Int} (hf:f=64∨f=255∨f=128) (h0:0<=sd) (h1:sd<=255):NP i (newNode i host f sd) :=
  ⟨rfl,.inl rfl,.inl (.inl rfl),.inl rfl,⟨⟨by show (0:Int)<=0;decide,by show (0:Int)<=5;decide⟩,⟨by show (0:Int)<=0;decide,by show (0:Int)<=65535;decide⟩,by show (0:Int)<=0;decide,by show (0:Int)<=1000000;decide⟩,.inl rfl,hf,h0,h1⟩
theorem NP.same {i:Int} {x y:Node} (h:NP i x) (e:x.2=y.2):NP i y:=by
  obtain ⟨p,x⟩:=x
  obtain ⟨q,y⟩:=y
  cases e
  exact ⟨h.own,h.loop,h.src,h.fix,h.id,h.lim,h.first,h.seed⟩
theorem NP.routes {i:Int} {x y:Node} (h:NP i x) (e:setRoutes x []=setRoutes y []):NP i y:=by
  have k:NP i (setRoutes x []):=⟨h.own,h.loop,h.src,h.fix,h.id,h.lim,h.first,h.seed⟩
  rw [e] at k
  exact ⟨k.own,k.loop,k.src,k.fix,k.id,k.lim,k.first,k.seed⟩
theorem NP.way {i:Int} {x:Node} (h:NP i x) {c:Codes} (hc:okB c):NP i (odWay x i c).1:=by
  have a:=nextV_lt hc (n:=10) (by omega)
  have ca:=(nextV_ok hc 10).1
  have b:=nextV_lt ca (n:=3) (by omega)
  have cb:=(nextV_ok ca 3).1
  have e:=nextV_lt cb (n:=200) (by omega)
  have f:=nextV_lt ca (n:=40) (by omega)
  unfold odWay
  dsimp only
  split
  · exact ⟨h.own,h.loop,h.src,h.fix,h.id,h.lim,h.first,h.seed⟩
  split
  · refine ⟨h.own,h.loop,h.src,h.fix,h.id,.inr ?_,h.first,h.seed⟩
    show 1<=1+_/\1+_<=(3:Int)/\1<=1+_/\1+_<=(200:Int)
    omega
  split
  · exact ⟨h.own,h.loop,h.src,h.fix,h.id,h.lim,h.first,h.seed⟩
  split
  · exact ⟨h.own,h.loop,.inl (.inr rfl),h.fix,h.id,h.lim,h.first,h.seed⟩
  split
  · exact ⟨h.own,.inr rfl,.inr (.inl ⟨rfl,rfl⟩),h.fix,h.id,h.lim,h.first,h.seed⟩
  split
  · refine ⟨h.own,h.loop,.inr (.inr ⟨rfl,?_⟩),.inr ⟨?_,?_⟩,h.id,h.lim,h.first,h.seed⟩
    · show 167837696<=167837696+_
      omega
    · show 167837696<=167837696+_
      omega
    · show 167837696+_<167837736
      omega
  · exact h
theorem NP.od {i:Int} {x:Node} (h:NP i x) {c:Codes} (hc:okB c):NP i (odNode x i c).1:=by
  have k:=h.way hc
  have kc:=odWay_ok (x:=x) (i:=i) hc
  have a:=nextV_lt kc (n:=6) (by omega)
  have ca:=(nextV_ok kc 6).1
  have b:=nextV_lt ca (n:=65536) (by omega)
  have cb:=(nextV_ok ca 65536).1
  have e:=nextV_lt cb (n:=1000) (by omega)
  refine ⟨k.own,k.loop,k.src,k.fix,?_,k.lim,k.first,k.seed⟩
  show (0<=(nextV (odWay x i c).2 6).1/\(nextV (odWay x i c).2 6).1<=5)/\(0<=(nextV (nextV (odWay x i c).2 6).2 65536).1/\(nextV (nextV (odWay x i c).2 6).2 65536).1<=65535)/\0<=(nextV (nextV (nextV (odWay x i c).2 6).2 65536).2 1000).1/\(nextV (nextV (nextV (odWay x i c).2 6).2 65536).2 1000).1<=1000000
  omega
theorem NP.opq {i:Int} {x:Node} (h:NP i x) (b:Bool):NP i (odOpaque x b):=⟨h.own,h.loop,h.src,h.fix,h.id,h.lim,h.first,h.seed⟩
def allNP (ns:List Node):Prop:=∀ i:Nat,i<ns.length->NP i (ns.getD i default)
theorem allNP.set {ns:List Node} (h:allNP ns) {i:Nat} {x:Node} (hx:i<ns.length->NP i x):allNP (ns.set i x):=fun j hj=>by
  rw [List.length_set] at hj
  by_cases e:i=j
  · subst e;rw [getD_set hj];exact hx hj
  · rw [getD_setne e];exact h j hj
structure LK (l0 l:Link):Prop where
  a:lA l=lA l0
  b:lB l=lB l0
  d:lDelay l=lDelay l0
  s:lSeed l=lSeed l0
  j:0<=lJitter l/\lJitter l<=9
  o:0<=lLoss l/\lLoss l<=65536
theorem LK.od {l0 l:Link} (h:LK l0 l) {c:Codes} (hc:okB c):LK l0 (odLink l c).1:=by
  have a:=nextV_lt hc (n:=6) (by omega)
  have ca:=(nextV_ok hc 6).1
  have b:=nextV_lt ca (n:=10) (by omega)
  have e:=nextV_lt ca (n:=3) (by omega)
  unfold odLink
  dsimp only
  split
  · refine ⟨h.a,h.b,h.d,h.s,?_,h.o⟩
    show 0<=(nextV (nextV c 6).2 10).1/\(nextV (nextV c 6).2 10).1<=9
    omega
  split
  · refine ⟨h.a,h.b,h.d,h.s,h.j,?_⟩
    show 0<=([65536,20000,3]:List Int).getD (nextV (nextV c 6).2 3).1.toNat default/\([65536,20000,3]:List Int).getD (nextV (nextV c 6).2 3).1.toNat default<=65536
    rcases (show (nextV (nextV c 6).2 3).1=0∨(nextV (nextV c 6).2 3).1=1∨(nextV (nextV c 6).2 3).1=2 by omega) with e|e|e <;> rw [e] <;> decide
  · exact h
structure allLK (ls0 ls:List Link):Prop where
  n:ls.length=ls0.length
  k:∀ i:Nat,i<ls0.length->LK (ls0.getD i default) (ls.getD i default)
theorem allLK.set {ls0 ls:List Link} (h:allLK ls0 ls) {i:Nat} {x:Link} (hx:i<ls0.length->LK (ls0.getD i default) x):allLK ls0 (ls.set i x):=by
  refine ⟨by rw [List.length_set];exact h.n,fun j hj => ?_⟩
  by_cases e:i=j
  · subst e;rw [getD_set (by rw [h.n];exact hj)];exact hx hj
  · rw [getD_setne e];exact h.k j hj
theorem allLK.mem {ls0 ls:List Link} (h:allLK ls0 ls) {l:Link} (hl:l∈ls):∃ l0∈ls0,LK l0 l:=by
  obtain ⟨i,hi,e⟩:=List.mem_iff_getElem.1 hl
  have:=h.k i (by rw [← h.n];exact hi)
  rw [List.getD_eq_getElem?_getD (l:=ls),List.getElem?_eq_getElem hi,e] at this
  exact ⟨_,getD_memN (by rw [← h.n];exact hi),this⟩
theorem allLK.lnk {ls0 ls:List Link} (h:allLK ls0 ls) {i k:Int} (hk:lnk ls0 i k):lnk ls i k:=by
  obtain ⟨k0,k1,k2⟩:=hk
  have e:=h.k k.toNat (by omega)
  exact ⟨k0,by rw [h.n];exact k1,by rw [e.a,e.b];exact k2⟩
theorem portsF_congr (i:Int):∀ (k:Nat) (ls ls':List Link),ls'.length=ls.length->(∀ j:Nat,j<ls.length->lA (ls'.getD j default)=lA (ls.getD j default)/\lB (ls'.getD j default)=lB (ls.getD j default))->portsF i k ls'=portsF i k ls
  | k,[],[],_,_=>rfl
  | k,x::r,[],h,_=>by cases h
  | k,[],x::r,h,_=>by cases h
  | k,x::r,y::t,h,e=>by
    have e0:=e 0 (by simp)
    rw [List.getD_cons_zero,List.getD_cons_zero] at e0
    rw [portsF,portsF,port1,port1,e0.1,e0.2,portsF_congr i (k+1) r t (by simpa using h) fun j hj=>by
      have:=e (j+1) (by simp;omega)
      rw [List.getD_cons_succ,List.getD_cons_succ] at this;exact this]
theorem allLK.portsF {ls0 ls:List Link} (h:allLK ls0 ls) (i:Int) (k:Nat):portsF i k ls=Go.RS.portsF i k ls0 :=
  portsF_congr i k ls0 ls h.n fun j hj=>⟨(h.k j hj).a,(h.k j hj).b⟩
theorem tabOK.lk {ls0 ls:List Link} (h:allLK ls0 ls) {aa:List Int} {i:Int} {t:List Rt} (k:tabOK ls0 aa i t):tabOK ls aa i t :=
  ⟨k.1,fun r hr=>by
    have q:=k.2 r hr
    exact ⟨q.len,q.mem,q.ne,q.pw,fun x hx=>h.lnk (q.ln x hx),q.w0,q.w1⟩⟩
structure CH (ns:List Node) (c:Change):Prop where
  at':0<=hAt c/\hAt c<=180
  w:0<=hWho c/\hWho c<ns.length
  r:hRem c=false
  p:∃ r∈nRoutes (ns.getD (hWho c).toNat default),(hRoute c).1=r.1/\(hRoute c).2.2=r.2.2
  x:(hRoute c).2.1=[]∨∃ q∈nPorts (ns.getD (hWho c).toNat default),(hRoute c).2.1=[q.2]
def aaF:List Int:=(List.range 10).flatMap fun (k:Nat)=>[baseA k+1,baseA k+2]
theorem mem_aaF {a:Int} {k:Nat} (hk:k<10) (h:a=baseA k+1∨a=baseA k+2):a∈aaF:=by
  refine List.mem_flatMap.2 ⟨k,List.mem_range.2 hk,?_⟩
  rcases h with h|h <;> rw [h] <;> simp
theorem tabOK.sub {ls:List Link} {aa bb:List Int} {i:Int} {t:List Rt} (h:tabOK ls aa i t) (hs:∀ a∈aa,a∈bb):tabOK ls bb i t :=
  ⟨h.1,fun r hr=>by
    have q:=h.2 r hr
    exact ⟨q.len,hs _ q.mem,q.ne,q.pw,q.ln,q.w0,q.w1⟩⟩
structure DN (n:Net):Prop where
  n3:3<=n.1.length
  n7:n.1.length<=7
  l2:2<=n.2.1.length
  l10:n.2.1.length<=10
  h3:n.2.2.length<=3
  g:∀ x∈n.2.1,(0<=lA x/\lA x<n.1.length)/\(0<=lB x/\lB x<n.1.length)/\lA x≠lB x/\(1<=lDelay x/\lDelay x<=20)/\(0<=lJitter x/\lJitter x<=9)/\(0<=lLoss x/\lLoss x<=65536)/\0<=lSeed x/\lSeed x<=255
  p:∀ i:Nat,i<n.1.length->nPorts (n.1.getD i default)=portsF i 0 n.2.1
  d:allNP n.1
  t:∀ i:Nat,i<n.1.length->tabOK n.2.1 aaF i (nRoutes (n.1.getD i default))
  o:∀ x∈n.2.1,deafL n.1 x=false
  c:∀ x∈n.2.2,CH n.1 x
  s:n.2.2.Pairwise fun a b=>hAt a<=hAt b
theorem oN_np {s:Scene} (h:allNP s.1.1) (hc:okB s.2):∀ {i:Nat},i<=s.1.1.length->allNP (oN s i).1
  | 0,_=>h
  | i+1,hi=>by
    have k:=oN_np h hc (i:=i) (by omega)
    have b:=(oN_ok s hc (i:=i) (by omega)).2
    rw [show ((i+1:Nat):Int)=(i:Int)+1 by omega,oN_next s (by omega)]
    unfold odNodes
    refine k.set fun hl => ?_
    have e:((i:Int).toNat:Nat)=i:=by omega
    rw [e] at hl ⊢
    exact (k i hl).od b
theorem clear_np {ns:List Node} (h:allNP ns) {l:Link} (hl:0<=lB l):allNP (odClear ns l):=by
  unfold odClear
  split
  · exact h.set fun hi=>(h _ hi).opq _
  · exact h
theorem clear_deaf {ns:List Node} {l:Link} (hb:0<=lB l/\lB l<ns.length):deafL (odClear ns l) l=false:=by
  unfold odClear
  split
  · unfold deafL
    rw [getD_set (by omega)]
    exact Bool.and_false _
  · rename_i h
    unfold deafL
    cases h1:nOpaque (ns.getD (lA l).toNat default) <;> cases h2:nOpaque (ns.getD (lB l).toNat default) <;> simp_all
theorem clear_keep {ns:List Node} {l m:Link} (h:deafL ns m=false):deafL (odClear ns l) m=false:=by
  unfold odClear
  split
  · have set_op:∀ (i j:Nat),nOpaque (ns.getD j default)=false->nOpaque ((ns.set i (odOpaque (ns.getD i default) false)).getD j default)=false:=fun i j hj=>by
      by_cases e:i=j
      · subst e
        by_cases hl:i<ns.length
        · rw [getD_set hl];rfl
        · rw [List.set_eq_of_length_le (by omega)];exact hj
      · rw [getD_setne e];exact hj
    unfold deafL at h ⊢
    rw [Bool.and_eq_false_iff] at h ⊢
    exact h.imp (set_op _ _) (set_op _ _)
  · exact h
theorem deafL_lk {ns:List Node} {l m:Link} (ha:lA l=lA m) (hb:lB l=lB m):deafL ns l=deafL ns m:=by unfold deafL;rw [ha,hb]
structure OLI (s:Scene) (i:Nat):Prop where
  np:allNP (oL s i).1.1
  lk:allLK s.1.2.1 (oL s i).1.2
  df:∀ k:Nat,k<i->deafL (oL s i).1.1 (s.1.2.1.getD k default)=false
theorem oL_inv {s:Scene} (h:allNP s.1.1) (hc:okB s.2) (hg:goodEnds s.1.1.length s.1.2.1) (hl:allLK s.1.2.1 s.1.2.1):∀ {i:Nat},i<=s.1.2.1.length->OLI s i
  | 0,_=>⟨oN_np h hc (Nat.le_refl _),hl,fun k hk=>by omega⟩
  | i+1,hi=>by
    have k:=oL_inv h hc hg hl (i:=i) (by omega)
    obtain ⟨ag,cb,ge,ll⟩:=oL_ok s hc hg (i:=i) (by omega)
    have hb:=hg.at' (k:=i) (by omega)
    have e:((i:Int).toNat:Nat)=i:=by omega
    have lk1:=(k.lk.k i (by omega)).od cb
    have hn:=ag.n
    have step:oL s ((i+1:Nat):Int)=odLinks (oL s i) i:=by
      rw [show ((i+1:Nat):Int)=(i:Int)+1 by omega,oL_next s (by omega),e]
    have fin:OLI s (i+1):=by
      refine ⟨?_,?_,fun j hj => ?_⟩
      · rw [step];unfold odLinks;dsimp only
        refine clear_np k.np ?_
        rw [lk1.b];exact hb.2.1
      · rw [step];unfold odLinks;dsimp only
        exact k.lk.set fun _=>lk1
      · rw [step];unfold odLinks;dsimp only
        by_cases q:j=i
        · subst q
          rw [← deafL_lk (l:=(odLink ((oL s j).1.2.getD j default) (oL s j).2).1) lk1.a lk1.b]
          refine clear_deaf ?_
          rw [lk1.b,hn];exact hb.2
        · exact clear_keep (k.df j (by omega))
    exact fin
structure OCI (ns:List Node) (m:Nat) (x:List Change×Int×Codes):Prop where
  c:okB x.2.2
  a:0<=x.2.1/\x.2.1<=60*m
  n:x.1.length<=m
  h:∀ y∈x.1,CH ns y/\hAt y<=x.2.1
  s:x.1.Pairwise fun a b=>hAt a<=hAt b
theorem OCI.next {ns:List Node} {m:Nat} {x:List Change×Int×Codes} (h:OCI ns m x) (hm:m<3) (h0:0<ns.length) (hp:∀ x∈ns,nRoutes x≠[]->0<(nPorts x).length):OCI ns (m+1) (odChange ns x):=by
  have a:=nextV_lt h.c (n:=60) (by omega)
  have k1:=(nextV_ok h.c 60).1
  have w:=nextV_lt k1 (n:=(ns.length:Int)) (by omega)
  have k2:=(nextV_ok k1 (ns.length:Int)).1
  have ha:=h.a
  have hn:=h.n
  unfold odChange
  dsimp only
  have hX:=getD_mem (xs:=ns) w.1 w.2
  generalize eX:ns.getD (nextV (nextV x.2.2 60).2 (ns.length:Int)).1.toNat default=X at hX ⊢
  split
  · refine ⟨k2,?_,?_,fun y hy=>⟨(h.h y hy).1,?_⟩,h.s⟩
    · show 0<=x.2.1+_/\x.2.1+_<=60*((m+1:Nat):Int)
      omega
    · show x.1.length<=m+1
      omega
    · have:=(h.h y hy).2
      show hAt y<=x.2.1+_
      omega
  · rename_i hr
    have hr':nRoutes X≠[]:=fun e=>hr (by rw [e];rfl)
    have q3:=nextV_lt k2 (n:=((nRoutes X).length:Int)) (by omega)
    have b3:=(nextV_ok k2 ((nRoutes X).length:Int)).1
    have hpp:=hp X hX hr'
    have q4:=nextV_lt b3 (n:=((nPorts X).length:Int)) (by omega)
    have b4:=(nextV_ok b3 ((nPorts X).length:Int)).1
    have b5:=(nextV_ok b4 4).1
    refine ⟨b5,?_,?_,fun y hy => ?_,?_⟩
    · show 0<=x.2.1+_/\x.2.1+_<=60*((m+1:Nat):Int)
      omega
    · show (x.1++[_]).length<=m+1
      rw [List.length_append,List.length_singleton];omega
    · rcases List.mem_append.1 hy with hy|hy
      · refine ⟨(h.h y hy).1,?_⟩
        have:=(h.h y hy).2
        show hAt y<=x.2.1+_
        omega
      · rw [List.mem_singleton.1 hy]
        refine ⟨⟨?_,w,rfl,?_,?_⟩,Int.le_refl _⟩
        · show 0<=x.2.1+_/\x.2.1+_<=180
          omega
        · refine ⟨(nRoutes X).getD (nextV (nextV (nextV x.2.2 60).2 (ns.length:Int)).2 ((nRoutes X).length:Int)).1.toNat default,?_,rfl,rfl⟩
          show _∈nRoutes (ns.getD (nextV (nextV x.2.2 60).2 (ns.length:Int)).1.toNat default)
          rw [eX]
          exact getD_mem q3.1 q3.2
        · by_cases hz:(nextV (nextV (nextV (nextV (nextV x.2.2 60).2 (ns.length:Int)).2 ((nRoutes X).length:Int)).2 ((nPorts X).length:Int)).2 4).1=3
          · exact .inl (if_pos hz)
          · refine .inr ⟨(nPorts X).getD (nextV (nextV (nextV (nextV x.2.2 60).2 (ns.length:Int)).2 ((nRoutes X).length:Int)).2 ((nPorts X).length:Int)).1.toNat default,?_,if_neg hz⟩
            show _∈nPorts (ns.getD (nextV (nextV x.2.2 60).2 (ns.length:Int)).1.toNat default)
            rw [eX]
            exact getD_mem q4.1 q4.2
    · refine List.pairwise_append.2 ⟨h.s,List.pairwise_singleton _ _,fun y hy z hz => ?_⟩
      have:=(h.h y hy).2
      rw [List.mem_singleton.1 hz]
      show hAt y<=x.2.1+_
      omega
theorem getD_of_mem {α:Type} [Inhabited α] {l:List α} {x:α} (h:x∈l):∃ i:Nat,i<l.length/\l.getD i default=x:=by
  obtain ⟨i,hi,e⟩:=List.mem_iff_getElem.1 h
  exact ⟨i,hi,by rw [List.getD_eq_getElem?_getD,List.getElem?_eq_getElem hi,e];rfl⟩
theorem RS.np {s r:Scene} {nn nl:Nat} (h:RS s nn nl r):allNP r.1.1:=fun i hi=>by
  have hi':i<nn:=by have:=h.i.n;have:=h.g.n;omega
  obtain ⟨host,f,sd,hd,hf,h0,h1⟩:=h.g.d i hi'
  have e:=h.i.e i (by rw [h.g.n];exact hi')
  exact NP.routes (NP.same (NP.new (host:=host) hf h0 h1) hd.symm) e.symm
theorem RS.opq {s r:Scene} {nn nl:Nat} (h:RS s nn nl r) {i:Nat} (hi:i<nn):nOpaque (r.1.1.getD i default)=false:=by
  obtain ⟨host,f,sd,hd,-⟩:=h.g.d i hi
  have e:=congrArg nOpaque (h.i.e i (by rw [h.g.n];exact hi))
  have e2:nOpaque (s.1.1.getD i default)=nOpaque (newNode i host f sd):=congrArg (fun z=>nOpaque (([]:List (Int×Int)),z)) hd
  exact e.trans e2
theorem RS.adr {s r:Scene} {nn nl:Nat} (h:RS s nn nl r) (hl:nl<=10):∀ a∈allA s.1.1,a∈aaF:=fun a ha=>by
  unfold allA at ha
  obtain ⟨x,hx,ha⟩:=List.mem_flatMap.1 ha
  obtain ⟨q,hq,rfl⟩:=List.mem_map.1 ha
  obtain ⟨i,hi,rfl⟩:=getD_of_mem hx
  rw [h.g.p i (by rw [← h.g.n];exact hi)] at hq
  obtain ⟨j,hj,e⟩:=mem_portsF.1 hq
  rw [h.g.l] at hj
  rw [Nat.zero_add] at e
  rcases e with ⟨-,rfl⟩|⟨-,rfl⟩
  · exact mem_aaF (k:=j) (by omega) (.inl rfl)
  · exact mem_aaF (k:=j) (by omega) (.inr rfl)
theorem RS.links {s r:Scene} {nn nl:Nat} (h:RS s nn nl r):r.1.2.1=s.1.2.1:=congrArg Prod.fst h.l
theorem RS.lk {s r:Scene} {nn nl:Nat} (h:RS s nn nl r):allLK r.1.2.1 r.1.2.1:=⟨rfl,fun i hi=>by
  rw [h.links] at hi ⊢
  have:=h.g.g _ (getD_memN hi)
  exact ⟨rfl,rfl,rfl,rfl,by omega,by omega⟩⟩
theorem RS.dn {s r:Scene} {nn nl:Nat} (h:RS s nn nl r) (n3:3<=nn) (n7:nn<=7) (l2:2<=nl) (l10:nl<=10):DN r.1:=by
  have rn:r.1.1.length=nn:=h.i.n.trans h.g.n
  have rl:=h.links
  have rh:r.1.2.2=[]:=(congrArg Prod.snd h.l).trans h.g.h
  refine ⟨by omega,by omega,by rw [rl,h.g.l];exact l2,by rw [rl,h.g.l];exact l10,by rw [rh];exact Nat.zero_le _,fun x hx => ?_,fun i hi => ?_,h.np,fun i hi => ?_,fun x hx => ?_,fun x hx => ?_,?_⟩
  · rw [rl] at hx
    have:=h.g.g x hx
    rw [rn];omega
  · rw [rl];exact h.ports (by omega)
  · rw [rl];exact (h.tab (by omega)).sub (h.adr l10)
  · rw [rl] at hx
    have g:=h.g.g x hx
    unfold deafL
    rw [h.opq (i:=(lA x).toNat) (by omega)];rfl
  · rw [rh] at hx;cases hx
  · rw [rh];exact List.Pairwise.nil
theorem oC_inv {s:Scene} (h:okB s.2) (hg:goodEnds s.1.1.length s.1.2.1) (h0:0<s.1.1.length) (hp:∀ x∈(oL s s.1.2.1.length).1.1,nRoutes x≠[]->0<(nPorts x).length):∀ i:Nat,i<=3->OCI (oL s s.1.2.1.length).1.1 i (oC s i)
  | 0,_=>⟨(nextV_ok (oL_ok s h hg (Int.le_refl _)).2.1 4).1,⟨Int.le_refl _,Int.le_refl _⟩,Nat.le_refl _,fun y hy=>(by cases hy),List.Pairwise.nil⟩
  | i+1,hi=>by
    rw [oC_next]
    exact (oC_inv h hg h0 hp i (by omega)).next (by omega) (by rw [(oL_ok s h hg (Int.le_refl _)).1.n];exact h0) hp
theorem RS.odd {s r:Scene} {nn nl:Nat} (h:RS s nn nl r) (n3:3<=nn) (n7:nn<=7) (l2:2<=nl) (l10:nl<=10):DN (oddS r).1:=by
  have rn:r.1.1.length=nn:=h.i.n.trans h.g.n
  have rl:=h.links
  have pre:=h.preO (by omega) (by omega) (by omega)
  have ok:=oL_ok r h.c pre.g (i:=r.1.2.1.length) (Int.le_refl _)
  have inv:=oL_inv h.np h.c pre.g h.lk (i:=r.1.2.1.length) (Nat.le_refl _)
  have ag:=ok.1
  have e:(oddS r).1=((oL r r.1.2.1.length).1.1,(oL r r.1.2.1.length).1.2,(oC r (oK r).toNat).1):=by
    unfold oddS oC oK oL oN
    rfl
  have kk:=nextV_lt ok.2.1 (n:=4) (by omega)
  have hp:∀ x∈(oL r r.1.2.1.length).1.1,nRoutes x≠[]->0<(nPorts x).length:=fun x hx hr=>by
    obtain ⟨i,hi,rfl⟩:=getD_of_mem hx
    have q:=ag.e i (by rw [← ag.n];exact hi)
    rw [q.1]
    rw [q.2] at hr
    exact (pre.p _ (getD_memN (by rw [← ag.n];exact hi)) hr).1
  have oc:=oC_inv h.c pre.g pre.n0 hp (oK r).toNat (by unfold oK;omega)
  rw [e]
  have ln:(oL r r.1.2.1.length).1.1.length=nn:=ag.n.trans rn
  have ll:(oL r r.1.2.1.length).1.2.length=nl:=by rw [inv.lk.n,rl,h.g.l]
  refine ⟨by rw [ln];exact n3,by rw [ln];exact n7,by rw [ll];exact l2,by rw [ll];exact l10,?_,fun x hx => ?_,fun i hi => ?_,inv.np,fun i hi => ?_,fun x hx => ?_,fun x hx=>(oc.h x hx).1,oc.s⟩
  · have:=oc.n
    have:(oK r).toNat<=3:=by unfold oK;omega
    dsimp only
    omega
  · obtain ⟨l0,hl0,k⟩:=inv.lk.mem hx
    rw [rl] at hl0
    have g:=h.g.g l0 hl0
    have ka:=k.a;have kb:=k.b;have kd:=k.d;have ks:=k.s;have kj:=k.j;have ko:=k.o
    rw [ln,ka,kb,kd,ks]
    omega
  · dsimp only at hi ⊢
    rw [(ag.e i (by omega)).1,h.ports (by omega),inv.lk.portsF,rl]
  · dsimp only at hi ⊢
    rw [(ag.e i (by omega)).2]
    refine tabOK.sub (tabOK.lk inv.lk ?_) (h.adr l10)
    rw [rl]
    exact h.tab (by omega)
  · dsimp only at hx ⊢
    obtain ⟨i,hi,rfl⟩:=getD_of_mem hx
    have hi':i<r.1.2.1.length:=by rw [← inv.lk.n];exact hi
    have k:=inv.lk.k i hi'
    rw [deafL_lk k.a k.b]
    exact inv.df i hi'
theorem net_dn {c:Codes} (h:okB c) (plain:Bool):DN (netV plain c):=by
  have hn:=lineN_ok h
  obtain ⟨m,m2,m10,G⟩:=net_ok h plain
  have R:=G.rs plain
  unfold netV netS
  cases plain with
  | true=>exact R.dn (by omega) (by omega) m2 m10
  | false=>exact R.odd (by omega) (by omega) m2 m10
theorem net_codes {c:Codes} (h:okB c) (plain:Bool):okB (netC plain c):=by
  obtain ⟨m,m2,m10,G⟩:=net_ok h plain
  have R:=G.rs plain
  unfold netC netS
  cases plain with
  | true=>exact R.c
  | false =>
    have hn:=lineN_ok h
    have pre:=R.preO (by omega) (by omega) (by omega)
    exact (oC_ok _ R.c pre.g _).1
end Go.RS

/- Drawn2: drawn networks have no error; who has an address; routes. -/
namespace Go.RS
open Go.SX Go.Proofs
set_option maxRecDepth 100000
set_option linter.unusedVariables false
theorem okB_new {l:List Int} {m:Int} (h:∀ x∈l,0<=x/\x<=255):okB (if (l.length:Int)<=m then l else l.take m.toNat,0):=by
  refine ⟨⟨Int.le_refl _,by dsimp only;omega⟩,fun x hx => ?_⟩
  dsimp only at hx
  split at hx
  · exact h x hx
  · exact h x (List.mem_of_mem_take hx)
theorem DN.port {n:Net} (h:DN n) {i:Nat} (hi:i<n.1.length) {q:Port}:q∈nPorts (n.1.getD i default)↔∃ j:Nat,j<n.2.1.length/\((lA (n.2.1.getD j default)=i/\q=(baseA j+1,(j:Int)))∨(lB (n.2.1.getD j default)=i/\q=(baseA j+2,(j:Int)))):=by
  rw [h.p i hi,mem_portsF];simp only [Nat.zero_add]
theorem DN.links {n:Net} (h:DN n) {i:Nat} (hi:i<n.1.length) {k:Int}:k∈pLinks (n.1.getD i default)↔lnk n.2.1 i k:=by
  unfold pLinks lnk
  rw [List.mem_map]
  constructor
  · rintro ⟨q,hq,rfl⟩
    obtain ⟨j,hj,e⟩:=(h.port hi).1 hq
    rcases e with ⟨e,rfl⟩|⟨e,rfl⟩
    · exact ⟨by dsimp only;omega,by dsimp only;omega,.inl (by simpa using e)⟩
    · exact ⟨by dsimp only;omega,by dsimp only;omega,.inr (by simpa using e)⟩
  · rintro ⟨k0,k1,e⟩
    have ek:((k.toNat:Nat):Int)=k:=by omega
    rcases e with e|e
    · exact ⟨_,(h.port hi).2 ⟨k.toNat,by omega,.inl ⟨e,rfl⟩⟩,ek⟩
    · exact ⟨_,(h.port hi).2 ⟨k.toNat,by omega,.inr ⟨e,rfl⟩⟩,ek⟩
theorem DN.uniq {n:Net} (h:DN n) {i j:Nat} (hi:i<n.1.length) (hj:j<n.1.length) {q p:Port} (hq:q∈nPorts (n.1.getD i default)) (hp:p∈nPorts (n.1.getD j default)) (e:q.1=p.1):i=j/\q.2=p.2:=by
  obtain ⟨a,ha,ea⟩:=(h.port hi).1 hq
  obtain ⟨b,hb,eb⟩:=(h.port hj).1 hp
  unfold baseA at ea eb
  rcases ea with ⟨ea,rfl⟩|⟨ea,rfl⟩ <;> rcases eb with ⟨eb,rfl⟩|⟨eb,rfl⟩ <;> dsimp only at e ⊢
  · have:a=b:=by omega
    subst this;omega
  · omega
  · omega
  · have:a=b:=by omega
    subst this;omega
theorem DN.padr {n:Net} (h:DN n) {i:Nat} (hi:i<n.1.length) {a:Int} (ha:a∈pAddrs (n.1.getD i default)):167837697<=a/\a<=167837734:=by
  obtain ⟨q,hq,rfl⟩:=List.mem_map.1 ha
  obtain ⟨b,hb,eb⟩:=(h.port hi).1 hq
  have:=h.l10
  unfold baseA at eb
  rcases eb with ⟨eb,rfl⟩|⟨eb,rfl⟩ <;> dsimp only <;> omega
theorem DN.loop {n:Net} (h:DN n) {i:Nat} (hi:i<n.1.length):nLoop (n.1.getD i default)=0∨nLoop (n.1.getD i default)=167903232+i:=(h.d i hi).loop
theorem mem_adrs {x:Node} {a:Int}:a∈adrs x↔a∈pAddrs x∨(nLoop x≠0/\a=nLoop x):=by
  unfold adrs
  rw [List.mem_append]
  by_cases e:nLoop x=0
  · rw [if_pos e];simp [e]
  · rw [if_neg e];simp [e]
theorem DN.apart {n:Net} (h:DN n) {i j:Nat} (hi:i<n.1.length) (hj:j<n.1.length) {a:Int} (ha:a∈adrs (n.1.getD i default)) (hb:a∈adrs (n.1.getD j default)):i=j:=by
  rw [mem_adrs] at ha hb
  have li:=h.loop hi
  have lj:=h.loop hj
  rcases ha with ha|ha <;> rcases hb with hb|hb
  · obtain ⟨q,hq,e⟩:=List.mem_map.1 ha
    obtain ⟨p,hp,e2⟩:=List.mem_map.1 hb
    exact (h.uniq hi hj hq hp (e.trans e2.symm)).1
  · have:=h.padr hi ha;omega
  · have:=h.padr hj hb;omega
  · omega
theorem tab20 {ls:List Link} {i:Int} {t:List Rt} (h:tabOK ls aaF i t):t.length<=20:=tabOK_len h
theorem other_a {ls:List Link} {k:Int} (k0:0<=k) (k1:k<ls.length):otherV ls k (lA (ls.getD k.toNat default))=lB (ls.getD k.toNat default):=by
  unfold otherV;rw [if_neg (by omega),if_pos rfl]
theorem other_b {ls:List Link} {k:Int} (k0:0<=k) (k1:k<ls.length) (hn:lA (ls.getD k.toNat default)≠lB (ls.getD k.toNat default)):otherV ls k (lB (ls.getD k.toNat default))=lA (ls.getD k.toNat default):=by
  unfold otherV;rw [if_neg (by omega),if_neg (fun e=>hn e.symm),if_pos rfl]
theorem mem_chV {l:List Rt} {c:Change} {r:Rt} (h:r∈chV l c):r=hRoute c∨r∈l:=by
  unfold chV at h
  split at h
  · exact .inr (List.mem_filter.1 h).1
  · rcases putL_mem.1 h with h|h
    · exact .inl h
    · exact .inr h.1
theorem routes_all {n:Net} {who at':Int} (w0:0<=who) (w1:who<n.1.length) {P:Rt->Prop} (h0:∀ r∈nRoutes (n.1.getD who.toNat default),P r) (hc:∀ c∈n.2.2,hWho c=who->P (hRoute c)):∀ r∈routesV n who at',P r:=by
  unfold routesV routesK
  rw [if_neg (by omega)]
  have e:∀ (l:List Change) (t:List Rt),(∀ c∈l,hWho c=who->P (hRoute c))->(∀ r∈t,P r)→∀ r∈l.foldl (stepC who at') t,P r:=by
    intro l
    induction l with
    | nil=>intro t _ h;exact h
    | cons c l ih =>
      intro t hl ht
      rw [List.foldl_cons]
      refine ih _ (fun x hx=>hl x (List.mem_cons_of_mem _ hx)) fun r hr => ?_
      unfold stepC at hr
      split at hr
      · rename_i q
        rcases mem_chV hr with rfl|hr
        · exact hl c List.mem_cons_self q.1
        · exact ht r hr
      · exact ht r hr
  exact e _ _ (fun c hc'=>hc c (List.mem_of_mem_take hc')) h0
theorem DN.next {n:Net} (h:DN n) {who at':Int} (w0:0<=who) (w1:who<n.1.length):∀ r∈routesV n who at',∀ k∈r.2.1,lnk n.2.1 who k:=by
  have ew:((who.toNat:Nat):Int)=who:=by omega
  refine routes_all w0 w1 (fun r hr k hk => ?_) (fun c hc hw k hk => ?_)
  · have:=((h.t who.toNat (by omega)).2 r hr).ln k hk
    rw [ew] at this;exact this
  · have q:=(h.c c hc).x
    rw [hw] at q
    rcases q with e|⟨q,hq,e⟩
    · rw [e] at hk;cases hk
    · rw [e] at hk
      rw [List.mem_singleton.1 hk]
      have:=(h.links (i:=who.toNat) (by omega)).1 (List.mem_map.2 ⟨q,hq,rfl⟩)
      rw [ew] at this;exact this
theorem DN.other {n:Net} (h:DN n) {who k:Int} (hk:lnk n.2.1 who k):0<=otherV n.2.1 k who/\otherV n.2.1 k who<n.1.length:=by
  obtain ⟨k0,k1,e⟩:=hk
  have g:=h.g _ (getD_mem k0 k1)
  rcases e with e|e
  · rw [← e,other_a k0 k1];exact g.2.1
  · rw [← e,other_b k0 k1 g.2.2.1];exact g.1
end Go.RS

/- Drawn3: each node of a drawn network has a port. -/
namespace Go.RS
open Go.SX Go.Proofs
set_option maxRecDepth 100000
set_option linter.unusedVariables false
def tch (ls:List Link) (i:Int):Prop:=∃ l∈ls,lA l=i∨lB l=i
theorem tch.app {ls:List Link} {i:Int} (h:tch ls i) (m:List Link):tch (ls++m) i:=by
  obtain ⟨l,hl,e⟩:=h
  exact ⟨l,List.mem_append_left _ hl,e⟩
theorem tch.link {s:Scene} {i:Int} (h:tch s.1.2.1 i) (a b:Int):tch (linkS s a b).1.2.1 i:=h.app _
end Go.RS

/- Law12: the laws of buckets. -/
namespace Go.RS
open Go.SX Go.Proofs
set_option maxRecDepth 100000
set_option linter.unusedVariables false
end Go.RS

/- Law13: what a node does with several packets; a packet that is an answer or damaged is never answered. -/
namespace Go.RS
open Go.SX Go.Proofs
set_option maxRecDepth 100000
set_option linter.unusedVariables false
def simpleV:Node:=([(167772161,0),(167837697,1)],0,0,false,[((0,0),[1],1),((167772160,24),[0],1)],1,0,0,0,0,(0,0),false,false,64,0)
def simpleP:Probe:=(167772169,167903232,17,0,0,1)
theorem simple_ok:nodeV simpleV=0:=by decide +kernel
theorem simple_does:(handleV simpleV (startV simpleV) 0 5 (build simpleP)).2.2=2/\(handleV simpleV (startV simpleV) 0 5 (build simpleP)).2.1.1=0/\(handleV simpleV (startV simpleV) 0 5 (build simpleP)).2.1.2.length=56/\sSent (handleV simpleV (startV simpleV) 0 5 (build simpleP)).1=1:=by decide +kernel
def ct_law13_simple:Ct:=⟨[],[.agg cNode],fun _=>[],fun _=>((simpleV,()),())⟩
def an_law13_simple:PDs ct_law13_simple.ps->Anns:=(fun _=>{})
theorem vc_law13_simple :
 True->True->([((167772161:Int),(0:Int)),((167837697:Int),(1:Int))],(0:Int),(0:Int),false,[(((0:Int),(0:Int)),[(1:Int)],(1:Int)),(((167772160:Int),(24:Int)),[(0:Int)],(1:Int))],(1:Int),(0:Int),(0:Int),(0:Int),(0:Int),((0:Int),(0:Int)),false,false,(64:Int),(0:Int))=simpleV:=by
  intro _ _;rfl
theorem ok_law13_simple:SpecOK Tryz.prog GL 30 ct_law13_simple.spec:=Ct.okH _ Tryz.func30 (by kernel_rfl) noSpecs_ok hmix an_law13_simple (hideMp (by kernel_rfl) vc_law13_simple)
def ct_law13_awake:Ct:=⟨[],[.val .bool],fun _=>[],fun _=>((true,()),())⟩
def an_law13_awake:PDs ct_law13_awake.ps->Anns:=(fun _=>{})
def Qch0 :=
 ((167772169:Int),(167903232:Int),(17:Int),(0:Int),(0:Int),(1:Int))
theorem vc_law13_awake :
 True->True-> ∀(a:Node),a=simpleV-> ∀(b:List Int) (c:Int),b=build (Qch0)/\c=probeErr (Qch0)-> ∀(d:Int),d=nodeV a->ifP (! decide (d=0)) (false=true) (okL (nRoutes a)/\((List.length (nPorts a)):Int)<=1000000/\ ∀(e:List Route) (f:Int) (g:List Int) (h i j:Int),(e,f,g,(h,i),j)=startV a->sortedR (sRoutes (e,f,g,(h,i),j))/\okL (sRoutes (e,f,g,(h,i),j))/\((List.length (sPortSent (e,f,g,(h,i),j))):Int)<=1000000/\(b.length:Int)<=1000000/\ ∀(k:List Route) (l:Int) (m:List Int) (n o p q:Int) (r:List Int) (s:Int),(k,l,m,(n,o),p)=(handleV a (e,f,g,(h,i),j) (0:Int) (5:Int) b).1/\(q,r)=(handleV a (e,f,g,(h,i),j) (0:Int) (5:Int) b).2.1/\s=(handleV a (e,f,g,(h,i),j) (0:Int) (5:Int) b).2.2-> ∀(t:Bool),t=decide (s=2)->(t->(t->t)/\True)/\(t->(t->t)/\True)/\(t->t)/\ ∀(u:Bool),(u=bif t then decide (q=0) else false)->(u->(u->u)/\True)/\(u->(u->u)/\True)/\(u->(u->u)/\True)/\(u->u)/\ ∀(v:Bool),(v=bif u then decide
 ((r.length:Int)=56) else false)->(v->(v->v)/\True)/\(v->(v->v)/\True)/\(v->v)/\(bif v then decide (l=1) else false)=true):=by
  delta Qch0
  rintro - - d hd b e ⟨rfl,-⟩ k rfl
  rw [hd]
  refine ifP_split (fun h => ?_) (fun h => ?_)
  · rw [simple_ok] at h;simp at h
  have hst:=start_ok (nodeV_ok simple_ok)
  refine ⟨(check_okL (nodeV_ok simple_ok).rt).2,by decide,?_⟩
  rintro x3 x4 x5 x6 x7 x8 h8
  rw [h8]
  refine ⟨hst.srt,hst.okl,by decide,by have:=build_len simpleP;show ((build simpleP).length:Int)<=1000000;omega,?_⟩
  rintro y1 y2 y3 y4 y5 y6 z1 z2 z3 ⟨q1,q2,q3⟩
  obtain ⟨d1,d2,d3,d4⟩:=simple_does
  have q3:z3=2:=q3.trans d1
  have q2a:z1=0:=(congrArg Prod.fst q2).trans d2
  have q2b:z2.length=56:=(congrArg List.length (congrArg Prod.snd q2)).trans d3
  have q4:y2=1:=(congrArg (fun s:NState=>s.2.1) q1).trans d4
  subst q3 q2a q4
  have q5:(z2.length:Int)=56:=by omega
  intro b1 hb1
  (repeat refine ⟨(by first|(simp;done)|(rw [hb1];simp;done)|(cases b1 <;> simp)),?_⟩)
  intro b2 hb2
  (repeat refine ⟨(by first|(simp;done)|(rw [hb2];simp;done)|(cases b2 <;> simp)),?_⟩)
  intro b3 hb3
  (repeat refine ⟨(by first|(simp;done)|(rw [hb3];simp;done)|(cases b3 <;> simp)),?_⟩)
  rw [hb3,hb2,hb1]
  simp [q5]
theorem ok_law13_awake:SpecOK Tryz.prog GL 9 ct_law13_awake.spec:=Ct.okH _ Tryz.func9 (by kernel_rfl) (withSpec_ok (withSpec_ok (withSpec_ok (withSpec_ok (withSpec_ok noSpecs_ok (Ct.named ok_law13_simple)) (Ct.named ok_ref07_Build)) (Ct.named ok_node_Check)) (Ct.named ok_node_Start)) (Ct.named ok_node_Handle)) hmix an_law13_awake (hideMp (by kernel_rfl) vc_law13_awake)
end Go.RS

/- Oddnet: networks with one field changed. -/
namespace Go.RS
open Go.SX Go.Proofs
set_option maxRecDepth 100000
set_option linter.unusedVariables false
theorem take_stepO {α:Type} [Inhabited α] {l:List α} {k:Int} (h0:0<=k) (h1:k<l.length):l.take (k+1).toNat=l.take k.toNat++[l.getD k.toNat default]:=by
  rw [show (k+1).toNat=k.toNat+1 by omega,List.take_add_one,List.getElem?_eq_getElem (by omega),List.getD_eq_getElem?_getD,List.getElem?_eq_getElem (by omega)];rfl
def nodeB (k:Int) (x:Node):Prop:=(x.1.length:Int)<=k/\(nRoutes x).length<=k∧∀ r∈nRoutes x,(r.2.1.length:Int)<=k
def netB (k:Int) (n:Net):Prop:=(n.1.length:Int)<=k/\(n.2.1.length:Int)<=k/\(n.2.2.length:Int)<=k/\(∀ x∈n.1,nodeB k x)∧∀ c∈n.2.2,(c.2.2.2.2.1.length:Int)<=k
def ct_CopyO:Ct:=⟨[.val (.sl cRt)],[.own 87 cRt],fun d=>[okL d.1],fun d=>((d.1,()),())⟩
def an_CopyO:PDs ct_CopyO.ps->Anns:=(fun d=>{loops:=(fun n=>match n with|3=>some (fun S=>{ι:=Int×(List Rt),qn:=⟨fun k_=>∀ (j:Int) (l:(List Rt)),k_ (j,l),fun k_ h_ i=>h_ i.1 i.2,fun k_=>∃ (j:Int) (l:(List Rt)),k_ (j,l),fun k_ ⟨j,l,h_⟩=>⟨_,h_⟩⟩,μ:=fun i=>(d.1.length-i.1).toNat,inv:=fun i=>0<=i.1/\i.1<=d.1.length/\i.2=d.1.take i.1.toNat,keep:=[0],slots:=fun i=>[(3,.own 524288 4),(4,.int .i64 i.1)],names:=fun i=>[(524288,.live (.row 87 cRt i.2))]})|_=>none)})
def Qci3 :=
 (140737488355328:Nat)
theorem vc_CopyO :
 ∀(a:List Route),(a.length<=maxLen/\ ∀(b:Route),b∈a->((0<=b.1.1/\b.1.1<=4294967295)/\R64 b.1.2)/\(b.2.1.length<=maxLen/\ ∀(c:Int),c∈b.2.1->R64 c)/\R64 b.2.2)/\True->((a.length:Int)<=134217728/\ ∀(b:Rt),b∈a->(b.2.1.length:Int)<=1099511627776)->(∃(b:Int) (c:List Rt),(0<=b/\b<=(a.length:Int)/\c=List.take b.toNat a)/\a=a/\(0:Int)=b/\c=([]:List Route)/\True)/\ ∀(b:Int) (c:List Rt),0<=b/\b<=(a.length:Int)/\c=List.take b.toNat a->ifP (decide (b<(a.length:Int))) (0<=b/\b<(a.length:Int)/\((List.length (a.getD b.toNat default).2.1):Int)<=1099511627776/\(c.length+List.length [a.getD b.toNat default])*(48:Nat)<=(Qci3)/\ ∃(d:Int) (e:List Rt),(0<=d/\d<=(a.length:Int)/\e=List.take d.toNat a)/\Int.toNat ((a.length:Int) -d)<Int.toNat ((a.length:Int) -b)/\a=a/\IntKind.wrap .i64 (b+(1:Int))=d/\c++[a.getD b.toNat default]=e/\True) (c=a):=by
  delta Qci3
  rintro l ⟨⟨hl,-⟩,-⟩ ⟨h1,h2⟩
  simp only [maxLen] at hl
  refine ⟨⟨0,[],⟨by omega,by omega,rfl⟩,(by repeat' first|exact trivial|refine ⟨trivial,?_⟩|refine ⟨(by with_reducible rfl),?_⟩|refine ⟨w64 (by omega) (by omega),?_⟩|refine ⟨rfl,?_⟩)⟩,?_⟩
  rintro j m ⟨j0,j1,rfl⟩
  refine ifP_split (fun hj => ?_) (fun hj => ?_)
  · have hj:=of_decide_eq_true hj
    refine ⟨j0,hj,h2 _ (getD_mem j0 hj),by simp only [List.length_take,List.length_cons,List.length_nil];omega,j+1,_,⟨by omega,by omega,rfl⟩,by omega,?_⟩
    (repeat first|refine ⟨trivial,?_⟩|refine ⟨(by with_reducible rfl),?_⟩|refine ⟨w64 (by omega) (by omega),?_⟩)
    exact ⟨(take_stepO j0 hj).symm,trivial⟩
  · have hj:=of_decide_eq_false hj
    rw [List.take_of_length_le (by omega)]
theorem ok_CopyO:SpecOK Tryz.prog GL 46 ct_CopyO.spec:=Ct.okH _ Tryz.func46 (by kernel_rfl) (withSpec_ok noSpecs_ok ok_ref09_copied) hmix an_CopyO (hideMp (by kernel_rfl) vc_CopyO)
theorem netB_up {k:Int} {n:Net} (h:netB k n):netB (k+1) n:=by
  obtain ⟨h1,h2,h3,h4,h5⟩:=h
  exact ⟨by omega,by omega,by omega,fun x hx=>by obtain ⟨a,b,c⟩:=h4 x hx;exact ⟨by omega,by omega,fun r hr=>by have:=c r hr;omega⟩,fun c hc=>by have:=h5 c hc;omega⟩
theorem set_mem {ns:List Node} {i:Nat} {x' y:Node} (hy:y∈ns.set i x'):y∈ns∨y=x':=List.mem_or_eq_of_mem_set hy
theorem nodeB_same {k:Int} {x y:Node} (h:nodeB k x) (hp:y.1.length<=x.1.length) (hr:nRoutes y=nRoutes x):nodeB (k+1) y:=by
  obtain ⟨a,b,c⟩:=h
  exact ⟨by omega,by rw [hr];omega,fun r hq=>by rw [hr] at hq;have:=c r hq;omega⟩
theorem nb_any {k:Int} {ns:List Node} {ls:List Link} {cs:List Change} (h:netB k (ns,ls,cs)) {ns':List Node} {ls':List Link} {cs':List Change} (h1:ns'.length<=ns.length+1) (h2:ls'.length<=ls.length+1) (h3:cs'.length<=cs.length+1)
    (h4:∀ x∈ns',x∈ns∨nodeB (k+1) x) (h5:∀ c∈cs',c∈cs∨(c.2.2.2.2.1.length:Int)<=k+1):netB (k+1) (ns',ls',cs'):=by
  obtain ⟨a1,a2,a3,a4,a5⟩:=netB_up h
  obtain ⟨b1,b2,b3,-,-⟩:=h
  simp only at b1 b2 b3
  refine ⟨by simp only;omega,by simp only;omega,by simp only;omega,fun x hx=>(h4 x hx).elim (a4 x) id,fun c hc=>(h5 c hc).elim (a5 c) id⟩
theorem nb_set {k:Int} {ns:List Node} {ls:List Link} {cs:List Change} (h:netB k (ns,ls,cs)) {i:Int} (h0:0<=i) (hi:i<ns.length) {x':Node} (hp:x'.1.length<=(ns.getD i.toNat default).1.length) (hr:nRoutes x'=nRoutes (ns.getD i.toNat default))
    {ls':List Link} (hl:ls'.length<=ls.length+1):netB (k+1) (ns.set i.toNat x',ls',cs) :=
  nb_any h (by rw [List.length_set];omega) hl (by omega) (fun y hy=>(set_mem hy).elim .inl fun e => .inr (e▸nodeB_same (h.2.2.2.1 _ (getD_mem h0 hi)) hp hr)) (fun c hc => .inl hc)
theorem set_at {ns:List Node} {i:Int} (h0:0<=i) (hi:i<ns.length) (x':Node):(ns.set i.toNat x').getD i.toNat default=x':=by
  rw [List.getD_eq_getElem?_getD,List.getElem?_set_self (by omega),Option.getD_some]
def ct_draw_Codes_OddNet:Cn:=⟨[.box 96 cCodes,.agg cNet],[.agg cNet],fun d=>[okC d.1,netB 1000 d.2.1],fun d y=>okC y.2.1∧∀ k:Int,1<=k->netB k d.2.1->netB (k+1) y.1.1,fun d h=>⟨((d.2.1,()),(d.1,())),h.1,fun k _ h=>netB_up h⟩⟩
def an_draw_Codes_OddNet:PDs ct_draw_Codes_OddNet.ps->Anns:=(fun _=>{})
def Qci0 (c:List Node) (g:Int) :=
 c.getD g.toNat default
def Qci4 (d:List Link) (j:Int) :=
 d.getD j.toNat default
def Qci1 (d:List Link) (j s:Int) :=
 List.set d j.toNat ((Qci4 d j).1,(Qci4 d j).2.1,s,(Qci4 d j).2.2.2)
def Qci6 (c:List Node) (g:Int) :=
 List.set c g.toNat (Qci0 c g)
def Qci2 (c:List Node) (g:Int) :=
 List.getD (Qci6 c g) g.toNat default
def Qci5 (c:List Node) (d:List Link) (e:List Change) (g:Int) :=
 ∀(s:Int),1<=s->netB s (c,d,e)->netB (s+(1:Int)) (List.set c g.toNat (Qci0 c g),d,e)
theorem vc_draw_Codes_OddNet :
 ∀(a:List Int) (b:Int) (c:List Node) (d:List Link) (e:List Change),((a.length<=maxLen/\ ∀(f:Int),f∈a->0<=f/\f<=255)/\R64 b)/\((c.length<=maxLen/\ ∀(f:Node),f∈c->CT.wf cNode f)/\(d.length<=maxLen/\ ∀(f:Link),f∈d->CT.wf cLink f)/\e.length<=maxLen/\ ∀(f:Change),f∈e->CT.wf cChange f)/\True->(okC (a,b)/\(c.length:Int)<=1000/\(d.length:Int)<=1000/\(e.length:Int)<=1000/\(∀(f:Node),f∈c->nodeB (1000:Int) f)/\ ∀(f:Change),f∈e->(f.2.2.2.2.1.length:Int)<=1000)->c.length*(152:Nat)<=(Qci3)/\d.length*(48:Nat)<=(Qci3)/\e.length*(72:Nat)<=(Qci3)/\ ∀(f:Bool),f=decide ((c.length:Int)=0)->((! f)->((! f)->(! f))/\True)/\((! f)->((! f)->(! f))/\True)/\((! f)->((! f)->(! f))/\True)/\(f=false->(! f))/\ifP (bif f then true else decide ((d.length:Int)=0)) (okC (a,b)/\ ∀(g:Int),1<=g->netB g (c,d,e)->netB (g+(1:Int)) (c,d,e)) (okC (a,b)/\ ∀(g:Int) (h:List Int) (i:Int),0<=g/\(g<(c.length:Int)∨g=0)/\okC
 (h,i)->0<=g/\g<(c.length:Int)/\okC (h,i)/\ ∀(j:Int) (k:List Int) (l:Int),0<=j/\(j<(d.length:Int)∨j=0)/\okC (k,l)->0<=j/\j<(d.length:Int)/\List.length (Qci0 c g).1*(16:Nat)<=(Qci3)/\g.toNat=g.toNat/\okC (k,l)/\ ∀(m:Int) (n:List Int) (o:Int),0<=m/\(m<max (1:Int) ((List.length (Qci0 c g).1):Int)∨m=0)/\okC (n,o)->okC (n,o)/\ ∀(p:Int) (q:List Int) (r:Int),0<=p/\(p<16∨p=0)/\okC (q,r)->ifP (decide (p=0)) (okC (q,r)/\ ∀(s:Int) (t:List Int) (u:Int),okC (t,u)/\R64 s->okC (t,u)/\ ∀(v:Int),1<=v->netB v (c,d,e)->netB (v+(1:Int)) (List.set c g.toNat (Qci0 c g),List.set d j.toNat (s,(Qci4 d j).2),e)) (ifP (decide (p=1)) (okC (q,r)/\ ∀(s:Int) (t:List Int) (u:Int),okC (t,u)/\R64 s->okC (t,u)/\ ∀(v:Int) (w:List Int) (x:Int),okC (w,x)/\R64 v->okC (w,x)/\ ∀(y:Int),1<=y->netB y (c,d,e)->netB (y+(1:Int)) (List.set c g.toNat (Qci0 c g),List.set (Qci1 d j s) j.toNat ((List.getD (Qci1 d j s) j.toNat
 default).1,(List.getD (Qci1 d j s) j.toNat default).2.1,(List.getD (Qci1 d j s) j.toNat default).2.2.1,v,(List.getD (Qci1 d j s) j.toNat default).2.2.2.2),e)) (ifP (decide (p=2)) (okC (q,r)/\ ∀(s:Int) (t:List Int) (u:Int),okC (t,u)/\R64 s->okC (t,u)/\ ∀(v:Int),1<=v->netB v (c,d,e)->netB (v+(1:Int)) (List.set c g.toNat (Qci0 c g),List.set d j.toNat ((Qci4 d j).1,(Qci4 d j).2.1,(Qci4 d j).2.2.1,(Qci4 d j).2.2.2.1,s,(Qci4 d j).2.2.2.2.2),e)) (ifP (decide (p=3)) (g.toNat=g.toNat/\ifP (decide (m<((List.length (Qci0 c g).1):Int))) (g.toNat=g.toNat/\okC (q,r)/\ ∀(s:Int) (t:List Int) (u:Int),okC (t,u)/\R64 s->0<=m/\m<((List.length (Qci0 c g).1):Int)/\okC (t,u)/\ ∀(v:Int),1<=v->netB v (c,d,e)->netB (v+(1:Int)) (List.set c g.toNat (List.set (Qci0 c g).1 m.toNat ((List.getD (Qci0 c g).1 m.toNat default).1,s),(Qci0 c g).2),d,e)) (okC (q,r)/\ (Qci5 c d e g))) (ifP (decide (p=4)) (g.toNat=g.toNat/\ifP
 (decide (m<((List.length (Qci0 c g).1):Int))) (g.toNat=g.toNat/\okC (q,r)/\ ∀(s:Int) (t:List Int) (u:Int),okC (t,u)/\0<=s/\s<=4294967295->0<=m/\m<((List.length (Qci0 c g).1):Int)/\okC (t,u)/\ ∀(v:Int),1<=v->netB v (c,d,e)->netB (v+(1:Int)) (List.set c g.toNat (List.set (Qci0 c g).1 m.toNat (s,(List.getD (Qci0 c g).1 m.toNat default).2),(Qci0 c g).2),d,e)) (okC (q,r)/\ (Qci5 c d e g))) (ifP (decide (p=5)) (okC (q,r)/\ ∀(s:Int) (t:List Int) (u:Int),okC (t,u)/\0<=s/\s<=4294967295->g.toNat=g.toNat/\okC (t,u)/\ ∀(v:Int),1<=v->netB v (c,d,e)->netB (v+(1:Int)) (List.set c g.toNat ((Qci0 c g).1,s,(Qci0 c g).2.2),d,e)) (ifP (decide (p=6)) (okC (q,r)/\ ∀(s:Int) (t:List Int) (u:Int),okC (t,u)/\R64 s->okC (t,u)/\ ∀(v:Int) (w:List Int) (x:Int),0<=v/\(v<7∨v=0)/\okC (w,x)->g.toNat=g.toNat/\g.toNat=g.toNat/\okC (w,x)/\ ∀(y:Int),1<=y->netB y (c,d,e)->netB (y+(1:Int)) (List.set c g.toNat ((Qci0 c
 g).1,(Qci0 c g).2.1,(Qci0 c g).2.2.1,(Qci0 c g).2.2.2.1,(Qci0 c g).2.2.2.2.1,s,(Qci0 c g).2.2.2.2.2.2.1,v,(Qci0 c g).2.2.2.2.2.2.2.2),d,e)) (ifP (decide (p=7)) (okC (q,r)/\ ∀(s:Int) (t:List Int) (u:Int),okC (t,u)/\R64 s->okC (t,u)/\ ∀(v:Int) (w:List Int) (x:Int),okC (w,x)/\R64 v->g.toNat=g.toNat/\g.toNat=g.toNat/\okC (w,x)/\ ∀(y:Int),1<=y->netB y (c,d,e)->netB (y+(1:Int)) (List.set c g.toNat ((Qci0 c g).1,(Qci0 c g).2.1,(Qci0 c g).2.2.1,(Qci0 c g).2.2.2.1,(Qci0 c g).2.2.2.2.1,(Qci0 c g).2.2.2.2.2.1,(Qci0 c g).2.2.2.2.2.2.1,(Qci0 c g).2.2.2.2.2.2.2.1,s,v,(Qci0 c g).2.2.2.2.2.2.2.2.2.2),d,e)) (ifP (decide (p=8)) (okC (q,r)/\ ∀(s:Int) (t:List Int) (u:Int),okC (t,u)/\R64 s->okC (t,u)/\ ∀(v:Int) (w:List Int) (x:Int),okC (w,x)/\R64 v->g.toNat=g.toNat/\okC (w,x)/\ ∀(y:Int),1<=y->netB y (c,d,e)->netB (y+(1:Int)) (List.set c g.toNat ((Qci0 c g).1,(Qci0 c g).2.1,(Qci0 c g).2.2.1,(Qci0 c
 g).2.2.2.1,(Qci0 c g).2.2.2.2.1,(Qci0 c g).2.2.2.2.2.1,(Qci0 c g).2.2.2.2.2.2.1,(Qci0 c g).2.2.2.2.2.2.2.1,(Qci0 c g).2.2.2.2.2.2.2.2.1,(Qci0 c g).2.2.2.2.2.2.2.2.2.1,(s,v),(Qci0 c g).2.2.2.2.2.2.2.2.2.2.2),d,e)) (ifP (decide (p=9)) (okC (q,r)/\ ∀(s:Int) (t:List Int) (u:Int),okC (t,u)/\R64 s->okC (t,u)/\ ∀(v:Int) (w:List Int) (x:Int),okC (w,x)/\R64 v->g.toNat=g.toNat/\g.toNat=g.toNat/\okC (w,x)/\ ∀(y:Int),1<=y->netB y (c,d,e)->netB (y+(1:Int)) (List.set c g.toNat ((Qci0 c g).1,(Qci0 c g).2.1,v,(Qci0 c g).2.2.2.1,(Qci0 c g).2.2.2.2.1,(Qci0 c g).2.2.2.2.2.1,(Qci0 c g).2.2.2.2.2.2.1,(Qci0 c g).2.2.2.2.2.2.2.1,(Qci0 c g).2.2.2.2.2.2.2.2.1,(Qci0 c g).2.2.2.2.2.2.2.2.2.1,(Qci0 c g).2.2.2.2.2.2.2.2.2.2.1,(Qci0 c g).2.2.2.2.2.2.2.2.2.2.2.1,(Qci0 c g).2.2.2.2.2.2.2.2.2.2.2.2.1,s,(Qci0 c g).2.2.2.2.2.2.2.2.2.2.2.2.2.2),d,e)) (ifP (decide (p=10)) (g.toNat=g.toNat/\okC (q,r)/\ ∀(s:Int),1<=s->netB s
 (c,d,e)->netB (s+(1:Int)) (List.set c g.toNat (([]:List (Int×Int)),(Qci0 c g).2),d,e)) (ifP (decide (p=11)) (g.toNat=g.toNat/\okC (q,r)/\ ∀(s:Int),1<=s->netB s (c,d,e)->netB (s+(1:Int)) (List.set c g.toNat ((Qci0 c g).1,(Qci0 c g).2.1,(Qci0 c g).2.2.1,(Qci0 c g).2.2.2.1,(Qci0 c g).2.2.2.2.1,(Qci0 c g).2.2.2.2.2.1,(Qci0 c g).2.2.2.2.2.2.1,(Qci0 c g).2.2.2.2.2.2.2.1,(Qci0 c g).2.2.2.2.2.2.2.2.1,(Qci0 c g).2.2.2.2.2.2.2.2.2.1,(Qci0 c g).2.2.2.2.2.2.2.2.2.2.1,(Qci0 c g).2.2.2.2.2.2.2.2.2.2.2.1,true,(Qci0 c g).2.2.2.2.2.2.2.2.2.2.2.2.2),d,e)) (ifP (decide (p=12)) (okC (q,r)/\ ∀(s:Int) (t:List Int) (u:Int),okC (t,u)/\R64 s->okC (t,u)/\ ∀(v:Int) (w:List Int) (x:Int),okC (w,x)/\R64 v->okC (w,x)/\ ∀(y:Int) (z:List Int) (A:Int),0<=y/\(y<2∨y=0)/\okC (z,A)->okC (z,A)/\ ∀(B C:Int) (D:List Int) (E:Int),okC (D,E)/\pValid (B,C)=true->okC (D,E)/\ ∀(F:Int) (G:List Int) (H:Int),0<=F/\(F<4∨F=0)/\okC
 (G,H)->okC (G,H)/\ ∀(I:Int) (J:List Int) (K:Int),0<=I/\(I<4∨I=0)/\okC (J,K)->(e.length+List.length [(s,v,decide (y=1),(B,C),[F],IntKind.wrap .i64 ((1:Int)+I))])*(72:Nat)<=(Qci3)/\okC (J,K)/\ ∀(L:Int),1<=L->netB L (c,d,e)->netB (L+(1:Int)) (List.set c g.toNat (Qci0 c g),d,e++[(s,v,decide (y=1),(B,C),[F],IntKind.wrap .i64 ((1:Int)+I))])) (ifP (decide (p=13)) ((0:Int)<=0/\0<(d.length:Int)/\(d.length+List.length [d.getD (Int.toNat (0:Int)) default])*(48:Nat)<=(Qci3)/\okC (q,r)/\ ∀(s:Int),1<=s->netB s (c,d,e)->netB (s+(1:Int)) (List.set c g.toNat (Qci0 c g),d++[d.getD (Int.toNat (0:Int)) default],e)) (ifP (decide (p=14)) ((0:Int)<=0/\0<((List.length (Qci6 c g)):Int)/\(List.length (Qci6 c g)+List.length [List.getD (Qci6 c g) (Int.toNat (0:Int)) default])*(152:Nat)<=(Qci3)/\okC (q,r)/\ ∀(s:Int),1<=s->netB s (c,d,e)->netB (s+(1:Int)) (List.set c g.toNat (Qci0 c g)++[List.getD (Qci6 c g)
 (Int.toNat (0:Int)) default],d,e)) (ifP (decide (p=15)) (okL (Qci2 c g).2.2.2.2.1/\okC (q,r)/\ ∀(s:Int) (t:List Int) (u:Int),okC (t,u)/\0<=s/\s<=4294967295->okC (t,u)/\ ∀(v:Int) (w:List Int) (x:Int),0<=v/\(v<34∨v=0)/\okC (w,x)->okC (w,x)/\ ∀(y:Int) (z:List Int) (A:Int),okC (z,A)/\R64 y->okC (z,A)/\ ∀(B:Int) (C:List Int) (D:Int),0<=B/\(B<5∨B=0)/\okC (C,D)->(List.length (Qci2 c g).2.2.2.2.1+List.length [((s,v),[y],B)])*(48:Nat)<=(Qci3)/\okC (C,D)/\ ∀(E:Int),1<=E->netB E (c,d,e)->netB (E+(1:Int)) (List.set (Qci6 c g) g.toNat ((Qci2 c g).1,(Qci2 c g).2.1,(Qci2 c g).2.2.1,(Qci2 c g).2.2.2.1,(Qci2 c g).2.2.2.2.1++[((s,v),[y],B)],(Qci2 c g).2.2.2.2.2),d,e)) (okC (q,r)/\ (Qci5 c d e g)))))))))))))))))):=by
  delta Qci0 Qci1 Qci2 Qci3 Qci4 Qci5 Qci6
  rintro l p ns ls cs-⟨hc,n1,n2,n3,n4,n5⟩
  refine ⟨by omega,by omega,by omega,?_⟩
  (repeat (intro (b_:Bool) (hb_:b_=_);(repeat refine ⟨(by first|(simp;done)|(rw [hb_];simp;done)|(rw [hb_];simp;omega)|(rw [hb_];simp;intros;omega)|(rw [hb_];simp +contextual;done)),?_⟩);subst hb_))
  (repeat refine ⟨rfl,?_⟩)
  refine ifP_or (fun _=>⟨hc,fun k _ h=>netB_up h⟩) (fun z1 z2=>⟨hc,?_⟩)
  have z1:=of_decide_eq_false z1
  have z2:=of_decide_eq_false z2
  rintro i l1 p1 ⟨i0,i1,hc1⟩
  have i1:i<(ns.length:Int):=by omega
  (repeat refine ⟨rfl,?_⟩)
  refine ⟨i0,i1,hc1,?_⟩
  rintro j l2 p2 ⟨j0,j1,hc2⟩
  have j1:j<(ls.length:Int):=by omega
  have X:=n4 _ (getD_mem i0 i1)
  have X1:=X.1
  (repeat refine ⟨rfl,?_⟩)
  refine ⟨j0,j1,by omega,?_⟩
  (repeat refine ⟨rfl,?_⟩)
  refine ⟨hc2,?_⟩
  rintro k0 l3 p3 ⟨k00,k01,hc3⟩
  (repeat refine ⟨rfl,?_⟩)
  refine ⟨hc3,?_⟩
  rintro w l4 p4 ⟨-,-,hc4⟩
  (repeat refine ⟨rfl,?_⟩)
  refine ifP_split (fun _ => ?_) (fun _ => ?_)
  · (repeat refine ⟨rfl,?_⟩)
    refine ⟨hc4,?_⟩
    rintro a l5 p5 ⟨hc5,-⟩
    (repeat refine ⟨rfl,?_⟩)
    exact ⟨hc5,fun k hk h=>nb_set h i0 i1 (by first|exact Nat.le_refl _|simp) (by rfl) (by first|exact Nat.le_succ _|simp)⟩
  (repeat refine ⟨rfl,?_⟩)
  refine ifP_split (fun _ => ?_) (fun _ => ?_)
  · (repeat refine ⟨rfl,?_⟩)
    refine ⟨hc4,?_⟩
    rintro a l5 p5 ⟨hc5,-⟩
    (repeat refine ⟨rfl,?_⟩)
    refine ⟨hc5,?_⟩
    rintro b l6 p6 ⟨hc6,-⟩
    (repeat refine ⟨rfl,?_⟩)
    exact ⟨hc6,fun k hk h=>nb_set h i0 i1 (by first|exact Nat.le_refl _|simp) (by rfl) (by first|exact Nat.le_succ _|simp)⟩
  (repeat refine ⟨rfl,?_⟩)
  refine ifP_split (fun _ => ?_) (fun _ => ?_)
  · (repeat refine ⟨rfl,?_⟩)
    refine ⟨hc4,?_⟩
    rintro a l5 p5 ⟨hc5,-⟩
    (repeat refine ⟨rfl,?_⟩)
    exact ⟨hc5,fun k hk h=>nb_set h i0 i1 (by first|exact Nat.le_refl _|simp) (by rfl) (by first|exact Nat.le_succ _|simp)⟩
  (repeat refine ⟨rfl,?_⟩)
  refine ifP_split (fun _ => ?_) (fun _ => ?_)
  · (repeat refine ⟨rfl,?_⟩)
    refine ifP_split (fun kk => ?_) (fun _ => ?_)
    · have kk:=of_decide_eq_true kk
      (repeat refine ⟨rfl,?_⟩)
      refine ⟨hc4,?_⟩
      rintro a l5 p5 ⟨hc5,-⟩
      (repeat refine ⟨rfl,?_⟩)
      refine ⟨k00,kk,?_⟩
      (repeat refine ⟨rfl,?_⟩)
      exact ⟨hc5,fun k hk h=>nb_set h i0 i1 (by first|exact Nat.le_refl _|simp) (by rfl) (by first|exact Nat.le_succ _|simp)⟩
    · (repeat refine ⟨rfl,?_⟩)
      exact ⟨hc4,fun k hk h=>nb_set h i0 i1 (by first|exact Nat.le_refl _|simp) (by rfl) (by first|exact Nat.le_succ _|simp)⟩
  (repeat refine ⟨rfl,?_⟩)
  refine ifP_split (fun _ => ?_) (fun _ => ?_)
  · (repeat refine ⟨rfl,?_⟩)
    refine ifP_split (fun kk => ?_) (fun _ => ?_)
    · have kk:=of_decide_eq_true kk
      (repeat refine ⟨rfl,?_⟩)
      refine ⟨hc4,?_⟩
      rintro a l5 p5 ⟨hc5,-,-⟩
      (repeat refine ⟨rfl,?_⟩)
      refine ⟨k00,kk,?_⟩
      (repeat refine ⟨rfl,?_⟩)
      exact ⟨hc5,fun k hk h=>nb_set h i0 i1 (by first|exact Nat.le_refl _|simp) (by rfl) (by first|exact Nat.le_succ _|simp)⟩
    · (repeat refine ⟨rfl,?_⟩)
      exact ⟨hc4,fun k hk h=>nb_set h i0 i1 (by first|exact Nat.le_refl _|simp) (by rfl) (by first|exact Nat.le_succ _|simp)⟩
  (repeat refine ⟨rfl,?_⟩)
  refine ifP_split (fun _ => ?_) (fun _ => ?_)
  · (repeat refine ⟨rfl,?_⟩)
    refine ⟨hc4,?_⟩
    rintro a l5 p5 ⟨hc5,-,-⟩
    (repeat refine ⟨rfl,?_⟩)
    exact ⟨hc5,fun k hk h=>nb_set h i0 i1 (by first|exact Nat.le_refl _|simp) (by rfl) (by first|exact Nat.le_succ _|simp)⟩
  (repeat refine ⟨rfl,?_⟩)
  refine ifP_split (fun _ => ?_) (fun _ => ?_)
  · (repeat refine ⟨rfl,?_⟩)
    refine ⟨hc4,?_⟩
    rintro a l5 p5 ⟨hc5,-⟩
    (repeat refine ⟨rfl,?_⟩)
    refine ⟨hc5,?_⟩
    rintro b l6 p6 ⟨-,-,hc6⟩
    (repeat refine ⟨rfl,?_⟩)
    exact ⟨hc6,fun k hk h=>nb_set h i0 i1 (by first|exact Nat.le_refl _|simp) (by rfl) (by first|exact Nat.le_succ _|simp)⟩
  (repeat refine ⟨rfl,?_⟩)
  refine ifP_split (fun _ => ?_) (fun _ => ?_)
  · (repeat refine ⟨rfl,?_⟩)
    refine ⟨hc4,?_⟩
    rintro a l5 p5 ⟨hc5,-⟩
    (repeat refine ⟨rfl,?_⟩)
    refine ⟨hc5,?_⟩
    rintro b l6 p6 ⟨hc6,-⟩
    (repeat refine ⟨rfl,?_⟩)
    exact ⟨hc6,fun k hk h=>nb_set h i0 i1 (by first|exact Nat.le_refl _|simp) (by rfl) (by first|exact Nat.le_succ _|simp)⟩
  (repeat refine ⟨rfl,?_⟩)
  refine ifP_split (fun _ => ?_) (fun _ => ?_)
  · (repeat refine ⟨rfl,?_⟩)
    refine ⟨hc4,?_⟩
    rintro a l5 p5 ⟨hc5,-⟩
    (repeat refine ⟨rfl,?_⟩)
    refine ⟨hc5,?_⟩
    rintro b l6 p6 ⟨hc6,-⟩
    (repeat refine ⟨rfl,?_⟩)
    exact ⟨hc6,fun k hk h=>nb_set h i0 i1 (by first|exact Nat.le_refl _|simp) (by rfl) (by first|exact Nat.le_succ _|simp)⟩
  (repeat refine ⟨rfl,?_⟩)
  refine ifP_split (fun _ => ?_) (fun _ => ?_)
  · (repeat refine ⟨rfl,?_⟩)
    refine ⟨hc4,?_⟩
    rintro a l5 p5 ⟨hc5,-⟩
    (repeat refine ⟨rfl,?_⟩)
    refine ⟨hc5,?_⟩
    rintro b l6 p6 ⟨hc6,-⟩
    (repeat refine ⟨rfl,?_⟩)
    exact ⟨hc6,fun k hk h=>nb_set h i0 i1 (by first|exact Nat.le_refl _|simp) (by rfl) (by first|exact Nat.le_succ _|simp)⟩
  (repeat refine ⟨rfl,?_⟩)
  refine ifP_split (fun _ => ?_) (fun _ => ?_)
  · (repeat refine ⟨rfl,?_⟩)
    exact ⟨hc4,fun k hk h=>nb_set h i0 i1 (by first|exact Nat.le_refl _|simp) (by rfl) (by first|exact Nat.le_succ _|simp)⟩
  (repeat refine ⟨rfl,?_⟩)
  refine ifP_split (fun _ => ?_) (fun _ => ?_)
  · (repeat refine ⟨rfl,?_⟩)
    exact ⟨hc4,fun k hk h=>nb_set h i0 i1 (by first|exact Nat.le_refl _|simp) (by rfl) (by first|exact Nat.le_succ _|simp)⟩
  (repeat refine ⟨rfl,?_⟩)
  refine ifP_split (fun _ => ?_) (fun _ => ?_)
  · (repeat refine ⟨rfl,?_⟩)
    refine ⟨hc4,?_⟩
    rintro a l5 p5 ⟨hc5,-⟩
    (repeat refine ⟨rfl,?_⟩)
    refine ⟨hc5,?_⟩
    rintro b l6 p6 ⟨hc6,-⟩
    (repeat refine ⟨rfl,?_⟩)
    refine ⟨hc6,?_⟩
    rintro c l7 p7 ⟨-,-,hc7⟩
    (repeat refine ⟨rfl,?_⟩)
    refine ⟨hc7,?_⟩
    rintro q1 q2 l8 p8 ⟨hc8,-⟩
    (repeat refine ⟨rfl,?_⟩)
    refine ⟨hc8,?_⟩
    rintro f l9 p9 ⟨-,-,hc9⟩
    (repeat refine ⟨rfl,?_⟩)
    refine ⟨hc9,?_⟩
    rintro g la pa ⟨-,-,hca⟩
    (repeat refine ⟨rfl,?_⟩)
    refine ⟨by simp only [List.length_singleton];omega,hca,fun k hk h=>nb_any h (by rw [List.length_set];omega) (by omega) (by simp) (fun y hy=>(set_mem hy).elim .inl fun e => .inr (e▸nodeB_same (h.2.2.2.1 _ (getD_mem i0 i1)) (Nat.le_refl _) rfl)) (fun c hc => ?_)⟩
    rcases List.mem_append.1 hc with hc|hc
    · exact .inl hc
    · right
      have:=List.mem_singleton.1 hc
      subst this
      simp only [List.length_singleton];omega
  (repeat refine ⟨rfl,?_⟩)
  refine ifP_split (fun _ => ?_) (fun _ => ?_)
  · exact ⟨by omega,by omega,by simp only [List.length_singleton];omega,by (repeat refine ⟨rfl,?_⟩);exact ⟨hc4,fun k hk h=>nb_set h i0 i1 (by first|exact Nat.le_refl _|simp) (by rfl) (by first|exact Nat.le_succ _|simp)⟩⟩
  (repeat refine ⟨rfl,?_⟩)
  refine ifP_split (fun _ => ?_) (fun _ => ?_)
  · (repeat refine ⟨rfl,?_⟩)
    refine ⟨by omega,by rw [List.length_set];omega,by simp only [List.length_set,List.length_singleton];omega,hc4,fun k hk h=>nb_any h (by simp) (by omega) (by omega) (fun y hy => ?_) (fun c hc => .inl hc)⟩
    have key:∀ y∈ns.set i.toNat _,y∈ns∨nodeB (k+1) y:=fun y hy=>(set_mem hy).elim .inl fun e => .inr (e▸nodeB_same (h.2.2.2.1 _ (getD_mem i0 i1)) (Nat.le_refl _) rfl)
    rcases List.mem_append.1 hy with hy|hy
    · exact key y hy
    · have:=List.mem_singleton.1 hy
      subst this
      exact key _ (getD_mem (i:=0) (by omega) (by rw [List.length_set];omega))
  (repeat refine ⟨rfl,?_⟩)
  refine ifP_split (fun _ => ?_) (fun _ => ?_)
  · rw [set_at i0 i1]
    have hx2:((nRoutes (ns.getD i.toNat default)).length:Int)<=1000:=X.2.1
    refine ⟨⟨by show ((nRoutes (ns.getD i.toNat default)).length:Int)<=_;omega,fun r hr=>by have:=X.2.2 r hr;omega⟩,hc4,?_⟩
    rintro a l5 p5 ⟨hc5,-,-⟩
    (repeat refine ⟨rfl,?_⟩)
    refine ⟨hc5,?_⟩
    rintro b l6 p6 ⟨-,-,hc6⟩
    (repeat refine ⟨rfl,?_⟩)
    refine ⟨hc6,?_⟩
    rintro c l7 p7 ⟨hc7,-⟩
    (repeat refine ⟨rfl,?_⟩)
    refine ⟨hc7,?_⟩
    rintro e l8 p8 ⟨-,-,hc8⟩
    refine ⟨by show ((nRoutes (ns.getD i.toNat default)).length+_)*48<=_;simp only [List.length_singleton];omega,hc8,fun k hk h => ?_⟩
    rw [List.set_set]
    refine nb_any h (by rw [List.length_set];omega) (by omega) (by omega) (fun y hy=>(set_mem hy).elim .inl fun e => .inr ?_) (fun c hc => .inl hc)
    subst e
    have M:nodeB k (ns.getD i.toNat default):=h.2.2.2.1 _ (getD_mem i0 i1)
    obtain ⟨m1,m2,m3⟩:=M
    (repeat refine ⟨rfl,?_⟩)
    refine ⟨by show ((ns.getD i.toNat default).1.length:Int)<=_;omega,?_,fun r hr => ?_⟩
    · show (((nRoutes (ns.getD i.toNat default)++[_]).length:Nat):Int)<=_
      rw [List.length_append,List.length_singleton];omega
    · have hr:r∈nRoutes (ns.getD i.toNat default)++[((a,b),[c],_)]:=hr
      rcases List.mem_append.1 hr with hr|hr
      · have:=m3 r hr;omega
      · have:=List.mem_singleton.1 hr
        subst this
        simp only [List.length_singleton];omega
  (repeat refine ⟨rfl,?_⟩)
  exact ⟨hc4,fun k hk h=>nb_set h i0 i1 (by first|exact Nat.le_refl _|simp) (by rfl) (by first|exact Nat.le_succ _|simp)⟩
theorem ok_draw_Codes_OddNet:SpecOK Tryz.prog GL 12 ct_draw_Codes_OddNet.spec:=Cn.okH _ Tryz.func12 (by kernel_rfl) (withClose_ok (withCloseAt_ok (withOpens_ok (withSpec_ok (withSpec_ok (withSpec_ok (withSpec_ok (withSpec_ok noSpecs_ok ok_Next) ok_draw_Codes_Int) ok_draw_Codes_Address) ok_draw_Codes_Prefix) ok_CopyO)) (d:=225) (n:=176)) (d:=259)) hmix an_draw_Codes_OddNet (hideMp (by kernel_rfl) vc_draw_Codes_OddNet)
end Go.RS

/- Law13c: the checks of nodes. -/
namespace Go.RS
open Go.SX Go.Proofs
set_option maxRecDepth 100000
set_option linter.unusedVariables false
theorem DN.nb {n:Net} (h:DN n):netB 1000 n:=by
  have n7:=h.n7
  have l10:=h.l10
  have h3:=h.h3
  refine ⟨by omega,by omega,by omega,fun x hx => ?_,fun c hc => ?_⟩
  · obtain ⟨i,hi,rfl⟩:=List.mem_iff_getElem.1 hx
    have e:n.1.getD i default=n.1[i]:=by rw [List.getD_eq_getElem?_getD,List.getElem?_eq_getElem hi,Option.getD_some]
    have p:=h.p i hi
    have t:=h.t i hi
    rw [e] at p t
    have hl:=portsF_len i 0 n.2.1
    rw [← p] at hl
    have hl:(n.1[i]).1.length<=2*n.2.1.length:=hl
    have h20:=tab20 t
    exact ⟨by omega,by omega,fun r hr=>by have:=rtOK_len (t.2 r hr);omega⟩
  · rcases (h.c c hc).x with k|⟨q,-,k⟩
    · have k:c.2.2.2.2.1=[]:=k
      rw [k];simp
    · have k:c.2.2.2.2.1=[q.2]:=k
      rw [k];simp
def lpChecks13:LPs:=[(false,.sl cU8),(true,cNode),(false,cU32),(false,cI)]
def ct_law13_NodeChecks:Ct:=lawCt lpChecks13
def an_law13_NodeChecks:PDs ct_law13_NodeChecks.ps->Anns:=(fun d=>{loops:=(fun n=>match n with|8=>some (fun S=>{ι:=Int×(List Node),qn:=⟨fun k_=>∀ (j:Int) (l:(List Node)),k_ (j,l),fun k_ h_ i=>h_ i.1 i.2,fun k_=>∃ (j:Int) (l:(List Node)),k_ (j,l),fun k_ ⟨j,l,h_⟩=>⟨_,h_⟩⟩,μ:=fun i=>(i.2.length-i.1).toNat,inv:=fun i=>0<=i.1/\i.1<=i.2.length/\i.2.length<=3000,keep:=[2,3,9,10,12],slots:=fun i=>[(13,.int .i64 i.1)],keepN:=[176,688],names:=fun i=>[(896,.live (.row 30 cNode i.2))]})|13=>some (fun S=>{ι:=Int×(List Int×Int),qn:=⟨fun k_=>∀ (j:Int) (c:(List Int×Int)),k_ (j,c),fun k_ h_ i=>h_ i.1 i.2,fun k_=>∃ (j:Int) (c:(List Int×Int)),k_ (j,c),fun k_ ⟨j,c,h_⟩=>⟨_,h_⟩⟩,μ:=fun i=>(100-i.1).toNat,inv:=fun i=>0<=i.1/\i.1<=100/\okC i.2,keep:=[2,3,9,10],slots:=fun i=>[(14,.int .i64 i.1)],keepN:=[176],names:=fun i=>[(688,.live (.cells 96 (flat cCodes i.2)))]})|_=>none)})
def Qcj0 (g:List Node) (s:Int) :=
 g.getD s.toNat default
def Qcj1 (g:List Node) (s:Int) :=
 (nRoutes (Qcj0 g s),(0:Int),List.replicate (List.length (nPorts (Qcj0 g s))) (0:Int),(w ((Qcj0 g s).2.2.2.2.2.2.2.2.2.2.1.1*(Qcj0 g s).2.2.2.2.2.2.2.2.2.2.1.2),(0:Int)),(0:Int))
def Qcj2 (a:List Int) :=
 (if (a.length:Int)<=250 then a else List.take (Int.toNat (250:Int)) a,(0:Int))
def Qcj3 (y:Bool) :=
 (! y)->((! y)->(! y))/\((! y)->(! y))/\True
def Qcj4 (z:Bool) :=
 (! z)->((! z)->(! z))/\((! z)->(! z))/\True
def Qcj5 (A:Bool) :=
 (! A)->((! A)->(! A))/\((! A)->(! A))/\True
theorem vc_law13_NodeChecks :
 ∀(a:List Int) (b:Node) (c d:Int),(a.length<=maxLen/\ ∀(e:Int),e∈a->0<=e/\e<=255)/\CT.wf cNode b/\(0<=c/\c<=4294967295)/\R64 d/\True->True-> ∀(e:Bool),e= ! true->((! e)->((! e)->(! e))/\True)/\((! e)->((! e)->(! e))/\True)/\((! e)->((! e)->(! e))/\True)/\(e=false->(! e))/\ ∀(f:Bool),(f=bif e then true else decide (100<(b.1.length:Int)))->((! f)->((! f)->(! f))/\True)/\((! f)->((! f)->(! f))/\True)/\((! f)->((! f)->(! f))/\True)/\(f=false->(! f))/\ifP (bif f then true else decide (100<(b.2.2.2.2.1.length:Int))) (∀(g:Bool),g=decide (100<(b.1.length:Int))->((! g)->((! g)->(! g))/\True)/\((! g)->((! g)->(! g))/\True)/\((! g)->((! g)->(! g))/\True)/\(g=false->(! g))/\(bif g then true else decide (100<(b.2.2.2.2.1.length:Int)))=true) ((0:Int)<=250/\okC (Qcj2 a)/\ ∀(g:List Node) (h:List Link) (i:List Change) (j:List Int) (k:Int),(g,h,i)=netV false (Qcj2 a)/\(j,k)=netC false (Qcj2 a)->okC
 (j,k)/\netB (1000:Int) (g,h,i)/\ ∀(l:List Node) (m:List Link) (n:List Change) (o:List Int) (p:Int),(okC (o,p)/\ ∀(q:Int),1<=q->netB q (g,h,i)->netB (q+(1:Int)) (l,m,n))->(List.length [b]+g.length)*(152:Nat)<=(140737488355328:Nat)/\(List.length ([b]++g)+l.length)*(152:Nat)<=(140737488355328:Nat)/\(∃(q:Int) (r:List Node),(0<=q/\q<=(r.length:Int)/\r.length<=(3000:Nat))/\c=c/\d=d/\(0:Int)=q/\g=g/\h=h/\i=i/\o=o/\p=p/\[b]++g++l=r/\True)/\ ∀(q:Int) (r:List Node),0<=q/\q<=(r.length:Int)/\r.length<=(3000:Nat)->ifP (decide (q<(r.length:Int))) (0<=q/\q<(r.length:Int)/\0<=q/\q<(r.length:Int)/\ifP (! decide (nodeV (r.getD q.toNat default)=nodeV (r.getD q.toNat default))) (false=true) (∃(s:Int) (t:List Node),(0<=s/\s<=(t.length:Int)/\t.length<=(3000:Nat))/\Int.toNat ((t.length:Int) -s)<Int.toNat ((r.length:Int) -q)/\c=c/\d=d/\IntKind.wrap .i64 (q+(1:Int))=s/\g=g/\h=h/\i=i/\o=o/\p=p/\r=t/\True))
 ((∃(s:Int) (t:List Int×Int),(0<=s/\s<=100/\okC t)/\c=c/\d=d/\(0:Int)=s/\g=g/\h=h/\i=i/\o=t.1/\p=t.2/\True)/\ ∀(s:Int) (t:List Int×Int),0<=s/\s<=100/\okC t->ifP (decide (s<(g.length:Int))) (0<=s/\s<(g.length:Int)/\okC t/\ ∀(u:Int) (v:List Int) (x:Int),okC (v,x)/\0<=u/\u<=4294967295-> ∀(y:Bool),y= ! ownsA (Qcj0 g s) c==ownsA (Qcj0 g s) c->(Qcj3 y)/\(Qcj3 y)/\(Qcj3 y)/\(y=false->(! y))/\ ∀(z:Bool),(z=bif y then true else ! ownsA (Qcj0 g s) u==ownsA (Qcj0 g s) u)->(Qcj4 z)/\(Qcj4 z)/\(Qcj4 z)/\(z=false->(! z))/\ ∀(A:Bool),(A=bif z then true else ! decide (portL (Qcj0 g s) d=portL (Qcj0 g s) d))->(Qcj5 A)/\(Qcj5 A)/\(Qcj5 A)/\(A=false->(! A))/\ ∀(B:Bool),(B=bif A then true else ! decide (portL (Qcj0 g s) s=portL (Qcj0 g s) s))->((! B)->((! B)->(! B))/\okL (nRoutes (Qcj0 g s))/\((List.length (nPorts (Qcj0 g s))):Int)<=1000000/\True)/\((! B)->((! B)->(! B))/\okL (nRoutes (Qcj0 g
 s))/\((List.length (nPorts (Qcj0 g s))):Int)<=1000000/\True)/\((! B)->((! B)->(! B))/\((! B)->(! B))/\True)/\((! B)->((! B)->(! B))/\True)/\(B=false->(! B))/\ifP (bif B then true else ! decide ((Qcj1 g s)=(Qcj1 g s))) (false=true) (∃(C:Int) (D:List Int×Int),(0<=C/\C<=100/\okC D)/\Int.toNat ((100:Int) -C)<Int.toNat ((100:Int) -s)/\c=c/\d=d/\IntKind.wrap .i64 (s+(1:Int))=C/\g=g/\h=h/\i=i/\v=D.1/\x=D.2/\True)) (true=true))):=by
  delta Qcj0 Qcj1 Qcj2 Qcj3 Qcj4 Qcj5
  rintro cl d a0 lk ⟨⟨-,hcw⟩,-⟩ -
  intro b1 hb1
  (repeat refine ⟨(by first|(simp;done)|(rw [hb1];simp;done)|(cases b1 <;> simp)),?_⟩)
  intro b2 hb2
  (repeat refine ⟨(by first|(simp;done)|(cases b2 <;> simp)),?_⟩)
  refine ifP_split (fun h => ?_) (fun _ => ?_)
  · intro b3 hb3
    (repeat refine ⟨(by first|(simp;done)|(cases b3 <;> simp)),?_⟩)
    rw [hb2,hb1,← hb3] at h
    revert h
    cases b3 <;> simp
  have hB:=okB_new (m:=250) hcw
  have hcl:=okC_new 250 (by omega) cl
  refine ⟨by omega,hcl,?_⟩
  rintro ns ls hs l1 p1 ⟨hnet,hcod⟩
  have hdn:=net_dn hB false
  have hcB:=net_codes hB false
  rw [show netV false _=(ns,ls,hs) from hnet.symm] at hdn
  rw [show netC false _=(l1,p1) from hcod.symm] at hcB
  have nb:=hdn.nb
  have n7:ns.length<=7:=hdn.n7
  refine ⟨hcB.1,nb,?_⟩
  rintro ns2 ls2 hs2 l2 p2 ⟨hc2,hod⟩
  have nb2:=(hod 1000 (by omega) nb).1
  simp only at nb2
  refine ⟨by simp only [List.length_singleton];omega,by simp only [List.length_append,List.length_singleton];omega,⟨0,[d]++ns++ns2,⟨by omega,by omega,?_⟩,(by repeat' first|exact trivial|refine ⟨trivial,?_⟩|refine ⟨(by with_reducible rfl),?_⟩|refine ⟨w64 (by omega) (by omega),?_⟩|refine ⟨rfl,?_⟩)⟩,?_⟩
  · simp only [List.length_append,List.length_singleton];omega
  rintro j l ⟨j0,j1,j2⟩
  refine ifP_split (fun hj => ?_) (fun _=>⟨⟨0,(l2,p2),⟨by omega,by omega,hc2⟩,(by repeat' first|exact trivial|refine ⟨trivial,?_⟩|refine ⟨(by with_reducible rfl),?_⟩|refine ⟨w64 (by omega) (by omega),?_⟩|refine ⟨rfl,?_⟩)⟩,?_⟩)
  · have hj:=of_decide_eq_true hj
    refine ⟨j0,hj,j0,hj,ifP_split (fun k=>by simp at k) (fun _=>⟨j+1,l,⟨by omega,by omega,j2⟩,by omega,(by repeat' first|exact trivial|refine ⟨trivial,?_⟩|refine ⟨(by with_reducible rfl),?_⟩|refine ⟨w64 (by omega) (by omega),?_⟩|refine ⟨rfl,?_⟩)⟩)⟩
  rintro j c ⟨j0,j1,hc⟩
  refine ifP_split (fun hj => ?_) (fun _=>rfl)
  have hj:=of_decide_eq_true hj
  have hX:=nb.2.2.2.1 _ (getD_mem j0 hj)
  refine ⟨j0,hj,hc,?_⟩
  rintro y l3 p3 ⟨hc3,-⟩
  have hX:nodeB 1000 (ns.getD j.toNat default):=hX
  generalize ns.getD j.toNat default=X at hX ⊢
  have ok1:okL (nRoutes X):=⟨by have:=hX.2.1;omega,fun r hr=>by have:=hX.2.2 r hr;omega⟩
  have ok2:((nPorts X).length:Int)<=1000000:=by have:((nPorts X).length:Int)<=1000:=hX.1;omega
  intro b4 hb4
  have f4:b4=false:=by rw [hb4];simp
  subst f4;clear hb4
  (repeat refine ⟨by simp,?_⟩)
  intro b5 hb5
  have f5:b5=false:=by rw [hb5];simp
  subst f5;clear hb5
  (repeat refine ⟨by simp,?_⟩)
  intro b6 hb6
  have f6:b6=false:=by rw [hb6];simp
  subst f6;clear hb6
  (repeat refine ⟨by simp,?_⟩)
  intro b7 hb7
  have f7:b7=false:=by rw [hb7];simp
  subst f7;clear hb7
  (repeat refine ⟨by first|(simp;done)|(intros;simp [ok1,ok2];done)|exact fun _=>⟨fun _=>rfl,ok1,ok2,trivial⟩,?_⟩)
  refine ifP_split (fun k=>by simp at k) (fun _ => ?_)
  exact ⟨j+1,(l3,p3),⟨by omega,by omega,hc3⟩,by omega,(by repeat' first|exact trivial|refine ⟨trivial,?_⟩|refine ⟨(by with_reducible rfl),?_⟩|refine ⟨w64 (by omega) (by omega),?_⟩|refine ⟨rfl,?_⟩)⟩
theorem ok_law13_NodeChecks:SpecOK Tryz.prog GL 3 ct_law13_NodeChecks.spec:=Ct.okH _ Tryz.func3 (by kernel_rfl) (withSpec_ok (withSpec_ok (withSpec_ok (withSpec_ok (withSpec_ok (withSpec_ok (withSpec_ok (withSpec_ok (withSpec_ok (withSpec_ok (withSpec_ok (withSpec_ok (withSpec_ok (withSpec_ok noSpecs_ok ok_law13_awake) ok_draw_New) (Ct.named ok_draw_Codes_Net)) ok_draw_Codes_OddNet) ok_node_Check) ok_ref13_Check) ok_draw_Codes_Some) ok_node_Owns) ok_ref13_Owns) ok_node_PortOf) ok_ref13_PortOf) ok_node_Start) ok_ref13_Start) ok_ref13_SameState) hmix an_law13_NodeChecks (hideMp (by kernel_rfl) vc_law13_NodeChecks)
end Go.RS
