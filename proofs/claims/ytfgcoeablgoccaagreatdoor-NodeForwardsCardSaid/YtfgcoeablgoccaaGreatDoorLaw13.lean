/- Drawn: what holds of drawn networks: their nodes, links, routes and changes. -/
import Derived.Test.YtfgcoeablgoccaaGreatDoorTopod
import Derived.Test.YtfgcoeablgoccaaGreatDoorNetdraw
import Derived.Test.YtfgcoeablgoccaaGreatDoorBucket
import Derived.Test.YtfgcoeablgoccaaGreatDoorNetg
namespace Go.RS
open Go.SX Go.Proofs
set_option maxRecDepth 100000
set_option linter.unusedVariables false
structure NP (i:Int) (x:Node):Prop where
  own:nOwner x=1+i/3
  loop:nLoop x=0∨nLoop x=167903232+i
  src:(nSource x=1∨nSource x=2)∨(nSource x=3/\nLoop x=167903232+i)∨(nSource x=4/\167837696<=nFixed x)
  fix:nFixed x=0∨(167837696<=nFixed x/\nFixed x<167837736)
  id:(0<=nID x/\nID x<=5)/\(0<=nBase x/\nBase x<=65535)/\0<=nSpeed x/\nSpeed x<=1000000
  lim:nLimit x=(0,0)∨(1<=(nLimit x).1/\(nLimit x).1<=3/\1<=(nLimit x).2/\(nLimit x).2<=200)
  first:nFirst x=64∨nFirst x=255∨nFirst x=128
  seed:0<=nSeed x/\nSeed x<=255
theorem NP.new {i:Int} {host:Bool} {f sd:Int} (hf:f=64∨f=255∨f=128) (h0:0<=sd) (h1:sd<=255):NP i (newNode i host f sd) :=
  ⟨rfl,.inl rfl,.inl (.inl rfl),.inl rfl,⟨⟨by show (0:Int)<=0;decide,by show (0:Int)<=5;decide⟩,⟨by show (0:Int)<=0;decide,by show (0:Int)<=65535;decide⟩,by show (0:Int)<=0;decide,by show (0:Int)<=1000000;decide⟩,.inl rfl,hf,h0,h1⟩
theorem NP.same {i:Int} {x y:Node} (h:NP i x) (e:x.2=y.2):NP i y:=by
  obtain ⟨p,x⟩:=x
  obtain ⟨q,y⟩:=y
  cases e
  exact ⟨h.own,h.loop,h.src,h.fix,h.id,h.lim,h.first,h.seed⟩
theorem NP.routes {i:Int} {x y:Node} (h:NP i x) (e:setRoutes x []=setRoutes y []):NP i y:=by
  have k:NP i (setRoutes x []):=⟨h.own,h.loop,h.src,h.fix,h.id,h.lim,h.first,h.seed⟩
  rw [e] at k
  exact ⟨k.own,k.loop,k.src,k.fix,k.id,k.lim,k.first,k.seed⟩
theorem NP.way {i:Int} {x:Node} (h:NP i x) {c:Codes} (hc:okB c):NP i (odWay x i c).1:=by
  have a:=nextV_lt hc (n:=10) (by omega)
  have ca:=(nextV_ok hc 10).1
  have b:=nextV_lt ca (n:=3) (by omega)
  have cb:=(nextV_ok ca 3).1
  have e:=nextV_lt cb (n:=200) (by omega)
  have f:=nextV_lt ca (n:=40) (by omega)
  unfold odWay
  dsimp only
  split
  · exact ⟨h.own,h.loop,h.src,h.fix,h.id,h.lim,h.first,h.seed⟩
  split
  · refine ⟨h.own,h.loop,h.src,h.fix,h.id,.inr ?_,h.first,h.seed⟩
    show 1<=1+_/\1+_<=(3:Int)/\1<=1+_/\1+_<=(200:Int)
    omega
  split
  · exact ⟨h.own,h.loop,h.src,h.fix,h.id,h.lim,h.first,h.seed⟩
  split
  · exact ⟨h.own,h.loop,.inl (.inr rfl),h.fix,h.id,h.lim,h.first,h.seed⟩
  split
  · exact ⟨h.own,.inr rfl,.inr (.inl ⟨rfl,rfl⟩),h.fix,h.id,h.lim,h.first,h.seed⟩
  split
  · refine ⟨h.own,h.loop,.inr (.inr ⟨rfl,?_⟩),.inr ⟨?_,?_⟩,h.id,h.lim,h.first,h.seed⟩
    · show 167837696<=167837696+_
      omega
    · show 167837696<=167837696+_
      omega
    · show 167837696+_<167837736
      omega
  · exact h
theorem NP.od {i:Int} {x:Node} (h:NP i x) {c:Codes} (hc:okB c):NP i (odNode x i c).1:=by
  have k:=h.way hc
  have kc:=odWay_ok (x:=x) (i:=i) hc
  have a:=nextV_lt kc (n:=6) (by omega)
  have ca:=(nextV_ok kc 6).1
  have b:=nextV_lt ca (n:=65536) (by omega)
  have cb:=(nextV_ok ca 65536).1
  have e:=nextV_lt cb (n:=1000) (by omega)
  refine ⟨k.own,k.loop,k.src,k.fix,?_,k.lim,k.first,k.seed⟩
  show (0<=(nextV (odWay x i c).2 6).1/\(nextV (odWay x i c).2 6).1<=5)/\(0<=(nextV (nextV (odWay x i c).2 6).2 65536).1/\(nextV (nextV (odWay x i c).2 6).2 65536).1<=65535)/\0<=(nextV (nextV (nextV (odWay x i c).2 6).2 65536).2 1000).1/\(nextV (nextV (nextV (odWay x i c).2 6).2 65536).2 1000).1<=1000000
  omega
theorem NP.opq {i:Int} {x:Node} (h:NP i x) (b:Bool):NP i (odOpaque x b):=⟨h.own,h.loop,h.src,h.fix,h.id,h.lim,h.first,h.seed⟩
def allNP (ns:List Node):Prop:=∀ i:Nat,i<ns.length->NP i (ns.getD i default)
theorem allNP.set {ns:List Node} (h:allNP ns) {i:Nat} {x:Node} (hx:i<ns.length->NP i x):allNP (ns.set i x):=fun j hj=>by
  rw [List.length_set] at hj
  by_cases e:i=j
  · subst e;rw [getD_set hj];exact hx hj
  · rw [getD_setne e];exact h j hj
structure LK (l0 l:Link):Prop where
  a:lA l=lA l0
  b:lB l=lB l0
  d:lDelay l=lDelay l0
  s:lSeed l=lSeed l0
  j:0<=lJitter l/\lJitter l<=9
  o:0<=lLoss l/\lLoss l<=65536
theorem LK.od {l0 l:Link} (h:LK l0 l) {c:Codes} (hc:okB c):LK l0 (odLink l c).1:=by
  have a:=nextV_lt hc (n:=6) (by omega)
  have ca:=(nextV_ok hc 6).1
  have b:=nextV_lt ca (n:=10) (by omega)
  have e:=nextV_lt ca (n:=3) (by omega)
  unfold odLink
  dsimp only
  split
  · refine ⟨h.a,h.b,h.d,h.s,?_,h.o⟩
    show 0<=(nextV (nextV c 6).2 10).1/\(nextV (nextV c 6).2 10).1<=9
    omega
  split
  · refine ⟨h.a,h.b,h.d,h.s,h.j,?_⟩
    show 0<=([65536,20000,3]:List Int).getD (nextV (nextV c 6).2 3).1.toNat default/\([65536,20000,3]:List Int).getD (nextV (nextV c 6).2 3).1.toNat default<=65536
    rcases (show (nextV (nextV c 6).2 3).1=0∨(nextV (nextV c 6).2 3).1=1∨(nextV (nextV c 6).2 3).1=2 by omega) with e|e|e <;> rw [e] <;> decide
  · exact h
structure allLK (ls0 ls:List Link):Prop where
  n:ls.length=ls0.length
  k:∀ i:Nat,i<ls0.length->LK (ls0.getD i default) (ls.getD i default)
theorem allLK.set {ls0 ls:List Link} (h:allLK ls0 ls) {i:Nat} {x:Link} (hx:i<ls0.length->LK (ls0.getD i default) x):allLK ls0 (ls.set i x):=by
  refine ⟨by rw [List.length_set];exact h.n,fun j hj => ?_⟩
  by_cases e:i=j
  · subst e;rw [getD_set (by rw [h.n];exact hj)];exact hx hj
  · rw [getD_setne e];exact h.k j hj
theorem allLK.mem {ls0 ls:List Link} (h:allLK ls0 ls) {l:Link} (hl:l∈ls):∃ l0∈ls0,LK l0 l:=by
  obtain ⟨i,hi,e⟩:=List.mem_iff_getElem.1 hl
  have:=h.k i (by rw [← h.n];exact hi)
  rw [List.getD_eq_getElem?_getD (l:=ls),List.getElem?_eq_getElem hi,e] at this
  exact ⟨_,getD_memN (by rw [← h.n];exact hi),this⟩
theorem allLK.lnk {ls0 ls:List Link} (h:allLK ls0 ls) {i k:Int} (hk:lnk ls0 i k):lnk ls i k:=by
  obtain ⟨k0,k1,k2⟩:=hk
  have e:=h.k k.toNat (by omega)
  exact ⟨k0,by rw [h.n];exact k1,by rw [e.a,e.b];exact k2⟩
theorem portsF_congr (i:Int):∀ (k:Nat) (ls ls':List Link),ls'.length=ls.length->(∀ j:Nat,j<ls.length->lA (ls'.getD j default)=lA (ls.getD j default)/\lB (ls'.getD j default)=lB (ls.getD j default))->portsF i k ls'=portsF i k ls
  | k,[],[],_,_=>rfl
  | k,x::r,[],h,_=>by cases h
  | k,[],x::r,h,_=>by cases h
  | k,x::r,y::t,h,e=>by
    have e0:=e 0 (by simp)
    rw [List.getD_cons_zero,List.getD_cons_zero] at e0
    rw [portsF,portsF,port1,port1,e0.1,e0.2,portsF_congr i (k+1) r t (by simpa using h) fun j hj=>by
      have:=e (j+1) (by simp;omega)
      rw [List.getD_cons_succ,List.getD_cons_succ] at this;exact this]
theorem allLK.portsF {ls0 ls:List Link} (h:allLK ls0 ls) (i:Int) (k:Nat):portsF i k ls=Go.RS.portsF i k ls0 :=
  portsF_congr i k ls0 ls h.n fun j hj=>⟨(h.k j hj).a,(h.k j hj).b⟩
theorem tabOK.lk {ls0 ls:List Link} (h:allLK ls0 ls) {aa:List Int} {i:Int} {t:List Rt} (k:tabOK ls0 aa i t):tabOK ls aa i t :=
  ⟨k.1,fun r hr=>by
    have q:=k.2 r hr
    exact ⟨q.len,q.mem,q.ne,q.pw,fun x hx=>h.lnk (q.ln x hx),q.w0,q.w1⟩⟩
structure CH (ns:List Node) (c:Change):Prop where
  at':0<=hAt c/\hAt c<=180
  w:0<=hWho c/\hWho c<ns.length
  r:hRem c=false
  p:∃ r∈nRoutes (ns.getD (hWho c).toNat default),(hRoute c).1=r.1/\(hRoute c).2.2=r.2.2
  x:(hRoute c).2.1=[]∨∃ q∈nPorts (ns.getD (hWho c).toNat default),(hRoute c).2.1=[q.2]
def aaF:List Int:=(List.range 10).flatMap fun (k:Nat)=>[baseA k+1,baseA k+2]
theorem mem_aaF {a:Int} {k:Nat} (hk:k<10) (h:a=baseA k+1∨a=baseA k+2):a∈aaF:=by
  refine List.mem_flatMap.2 ⟨k,List.mem_range.2 hk,?_⟩
  rcases h with h|h <;> rw [h] <;> simp
theorem tabOK.sub {ls:List Link} {aa bb:List Int} {i:Int} {t:List Rt} (h:tabOK ls aa i t) (hs:∀ a∈aa,a∈bb):tabOK ls bb i t :=
  ⟨h.1,fun r hr=>by
    have q:=h.2 r hr
    exact ⟨q.len,hs _ q.mem,q.ne,q.pw,q.ln,q.w0,q.w1⟩⟩
structure DN (n:Net):Prop where
  n3:3<=n.1.length
  n7:n.1.length<=7
  l2:2<=n.2.1.length
  l10:n.2.1.length<=10
  h3:n.2.2.length<=3
  g:∀ x∈n.2.1,(0<=lA x/\lA x<n.1.length)/\(0<=lB x/\lB x<n.1.length)/\lA x≠lB x/\(1<=lDelay x/\lDelay x<=20)/\(0<=lJitter x/\lJitter x<=9)/\(0<=lLoss x/\lLoss x<=65536)/\0<=lSeed x/\lSeed x<=255
  p:∀ i:Nat,i<n.1.length->nPorts (n.1.getD i default)=portsF i 0 n.2.1
  d:allNP n.1
  t:∀ i:Nat,i<n.1.length->tabOK n.2.1 aaF i (nRoutes (n.1.getD i default))
  o:∀ x∈n.2.1,deafL n.1 x=false
  c:∀ x∈n.2.2,CH n.1 x
  s:n.2.2.Pairwise fun a b=>hAt a<=hAt b
theorem oN_np {s:Scene} (h:allNP s.1.1) (hc:okB s.2):∀ {i:Nat},i<=s.1.1.length->allNP (oN s i).1
  | 0,_=>h
  | i+1,hi=>by
    have k:=oN_np h hc (i:=i) (by omega)
    have b:=(oN_ok s hc (i:=i) (by omega)).2
    rw [show ((i+1:Nat):Int)=(i:Int)+1 by omega,oN_next s (by omega)]
    unfold odNodes
    refine k.set fun hl => ?_
    have e:((i:Int).toNat:Nat)=i:=by omega
    rw [e] at hl ⊢
    exact (k i hl).od b
theorem clear_np {ns:List Node} (h:allNP ns) {l:Link} (hl:0<=lB l):allNP (odClear ns l):=by
  unfold odClear
  split
  · exact h.set fun hi=>(h _ hi).opq _
  · exact h
theorem clear_deaf {ns:List Node} {l:Link} (hb:0<=lB l/\lB l<ns.length):deafL (odClear ns l) l=false:=by
  unfold odClear
  split
  · unfold deafL
    rw [getD_set (by omega)]
    exact Bool.and_false _
  · rename_i h
    unfold deafL
    cases h1:nOpaque (ns.getD (lA l).toNat default) <;> cases h2:nOpaque (ns.getD (lB l).toNat default) <;> simp_all
theorem clear_keep {ns:List Node} {l m:Link} (h:deafL ns m=false):deafL (odClear ns l) m=false:=by
  unfold odClear
  split
  · have set_op:∀ (i j:Nat),nOpaque (ns.getD j default)=false->nOpaque ((ns.set i (odOpaque (ns.getD i default) false)).getD j default)=false:=fun i j hj=>by
      by_cases e:i=j
      · subst e
        by_cases hl:i<ns.length
        · rw [getD_set hl];rfl
        · rw [List.set_eq_of_length_le (by omega)];exact hj
      · rw [getD_setne e];exact hj
    unfold deafL at h ⊢
    rw [Bool.and_eq_false_iff] at h ⊢
    exact h.imp (set_op _ _) (set_op _ _)
  · exact h
theorem deafL_lk {ns:List Node} {l m:Link} (ha:lA l=lA m) (hb:lB l=lB m):deafL ns l=deafL ns m:=by unfold deafL;rw [ha,hb]
structure OLI (s:Scene) (i:Nat):Prop where
  np:allNP (oL s i).1.1
  lk:allLK s.1.2.1 (oL s i).1.2
  df:∀ k:Nat,k<i->deafL (oL s i).1.1 (s.1.2.1.getD k default)=false
theorem oL_inv {s:Scene} (h:allNP s.1.1) (hc:okB s.2) (hg:goodEnds s.1.1.length s.1.2.1) (hl:allLK s.1.2.1 s.1.2.1):∀ {i:Nat},i<=s.1.2.1.length->OLI s i
  | 0,_=>⟨oN_np h hc (Nat.le_refl _),hl,fun k hk=>by omega⟩
  | i+1,hi=>by
    have k:=oL_inv h hc hg hl (i:=i) (by omega)
    obtain ⟨ag,cb,ge,ll⟩:=oL_ok s hc hg (i:=i) (by omega)
    have hb:=hg.at' (k:=i) (by omega)
    have e:((i:Int).toNat:Nat)=i:=by omega
    have lk1:=(k.lk.k i (by omega)).od cb
    have hn:=ag.n
    have step:oL s ((i+1:Nat):Int)=odLinks (oL s i) i:=by
      rw [show ((i+1:Nat):Int)=(i:Int)+1 by omega,oL_next s (by omega),e]
    have fin:OLI s (i+1):=by
      refine ⟨?_,?_,fun j hj => ?_⟩
      · rw [step];unfold odLinks;dsimp only
        refine clear_np k.np ?_
        rw [lk1.b];exact hb.2.1
      · rw [step];unfold odLinks;dsimp only
        exact k.lk.set fun _=>lk1
      · rw [step];unfold odLinks;dsimp only
        by_cases q:j=i
        · subst q
          rw [← deafL_lk (l:=(odLink ((oL s j).1.2.getD j default) (oL s j).2).1) lk1.a lk1.b]
          refine clear_deaf ?_
          rw [lk1.b,hn];exact hb.2
        · exact clear_keep (k.df j (by omega))
    exact fin
structure OCI (ns:List Node) (m:Nat) (x:List Change×Int×Codes):Prop where
  c:okB x.2.2
  a:0<=x.2.1/\x.2.1<=60*m
  n:x.1.length<=m
  h:∀ y∈x.1,CH ns y/\hAt y<=x.2.1
  s:x.1.Pairwise fun a b=>hAt a<=hAt b
theorem OCI.next {ns:List Node} {m:Nat} {x:List Change×Int×Codes} (h:OCI ns m x) (hm:m<3) (h0:0<ns.length) (hp:∀ x∈ns,nRoutes x≠[]->0<(nPorts x).length):OCI ns (m+1) (odChange ns x):=by
  have a:=nextV_lt h.c (n:=60) (by omega)
  have k1:=(nextV_ok h.c 60).1
  have w:=nextV_lt k1 (n:=(ns.length:Int)) (by omega)
  have k2:=(nextV_ok k1 (ns.length:Int)).1
  have ha:=h.a
  have hn:=h.n
  unfold odChange
  dsimp only
  have hX:=getD_mem (xs:=ns) w.1 w.2
  generalize eX:ns.getD (nextV (nextV x.2.2 60).2 (ns.length:Int)).1.toNat default=X at hX ⊢
  split
  · refine ⟨k2,?_,?_,fun y hy=>⟨(h.h y hy).1,?_⟩,h.s⟩
    · show 0<=x.2.1+_/\x.2.1+_<=60*((m+1:Nat):Int)
      omega
    · show x.1.length<=m+1
      omega
    · have:=(h.h y hy).2
      show hAt y<=x.2.1+_
      omega
  · rename_i hr
    have hr':nRoutes X≠[]:=fun e=>hr (by rw [e];rfl)
    have q3:=nextV_lt k2 (n:=((nRoutes X).length:Int)) (by omega)
    have b3:=(nextV_ok k2 ((nRoutes X).length:Int)).1
    have hpp:=hp X hX hr'
    have q4:=nextV_lt b3 (n:=((nPorts X).length:Int)) (by omega)
    have b4:=(nextV_ok b3 ((nPorts X).length:Int)).1
    have b5:=(nextV_ok b4 4).1
    refine ⟨b5,?_,?_,fun y hy => ?_,?_⟩
    · show 0<=x.2.1+_/\x.2.1+_<=60*((m+1:Nat):Int)
      omega
    · show (x.1++[_]).length<=m+1
      rw [List.length_append,List.length_singleton];omega
    · rcases List.mem_append.1 hy with hy|hy
      · refine ⟨(h.h y hy).1,?_⟩
        have:=(h.h y hy).2
        show hAt y<=x.2.1+_
        omega
      · rw [List.mem_singleton.1 hy]
        refine ⟨⟨?_,w,rfl,?_,?_⟩,Int.le_refl _⟩
        · show 0<=x.2.1+_/\x.2.1+_<=180
          omega
        · refine ⟨(nRoutes X).getD (nextV (nextV (nextV x.2.2 60).2 (ns.length:Int)).2 ((nRoutes X).length:Int)).1.toNat default,?_,rfl,rfl⟩
          show _∈nRoutes (ns.getD (nextV (nextV x.2.2 60).2 (ns.length:Int)).1.toNat default)
          rw [eX]
          exact getD_mem q3.1 q3.2
        · by_cases hz:(nextV (nextV (nextV (nextV (nextV x.2.2 60).2 (ns.length:Int)).2 ((nRoutes X).length:Int)).2 ((nPorts X).length:Int)).2 4).1=3
          · exact .inl (if_pos hz)
          · refine .inr ⟨(nPorts X).getD (nextV (nextV (nextV (nextV x.2.2 60).2 (ns.length:Int)).2 ((nRoutes X).length:Int)).2 ((nPorts X).length:Int)).1.toNat default,?_,if_neg hz⟩
            show _∈nPorts (ns.getD (nextV (nextV x.2.2 60).2 (ns.length:Int)).1.toNat default)
            rw [eX]
            exact getD_mem q4.1 q4.2
    · refine List.pairwise_append.2 ⟨h.s,List.pairwise_singleton _ _,fun y hy z hz => ?_⟩
      have:=(h.h y hy).2
      rw [List.mem_singleton.1 hz]
      show hAt y<=x.2.1+_
      omega
theorem getD_of_mem {α:Type} [Inhabited α] {l:List α} {x:α} (h:x∈l):∃ i:Nat,i<l.length/\l.getD i default=x:=by
  obtain ⟨i,hi,e⟩:=List.mem_iff_getElem.1 h
  exact ⟨i,hi,by rw [List.getD_eq_getElem?_getD,List.getElem?_eq_getElem hi,e];rfl⟩
theorem RS.np {s r:Scene} {nn nl:Nat} (h:RS s nn nl r):allNP r.1.1:=fun i hi=>by
  have hi':i<nn:=by have:=h.i.n;have:=h.g.n;omega
  obtain ⟨host,f,sd,hd,hf,h0,h1⟩:=h.g.d i hi'
  have e:=h.i.e i (by rw [h.g.n];exact hi')
  exact NP.routes (NP.same (NP.new (host:=host) hf h0 h1) hd.symm) e.symm
theorem RS.opq {s r:Scene} {nn nl:Nat} (h:RS s nn nl r) {i:Nat} (hi:i<nn):nOpaque (r.1.1.getD i default)=false:=by
  obtain ⟨host,f,sd,hd,-⟩:=h.g.d i hi
  have e:=congrArg nOpaque (h.i.e i (by rw [h.g.n];exact hi))
  have e2:nOpaque (s.1.1.getD i default)=nOpaque (newNode i host f sd):=congrArg (fun z=>nOpaque (([]:List (Int×Int)),z)) hd
  exact e.trans e2
theorem RS.adr {s r:Scene} {nn nl:Nat} (h:RS s nn nl r) (hl:nl<=10):∀ a∈allA s.1.1,a∈aaF:=fun a ha=>by
  unfold allA at ha
  obtain ⟨x,hx,ha⟩:=List.mem_flatMap.1 ha
  obtain ⟨q,hq,rfl⟩:=List.mem_map.1 ha
  obtain ⟨i,hi,rfl⟩:=getD_of_mem hx
  rw [h.g.p i (by rw [← h.g.n];exact hi)] at hq
  obtain ⟨j,hj,e⟩:=mem_portsF.1 hq
  rw [h.g.l] at hj
  rw [Nat.zero_add] at e
  rcases e with ⟨-,rfl⟩|⟨-,rfl⟩
  · exact mem_aaF (k:=j) (by omega) (.inl rfl)
  · exact mem_aaF (k:=j) (by omega) (.inr rfl)
theorem RS.links {s r:Scene} {nn nl:Nat} (h:RS s nn nl r):r.1.2.1=s.1.2.1:=congrArg Prod.fst h.l
theorem RS.lk {s r:Scene} {nn nl:Nat} (h:RS s nn nl r):allLK r.1.2.1 r.1.2.1:=⟨rfl,fun i hi=>by
  rw [h.links] at hi ⊢
  have:=h.g.g _ (getD_memN hi)
  exact ⟨rfl,rfl,rfl,rfl,by omega,by omega⟩⟩
theorem RS.dn {s r:Scene} {nn nl:Nat} (h:RS s nn nl r) (n3:3<=nn) (n7:nn<=7) (l2:2<=nl) (l10:nl<=10):DN r.1:=by
  have rn:r.1.1.length=nn:=h.i.n.trans h.g.n
  have rl:=h.links
  have rh:r.1.2.2=[]:=(congrArg Prod.snd h.l).trans h.g.h
  refine ⟨by omega,by omega,by rw [rl,h.g.l];exact l2,by rw [rl,h.g.l];exact l10,by rw [rh];exact Nat.zero_le _,fun x hx => ?_,fun i hi => ?_,h.np,fun i hi => ?_,fun x hx => ?_,fun x hx => ?_,?_⟩
  · rw [rl] at hx
    have:=h.g.g x hx
    rw [rn];omega
  · rw [rl];exact h.ports (by omega)
  · rw [rl];exact (h.tab (by omega)).sub (h.adr l10)
  · rw [rl] at hx
    have g:=h.g.g x hx
    unfold deafL
    rw [h.opq (i:=(lA x).toNat) (by omega)];rfl
  · rw [rh] at hx;cases hx
  · rw [rh];exact List.Pairwise.nil
theorem oC_inv {s:Scene} (h:okB s.2) (hg:goodEnds s.1.1.length s.1.2.1) (h0:0<s.1.1.length) (hp:∀ x∈(oL s s.1.2.1.length).1.1,nRoutes x≠[]->0<(nPorts x).length):∀ i:Nat,i<=3->OCI (oL s s.1.2.1.length).1.1 i (oC s i)
  | 0,_=>⟨(nextV_ok (oL_ok s h hg (Int.le_refl _)).2.1 4).1,⟨Int.le_refl _,Int.le_refl _⟩,Nat.le_refl _,fun y hy=>(by cases hy),List.Pairwise.nil⟩
  | i+1,hi=>by
    rw [oC_next]
    exact (oC_inv h hg h0 hp i (by omega)).next (by omega) (by rw [(oL_ok s h hg (Int.le_refl _)).1.n];exact h0) hp
theorem RS.odd {s r:Scene} {nn nl:Nat} (h:RS s nn nl r) (n3:3<=nn) (n7:nn<=7) (l2:2<=nl) (l10:nl<=10):DN (oddS r).1:=by
  have rn:r.1.1.length=nn:=h.i.n.trans h.g.n
  have rl:=h.links
  have pre:=h.preO (by omega) (by omega) (by omega)
  have ok:=oL_ok r h.c pre.g (i:=r.1.2.1.length) (Int.le_refl _)
  have inv:=oL_inv h.np h.c pre.g h.lk (i:=r.1.2.1.length) (Nat.le_refl _)
  have ag:=ok.1
  have e:(oddS r).1=((oL r r.1.2.1.length).1.1,(oL r r.1.2.1.length).1.2,(oC r (oK r).toNat).1):=by
    unfold oddS oC oK oL oN
    rfl
  have kk:=nextV_lt ok.2.1 (n:=4) (by omega)
  have hp:∀ x∈(oL r r.1.2.1.length).1.1,nRoutes x≠[]->0<(nPorts x).length:=fun x hx hr=>by
    obtain ⟨i,hi,rfl⟩:=getD_of_mem hx
    have q:=ag.e i (by rw [← ag.n];exact hi)
    rw [q.1]
    rw [q.2] at hr
    exact (pre.p _ (getD_memN (by rw [← ag.n];exact hi)) hr).1
  have oc:=oC_inv h.c pre.g pre.n0 hp (oK r).toNat (by unfold oK;omega)
  rw [e]
  have ln:(oL r r.1.2.1.length).1.1.length=nn:=ag.n.trans rn
  have ll:(oL r r.1.2.1.length).1.2.length=nl:=by rw [inv.lk.n,rl,h.g.l]
  refine ⟨by rw [ln];exact n3,by rw [ln];exact n7,by rw [ll];exact l2,by rw [ll];exact l10,?_,fun x hx => ?_,fun i hi => ?_,inv.np,fun i hi => ?_,fun x hx => ?_,fun x hx=>(oc.h x hx).1,oc.s⟩
  · have:=oc.n
    have:(oK r).toNat<=3:=by unfold oK;omega
    dsimp only
    omega
  · obtain ⟨l0,hl0,k⟩:=inv.lk.mem hx
    rw [rl] at hl0
    have g:=h.g.g l0 hl0
    have ka:=k.a;have kb:=k.b;have kd:=k.d;have ks:=k.s;have kj:=k.j;have ko:=k.o
    rw [ln,ka,kb,kd,ks]
    omega
  · dsimp only at hi ⊢
    rw [(ag.e i (by omega)).1,h.ports (by omega),inv.lk.portsF,rl]
  · dsimp only at hi ⊢
    rw [(ag.e i (by omega)).2]
    refine tabOK.sub (tabOK.lk inv.lk ?_) (h.adr l10)
    rw [rl]
    exact h.tab (by omega)
  · dsimp only at hx ⊢
    obtain ⟨i,hi,rfl⟩:=getD_of_mem hx
    have hi':i<r.1.2.1.length:=by rw [← inv.lk.n];exact hi
    have k:=inv.lk.k i hi'
    rw [deafL_lk k.a k.b]
    exact inv.df i hi'
theorem net_dn {c:Codes} (h:okB c) (plain:Bool):DN (netV plain c):=by
  have hn:=lineN_ok h
  obtain ⟨m,m2,m10,G⟩:=net_ok h plain
  have R:=G.rs plain
  unfold netV netS
  cases plain with
  | true=>exact R.dn (by omega) (by omega) m2 m10
  | false=>exact R.odd (by omega) (by omega) m2 m10
theorem net_codes {c:Codes} (h:okB c) (plain:Bool):okB (netC plain c):=by
  obtain ⟨m,m2,m10,G⟩:=net_ok h plain
  have R:=G.rs plain
  unfold netC netS
  cases plain with
  | true=>exact R.c
  | false =>
    have hn:=lineN_ok h
    have pre:=R.preO (by omega) (by omega) (by omega)
    exact (oC_ok _ R.c pre.g _).1
end Go.RS

/- Drawn2: drawn networks have no error; who has an address; routes. -/
namespace Go.RS
open Go.SX Go.Proofs
set_option maxRecDepth 100000
set_option linter.unusedVariables false
theorem DN.port {n:Net} (h:DN n) {i:Nat} (hi:i<n.1.length) {q:Port}:q∈nPorts (n.1.getD i default)↔∃ j:Nat,j<n.2.1.length/\((lA (n.2.1.getD j default)=i/\q=(baseA j+1,(j:Int)))∨(lB (n.2.1.getD j default)=i/\q=(baseA j+2,(j:Int)))):=by
  rw [h.p i hi,mem_portsF];simp only [Nat.zero_add]
theorem DN.links {n:Net} (h:DN n) {i:Nat} (hi:i<n.1.length) {k:Int}:k∈pLinks (n.1.getD i default)↔lnk n.2.1 i k:=by
  unfold pLinks lnk
  rw [List.mem_map]
  constructor
  · rintro ⟨q,hq,rfl⟩
    obtain ⟨j,hj,e⟩:=(h.port hi).1 hq
    rcases e with ⟨e,rfl⟩|⟨e,rfl⟩
    · exact ⟨by dsimp only;omega,by dsimp only;omega,.inl (by simpa using e)⟩
    · exact ⟨by dsimp only;omega,by dsimp only;omega,.inr (by simpa using e)⟩
  · rintro ⟨k0,k1,e⟩
    have ek:((k.toNat:Nat):Int)=k:=by omega
    rcases e with e|e
    · exact ⟨_,(h.port hi).2 ⟨k.toNat,by omega,.inl ⟨e,rfl⟩⟩,ek⟩
    · exact ⟨_,(h.port hi).2 ⟨k.toNat,by omega,.inr ⟨e,rfl⟩⟩,ek⟩
theorem DN.uniq {n:Net} (h:DN n) {i j:Nat} (hi:i<n.1.length) (hj:j<n.1.length) {q p:Port} (hq:q∈nPorts (n.1.getD i default)) (hp:p∈nPorts (n.1.getD j default)) (e:q.1=p.1):i=j/\q.2=p.2:=by
  obtain ⟨a,ha,ea⟩:=(h.port hi).1 hq
  obtain ⟨b,hb,eb⟩:=(h.port hj).1 hp
  unfold baseA at ea eb
  rcases ea with ⟨ea,rfl⟩|⟨ea,rfl⟩ <;> rcases eb with ⟨eb,rfl⟩|⟨eb,rfl⟩ <;> dsimp only at e ⊢
  · have:a=b:=by omega
    subst this;omega
  · omega
  · omega
  · have:a=b:=by omega
    subst this;omega
theorem DN.padr {n:Net} (h:DN n) {i:Nat} (hi:i<n.1.length) {a:Int} (ha:a∈pAddrs (n.1.getD i default)):167837697<=a/\a<=167837734:=by
  obtain ⟨q,hq,rfl⟩:=List.mem_map.1 ha
  obtain ⟨b,hb,eb⟩:=(h.port hi).1 hq
  have:=h.l10
  unfold baseA at eb
  rcases eb with ⟨eb,rfl⟩|⟨eb,rfl⟩ <;> dsimp only <;> omega
theorem DN.loop {n:Net} (h:DN n) {i:Nat} (hi:i<n.1.length):nLoop (n.1.getD i default)=0∨nLoop (n.1.getD i default)=167903232+i:=(h.d i hi).loop
theorem mem_adrs {x:Node} {a:Int}:a∈adrs x↔a∈pAddrs x∨(nLoop x≠0/\a=nLoop x):=by
  unfold adrs
  rw [List.mem_append]
  by_cases e:nLoop x=0
  · rw [if_pos e];simp [e]
  · rw [if_neg e];simp [e]
theorem DN.apart {n:Net} (h:DN n) {i j:Nat} (hi:i<n.1.length) (hj:j<n.1.length) {a:Int} (ha:a∈adrs (n.1.getD i default)) (hb:a∈adrs (n.1.getD j default)):i=j:=by
  rw [mem_adrs] at ha hb
  have li:=h.loop hi
  have lj:=h.loop hj
  rcases ha with ha|ha <;> rcases hb with hb|hb
  · obtain ⟨q,hq,e⟩:=List.mem_map.1 ha
    obtain ⟨p,hp,e2⟩:=List.mem_map.1 hb
    exact (h.uniq hi hj hq hp (e.trans e2.symm)).1
  · have:=h.padr hi ha;omega
  · have:=h.padr hj hb;omega
  · omega
theorem other_a {ls:List Link} {k:Int} (k0:0<=k) (k1:k<ls.length):otherV ls k (lA (ls.getD k.toNat default))=lB (ls.getD k.toNat default):=by
  unfold otherV;rw [if_neg (by omega),if_pos rfl]
theorem other_b {ls:List Link} {k:Int} (k0:0<=k) (k1:k<ls.length) (hn:lA (ls.getD k.toNat default)≠lB (ls.getD k.toNat default)):otherV ls k (lB (ls.getD k.toNat default))=lA (ls.getD k.toNat default):=by
  unfold otherV;rw [if_neg (by omega),if_neg (fun e=>hn e.symm),if_pos rfl]
theorem mem_chV {l:List Rt} {c:Change} {r:Rt} (h:r∈chV l c):r=hRoute c∨r∈l:=by
  unfold chV at h
  split at h
  · exact .inr (List.mem_filter.1 h).1
  · rcases putL_mem.1 h with h|h
    · exact .inl h
    · exact .inr h.1
theorem routes_all {n:Net} {who at':Int} (w0:0<=who) (w1:who<n.1.length) {P:Rt->Prop} (h0:∀ r∈nRoutes (n.1.getD who.toNat default),P r) (hc:∀ c∈n.2.2,hWho c=who->P (hRoute c)):∀ r∈routesV n who at',P r:=by
  unfold routesV routesK
  rw [if_neg (by omega)]
  have e:∀ (l:List Change) (t:List Rt),(∀ c∈l,hWho c=who->P (hRoute c))->(∀ r∈t,P r)→∀ r∈l.foldl (stepC who at') t,P r:=by
    intro l
    induction l with
    | nil=>intro t _ h;exact h
    | cons c l ih =>
      intro t hl ht
      rw [List.foldl_cons]
      refine ih _ (fun x hx=>hl x (List.mem_cons_of_mem _ hx)) fun r hr => ?_
      unfold stepC at hr
      split at hr
      · rename_i q
        rcases mem_chV hr with rfl|hr
        · exact hl c List.mem_cons_self q.1
        · exact ht r hr
      · exact ht r hr
  exact e _ _ (fun c hc'=>hc c (List.mem_of_mem_take hc')) h0
theorem DN.next {n:Net} (h:DN n) {who at':Int} (w0:0<=who) (w1:who<n.1.length):∀ r∈routesV n who at',∀ k∈r.2.1,lnk n.2.1 who k:=by
  have ew:((who.toNat:Nat):Int)=who:=by omega
  refine routes_all w0 w1 (fun r hr k hk => ?_) (fun c hc hw k hk => ?_)
  · have:=((h.t who.toNat (by omega)).2 r hr).ln k hk
    rw [ew] at this;exact this
  · have q:=(h.c c hc).x
    rw [hw] at q
    rcases q with e|⟨q,hq,e⟩
    · rw [e] at hk;cases hk
    · rw [e] at hk
      rw [List.mem_singleton.1 hk]
      have:=(h.links (i:=who.toNat) (by omega)).1 (List.mem_map.2 ⟨q,hq,rfl⟩)
      rw [ew] at this;exact this
theorem DN.other {n:Net} (h:DN n) {who k:Int} (hk:lnk n.2.1 who k):0<=otherV n.2.1 k who/\otherV n.2.1 k who<n.1.length:=by
  obtain ⟨k0,k1,e⟩:=hk
  have g:=h.g _ (getD_mem k0 k1)
  rcases e with e|e
  · rw [← e,other_a k0 k1];exact g.2.1
  · rw [← e,other_b k0 k1 g.2.2.1];exact g.1
end Go.RS

/- Drawn3: each node of a drawn network has a port. -/
namespace Go.RS
open Go.SX Go.Proofs
set_option maxRecDepth 100000
set_option linter.unusedVariables false
def tch (ls:List Link) (i:Int):Prop:=∃ l∈ls,lA l=i∨lB l=i
theorem tch.app {ls:List Link} {i:Int} (h:tch ls i) (m:List Link):tch (ls++m) i:=by
  obtain ⟨l,hl,e⟩:=h
  exact ⟨l,List.mem_append_left _ hl,e⟩
theorem tch.link {s:Scene} {i:Int} (h:tch s.1.2.1 i) (a b:Int):tch (linkS s a b).1.2.1 i:=h.app _
theorem tch_a (s:Scene) (a b:Int):tch (linkS s a b).1.2.1 a:=⟨_,List.mem_append_right _ List.mem_cons_self,.inl rfl⟩
theorem tch_b (s:Scene) (a b:Int):tch (linkS s a b).1.2.1 b:=⟨_,List.mem_append_right _ List.mem_cons_self,.inr rfl⟩
theorem chain_tch (s:Scene):∀ k j:Nat,j<k->tch ((List.range k).foldl chainS s).1.2.1 j
  | 0,j,h=>absurd h (Nat.not_lt_zero _)
  | k+1,j,h=>by
    rw [List.range_succ,List.foldl_append]
    by_cases e:j<k
    · exact (chain_tch s k j e).link (s:=nodeS ((List.range k).foldl chainS s) false) _ _
    · have:j=k:=by omega
      subst this
      exact tch_a _ _ _
theorem line_tch {c:Codes} (h:okB c) {j:Nat} (hj:j<(lineN c).toNat+2):tch (lineS c).2.1.2.1 j:=by
  have hn:=lineN_ok h
  rw [lineS_eq]
  by_cases e:j<(lineN c).toNat
  · exact (chain_tch _ _ _ e).link (s:=nodeS ((List.range (lineN c).toNat).foldl chainS (line0 c)) true) _ _
  by_cases e2:j=(lineN c).toNat
  · rw [show ((j:Nat):Int)=lineN c by omega];exact tch_a _ _ _
  · rw [show ((j:Nat):Int)=lineN c+1 by omega];exact tch_b _ _ _
theorem short_tch {s:Scene} {i:Int} (h:tch s.1.2.1 i) (n:Int):tch (shortS n s).1.2.1 i:=by
  unfold shortS
  dsimp only
  split
  · exact h
  · exact tch.app h _
theorem shorts_tch {n i:Int}:∀ (k:Nat) {s:Scene},tch s.1.2.1 i->tch ((List.range k).foldl (fun s _=>shortS n s) s).1.2.1 i
  | 0,s,h=>h
  | k+1,s,h=>by
    rw [List.range_succ,List.foldl_append]
    exact short_tch (shorts_tch k h) n
theorem more_tch {s:Scene} {i:Int} (h:tch s.1.2.1 i) (plain:Bool) (n:Int):tch (moreS plain n s).1.2.1 i:=by
  rw [moreS_eq]
  dsimp only
  have h1:tch (more1 plain n s (nextV s.2 4).1.toNat).1.2.1 i:=by
    unfold more1
    split
    · exact shorts_tch _ h
    · exact h
  generalize more1 plain n s (nextV s.2 4).1.toNat=t at h1 ⊢
  split
  · split
    · exact tch.app h1 _
    · exact h1
  · exact h1
theorem odd_tch {s r:Scene} {nn nl:Nat} (h:RS s nn nl r) (n3:3<=nn) (n7:nn<=7) (l10:nl<=10) {i:Int} (ht:tch r.1.2.1 i):tch (oddS r).1.2.1 i:=by
  have pre:=h.preO (by omega) (by omega) (by omega)
  have inv:=oL_inv h.np h.c pre.g h.lk (i:=r.1.2.1.length) (Nat.le_refl _)
  have e:(oddS r).1.2.1=(oL r r.1.2.1.length).1.2:=by
    unfold oddS oL oN
    rfl
  rw [e]
  obtain ⟨l,hl,q⟩:=ht
  obtain ⟨j,hj,rfl⟩:=getD_of_mem hl
  have k:=inv.lk.k j hj
  refine ⟨_,getD_memN (by rw [inv.lk.n];exact hj),?_⟩
  rw [k.a,k.b];exact q
theorem odd_len {s r:Scene} {nn nl:Nat} (h:RS s nn nl r) (n3:3<=nn) (n7:nn<=7) (l10:nl<=10):(oddS r).1.1.length=r.1.1.length:=by
  have pre:=h.preO (by omega) (by omega) (by omega)
  have ok:=oL_ok r h.c pre.g (i:=r.1.2.1.length) (Int.le_refl _)
  have e:(oddS r).1.1=(oL r r.1.2.1.length).1.1:=by
    unfold oddS oL oN
    rfl
  rw [e]
  exact ok.1.n
theorem net_tch {c:Codes} (h:okB c) (plain:Bool) {i:Nat} (hi:i<(netV plain c).1.length):tch (netV plain c).2.1 i:=by
  have hn:=lineN_ok h
  obtain ⟨m,m2,m10,G⟩:=net_ok h plain
  have R:=G.rs plain
  have rn:=R.i.n.trans R.g.n
  have t:=fun j=>fun (hj:j<(lineN c).toNat+2)=>more_tch (line_tch h hj) plain (lineS c).1
  unfold netV netS at hi ⊢
  dsimp only at hi ⊢
  cases plain with
  | true =>
    rw [if_pos rfl] at hi ⊢
    rw [R.links]
    exact t i (by rw [← rn];exact hi)
  | false =>
    rw [if_neg (by decide)] at hi ⊢
    have ol:=odd_len R (by omega) (by omega) m10
    refine odd_tch R (by omega) (by omega) m10 ?_
    rw [R.links]
    exact t i (by rw [← rn];omega)
theorem net_ports {c:Codes} (h:okB c) (plain:Bool) {i:Nat} (hi:i<(netV plain c).1.length):0<(nPorts ((netV plain c).1.getD i default)).length:=by
  have D:=net_dn h plain
  obtain ⟨l,hl,q⟩:=net_tch h plain hi
  obtain ⟨j,hj,rfl⟩:=getD_of_mem hl
  rcases q with q|q
  · exact List.length_pos_of_mem ((D.port hi).2 ⟨j,hj,.inl ⟨q,rfl⟩⟩)
  · exact List.length_pos_of_mem ((D.port hi).2 ⟨j,hj,.inr ⟨q,rfl⟩⟩)
end Go.RS

/- Law12: the laws of buckets. -/
namespace Go.RS
open Go.SX Go.Proofs
set_option maxRecDepth 100000
set_option linter.unusedVariables false
end Go.RS

/- Law13: what a node does with several packets; a packet that is an answer or damaged is never answered. -/
namespace Go.RS
open Go.SX Go.Proofs
set_option maxRecDepth 100000
set_option linter.unusedVariables false
def simpleV:Node:=([(167772161,0),(167837697,1)],0,0,false,[((0,0),[1],1),((167772160,24),[0],1)],1,0,0,0,0,(0,0),false,false,64,0)
def simpleP:Probe:=(167772169,167903232,17,0,0,1)
theorem simple_ok:nodeV simpleV=0:=by decide +kernel
theorem simple_does:(handleV simpleV (startV simpleV) 0 5 (build simpleP)).2.2=2/\(handleV simpleV (startV simpleV) 0 5 (build simpleP)).2.1.1=0/\(handleV simpleV (startV simpleV) 0 5 (build simpleP)).2.1.2.length=56/\sSent (handleV simpleV (startV simpleV) 0 5 (build simpleP)).1=1:=by decide +kernel
def ct_law13_simple:Ct:=⟨[],[.agg cNode],fun _=>[],fun _=>((simpleV,()),())⟩
def an_law13_simple:PDs ct_law13_simple.ps->Anns:=(fun _=>{})
theorem vc_law13_simple :
 True->True->([((167772161:Int),(0:Int)),((167837697:Int),(1:Int))],(0:Int),(0:Int),false,[(((0:Int),(0:Int)),[(1:Int)],(1:Int)),(((167772160:Int),(24:Int)),[(0:Int)],(1:Int))],(1:Int),(0:Int),(0:Int),(0:Int),(0:Int),((0:Int),(0:Int)),false,false,(64:Int),(0:Int))=simpleV:=by
  intro _ _;rfl
theorem ok_law13_simple:SpecOK Tryz.prog GL 30 ct_law13_simple.spec:=Ct.okH _ Tryz.func30 (by kernel_rfl) noSpecs_ok hmix an_law13_simple (hideMp (by kernel_rfl) vc_law13_simple)
def ct_law13_awake:Ct:=⟨[],[.val .bool],fun _=>[],fun _=>((true,()),())⟩
def an_law13_awake:PDs ct_law13_awake.ps->Anns:=(fun _=>{})
def Qcg6 :=
 ((167772169:Int),(167903232:Int),(17:Int),(0:Int),(0:Int),(1:Int))
theorem vc_law13_awake :
 True->True-> ∀(a:Node),a=simpleV-> ∀(b:List Int) (c:Int),b=build (Qcg6)/\c=probeErr (Qcg6)-> ∀(d:Int),d=nodeV a->ifP (! decide (d=0)) (false=true) (okL (nRoutes a)/\((List.length (nPorts a)):Int)<=1000000/\ ∀(e:List Route) (f:Int) (g:List Int) (h i j:Int),(e,f,g,(h,i),j)=startV a->sortedR (sRoutes (e,f,g,(h,i),j))/\okL (sRoutes (e,f,g,(h,i),j))/\((List.length (sPortSent (e,f,g,(h,i),j))):Int)<=1000000/\(b.length:Int)<=1000000/\ ∀(k:List Route) (l:Int) (m:List Int) (n o p q:Int) (r:List Int) (s:Int),(k,l,m,(n,o),p)=(handleV a (e,f,g,(h,i),j) (0:Int) (5:Int) b).1/\(q,r)=(handleV a (e,f,g,(h,i),j) (0:Int) (5:Int) b).2.1/\s=(handleV a (e,f,g,(h,i),j) (0:Int) (5:Int) b).2.2-> ∀(t:Bool),t=decide (s=2)->(t->(t->t)/\True)/\(t->(t->t)/\True)/\(t->t)/\ ∀(u:Bool),(u=bif t then decide (q=0) else false)->(u->(u->u)/\True)/\(u->(u->u)/\True)/\(u->(u->u)/\True)/\(u->u)/\ ∀(v:Bool),(v=bif u then decide
 ((r.length:Int)=56) else false)->(v->(v->v)/\True)/\(v->(v->v)/\True)/\(v->v)/\(bif v then decide (l=1) else false)=true):=by
  delta Qcg6
  rintro - - d hd b e ⟨rfl,-⟩ k rfl
  rw [hd]
  refine ifP_split (fun h => ?_) (fun h => ?_)
  · rw [simple_ok] at h;simp at h
  have hst:=start_ok (nodeV_ok simple_ok)
  refine ⟨(check_okL (nodeV_ok simple_ok).rt).2,by decide,?_⟩
  rintro x3 x4 x5 x6 x7 x8 h8
  rw [h8]
  refine ⟨hst.srt,hst.okl,by decide,by have:=build_len simpleP;show ((build simpleP).length:Int)<=1000000;omega,?_⟩
  rintro y1 y2 y3 y4 y5 y6 z1 z2 z3 ⟨q1,q2,q3⟩
  obtain ⟨d1,d2,d3,d4⟩:=simple_does
  have q3:z3=2:=q3.trans d1
  have q2a:z1=0:=(congrArg Prod.fst q2).trans d2
  have q2b:z2.length=56:=(congrArg List.length (congrArg Prod.snd q2)).trans d3
  have q4:y2=1:=(congrArg (fun s:NState=>s.2.1) q1).trans d4
  subst q3 q2a q4
  have q5:(z2.length:Int)=56:=by omega
  intro b1 hb1
  (repeat refine ⟨(by first|(simp;done)|(rw [hb1];simp;done)|(cases b1 <;> simp)),?_⟩)
  intro b2 hb2
  (repeat refine ⟨(by first|(simp;done)|(rw [hb2];simp;done)|(cases b2 <;> simp)),?_⟩)
  intro b3 hb3
  (repeat refine ⟨(by first|(simp;done)|(rw [hb3];simp;done)|(cases b3 <;> simp)),?_⟩)
  rw [hb3,hb2,hb1]
  simp [q5]
theorem ok_law13_awake:SpecOK Tryz.prog GL 9 ct_law13_awake.spec:=Ct.okH _ Tryz.func9 (by kernel_rfl) (withSpec_ok (withSpec_ok (withSpec_ok (withSpec_ok (withSpec_ok noSpecs_ok (Ct.named ok_law13_simple)) (Ct.named ok_ref07_Build)) (Ct.named ok_node_Check)) (Ct.named ok_node_Start)) (Ct.named ok_node_Handle)) hmix an_law13_awake (hideMp (by kernel_rfl) vc_law13_awake)
def placeOK (x:Node) (link:Int) (b:List Int):Prop:=(link = -1∨link∈pLinks x)/\(b.length:Int)<=1600
def ct_law13_place:Cn:=⟨[.box 96 cCodes,.val (.sl cU8)],[.agg cNode,.val cI,.val (.sl cU8)],fun d=>[okC d.1,(d.2.1.length:Int)<=1600],fun d y=>okC y.2.1/\placeOK y.1.1 y.1.2.1 y.1.2.2.1,fun d h=>⟨((simpleV,-1,[],()),(d.1,())),h.1,.inl rfl,by simp⟩⟩
def an_law13_place:PDs ct_law13_place.ps->Anns:=(fun _=>{})
def Qcg4 (d:List Node) (i:Int) :=
 d.getD i.toNat default
theorem vc_law13_place :
 ∀(a:List Int) (b:Int) (c:List Int),((a.length<=maxLen/\ ∀(d:Int),d∈a->0<=d/\d<=255)/\R64 b)/\(c.length<=maxLen/\ ∀(d:Int),d∈c->0<=d/\d<=255)/\True->okC (a,b)/\(c.length:Int)<=1600->okC (a,b)/\ ∀(d:List Node) (e:List Link) (f:List Change) (g:List Int) (h:Int),(d,e,f)=netV false (a,b)/\(g,h)=netC false (a,b)->okC (g,h)/\ ∀(i:Int) (j:List Int) (k:Int),0<=i/\(i<(d.length:Int)∨i=0)/\okC (j,k)->0<=i/\i<(d.length:Int)/\okC (j,k)/\ ∀(l:Int) (m:List Int) (n:Int),0<=l/\(l<((List.length (Qcg4 d i).1):Int)∨l=0)/\okC (m,n)->0<=l/\l<((List.length (Qcg4 d i).1):Int)/\okC (m,n)/\ ∀(o:Int) (p:List Int) (q:Int),0<=o/\(o<6∨o=0)/\okC (p,q)->ifP (decide (o=5)) (okC (p,q)/\ ∀(r s t u v w:Int) (x:List Int) (y:Int),okC (x,y)/\u32 r/\u32 s/\probeErr (r,s,t,u,v,w)=0->okC (x,y)/\ ∀(z:Int) (A:List Int) (B:Int),okC (A,B)/\0<=z/\z<=4294967295->okC (A,B)/\ ∀(C:Int) (D:List Int) (E:Int),okC (D,E)/\0<=C/\C<=4294967295->
 ∀(F:List Int) (G:Int),F=build (z,C,t,u,v,w)/\G=probeErr (z,C,t,u,v,w)->okC (D,E)/\ ∀(H:Int) (I:List Int) (J:Int),0<=H/\(H<12∨H=0)/\okC (I,J)->ifP (decide (H=9)) (okC (I,J)/\Good (z,C,t,u,v,w)/\ ∀(K L:List Int) (M:Int),okC (L,M)/\answered (z,C,t,u,v,w) K->okC (L,M)/\placeOK (Qcg4 d i) (-1:Int) K) (ifP (decide (H=10)) (okC (I,J)/\(F.length:Int)<=1000000/\ ∀(K L:List Int) (M:Int),(K.length:Int)<=(F.length:Int)+(1:Int)/\okC (L,M)->okC (L,M)/\placeOK (Qcg4 d i) (-1:Int) K) (ifP (decide (H=11)) (okC (I,J)/\placeOK (Qcg4 d i) (-1:Int) c) (okC (I,J)/\placeOK (Qcg4 d i) (-1:Int) F)))) (okC (p,q)/\ ∀(r s t u v w:Int) (x:List Int) (y:Int),okC (x,y)/\u32 r/\u32 s/\probeErr (r,s,t,u,v,w)=0->okC (x,y)/\ ∀(z:Int) (A:List Int) (B:Int),okC (A,B)/\0<=z/\z<=4294967295->okC (A,B)/\ ∀(C:Int) (D:List Int) (E:Int),okC (D,E)/\0<=C/\C<=4294967295-> ∀(F:List Int) (G:Int),F=build (z,C,t,u,v,w)/\G=probeErr
 (z,C,t,u,v,w)->okC (D,E)/\ ∀(H:Int) (I:List Int) (J:Int),0<=H/\(H<12∨H=0)/\okC (I,J)->ifP (decide (H=9)) (okC (I,J)/\Good (z,C,t,u,v,w)/\ ∀(K L:List Int) (M:Int),okC (L,M)/\answered (z,C,t,u,v,w) K->okC (L,M)/\placeOK (Qcg4 d i) (List.getD (Qcg4 d i).1 l.toNat default).2 K) (ifP (decide (H=10)) (okC (I,J)/\(F.length:Int)<=1000000/\ ∀(K L:List Int) (M:Int),(K.length:Int)<=(F.length:Int)+(1:Int)/\okC (L,M)->okC (L,M)/\placeOK (Qcg4 d i) (List.getD (Qcg4 d i).1 l.toNat default).2 K) (ifP (decide (H=11)) (okC (I,J)/\placeOK (Qcg4 d i) (List.getD (Qcg4 d i).1 l.toNat default).2 c) (okC (I,J)/\placeOK (Qcg4 d i) (List.getD (Qcg4 d i).1 l.toNat default).2 F)))):=by
  delta Qcg4
  rintro l p raw ⟨⟨⟨-,hw⟩,-⟩,-⟩ ⟨hc,hraw⟩
  have hB:okB (l,p):=⟨hc,hw⟩
  have hdn:=net_dn hB false
  have hports:=fun {i:Nat}=>net_ports hB false (i:=i)
  have hcB:=net_codes hB false
  refine ⟨hc,?_⟩
  rintro ns ls hs l1 p1 ⟨hnet,hcod⟩
  rw [← hnet] at hdn hports
  rw [← hcod] at hcB
  have n3:3<=ns.length:=hdn.n3
  refine ⟨hcB.1,?_⟩
  rintro i l2 p2 ⟨i0,i1,hc2⟩
  have hi:i<ns.length:=by omega
  have hpi:=hports (i:=i.toNat) (by show i.toNat<ns.length;omega)
  have hpi:0<(ns.getD i.toNat default).1.length:=hpi
  refine ⟨i0,hi,hc2,?_⟩
  rintro k l3 p3 ⟨k0,k1,hc3⟩
  have hk:k<((ns.getD i.toNat default).1.length:Int):=by omega
  refine ⟨k0,hk,hc3,?_⟩
  rintro m l4 p4 ⟨m0,m1,hc4⟩
  have hmem:((ns.getD i.toNat default).1.getD k.toNat default).2∈pLinks (ns.getD i.toNat default):=List.mem_map_of_mem (getD_mem k0 hk)
  generalize ns.getD i.toNat default=X at hmem ⊢
  generalize (X.1.getD k.toNat default).2=lk at hmem ⊢
  refine ifP_split (fun _ => ?_) (fun _ => ?_)
  all_goals
    refine ⟨hc4,?_⟩
    rintro s d pr f t tl l5 p5 ⟨hc5,us,ud,he⟩
    refine ⟨hc5,?_⟩
    rintro a l6 p6 ⟨hc6,a0,a1⟩
    refine ⟨hc6,?_⟩
    rintro b l7 p7 ⟨hc7,b0,b1⟩
    have hg:Good (a,b,pr,f,t,tl):=⟨he,⟨a0,a1⟩,⟨b0,b1⟩⟩
    have hbl:=build_len (a,b,pr,f,t,tl)
    rintro pk e ⟨rfl,-⟩
    refine ⟨hc7,?_⟩
    rintro c l8 p8 ⟨c0,c1,hc8⟩
    refine ifP_split (fun _=>⟨hc8,hg,?_⟩) (fun _=>ifP_split (fun _=>⟨hc8,by omega,?_⟩) (fun _=>ifP_split (fun _ => ?_) (fun _ => ?_)))
    · rintro x l9 p9 ⟨hc9,hx⟩
      have:=(answered_no hx).2
      exact ⟨hc9,by first|exact .inl rfl|exact .inr hmem,by omega⟩
    · rintro x l9 p9 ⟨hx,hc9⟩
      exact ⟨hc9,by first|exact .inl rfl|exact .inr hmem,by omega⟩
    · exact ⟨hc8,by first|exact .inl rfl|exact .inr hmem,hraw⟩
    · exact ⟨hc8,by first|exact .inl rfl|exact .inr hmem,by omega⟩
theorem ok_law13_place:SpecOK Tryz.prog GL 23 ct_law13_place.spec:=Cn.okH _ Tryz.func23 (by kernel_rfl) (withSpec_ok (withSpec_ok (withSpec_ok (withSpec_ok (withSpec_ok (withSpec_ok (withSpec_ok noSpecs_ok (Ct.named ok_draw_Codes_Net)) ok_Next) ok_draw_Codes_Right) ok_draw_Codes_Some) (Ct.named ok_ref07_Build)) ok_draw_Codes_Answer) ok_draw_Codes_Spoilt) hmix an_law13_place (hideMp (by kernel_rfl) vc_law13_place)
theorem ansV_why {B:Int->Int->List Int} {F:Int->Int} {w:Work} {own:Int}:(ansV B F w own).2.2≠0/\(ansV B F w own).2.2≠1:=by
  by_cases k:own=0/\nSilent w.1=true
  · rw [ansV_sil k];exact ⟨(by show (4:Int)≠0;decide),(by show (4:Int)≠1;decide)⟩
  by_cases k1:F 0≠0
  · rw [ansV_bad k k1];exact ⟨(by show (6:Int)≠0;decide),(by show (6:Int)≠1;decide)⟩
  by_cases k2:wayB w.2.1 (hSrc w.2.2.2.2.2)=false
  · rw [ansV_rt k k1 k2];exact ⟨(by show (8:Int)≠0;decide),(by show (8:Int)≠1;decide)⟩
  by_cases k3:(takeV w).2=false
  · rw [ansV_lim k k1 k2 k3];exact ⟨(by show (5:Int)≠0;decide),(by show (5:Int)≠1;decide)⟩
  · rw [ansV_go k k1 k2 k3];exact ⟨(by show (2:Int)≠0;decide),(by show (2:Int)≠1;decide)⟩
structure Fwds (x:Node) (s:NState) (lk:Int) (b:List Int):Prop where
  dec:decErr b=0
  own:¬ ownsA x (hDst (decPkt b).1)=true
  host:¬ (nHost x=true/\lk ≠ -1)
  ttl:¬ (lk ≠ -1/\nOpaque x=false/\hTTL (decPkt b).1<2)
  way:¬ wayB s (hDst (decPkt b).1)=false
def fwdR (s:NState) (b:List Int):Rt:=lookR (sRoutes s) (hDst (decPkt b).1)
theorem fwd_mk {x:Node} {s:NState} {lk t:Int} {b:List Int} (h:Fwds x s lk b):handleV x s lk t b=(pickS s (fwdR s b),(pickL x s (fwdR s b) (keyB b),if lk ≠ -1/\nOpaque x=false then lowB b else b),0):=by
  show hdV (x,s,lk,t,b,hdr0)=_
  unfold hdV
  rw [if_neg (by simpa using h.dec),if_neg h.own,if_neg h.host]
  have e:∀ w:Work,w.1=x->w.2.1=s->w.2.2.1=lk->w.2.2.2.2.1=b->w.2.2.2.2.2=(decPkt b).1->fwdV w=(pickS s (fwdR s b),(pickL x s (fwdR s b) (keyB b),if lk ≠ -1/\nOpaque x=false then lowB b else b),0):=by
    intro w e1 e2 e3 e4 e5
    unfold fwdV
    rw [e1,e2,e3,e4,e5,if_neg h.ttl,if_neg h.way]
    rfl
  exact e _ rfl rfl rfl rfl rfl
theorem fwd_inv {x:Node} {s:NState} {lk t:Int} {b:List Int} (h:(handleV x s lk t b).2.2=0):Fwds x s lk b:=by
  have h:(hdV (x,s,lk,t,b,hdr0)).2.2=0:=h
  unfold hdV at h
  by_cases k1:decErr b≠0
  · rw [if_pos k1] at h;exact absurd h (by show (6:Int)≠0;decide)
  rw [if_neg k1] at h
  by_cases k2:ownsA x (hDst (decPkt b).1)=true
  · rw [if_pos k2] at h
    unfold recvV at h
    split at h
    · exact absurd h (by show (1:Int)≠0;decide)
    · exact absurd h ansV_why.1
  rw [if_neg k2] at h
  by_cases k4:nHost x=true/\lk ≠ -1
  · rw [if_pos k4] at h;exact absurd h (by show (6:Int)≠0;decide)
  rw [if_neg k4] at h
  unfold fwdV at h
  split at h
  · exact absurd h ansV_why.1
  rename_i k5
  split at h
  · split at h
    · exact absurd h (by show (8:Int)≠0;decide)
    · exact absurd h ansV_why.1
  rename_i k6
  exact ⟨by simpa using k1,k2,k4,k5,k6⟩
theorem read_build2 {b:List Int} (h:readE b=0):Good (readP b)/\build (readP b)=b:=by
  have hk:readOK b:=Classical.byContradiction fun k=>by rw [readE,if_neg k] at h;cases h
  have hb:bytes b:=by have:=build_bytes (cand b);rwa [hk.2.2] at this
  rw [readP,if_pos hk]
  exact ⟨⟨hk.2.1,bytes_num4 hb 12,bytes_num4 hb 16⟩,hk.2.2⟩
theorem dec_good {p:Probe} (g:Good p):decErr (build p)=0/\(decPkt (build p)).1=hdrP p:=by
  have h:=dec_build g.ok g.s g.d
  exact ⟨h.2.1,by rw [decPkt,if_pos h.2.1];exact h.1⟩
theorem key_same {s d pr f t l t' l':Int} (g:Good (s,d,pr,f,t,l)) (g':Good (s,d,pr,f,t',l')):keyB (build (s,d,pr,f,t,l))=keyB (build (s,d,pr,f,t',l')):=by
  rw [key_build g.ok g.s g.d,key_build g'.ok g'.s g'.d];rfl
theorem pickL_same {x:Node} {s s':NState} {r:Rt} {k:Key} (h0:0<=sBalanced s) (h1:0<=sBalanced s') (hr:r.2.2≠3):pickL x s r k=pickL x s' r k:=by
  unfold pickL pickI choose
  by_cases a:r.2.1.length=1
  · rw [if_pos a,if_pos a]
  · rw [if_neg a,if_neg a]
    by_cases c:(r.2.1.length:Int)<1∨16<(r.2.1.length:Int)∨sBalanced s<0∨r.2.2<1∨3<r.2.2
    · have c':(r.2.1.length:Int)<1∨16<(r.2.1.length:Int)∨sBalanced s'<0∨r.2.2<1∨3<r.2.2:=by omega
      rw [if_pos c,if_pos c']
    · have c':¬ ((r.2.1.length:Int)<1∨16<(r.2.1.length:Int)∨sBalanced s'<0∨r.2.2<1∨3<r.2.2):=by omega
      rw [if_neg c,if_neg c']
      by_cases e:r.2.2=1
      · rw [if_pos e,if_pos e]
      · have e2:r.2.2=2:=by omega
        rw [if_neg e,if_pos e2,if_neg e,if_pos e2]
theorem tag_good {s d pr f t l:Int} (g:Good (s,d,pr,f,t,l)) {t':Int} (h:0<=t'∧t'<=65534):Good (s,d,pr,f,t',200):=by
  obtain ⟨a,b⟩:=probe_ok.1 g.ok
  refine ⟨probe_ok.2 ⟨a,?_⟩,g.s,g.d⟩
  have b:_/\_:=b
  unfold rangeOK at b ⊢
  simp only at b ⊢
  omega
structure Again (x:Node) (lk:Int) (b:List Int) (L:Int) (s1:NState) (c:List Int):Prop where
  out:handleV x (startV x) lk 0 b=(s1,(L,if lk ≠ -1/\nOpaque x=false then lowB b else b),0)
  port:0<=portL x L
  st:StOK x s1 1
  why:(handleV x s1 lk 7 c).2.2=0
  same:(∀ i:Nat,(i:Int)<(nRoutes x).length->((nRoutes x).getD i default).2.2≠3)->(handleV x s1 lk 7 c).2.1.1=L
theorem fwd_again {x:Node} {lk:Int} {b:List Int} (N:NodeOK x) (h:(handleV x (startV x) lk 0 b).2.2=0) {s d pr f t l tg:Int} (hp:readP b=(s,d,pr,f,t,l)) (he:readE b=0) (ht:0<=tg/\tg<=65534) :
    ∃ L s1,Again x lk b L s1 (build (s,d,pr,f,tg,200)):=by
  have F:=fwd_inv h
  have st:=start_ok N
  obtain ⟨g,hb⟩:=read_build2 he
  rw [hp] at g hb
  have g':=tag_good g ht
  obtain ⟨k1,k2⟩:=dec_good g
  obtain ⟨k3,k4⟩:=dec_good g'
  have hd:hDst (decPkt (build (s,d,pr,f,tg,200))).1=hDst (decPkt b).1:=by rw [k4,← hb,k2];rfl
  have hT:hTTL (decPkt (build (s,d,pr,f,tg,200))).1=200:=by rw [k4];rfl
  have hst:=handleV_st (link:=lk) (b:=b) (at':=0) N st ⟨by omega,by omega⟩ ⟨by omega,by omega⟩
  have e:=fwd_mk (t:=0) F
  rw [e] at hst
  have er:sRoutes (pickS (startV x) (fwdR (startV x) b))=sRoutes (startV x):=by rw [pickS_eq];rfl
  have ew:∀ a,wayB (pickS (startV x) (fwdR (startV x) b)) a=wayB (startV x) a:=by intro a;unfold wayB;rw [er]
  have F2:Fwds x (pickS (startV x) (fwdR (startV x) b)) lk (build (s,d,pr,f,tg,200)):=by
    refine ⟨k3,by rw [hd];exact F.own,F.host,?_,by rw [hd,ew];exact F.way⟩
    rintro ⟨-,-,q⟩
    rw [hT] at q;omega
  have e2:=fwd_mk (t:=7) F2
  refine ⟨_,_,e,nextOut st F.way _ _,hst,by rw [e2],fun hb3 => ?_⟩
  rw [e2]
  have e3:fwdR (pickS (startV x) (fwdR (startV x) b)) (build (s,d,pr,f,tg,200))=fwdR (startV x) b:=by
    show lookR (sRoutes (pickS (startV x) (fwdR (startV x) b))) _=lookR _ _
    rw [er,hd]
  have hk:keyB (build (s,d,pr,f,tg,200))=keyB b:=by rw [← hb];exact key_same g' g
  have hne:(fwdR (startV x) b).2.2≠3:=by
    obtain ⟨i,hi,e4⟩:=List.mem_iff_getElem.1 (way_mem F.way)
    have:=hb3 i (by exact_mod_cast hi)
    rw [List.getD_eq_getElem?_getD,List.getElem?_eq_getElem (show i<(nRoutes x).length from hi),Option.getD_some] at this
    have e5:fwdR (startV x) b=(nRoutes x)[i]:=e4.symm
    rw [e5];exact this
  show pickL x _ (fwdR _ _) (keyB _)=pickL x _ _ _
  rw [e3,hk]
  refine pickL_same ?_ ?_ hne
  · have:sBalanced (pickS (startV x) (fwdR (startV x) b))=0∨sBalanced (pickS (startV x) (fwdR (startV x) b))=1:=by
      unfold pickS
      split
      · exact .inl rfl
      · exact .inr rfl
    omega
  · exact Int.le_refl 0
def lpForwards:LPs:=[(false,.sl cU8),(false,.int .u16)]
def ct_law13_NodeForwards:Ct:=lawCt lpForwards
def an_law13_NodeForwards:PDs ct_law13_NodeForwards.ps->Anns:=(fun d=>{loops:=(fun n=>match n with|20=>some (fun S=>{ι:=Int,μ:=fun i=>((nRoutes (S.c cNode 112)).length-i).toNat,inv:=fun i=>0<=i/\i<=(nRoutes (S.c cNode 112)).length∧∀ q:Nat,(q:Int)<i->((nRoutes (S.c cNode 112)).getD q default).2.2≠3,keep:=[6,12,18,19],slots:=fun i=>[(20,.int .i64 i)],keepN:=[112,208,304],names:=fun i=>[]})|_=>none)})
def Qcg0 (c:Node) :=
 (nRoutes c,(0:Int),List.replicate (List.length (nPorts c)) (0:Int),(w (c.2.2.2.2.2.2.2.2.2.2.1.1*c.2.2.2.2.2.2.2.2.2.2.1.2),(0:Int)),(0:Int))
def Qcg1 (L:Int) (M:List Int) (c:Node) (v:Int) (x:List Int) :=
 c.1=c.1/\c.2.1=c.2.1/\c.2.2.1=c.2.2.1/\c.2.2.2.1=c.2.2.2.1/\c.2.2.2.2.1=c.2.2.2.2.1/\c.2.2.2.2.2.1=c.2.2.2.2.2.1/\c.2.2.2.2.2.2.1=c.2.2.2.2.2.2.1/\c.2.2.2.2.2.2.2.1=c.2.2.2.2.2.2.2.1/\c.2.2.2.2.2.2.2.2.1=c.2.2.2.2.2.2.2.2.1/\c.2.2.2.2.2.2.2.2.2.1=c.2.2.2.2.2.2.2.2.2.1/\c.2.2.2.2.2.2.2.2.2.2.1.1=c.2.2.2.2.2.2.2.2.2.2.1.1/\c.2.2.2.2.2.2.2.2.2.2.1.2=c.2.2.2.2.2.2.2.2.2.2.1.2/\c.2.2.2.2.2.2.2.2.2.2.2.1=c.2.2.2.2.2.2.2.2.2.2.2.1/\c.2.2.2.2.2.2.2.2.2.2.2.2.1=c.2.2.2.2.2.2.2.2.2.2.2.2.1/\c.2.2.2.2.2.2.2.2.2.2.2.2.2.1=c.2.2.2.2.2.2.2.2.2.2.2.2.2.1/\c.2.2.2.2.2.2.2.2.2.2.2.2.2.2=c.2.2.2.2.2.2.2.2.2.2.2.2.2.2/\v=v/\x=x/\L=L/\M=M/\True
def Qcg2 (J:Int) (K:List Int) (c:Node) (v:Int) (x:List Int) :=
 c.1=c.1/\c.2.1=c.2.1/\c.2.2.1=c.2.2.1/\c.2.2.2.1=c.2.2.2.1/\c.2.2.2.2.1=c.2.2.2.2.1/\c.2.2.2.2.2.1=c.2.2.2.2.2.1/\c.2.2.2.2.2.2.1=c.2.2.2.2.2.2.1/\c.2.2.2.2.2.2.2.1=c.2.2.2.2.2.2.2.1/\c.2.2.2.2.2.2.2.2.1=c.2.2.2.2.2.2.2.2.1/\c.2.2.2.2.2.2.2.2.2.1=c.2.2.2.2.2.2.2.2.2.1/\c.2.2.2.2.2.2.2.2.2.2.1.1=c.2.2.2.2.2.2.2.2.2.2.1.1/\c.2.2.2.2.2.2.2.2.2.2.1.2=c.2.2.2.2.2.2.2.2.2.2.1.2/\c.2.2.2.2.2.2.2.2.2.2.2.1=c.2.2.2.2.2.2.2.2.2.2.2.1/\c.2.2.2.2.2.2.2.2.2.2.2.2.1=c.2.2.2.2.2.2.2.2.2.2.2.2.1/\c.2.2.2.2.2.2.2.2.2.2.2.2.2.1=c.2.2.2.2.2.2.2.2.2.2.2.2.2.1/\c.2.2.2.2.2.2.2.2.2.2.2.2.2.2=c.2.2.2.2.2.2.2.2.2.2.2.2.2.2/\v=v/\x=x/\J=J/\K=K/\True
def Qcg3 (c:Node) :=
 ((List.length (nRoutes c)):Int)
def Qcg5 (b h i j k:Int) :=
 (h,i,j,k,Int.tmod (IntKind.wrap .i64 b) (65535:Int),(200:Int))
theorem vc_law13_NodeForwards :
 ∀(a:List Int) (b:Int),(a.length<=maxLen/\ ∀(c:Int),c∈a->0<=c/\c<=255)/\(0<=b/\b<=65535)/\True->True->(0:Int)<=400/\okC (if (a.length:Int)<=400 then a else List.take (Int.toNat (400:Int)) a,(0:Int))/\(↑(0:Nat):Int)<=1600/\ ∀(c:Node) (d:Int) (e f:List Int) (g:Int),okC (f,g)/\placeOK c d e->(e.length:Int)<=1099511627776/\ ∀(h i j k l m n:Int),(h,i,j,k,l,m)=readP e/\n=readE e-> ∀(o:Bool),o= ! decide (nodeV c=0)->((! o)->((! o)->(! o))/\True)/\(o=false->(! o))/\ifP (bif o then true else ! decide (n=0)) (true=true) (okL (nRoutes c)/\((List.length (nPorts c)):Int)<=1000000/\sortedR (sRoutes (Qcg0 c))/\okL (sRoutes (Qcg0 c))/\((List.length (sPortSent (Qcg0 c))):Int)<=1000000/\(e.length:Int)<=1000000/\ ∀(p:List Route) (q:Int) (r:List Int) (s t u v:Int) (x:List Int) (y:Int),(p,q,r,(s,t),u)=(handleV c (Qcg0 c) d (0:Int) e).1/\(v,x)=(handleV c (Qcg0 c) d (0:Int) e).2.1/\y=(handleV c (Qcg0 c) d
 (0:Int) e).2.2->ifP (! decide (y=0)) (true=true) (e.length*(1:Nat)<=(140737488355328:Nat)/\ ∀(z:Bool),z= ! decide (d= -1)->(z->(z->z)/\True)/\(z->(z->z)/\True)/\(z->z)/\ifP (bif z then ! c.2.2.2.2.2.2.2.2.2.2.2.2.1 else false) ((e.length:Int)<=1099511627776/\ ∀(A:List Int) (B:Int),A=lowB e/\B=lowErr e-> ∀(C:Bool),C= ! decide (x=A)->((! C)->((! C)->(! C))/\True)/\((! C)->((! C)->(! C))/\((! C)->(! C))/\True)/\((! C)->((! C)->(! C))/\True)/\(C=false->(! C))/\ifP (bif C then true else decide (portL c v<0)) (false=true) ((65535:Int)≠(0:Int)/\ ∀(D:List Int) (E:Int),D=build (Qcg5 b h i j k)/\E=probeErr (Qcg5 b h i j k)->sortedR (sRoutes (p,q,r,(s,t),u))/\okL (sRoutes (p,q,r,(s,t),u))/\((List.length (sPortSent (p,q,r,(s,t),u))):Int)<=1000000/\(D.length:Int)<=1000000/\ ∀(F:List Route) (G:Int) (H:List Int) (I J K L:Int) (M:List Int) (N:Int),(F,G,H,(I,J),K)=(handleV c (p,q,r,(s,t),u) d (7:Int)
 D).1/\(L,M)=(handleV c (p,q,r,(s,t),u) d (7:Int) D).2.1/\N=(handleV c (p,q,r,(s,t),u) d (7:Int) D).2.2->(∃(O:Int),(0<=O/\O<=(Qcg3 c)/\ ∀(P:Nat),(↑P:Int)<O->(List.getD (nRoutes c) P default).2.2≠(3:Int))/\N=N/\(0:Int)=O/\(Qcg1 L M c v x))/\ ∀(O:Int),(0<=O/\O<=(Qcg3 c)/\ ∀(P:Nat),(↑P:Int)<O->(List.getD (nRoutes c) P default).2.2≠(3:Int))->ifP (decide (O<(c.2.2.2.2.1.length:Int))) (0<=O/\O<(c.2.2.2.2.1.length:Int)/\ifP (decide ((List.getD c.2.2.2.2.1 O.toNat default).2.2=3)) (decide (N=0)=true) (∃(P:Int),(0<=P/\P<=(Qcg3 c)/\ ∀(Q:Nat),(↑Q:Int)<P->(List.getD (nRoutes c) Q default).2.2≠(3:Int))/\Int.toNat ((Qcg3 c) -P)<Int.toNat ((Qcg3 c) -O)/\N=N/\IntKind.wrap .i64 (O+(1:Int))=P/\(Qcg1 L M c v x))) (∀(P:Bool),P=decide (N=0)->(P->(P->P)/\True)/\(P->(P->P)/\True)/\(P->(P->P)/\(P->P)/\True)/\(P->P)/\(bif P then decide (L=v) else false)=true))) (∀(A:Bool),A= ! decide (x=e)->((! A)->((! A)->(!
 A))/\True)/\((! A)->((! A)->(! A))/\((! A)->(! A))/\True)/\((! A)->((! A)->(! A))/\True)/\(A=false->(! A))/\ifP (bif A then true else decide (portL c v<0)) (false=true) ((65535:Int)≠(0:Int)/\ ∀(B:List Int) (C:Int),B=build (Qcg5 b h i j k)/\C=probeErr (Qcg5 b h i j k)->sortedR (sRoutes (p,q,r,(s,t),u))/\okL (sRoutes (p,q,r,(s,t),u))/\((List.length (sPortSent (p,q,r,(s,t),u))):Int)<=1000000/\(B.length:Int)<=1000000/\ ∀(D:List Route) (E:Int) (F:List Int) (G H I J:Int) (K:List Int) (L:Int),(D,E,F,(G,H),I)=(handleV c (p,q,r,(s,t),u) d (7:Int) B).1/\(J,K)=(handleV c (p,q,r,(s,t),u) d (7:Int) B).2.1/\L=(handleV c (p,q,r,(s,t),u) d (7:Int) B).2.2->(∃(M:Int),(0<=M/\M<=(Qcg3 c)/\ ∀(N:Nat),(↑N:Int)<M->(List.getD (nRoutes c) N default).2.2≠(3:Int))/\L=L/\(0:Int)=M/\(Qcg2 J K c v x))/\ ∀(M:Int),(0<=M/\M<=(Qcg3 c)/\ ∀(N:Nat),(↑N:Int)<M->(List.getD (nRoutes c) N default).2.2≠(3:Int))->ifP (decide
 (M<(c.2.2.2.2.1.length:Int))) (0<=M/\M<(c.2.2.2.2.1.length:Int)/\ifP (decide ((List.getD c.2.2.2.2.1 M.toNat default).2.2=3)) (decide (L=0)=true) (∃(N:Int),(0<=N/\N<=(Qcg3 c)/\ ∀(O:Nat),(↑O:Int)<N->(List.getD (nRoutes c) O default).2.2≠(3:Int))/\Int.toNat ((Qcg3 c) -N)<Int.toNat ((Qcg3 c) -M)/\L=L/\IntKind.wrap .i64 (M+(1:Int))=N/\(Qcg2 J K c v x))) (∀(N:Bool),N=decide (L=0)->(N->(N->N)/\True)/\(N->(N->N)/\True)/\(N->(N->N)/\(N->N)/\True)/\(N->N)/\(bif N then decide (J=v) else false)=true))))):=by
  delta Qcg0 Qcg1 Qcg2 Qcg3 Qcg5
  rintro cl tag ⟨-,⟨t0,t1⟩,-⟩ -
  refine ⟨by omega,okC_new _ (by omega) cl,by omega,?_⟩
  rintro d lk b l1 p1 ⟨hc,hpl,hb⟩
  refine ⟨by omega,?_⟩
  rintro s1 s2 s3 s4 s5 s6 e ⟨hp,he⟩
  intro b1 hb1
  (repeat refine ⟨(by first|(simp;done)|(rw [hb1];simp;done)|(cases b1 <;> simp)),?_⟩)
  refine ifP_or (fun _=>rfl) (fun h1 h2 => ?_)
  have hn:nodeV d=0:=by rw [hb1] at h1;simpa using h1
  have he0:readE b=0:=by rw [← he];simpa using h2
  have N:=nodeV_ok hn
  have st:=start_ok N
  have n32:=N.n32
  have hrl:((nRoutes d).length:Int)<=134217728:=st.okl.1
  have hps:((List.replicate (nPorts d).length (0:Int)).length:Int)<=1000000:=by rw [List.length_replicate];omega
  refine ⟨st.okl,by omega,st.srt,st.okl,hps,by omega,?_⟩
  rintro a1 a2 a3 a4 a5 a6 o1 o2 why ⟨q1,q2,q3⟩
  refine ifP_split (fun _=>rfl) (fun h3 => ?_)
  have h3:why=0:=by simpa using h3
  have htg:IntKind.wrap .i64 tag=tag:=w64 (by omega) (by omega)
  have hmod:0<=Int.tmod (IntKind.wrap .i64 tag) 65535/\Int.tmod (IntKind.wrap .i64 tag) 65535<=65534:=by
    rw [htg,Int.tmod_eq_emod_of_nonneg (by omega)];omega
  obtain ⟨L,z,A⟩:=fwd_again N (by exact q3.symm.trans h3) hp.symm he0 hmod
  have A1:=A.out
  replace q1:=q1.trans (congrArg (fun r:HRes=>r.1) A1)
  replace q2:=q2.trans (congrArg (fun r:HRes=>r.2.1) A1)
  have q1:(a1,a2,a3,(a4,a5),a6)=z:=q1
  subst q1
  have q2:(o1,o2)=(L,if lk ≠ -1/\nOpaque d=false then lowB b else b):=q2
  obtain ⟨rfl,q4⟩:=Prod.mk.inj q2
  have S1:=A.st
  have hps1:(sPortSent (a1,a2,a3,(a4,a5),a6)).length<=(1000000:Int):=by have:=S1.ps;omega
  have hport:=A.port
  refine ⟨by omega,?_⟩
  intro b2 hb2
  (repeat refine ⟨(by first|(simp;done)|(rw [hb2];simp;done)|(cases b2 <;> simp)),?_⟩)
  have hq:(bif b2 then !nOpaque d else false)=true↔lk ≠ -1/\nOpaque d=false:=by rw [hb2];by_cases k:lk = -1 <;> cases nOpaque d <;> simp [k]
  refine ifP_split (fun k1=>⟨by omega,?_⟩) (fun k1 => ?_)
  · rw [if_pos (hq.1 k1)] at q4
    rintro lb le ⟨rfl,-⟩
    intro b3 hb3
    (repeat refine ⟨(by first|(simp;done)|(rw [hb3];simp;done)|(cases b3 <;> simp)),?_⟩)
    have f3:b3=false:=by rw [hb3,q4];simp
    refine ifP_split (fun k => ?_) (fun _=>⟨by decide,?_⟩)
    · exfalso;rw [f3] at k;have k:=of_decide_eq_true k;omega
    rintro c ce ⟨rfl,-⟩
    refine ⟨S1.srt,S1.okl,hps1,by have:=build_len (s1,s2,s3,s4,Int.tmod (IntKind.wrap .i64 tag) 65535,200);omega,?_⟩
    rintro - - - - - - r1 r2 r3 ⟨-,w2,w3⟩
    have w3:r3=0:=w3.trans A.why
    have w2:r1=(handleV d (a1,a2,a3,(a4,a5),a6) lk 7 (build (s1,s2,s3,s4,Int.tmod (IntKind.wrap .i64 tag) 65535,200))).2.1.1:=congrArg Prod.fst w2
    refine ⟨⟨0,⟨by omega,by omega,fun i k=>by omega⟩,(by repeat' first|exact trivial|refine ⟨trivial,?_⟩|refine ⟨(by with_reducible rfl),?_⟩|refine ⟨w64 (by omega) (by omega),?_⟩|refine ⟨rfl,?_⟩)⟩,?_⟩
    rintro j ⟨j0,j1,hj⟩
    refine ifP_split (fun hk => ?_) (fun hk => ?_)
    · have hk:j<((nRoutes d).length:Int):=of_decide_eq_true hk
      refine ⟨j0,hk,ifP_split (fun _=>decide_eq_true w3) (fun hz => ?_)⟩
      have hz:=of_decide_eq_false hz
      refine ⟨j+1,⟨by omega,by omega,fun i k => ?_⟩,by omega,(by repeat' first|exact trivial|refine ⟨trivial,?_⟩|refine ⟨(by with_reducible rfl),?_⟩|refine ⟨w64 (by omega) (by omega),?_⟩|refine ⟨rfl,?_⟩)⟩
      by_cases c:(i:Int)<j
      · exact hj i c
      · have:j.toNat=i:=by omega
        rw [← this];exact hz
    · have hk:¬ j<((nRoutes d).length:Int):=of_decide_eq_false hk
      have w4:r1=o1:=w2.trans (A.same (fun i k=>hj i (by omega)))
      intro b4 hb4
      (repeat refine ⟨(by first|(simp;done)|(rw [hb4];simp;done)|(cases b4 <;> simp)),?_⟩)
      rw [hb4,w3,w4];simp
  · have k2:¬ (lk ≠ -1/\nOpaque d=false):=fun k=>absurd ((hq.2 k).symm.trans k1) (by decide)
    rw [if_neg k2] at q4
    intro b3 hb3
    (repeat refine ⟨(by first|(simp;done)|(rw [hb3];simp;done)|(cases b3 <;> simp)),?_⟩)
    have f3:b3=false:=by rw [hb3,q4];simp
    refine ifP_split (fun k => ?_) (fun _=>⟨by decide,?_⟩)
    · exfalso;rw [f3] at k;have k:=of_decide_eq_true k;omega
    rintro c ce ⟨rfl,-⟩
    refine ⟨S1.srt,S1.okl,hps1,by have:=build_len (s1,s2,s3,s4,Int.tmod (IntKind.wrap .i64 tag) 65535,200);omega,?_⟩
    rintro - - - - - - r1 r2 r3 ⟨-,w2,w3⟩
    have w3:r3=0:=w3.trans A.why
    have w2:r1=(handleV d (a1,a2,a3,(a4,a5),a6) lk 7 (build (s1,s2,s3,s4,Int.tmod (IntKind.wrap .i64 tag) 65535,200))).2.1.1:=congrArg Prod.fst w2
    refine ⟨⟨0,⟨by omega,by omega,fun i k=>by omega⟩,(by repeat' first|exact trivial|refine ⟨trivial,?_⟩|refine ⟨(by with_reducible rfl),?_⟩|refine ⟨w64 (by omega) (by omega),?_⟩|refine ⟨rfl,?_⟩)⟩,?_⟩
    rintro j ⟨j0,j1,hj⟩
    refine ifP_split (fun hk => ?_) (fun hk => ?_)
    · have hk:j<((nRoutes d).length:Int):=of_decide_eq_true hk
      refine ⟨j0,hk,ifP_split (fun _=>decide_eq_true w3) (fun hz => ?_)⟩
      have hz:=of_decide_eq_false hz
      refine ⟨j+1,⟨by omega,by omega,fun i k => ?_⟩,by omega,(by repeat' first|exact trivial|refine ⟨trivial,?_⟩|refine ⟨(by with_reducible rfl),?_⟩|refine ⟨w64 (by omega) (by omega),?_⟩|refine ⟨rfl,?_⟩)⟩
      by_cases c:(i:Int)<j
      · exact hj i c
      · have:j.toNat=i:=by omega
        rw [← this];exact hz
    · have hk:¬ j<((nRoutes d).length:Int):=of_decide_eq_false hk
      have w4:r1=o1:=w2.trans (A.same (fun i k=>hj i (by omega)))
      intro b4 hb4
      (repeat refine ⟨(by first|(simp;done)|(rw [hb4];simp;done)|(cases b4 <;> simp)),?_⟩)
      rw [hb4,w3,w4];simp
theorem ok_law13_NodeForwards:SpecOK Tryz.prog GL 7 ct_law13_NodeForwards.spec:=Ct.okH _ Tryz.func7 (by kernel_rfl) (withSpec_ok (withSpec_ok (withSpec_ok (withSpec_ok (withSpec_ok (withSpec_ok (withSpec_ok (withSpec_ok (withSpec_ok (withSpec_ok (withSpec_ok noSpecs_ok ok_law13_awake) ok_draw_New) ok_law13_place) (Ct.named ok_ref07_Read)) ok_ref13_Check) ok_node_Start) (Ct.named ok_node_Handle)) (Ct.named ok_ipv4_Lower)) ok_ref04_Equal) ok_node_PortOf) (Ct.named ok_probe_Build)) hmix an_law13_NodeForwards (hideMp (by kernel_rfl) vc_law13_NodeForwards)
end Go.RS
