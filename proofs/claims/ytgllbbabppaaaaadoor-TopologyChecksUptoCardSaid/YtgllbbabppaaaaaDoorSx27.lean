/- Drawn: what holds of drawn networks: their nodes, links, routes and changes. -/
import Derived.Test.YtgllbbabppaaaaaDoorNetg
import Derived.Test.YtgllbbabppaaaaaDoorNetdraw
import Derived.Test.YtgllbbabppaaaaaDoorReply
namespace Go.RS
open Go.SX Go.Proofs
set_option maxRecDepth 100000
set_option linter.unusedVariables false
structure NP (i:Int) (x:Node):Prop where
  own:nOwner x=1+i/3
  loop:nLoop x=0∨nLoop x=167903232+i
  src:(nSource x=1∨nSource x=2)∨(nSource x=3/\nLoop x=167903232+i)∨(nSource x=4/\167837696<=nFixed x)
  fix:nFixed x=0∨(167837696<=nFixed x/\nFixed x<167837736)
  id:(0<=nID x/\nID x<=5)/\(0<=nBase x/\nBase x<=65535)/\0<=nSpeed x/\nSpeed x<=1000000
  lim:nLimit x=(0,0)∨(1<=(nLimit x).1/\(nLimit x).1<=3/\1<=(nLimit x).2/\(nLimit x).2<=200)
  first:nFirst x=64∨nFirst x=255∨nFirst x=128
  seed:0<=nSeed x/\nSeed x<=255
theorem NP.new {i:Int} {host:Bool} {f sd:Int} (hf:f=64∨f=255∨f=128) (h0:0<=sd) (h1:sd<=255):NP i (newNode i host f sd) :=
  ⟨rfl,.inl rfl,.inl (.inl rfl),.inl rfl,⟨⟨by show (0:Int)<=0;decide,by show (0:Int)<=5;decide⟩,⟨by show (0:Int)<=0;decide,by show (0:Int)<=65535;decide⟩,by show (0:Int)<=0;decide,by show (0:Int)<=1000000;decide⟩,.inl rfl,hf,h0,h1⟩
theorem NP.same {i:Int} {x y:Node} (h:NP i x) (e:x.2=y.2):NP i y:=by
  obtain ⟨p,x⟩:=x
  obtain ⟨q,y⟩:=y
  cases e
  exact ⟨h.own,h.loop,h.src,h.fix,h.id,h.lim,h.first,h.seed⟩
theorem NP.routes {i:Int} {x y:Node} (h:NP i x) (e:setRoutes x []=setRoutes y []):NP i y:=by
  have k:NP i (setRoutes x []):=⟨h.own,h.loop,h.src,h.fix,h.id,h.lim,h.first,h.seed⟩
  rw [e] at k
  exact ⟨k.own,k.loop,k.src,k.fix,k.id,k.lim,k.first,k.seed⟩
theorem NP.way {i:Int} {x:Node} (h:NP i x) {c:Codes} (hc:okB c):NP i (odWay x i c).1:=by
  have a:=nextV_lt hc (n:=10) (by omega)
  have ca:=(nextV_ok hc 10).1
  have b:=nextV_lt ca (n:=3) (by omega)
  have cb:=(nextV_ok ca 3).1
  have e:=nextV_lt cb (n:=200) (by omega)
  have f:=nextV_lt ca (n:=40) (by omega)
  unfold odWay
  dsimp only
  split
  · exact ⟨h.own,h.loop,h.src,h.fix,h.id,h.lim,h.first,h.seed⟩
  split
  · refine ⟨h.own,h.loop,h.src,h.fix,h.id,.inr ?_,h.first,h.seed⟩
    show 1<=1+_/\1+_<=(3:Int)/\1<=1+_/\1+_<=(200:Int)
    omega
  split
  · exact ⟨h.own,h.loop,h.src,h.fix,h.id,h.lim,h.first,h.seed⟩
  split
  · exact ⟨h.own,h.loop,.inl (.inr rfl),h.fix,h.id,h.lim,h.first,h.seed⟩
  split
  · exact ⟨h.own,.inr rfl,.inr (.inl ⟨rfl,rfl⟩),h.fix,h.id,h.lim,h.first,h.seed⟩
  split
  · refine ⟨h.own,h.loop,.inr (.inr ⟨rfl,?_⟩),.inr ⟨?_,?_⟩,h.id,h.lim,h.first,h.seed⟩
    · show 167837696<=167837696+_
      omega
    · show 167837696<=167837696+_
      omega
    · show 167837696+_<167837736
      omega
  · exact h
theorem NP.od {i:Int} {x:Node} (h:NP i x) {c:Codes} (hc:okB c):NP i (odNode x i c).1:=by
  have k:=h.way hc
  have kc:=odWay_ok (x:=x) (i:=i) hc
  have a:=nextV_lt kc (n:=6) (by omega)
  have ca:=(nextV_ok kc 6).1
  have b:=nextV_lt ca (n:=65536) (by omega)
  have cb:=(nextV_ok ca 65536).1
  have e:=nextV_lt cb (n:=1000) (by omega)
  refine ⟨k.own,k.loop,k.src,k.fix,?_,k.lim,k.first,k.seed⟩
  show (0<=(nextV (odWay x i c).2 6).1/\(nextV (odWay x i c).2 6).1<=5)/\(0<=(nextV (nextV (odWay x i c).2 6).2 65536).1/\(nextV (nextV (odWay x i c).2 6).2 65536).1<=65535)/\0<=(nextV (nextV (nextV (odWay x i c).2 6).2 65536).2 1000).1/\(nextV (nextV (nextV (odWay x i c).2 6).2 65536).2 1000).1<=1000000
  omega
theorem NP.opq {i:Int} {x:Node} (h:NP i x) (b:Bool):NP i (odOpaque x b):=⟨h.own,h.loop,h.src,h.fix,h.id,h.lim,h.first,h.seed⟩
def allNP (ns:List Node):Prop:=∀ i:Nat,i<ns.length->NP i (ns.getD i default)
theorem allNP.set {ns:List Node} (h:allNP ns) {i:Nat} {x:Node} (hx:i<ns.length->NP i x):allNP (ns.set i x):=fun j hj=>by
  rw [List.length_set] at hj
  by_cases e:i=j
  · subst e;rw [getD_set hj];exact hx hj
  · rw [getD_setne e];exact h j hj
structure LK (l0 l:Link):Prop where
  a:lA l=lA l0
  b:lB l=lB l0
  d:lDelay l=lDelay l0
  s:lSeed l=lSeed l0
  j:0<=lJitter l/\lJitter l<=9
  o:0<=lLoss l/\lLoss l<=65536
theorem LK.od {l0 l:Link} (h:LK l0 l) {c:Codes} (hc:okB c):LK l0 (odLink l c).1:=by
  have a:=nextV_lt hc (n:=6) (by omega)
  have ca:=(nextV_ok hc 6).1
  have b:=nextV_lt ca (n:=10) (by omega)
  have e:=nextV_lt ca (n:=3) (by omega)
  unfold odLink
  dsimp only
  split
  · refine ⟨h.a,h.b,h.d,h.s,?_,h.o⟩
    show 0<=(nextV (nextV c 6).2 10).1/\(nextV (nextV c 6).2 10).1<=9
    omega
  split
  · refine ⟨h.a,h.b,h.d,h.s,h.j,?_⟩
    show 0<=([65536,20000,3]:List Int).getD (nextV (nextV c 6).2 3).1.toNat default/\([65536,20000,3]:List Int).getD (nextV (nextV c 6).2 3).1.toNat default<=65536
    rcases (show (nextV (nextV c 6).2 3).1=0∨(nextV (nextV c 6).2 3).1=1∨(nextV (nextV c 6).2 3).1=2 by omega) with e|e|e <;> rw [e] <;> decide
  · exact h
structure allLK (ls0 ls:List Link):Prop where
  n:ls.length=ls0.length
  k:∀ i:Nat,i<ls0.length->LK (ls0.getD i default) (ls.getD i default)
theorem allLK.set {ls0 ls:List Link} (h:allLK ls0 ls) {i:Nat} {x:Link} (hx:i<ls0.length->LK (ls0.getD i default) x):allLK ls0 (ls.set i x):=by
  refine ⟨by rw [List.length_set];exact h.n,fun j hj => ?_⟩
  by_cases e:i=j
  · subst e;rw [getD_set (by rw [h.n];exact hj)];exact hx hj
  · rw [getD_setne e];exact h.k j hj
theorem allLK.mem {ls0 ls:List Link} (h:allLK ls0 ls) {l:Link} (hl:l∈ls):∃ l0∈ls0,LK l0 l:=by
  obtain ⟨i,hi,e⟩:=List.mem_iff_getElem.1 hl
  have:=h.k i (by rw [← h.n];exact hi)
  rw [List.getD_eq_getElem?_getD (l:=ls),List.getElem?_eq_getElem hi,e] at this
  exact ⟨_,getD_memN (by rw [← h.n];exact hi),this⟩
theorem allLK.lnk {ls0 ls:List Link} (h:allLK ls0 ls) {i k:Int} (hk:lnk ls0 i k):lnk ls i k:=by
  obtain ⟨k0,k1,k2⟩:=hk
  have e:=h.k k.toNat (by omega)
  exact ⟨k0,by rw [h.n];exact k1,by rw [e.a,e.b];exact k2⟩
theorem portsF_congr (i:Int):∀ (k:Nat) (ls ls':List Link),ls'.length=ls.length->(∀ j:Nat,j<ls.length->lA (ls'.getD j default)=lA (ls.getD j default)/\lB (ls'.getD j default)=lB (ls.getD j default))->portsF i k ls'=portsF i k ls
  | k,[],[],_,_=>rfl
  | k,x::r,[],h,_=>by cases h
  | k,[],x::r,h,_=>by cases h
  | k,x::r,y::t,h,e=>by
    have e0:=e 0 (by simp)
    rw [List.getD_cons_zero,List.getD_cons_zero] at e0
    rw [portsF,portsF,port1,port1,e0.1,e0.2,portsF_congr i (k+1) r t (by simpa using h) fun j hj=>by
      have:=e (j+1) (by simp;omega)
      rw [List.getD_cons_succ,List.getD_cons_succ] at this;exact this]
theorem allLK.portsF {ls0 ls:List Link} (h:allLK ls0 ls) (i:Int) (k:Nat):portsF i k ls=Go.RS.portsF i k ls0 :=
  portsF_congr i k ls0 ls h.n fun j hj=>⟨(h.k j hj).a,(h.k j hj).b⟩
theorem tabOK.lk {ls0 ls:List Link} (h:allLK ls0 ls) {aa:List Int} {i:Int} {t:List Rt} (k:tabOK ls0 aa i t):tabOK ls aa i t :=
  ⟨k.1,fun r hr=>by
    have q:=k.2 r hr
    exact ⟨q.len,q.mem,q.ne,q.pw,fun x hx=>h.lnk (q.ln x hx),q.w0,q.w1⟩⟩
structure CH (ns:List Node) (c:Change):Prop where
  at':0<=hAt c/\hAt c<=180
  w:0<=hWho c/\hWho c<ns.length
  r:hRem c=false
  p:∃ r∈nRoutes (ns.getD (hWho c).toNat default),(hRoute c).1=r.1/\(hRoute c).2.2=r.2.2
  x:(hRoute c).2.1=[]∨∃ q∈nPorts (ns.getD (hWho c).toNat default),(hRoute c).2.1=[q.2]
def aaF:List Int:=(List.range 10).flatMap fun (k:Nat)=>[baseA k+1,baseA k+2]
theorem mem_aaF {a:Int} {k:Nat} (hk:k<10) (h:a=baseA k+1∨a=baseA k+2):a∈aaF:=by
  refine List.mem_flatMap.2 ⟨k,List.mem_range.2 hk,?_⟩
  rcases h with h|h <;> rw [h] <;> simp
theorem tabOK.sub {ls:List Link} {aa bb:List Int} {i:Int} {t:List Rt} (h:tabOK ls aa i t) (hs:∀ a∈aa,a∈bb):tabOK ls bb i t :=
  ⟨h.1,fun r hr=>by
    have q:=h.2 r hr
    exact ⟨q.len,hs _ q.mem,q.ne,q.pw,q.ln,q.w0,q.w1⟩⟩
structure DN (n:Net):Prop where
  n3:3<=n.1.length
  n7:n.1.length<=7
  l2:2<=n.2.1.length
  l10:n.2.1.length<=10
  h3:n.2.2.length<=3
  g:∀ x∈n.2.1,(0<=lA x/\lA x<n.1.length)/\(0<=lB x/\lB x<n.1.length)/\lA x≠lB x/\(1<=lDelay x/\lDelay x<=20)/\(0<=lJitter x/\lJitter x<=9)/\(0<=lLoss x/\lLoss x<=65536)/\0<=lSeed x/\lSeed x<=255
  p:∀ i:Nat,i<n.1.length->nPorts (n.1.getD i default)=portsF i 0 n.2.1
  d:allNP n.1
  t:∀ i:Nat,i<n.1.length->tabOK n.2.1 aaF i (nRoutes (n.1.getD i default))
  o:∀ x∈n.2.1,deafL n.1 x=false
  c:∀ x∈n.2.2,CH n.1 x
  s:n.2.2.Pairwise fun a b=>hAt a<=hAt b
theorem oN_np {s:Scene} (h:allNP s.1.1) (hc:okB s.2):∀ {i:Nat},i<=s.1.1.length->allNP (oN s i).1
  | 0,_=>h
  | i+1,hi=>by
    have k:=oN_np h hc (i:=i) (by omega)
    have b:=(oN_ok s hc (i:=i) (by omega)).2
    rw [show ((i+1:Nat):Int)=(i:Int)+1 by omega,oN_next s (by omega)]
    unfold odNodes
    refine k.set fun hl => ?_
    have e:((i:Int).toNat:Nat)=i:=by omega
    rw [e] at hl ⊢
    exact (k i hl).od b
theorem clear_np {ns:List Node} (h:allNP ns) {l:Link} (hl:0<=lB l):allNP (odClear ns l):=by
  unfold odClear
  split
  · exact h.set fun hi=>(h _ hi).opq _
  · exact h
theorem clear_deaf {ns:List Node} {l:Link} (hb:0<=lB l/\lB l<ns.length):deafL (odClear ns l) l=false:=by
  unfold odClear
  split
  · unfold deafL
    rw [getD_set (by omega)]
    exact Bool.and_false _
  · rename_i h
    unfold deafL
    cases h1:nOpaque (ns.getD (lA l).toNat default) <;> cases h2:nOpaque (ns.getD (lB l).toNat default) <;> simp_all
theorem clear_keep {ns:List Node} {l m:Link} (h:deafL ns m=false):deafL (odClear ns l) m=false:=by
  unfold odClear
  split
  · have set_op:∀ (i j:Nat),nOpaque (ns.getD j default)=false->nOpaque ((ns.set i (odOpaque (ns.getD i default) false)).getD j default)=false:=fun i j hj=>by
      by_cases e:i=j
      · subst e
        by_cases hl:i<ns.length
        · rw [getD_set hl];rfl
        · rw [List.set_eq_of_length_le (by omega)];exact hj
      · rw [getD_setne e];exact hj
    unfold deafL at h ⊢
    rw [Bool.and_eq_false_iff] at h ⊢
    exact h.imp (set_op _ _) (set_op _ _)
  · exact h
theorem deafL_lk {ns:List Node} {l m:Link} (ha:lA l=lA m) (hb:lB l=lB m):deafL ns l=deafL ns m:=by unfold deafL;rw [ha,hb]
structure OLI (s:Scene) (i:Nat):Prop where
  np:allNP (oL s i).1.1
  lk:allLK s.1.2.1 (oL s i).1.2
  df:∀ k:Nat,k<i->deafL (oL s i).1.1 (s.1.2.1.getD k default)=false
theorem oL_inv {s:Scene} (h:allNP s.1.1) (hc:okB s.2) (hg:goodEnds s.1.1.length s.1.2.1) (hl:allLK s.1.2.1 s.1.2.1):∀ {i:Nat},i<=s.1.2.1.length->OLI s i
  | 0,_=>⟨oN_np h hc (Nat.le_refl _),hl,fun k hk=>by omega⟩
  | i+1,hi=>by
    have k:=oL_inv h hc hg hl (i:=i) (by omega)
    obtain ⟨ag,cb,ge,ll⟩:=oL_ok s hc hg (i:=i) (by omega)
    have hb:=hg.at' (k:=i) (by omega)
    have e:((i:Int).toNat:Nat)=i:=by omega
    have lk1:=(k.lk.k i (by omega)).od cb
    have hn:=ag.n
    have step:oL s ((i+1:Nat):Int)=odLinks (oL s i) i:=by
      rw [show ((i+1:Nat):Int)=(i:Int)+1 by omega,oL_next s (by omega),e]
    have fin:OLI s (i+1):=by
      refine ⟨?_,?_,fun j hj => ?_⟩
      · rw [step];unfold odLinks;dsimp only
        refine clear_np k.np ?_
        rw [lk1.b];exact hb.2.1
      · rw [step];unfold odLinks;dsimp only
        exact k.lk.set fun _=>lk1
      · rw [step];unfold odLinks;dsimp only
        by_cases q:j=i
        · subst q
          rw [← deafL_lk (l:=(odLink ((oL s j).1.2.getD j default) (oL s j).2).1) lk1.a lk1.b]
          refine clear_deaf ?_
          rw [lk1.b,hn];exact hb.2
        · exact clear_keep (k.df j (by omega))
    exact fin
structure OCI (ns:List Node) (m:Nat) (x:List Change×Int×Codes):Prop where
  c:okB x.2.2
  a:0<=x.2.1/\x.2.1<=60*m
  n:x.1.length<=m
  h:∀ y∈x.1,CH ns y/\hAt y<=x.2.1
  s:x.1.Pairwise fun a b=>hAt a<=hAt b
theorem OCI.next {ns:List Node} {m:Nat} {x:List Change×Int×Codes} (h:OCI ns m x) (hm:m<3) (h0:0<ns.length) (hp:∀ x∈ns,nRoutes x≠[]->0<(nPorts x).length):OCI ns (m+1) (odChange ns x):=by
  have a:=nextV_lt h.c (n:=60) (by omega)
  have k1:=(nextV_ok h.c 60).1
  have w:=nextV_lt k1 (n:=(ns.length:Int)) (by omega)
  have k2:=(nextV_ok k1 (ns.length:Int)).1
  have ha:=h.a
  have hn:=h.n
  unfold odChange
  dsimp only
  have hX:=getD_mem (xs:=ns) w.1 w.2
  generalize eX:ns.getD (nextV (nextV x.2.2 60).2 (ns.length:Int)).1.toNat default=X at hX ⊢
  split
  · refine ⟨k2,?_,?_,fun y hy=>⟨(h.h y hy).1,?_⟩,h.s⟩
    · show 0<=x.2.1+_/\x.2.1+_<=60*((m+1:Nat):Int)
      omega
    · show x.1.length<=m+1
      omega
    · have:=(h.h y hy).2
      show hAt y<=x.2.1+_
      omega
  · rename_i hr
    have hr':nRoutes X≠[]:=fun e=>hr (by rw [e];rfl)
    have q3:=nextV_lt k2 (n:=((nRoutes X).length:Int)) (by omega)
    have b3:=(nextV_ok k2 ((nRoutes X).length:Int)).1
    have hpp:=hp X hX hr'
    have q4:=nextV_lt b3 (n:=((nPorts X).length:Int)) (by omega)
    have b4:=(nextV_ok b3 ((nPorts X).length:Int)).1
    have b5:=(nextV_ok b4 4).1
    refine ⟨b5,?_,?_,fun y hy => ?_,?_⟩
    · show 0<=x.2.1+_/\x.2.1+_<=60*((m+1:Nat):Int)
      omega
    · show (x.1++[_]).length<=m+1
      rw [List.length_append,List.length_singleton];omega
    · rcases List.mem_append.1 hy with hy|hy
      · refine ⟨(h.h y hy).1,?_⟩
        have:=(h.h y hy).2
        show hAt y<=x.2.1+_
        omega
      · rw [List.mem_singleton.1 hy]
        refine ⟨⟨?_,w,rfl,?_,?_⟩,Int.le_refl _⟩
        · show 0<=x.2.1+_/\x.2.1+_<=180
          omega
        · refine ⟨(nRoutes X).getD (nextV (nextV (nextV x.2.2 60).2 (ns.length:Int)).2 ((nRoutes X).length:Int)).1.toNat default,?_,rfl,rfl⟩
          show _∈nRoutes (ns.getD (nextV (nextV x.2.2 60).2 (ns.length:Int)).1.toNat default)
          rw [eX]
          exact getD_mem q3.1 q3.2
        · by_cases hz:(nextV (nextV (nextV (nextV (nextV x.2.2 60).2 (ns.length:Int)).2 ((nRoutes X).length:Int)).2 ((nPorts X).length:Int)).2 4).1=3
          · exact .inl (if_pos hz)
          · refine .inr ⟨(nPorts X).getD (nextV (nextV (nextV (nextV x.2.2 60).2 (ns.length:Int)).2 ((nRoutes X).length:Int)).2 ((nPorts X).length:Int)).1.toNat default,?_,if_neg hz⟩
            show _∈nPorts (ns.getD (nextV (nextV x.2.2 60).2 (ns.length:Int)).1.toNat default)
            rw [eX]
            exact getD_mem q4.1 q4.2
    · refine List.pairwise_append.2 ⟨h.s,List.pairwise_singleton _ _,fun y hy z hz => ?_⟩
      have:=(h.h y hy).2
      rw [List.mem_singleton.1 hz]
      show hAt y<=x.2.1+_
      omega
theorem getD_of_mem {α:Type} [Inhabited α] {l:List α} {x:α} (h:x∈l):∃ i:Nat,i<l.length/\l.getD i default=x:=by
  obtain ⟨i,hi,e⟩:=List.mem_iff_getElem.1 h
  exact ⟨i,hi,by rw [List.getD_eq_getElem?_getD,List.getElem?_eq_getElem hi,e];rfl⟩
theorem RS.np {s r:Scene} {nn nl:Nat} (h:RS s nn nl r):allNP r.1.1:=fun i hi=>by
  have hi':i<nn:=by have:=h.i.n;have:=h.g.n;omega
  obtain ⟨host,f,sd,hd,hf,h0,h1⟩:=h.g.d i hi'
  have e:=h.i.e i (by rw [h.g.n];exact hi')
  exact NP.routes (NP.same (NP.new (host:=host) hf h0 h1) hd.symm) e.symm
theorem RS.opq {s r:Scene} {nn nl:Nat} (h:RS s nn nl r) {i:Nat} (hi:i<nn):nOpaque (r.1.1.getD i default)=false:=by
  obtain ⟨host,f,sd,hd,-⟩:=h.g.d i hi
  have e:=congrArg nOpaque (h.i.e i (by rw [h.g.n];exact hi))
  have e2:nOpaque (s.1.1.getD i default)=nOpaque (newNode i host f sd):=congrArg (fun z=>nOpaque (([]:List (Int×Int)),z)) hd
  exact e.trans e2
theorem RS.adr {s r:Scene} {nn nl:Nat} (h:RS s nn nl r) (hl:nl<=10):∀ a∈allA s.1.1,a∈aaF:=fun a ha=>by
  unfold allA at ha
  obtain ⟨x,hx,ha⟩:=List.mem_flatMap.1 ha
  obtain ⟨q,hq,rfl⟩:=List.mem_map.1 ha
  obtain ⟨i,hi,rfl⟩:=getD_of_mem hx
  rw [h.g.p i (by rw [← h.g.n];exact hi)] at hq
  obtain ⟨j,hj,e⟩:=mem_portsF.1 hq
  rw [h.g.l] at hj
  rw [Nat.zero_add] at e
  rcases e with ⟨-,rfl⟩|⟨-,rfl⟩
  · exact mem_aaF (k:=j) (by omega) (.inl rfl)
  · exact mem_aaF (k:=j) (by omega) (.inr rfl)
theorem RS.links {s r:Scene} {nn nl:Nat} (h:RS s nn nl r):r.1.2.1=s.1.2.1:=congrArg Prod.fst h.l
theorem RS.lk {s r:Scene} {nn nl:Nat} (h:RS s nn nl r):allLK r.1.2.1 r.1.2.1:=⟨rfl,fun i hi=>by
  rw [h.links] at hi ⊢
  have:=h.g.g _ (getD_memN hi)
  exact ⟨rfl,rfl,rfl,rfl,by omega,by omega⟩⟩
theorem RS.dn {s r:Scene} {nn nl:Nat} (h:RS s nn nl r) (n3:3<=nn) (n7:nn<=7) (l2:2<=nl) (l10:nl<=10):DN r.1:=by
  have rn:r.1.1.length=nn:=h.i.n.trans h.g.n
  have rl:=h.links
  have rh:r.1.2.2=[]:=(congrArg Prod.snd h.l).trans h.g.h
  refine ⟨by omega,by omega,by rw [rl,h.g.l];exact l2,by rw [rl,h.g.l];exact l10,by rw [rh];exact Nat.zero_le _,fun x hx => ?_,fun i hi => ?_,h.np,fun i hi => ?_,fun x hx => ?_,fun x hx => ?_,?_⟩
  · rw [rl] at hx
    have:=h.g.g x hx
    rw [rn];omega
  · rw [rl];exact h.ports (by omega)
  · rw [rl];exact (h.tab (by omega)).sub (h.adr l10)
  · rw [rl] at hx
    have g:=h.g.g x hx
    unfold deafL
    rw [h.opq (i:=(lA x).toNat) (by omega)];rfl
  · rw [rh] at hx;cases hx
  · rw [rh];exact List.Pairwise.nil
theorem oC_inv {s:Scene} (h:okB s.2) (hg:goodEnds s.1.1.length s.1.2.1) (h0:0<s.1.1.length) (hp:∀ x∈(oL s s.1.2.1.length).1.1,nRoutes x≠[]->0<(nPorts x).length):∀ i:Nat,i<=3->OCI (oL s s.1.2.1.length).1.1 i (oC s i)
  | 0,_=>⟨(nextV_ok (oL_ok s h hg (Int.le_refl _)).2.1 4).1,⟨Int.le_refl _,Int.le_refl _⟩,Nat.le_refl _,fun y hy=>(by cases hy),List.Pairwise.nil⟩
  | i+1,hi=>by
    rw [oC_next]
    exact (oC_inv h hg h0 hp i (by omega)).next (by omega) (by rw [(oL_ok s h hg (Int.le_refl _)).1.n];exact h0) hp
theorem RS.odd {s r:Scene} {nn nl:Nat} (h:RS s nn nl r) (n3:3<=nn) (n7:nn<=7) (l2:2<=nl) (l10:nl<=10):DN (oddS r).1:=by
  have rn:r.1.1.length=nn:=h.i.n.trans h.g.n
  have rl:=h.links
  have pre:=h.preO (by omega) (by omega) (by omega)
  have ok:=oL_ok r h.c pre.g (i:=r.1.2.1.length) (Int.le_refl _)
  have inv:=oL_inv h.np h.c pre.g h.lk (i:=r.1.2.1.length) (Nat.le_refl _)
  have ag:=ok.1
  have e:(oddS r).1=((oL r r.1.2.1.length).1.1,(oL r r.1.2.1.length).1.2,(oC r (oK r).toNat).1):=by
    unfold oddS oC oK oL oN
    rfl
  have kk:=nextV_lt ok.2.1 (n:=4) (by omega)
  have hp:∀ x∈(oL r r.1.2.1.length).1.1,nRoutes x≠[]->0<(nPorts x).length:=fun x hx hr=>by
    obtain ⟨i,hi,rfl⟩:=getD_of_mem hx
    have q:=ag.e i (by rw [← ag.n];exact hi)
    rw [q.1]
    rw [q.2] at hr
    exact (pre.p _ (getD_memN (by rw [← ag.n];exact hi)) hr).1
  have oc:=oC_inv h.c pre.g pre.n0 hp (oK r).toNat (by unfold oK;omega)
  rw [e]
  have ln:(oL r r.1.2.1.length).1.1.length=nn:=ag.n.trans rn
  have ll:(oL r r.1.2.1.length).1.2.length=nl:=by rw [inv.lk.n,rl,h.g.l]
  refine ⟨by rw [ln];exact n3,by rw [ln];exact n7,by rw [ll];exact l2,by rw [ll];exact l10,?_,fun x hx => ?_,fun i hi => ?_,inv.np,fun i hi => ?_,fun x hx => ?_,fun x hx=>(oc.h x hx).1,oc.s⟩
  · have:=oc.n
    have:(oK r).toNat<=3:=by unfold oK;omega
    dsimp only
    omega
  · obtain ⟨l0,hl0,k⟩:=inv.lk.mem hx
    rw [rl] at hl0
    have g:=h.g.g l0 hl0
    have ka:=k.a;have kb:=k.b;have kd:=k.d;have ks:=k.s;have kj:=k.j;have ko:=k.o
    rw [ln,ka,kb,kd,ks]
    omega
  · dsimp only at hi ⊢
    rw [(ag.e i (by omega)).1,h.ports (by omega),inv.lk.portsF,rl]
  · dsimp only at hi ⊢
    rw [(ag.e i (by omega)).2]
    refine tabOK.sub (tabOK.lk inv.lk ?_) (h.adr l10)
    rw [rl]
    exact h.tab (by omega)
  · dsimp only at hx ⊢
    obtain ⟨i,hi,rfl⟩:=getD_of_mem hx
    have hi':i<r.1.2.1.length:=by rw [← inv.lk.n];exact hi
    have k:=inv.lk.k i hi'
    rw [deafL_lk k.a k.b]
    exact inv.df i hi'
theorem net_dn {c:Codes} (h:okB c) (plain:Bool):DN (netV plain c):=by
  have hn:=lineN_ok h
  obtain ⟨m,m2,m10,G⟩:=net_ok h plain
  have R:=G.rs plain
  unfold netV netS
  cases plain with
  | true=>exact R.dn (by omega) (by omega) m2 m10
  | false=>exact R.odd (by omega) (by omega) m2 m10
theorem net_codes {c:Codes} (h:okB c) (plain:Bool):okB (netC plain c):=by
  obtain ⟨m,m2,m10,G⟩:=net_ok h plain
  have R:=G.rs plain
  unfold netC netS
  cases plain with
  | true=>exact R.c
  | false =>
    have hn:=lineN_ok h
    have pre:=R.preO (by omega) (by omega) (by omega)
    exact (oC_ok _ R.c pre.g _).1
end Go.RS

/- Drawn2: drawn networks have no error; who has an address; routes. -/
namespace Go.RS
open Go.SX Go.Proofs
set_option maxRecDepth 100000
set_option linter.unusedVariables false
theorem okB_new {l:List Int} {m:Int} (h:∀ x∈l,0<=x/\x<=255):okB (if (l.length:Int)<=m then l else l.take m.toNat,0):=by
  refine ⟨⟨Int.le_refl _,by dsimp only;omega⟩,fun x hx => ?_⟩
  dsimp only at hx
  split at hx
  · exact h x hx
  · exact h x (List.mem_of_mem_take hx)
theorem DN.port {n:Net} (h:DN n) {i:Nat} (hi:i<n.1.length) {q:Port}:q∈nPorts (n.1.getD i default)↔∃ j:Nat,j<n.2.1.length/\((lA (n.2.1.getD j default)=i/\q=(baseA j+1,(j:Int)))∨(lB (n.2.1.getD j default)=i/\q=(baseA j+2,(j:Int)))):=by
  rw [h.p i hi,mem_portsF];simp only [Nat.zero_add]
theorem DN.links {n:Net} (h:DN n) {i:Nat} (hi:i<n.1.length) {k:Int}:k∈pLinks (n.1.getD i default)↔lnk n.2.1 i k:=by
  unfold pLinks lnk
  rw [List.mem_map]
  constructor
  · rintro ⟨q,hq,rfl⟩
    obtain ⟨j,hj,e⟩:=(h.port hi).1 hq
    rcases e with ⟨e,rfl⟩|⟨e,rfl⟩
    · exact ⟨by dsimp only;omega,by dsimp only;omega,.inl (by simpa using e)⟩
    · exact ⟨by dsimp only;omega,by dsimp only;omega,.inr (by simpa using e)⟩
  · rintro ⟨k0,k1,e⟩
    have ek:((k.toNat:Nat):Int)=k:=by omega
    rcases e with e|e
    · exact ⟨_,(h.port hi).2 ⟨k.toNat,by omega,.inl ⟨e,rfl⟩⟩,ek⟩
    · exact ⟨_,(h.port hi).2 ⟨k.toNat,by omega,.inr ⟨e,rfl⟩⟩,ek⟩
theorem DN.uniq {n:Net} (h:DN n) {i j:Nat} (hi:i<n.1.length) (hj:j<n.1.length) {q p:Port} (hq:q∈nPorts (n.1.getD i default)) (hp:p∈nPorts (n.1.getD j default)) (e:q.1=p.1):i=j/\q.2=p.2:=by
  obtain ⟨a,ha,ea⟩:=(h.port hi).1 hq
  obtain ⟨b,hb,eb⟩:=(h.port hj).1 hp
  unfold baseA at ea eb
  rcases ea with ⟨ea,rfl⟩|⟨ea,rfl⟩ <;> rcases eb with ⟨eb,rfl⟩|⟨eb,rfl⟩ <;> dsimp only at e ⊢
  · have:a=b:=by omega
    subst this;omega
  · omega
  · omega
  · have:a=b:=by omega
    subst this;omega
theorem DN.padr {n:Net} (h:DN n) {i:Nat} (hi:i<n.1.length) {a:Int} (ha:a∈pAddrs (n.1.getD i default)):167837697<=a/\a<=167837734:=by
  obtain ⟨q,hq,rfl⟩:=List.mem_map.1 ha
  obtain ⟨b,hb,eb⟩:=(h.port hi).1 hq
  have:=h.l10
  unfold baseA at eb
  rcases eb with ⟨eb,rfl⟩|⟨eb,rfl⟩ <;> dsimp only <;> omega
theorem DN.loop {n:Net} (h:DN n) {i:Nat} (hi:i<n.1.length):nLoop (n.1.getD i default)=0∨nLoop (n.1.getD i default)=167903232+i:=(h.d i hi).loop
theorem mem_adrs {x:Node} {a:Int}:a∈adrs x↔a∈pAddrs x∨(nLoop x≠0/\a=nLoop x):=by
  unfold adrs
  rw [List.mem_append]
  by_cases e:nLoop x=0
  · rw [if_pos e];simp [e]
  · rw [if_neg e];simp [e]
theorem DN.apart {n:Net} (h:DN n) {i j:Nat} (hi:i<n.1.length) (hj:j<n.1.length) {a:Int} (ha:a∈adrs (n.1.getD i default)) (hb:a∈adrs (n.1.getD j default)):i=j:=by
  rw [mem_adrs] at ha hb
  have li:=h.loop hi
  have lj:=h.loop hj
  rcases ha with ha|ha <;> rcases hb with hb|hb
  · obtain ⟨q,hq,e⟩:=List.mem_map.1 ha
    obtain ⟨p,hp,e2⟩:=List.mem_map.1 hb
    exact (h.uniq hi hj hq hp (e.trans e2.symm)).1
  · have:=h.padr hi ha;omega
  · have:=h.padr hj hb;omega
  · omega
theorem tab20 {ls:List Link} {i:Int} {t:List Rt} (h:tabOK ls aaF i t):t.length<=20:=tabOK_len h
theorem other_a {ls:List Link} {k:Int} (k0:0<=k) (k1:k<ls.length):otherV ls k (lA (ls.getD k.toNat default))=lB (ls.getD k.toNat default):=by
  unfold otherV;rw [if_neg (by omega),if_pos rfl]
theorem other_b {ls:List Link} {k:Int} (k0:0<=k) (k1:k<ls.length) (hn:lA (ls.getD k.toNat default)≠lB (ls.getD k.toNat default)):otherV ls k (lB (ls.getD k.toNat default))=lA (ls.getD k.toNat default):=by
  unfold otherV;rw [if_neg (by omega),if_neg (fun e=>hn e.symm),if_pos rfl]
theorem mem_chV {l:List Rt} {c:Change} {r:Rt} (h:r∈chV l c):r=hRoute c∨r∈l:=by
  unfold chV at h
  split at h
  · exact .inr (List.mem_filter.1 h).1
  · rcases putL_mem.1 h with h|h
    · exact .inl h
    · exact .inr h.1
theorem routes_all {n:Net} {who at':Int} (w0:0<=who) (w1:who<n.1.length) {P:Rt->Prop} (h0:∀ r∈nRoutes (n.1.getD who.toNat default),P r) (hc:∀ c∈n.2.2,hWho c=who->P (hRoute c)):∀ r∈routesV n who at',P r:=by
  unfold routesV routesK
  rw [if_neg (by omega)]
  have e:∀ (l:List Change) (t:List Rt),(∀ c∈l,hWho c=who->P (hRoute c))->(∀ r∈t,P r)→∀ r∈l.foldl (stepC who at') t,P r:=by
    intro l
    induction l with
    | nil=>intro t _ h;exact h
    | cons c l ih =>
      intro t hl ht
      rw [List.foldl_cons]
      refine ih _ (fun x hx=>hl x (List.mem_cons_of_mem _ hx)) fun r hr => ?_
      unfold stepC at hr
      split at hr
      · rename_i q
        rcases mem_chV hr with rfl|hr
        · exact hl c List.mem_cons_self q.1
        · exact ht r hr
      · exact ht r hr
  exact e _ _ (fun c hc'=>hc c (List.mem_of_mem_take hc')) h0
theorem DN.next {n:Net} (h:DN n) {who at':Int} (w0:0<=who) (w1:who<n.1.length):∀ r∈routesV n who at',∀ k∈r.2.1,lnk n.2.1 who k:=by
  have ew:((who.toNat:Nat):Int)=who:=by omega
  refine routes_all w0 w1 (fun r hr k hk => ?_) (fun c hc hw k hk => ?_)
  · have:=((h.t who.toNat (by omega)).2 r hr).ln k hk
    rw [ew] at this;exact this
  · have q:=(h.c c hc).x
    rw [hw] at q
    rcases q with e|⟨q,hq,e⟩
    · rw [e] at hk;cases hk
    · rw [e] at hk
      rw [List.mem_singleton.1 hk]
      have:=(h.links (i:=who.toNat) (by omega)).1 (List.mem_map.2 ⟨q,hq,rfl⟩)
      rw [ew] at this;exact this
theorem DN.other {n:Net} (h:DN n) {who k:Int} (hk:lnk n.2.1 who k):0<=otherV n.2.1 k who/\otherV n.2.1 k who<n.1.length:=by
  obtain ⟨k0,k1,e⟩:=hk
  have g:=h.g _ (getD_mem k0 k1)
  rcases e with e|e
  · rw [← e,other_a k0 k1];exact g.2.1
  · rw [← e,other_b k0 k1 g.2.2.1];exact g.1
end Go.RS

/- Law14: the laws of networks. -/
namespace Go.RS
open Go.SX Go.Proofs
set_option maxRecDepth 100000
set_option linter.unusedVariables false
def awakeX (i:Int):Node:=([(167772161+i,0)],0,0,true,[((0,0),[0],1)],1,0,0,0,0,(0,0),false,false,64,0)
def awakeN:List Node:=[awakeX 0,awakeX 1]
def awakeNet:Net:=(awakeN,[(0,1,1,0,0,0)],[])
theorem awake_check:checkV awakeNet=0:=by decide +kernel
def ct_law14_awake:Ct:=⟨[],[.val .bool],fun _=>[],fun _=>((true,()),())⟩
def an_law14_awake:PDs ct_law14_awake.ps->Anns:=(fun d=>{loops:=(fun n=>match n with|3=>some (fun S=>{ι:=Int×(List Node),qn:=⟨fun k_=>∀ (i:Int) (ns:(List Node)),k_ (i,ns),fun k_ h_ i=>h_ i.1 i.2,fun k_=>∃ (i:Int) (ns:(List Node)),k_ (i,ns),fun k_ ⟨i,ns,h_⟩=>⟨_,h_⟩⟩,μ:=fun i=>(2-i.1).toNat,inv:=fun i=>0<=i.1/\i.1<=2/\i.2=awakeN.take i.1.toNat,keep:=[1],slots:=fun i=>[(2,.int .i64 i.1)],keepN:=[80],names:=fun i=>[(32,.live (.cells 27 [.own 524288 16,.own 80 6,.nilsl])),(524288,.live (.row 54 cNode i.2))]})|_=>none)})
def Qcc0 :=
 ((0:Int),(1:Int),(1:Int),(0:Int),(0:Int),(0:Int))
def Qcc1 (a:Int) :=
 ([(IntKind.wrap .u32 (IntKind.wrap .i64 ((167772161:Int)+a)),(0:Int))],(0:Int),(0:Int),true,[(((0:Int),(0:Int)),[(0:Int)],(1:Int))],(1:Int),(0:Int),(0:Int),(0:Int),(0:Int),((0:Int),(0:Int)),false,false,(64:Int),(0:Int))
theorem vc_law14_awake :
 True->True->(∃(a:Int) (b:List Node),(0<=a/\a<=2/\b=List.take a.toNat awakeN)/\(0:Int)=a/\[(Qcc0)]=[(Qcc0)]/\b=([]:List Node)/\True)/\ ∀(a:Int) (b:List Node),0<=a/\a<=2/\b=List.take a.toNat awakeN->ifP (decide (a<2)) ((b.length+List.length [(Qcc1 a)])*(152:Nat)<=(140737488355328:Nat)/\ ∃(c:Int) (d:List Node),(0<=c/\c<=2/\d=List.take c.toNat awakeN)/\Int.toNat ((2:Int) -c)<Int.toNat ((2:Int) -a)/\IntKind.wrap .i64 (a+(1:Int))=c/\[(Qcc0)]=[(Qcc0)]/\b++[(Qcc1 a)]=d/\True) ((∀(c:Change),c∈([]:List Change)->((List.length (hRoute c).2.1):Int)<=1099511627776)/\ ∀(c:Bool),c=decide (checkV (b,[(Qcc0)],([]:List Change))=0)->(c->(c->c)/\True)/\(c->(c->c)/\True)/\(c->c)/\(bif c then decide (otherV [(Qcc0)] (0:Int) (0:Int)=1) else false)=true):=by
  delta Qcc0 Qcc1
  rintro - -
  refine ⟨⟨0,[],⟨by omega,by omega,rfl⟩,(by repeat' first|exact trivial|refine ⟨trivial,?_⟩|refine ⟨(by with_reducible rfl),?_⟩|refine ⟨w64 (by omega) (by omega),?_⟩|refine ⟨rfl,?_⟩)⟩,?_⟩
  rintro i ns ⟨i0,i1,rfl⟩
  have hl:(awakeN.take i.toNat).length<=2:=by rw [List.length_take];exact Nat.min_le_right _ _
  refine ifP_split (fun hi => ?_) (fun hi => ?_)
  · have hi:=of_decide_eq_true hi
    refine ⟨by simp only [List.length_cons,List.length_nil];omega,i+1,_,⟨by omega,by omega,rfl⟩,by omega,?_⟩
    (repeat first|refine ⟨trivial,?_⟩|refine ⟨(by with_reducible rfl),?_⟩|refine ⟨w64 (by omega) (by omega),?_⟩)
    refine ⟨?_,trivial⟩
    rcases (show i=0∨i=1 by omega) with rfl|rfl <;> rfl
  · have hi:=of_decide_eq_false hi
    have e:i=2:=by omega
    subst e
    have hc:checkV (awakeN.take (Int.toNat 2),[(0,1,1,0,0,0)],[])=0:=awake_check
    rw [hc]
    refine ⟨fun c hc=>(by cases hc),?_⟩
    intro b hb
    have hb:b=true:=hb.trans (by decide)
    subst hb
    (repeat refine ⟨by simp,?_⟩)
    decide
theorem ok_law14_awake:SpecOK Tryd.prog GL 4 ct_law14_awake.spec:=Ct.okH _ Tryd.func4 (by kernel_rfl) (withSpec_ok (withSpec_ok noSpecs_ok ok_topology_Check) ok_topology_Other) hmix an_law14_awake (hideMp (by kernel_rfl) vc_law14_awake)
end Go.RS

/- Ref14: the reference's networks. -/
namespace Go.RS
open Go.SX Go.Proofs
set_option maxRecDepth 100000
set_option linter.unusedVariables false
def ct_ref14_addresses:Ct:=⟨[.agg cNode],[.own 41 cU32],fun d=>[(nPorts d.1).length<=100000],fun d=>((adrs d.1,()),())⟩
def an_ref14_addresses:PDs ct_ref14_addresses.ps->Anns:=(fun d=>{loops:=(fun n=>match n with|3=>some (fun S=>{ι:=Int×(List Int),qn:=⟨fun k_=>∀ (j:Int) (l:(List Int)),k_ (j,l),fun k_ h_ i=>h_ i.1 i.2,fun k_=>∃ (j:Int) (l:(List Int)),k_ (j,l),fun k_ ⟨j,l,h_⟩=>⟨_,h_⟩⟩,μ:=fun i=>((nPorts d.1).length-i.1).toNat,inv:=fun i=>0<=i.1/\i.1<=(nPorts d.1).length/\i.2=(pAddrs d.1).take i.1.toNat,keep:=[1],slots:=fun i=>[(3,.own 524288 1),(4,.int .i64 i.1)],keepN:=[32],names:=fun i=>[(524288,.live (.row 41 cU32 i.2))]})|_=>none)})
def Qcd3 (a:Node) :=
 ((List.length (nPorts a)):Int)
theorem vc_ref14_addresses :
 ∀(a:Node),CT.wf cNode a/\True->List.length (nPorts a)<=(100000:Nat)->(∃(b:Int) (c:List Int),(0<=b/\b<=(Qcd3 a)/\c=List.take b.toNat (pAddrs a))/\(0:Int)=b/\a.1=a.1/\a.2.1=a.2.1/\a.2.2.1=a.2.2.1/\a.2.2.2.1=a.2.2.2.1/\a.2.2.2.2.1=a.2.2.2.2.1/\a.2.2.2.2.2.1=a.2.2.2.2.2.1/\a.2.2.2.2.2.2.1=a.2.2.2.2.2.2.1/\a.2.2.2.2.2.2.2.1=a.2.2.2.2.2.2.2.1/\a.2.2.2.2.2.2.2.2.1=a.2.2.2.2.2.2.2.2.1/\a.2.2.2.2.2.2.2.2.2.1=a.2.2.2.2.2.2.2.2.2.1/\a.2.2.2.2.2.2.2.2.2.2.1.1=a.2.2.2.2.2.2.2.2.2.2.1.1/\a.2.2.2.2.2.2.2.2.2.2.1.2=a.2.2.2.2.2.2.2.2.2.2.1.2/\a.2.2.2.2.2.2.2.2.2.2.2.1=a.2.2.2.2.2.2.2.2.2.2.2.1/\a.2.2.2.2.2.2.2.2.2.2.2.2.1=a.2.2.2.2.2.2.2.2.2.2.2.2.1/\a.2.2.2.2.2.2.2.2.2.2.2.2.2.1=a.2.2.2.2.2.2.2.2.2.2.2.2.2.1/\a.2.2.2.2.2.2.2.2.2.2.2.2.2.2=a.2.2.2.2.2.2.2.2.2.2.2.2.2.2/\c=([]:List Int)/\True)/\ ∀(b:Int) (c:List Int),0<=b/\b<=(Qcd3 a)/\c=List.take b.toNat (pAddrs a)->ifP (decide (b<(a.1.length:Int)))
 (0<=b/\b<(a.1.length:Int)/\(c.length+List.length [(List.getD a.1 b.toNat default).1])*(4:Nat)<=(140737488355328:Nat)/\ ∃(d:Int) (e:List Int),(0<=d/\d<=(Qcd3 a)/\e=List.take d.toNat (pAddrs a))/\Int.toNat ((Qcd3 a) -d)<Int.toNat ((Qcd3 a) -b)/\IntKind.wrap .i64 (b+(1:Int))=d/\a.1=a.1/\a.2.1=a.2.1/\a.2.2.1=a.2.2.1/\a.2.2.2.1=a.2.2.2.1/\a.2.2.2.2.1=a.2.2.2.2.1/\a.2.2.2.2.2.1=a.2.2.2.2.2.1/\a.2.2.2.2.2.2.1=a.2.2.2.2.2.2.1/\a.2.2.2.2.2.2.2.1=a.2.2.2.2.2.2.2.1/\a.2.2.2.2.2.2.2.2.1=a.2.2.2.2.2.2.2.2.1/\a.2.2.2.2.2.2.2.2.2.1=a.2.2.2.2.2.2.2.2.2.1/\a.2.2.2.2.2.2.2.2.2.2.1.1=a.2.2.2.2.2.2.2.2.2.2.1.1/\a.2.2.2.2.2.2.2.2.2.2.1.2=a.2.2.2.2.2.2.2.2.2.2.1.2/\a.2.2.2.2.2.2.2.2.2.2.2.1=a.2.2.2.2.2.2.2.2.2.2.2.1/\a.2.2.2.2.2.2.2.2.2.2.2.2.1=a.2.2.2.2.2.2.2.2.2.2.2.2.1/\a.2.2.2.2.2.2.2.2.2.2.2.2.2.1=a.2.2.2.2.2.2.2.2.2.2.2.2.2.1/\a.2.2.2.2.2.2.2.2.2.2.2.2.2.2=a.2.2.2.2.2.2.2.2.2.2.2.2.2.2/\c++[(List.getD
 a.1 b.toNat default).1]=e/\True) (ifP (! decide (a.2.1=0)) ((c.length+List.length [a.2.1])*(4:Nat)<=(140737488355328:Nat)/\c++[a.2.1]=adrs a) (c=adrs a)):=by
  delta Qcd3
  rintro d-hl
  have hlen:(pAddrs d).length=(nPorts d).length:=by simp [pAddrs]
  have hd:d.1=nPorts d:=rfl
  have hz:d.2.1=nLoop d:=rfl
  rw [hd,hz]
  refine ⟨⟨0,[],⟨by omega,by omega,rfl⟩,(by repeat' first|exact trivial|refine ⟨trivial,?_⟩|refine ⟨(by with_reducible rfl),?_⟩|refine ⟨w64 (by omega) (by omega),?_⟩|refine ⟨rfl,?_⟩)⟩,?_⟩
  rintro j l ⟨j0,j1,rfl⟩
  refine ifP_split (fun hk => ?_) (fun hk => ?_)
  · have hk:=of_decide_eq_true hk
    refine ⟨j0,hk,by simp only [List.length_take,List.length_cons,List.length_nil];omega,j+1,_,⟨by omega,by omega,rfl⟩,by omega,?_⟩
    (repeat first|refine ⟨trivial,?_⟩|refine ⟨(by with_reducible rfl),?_⟩|refine ⟨w64 (by omega) (by omega),?_⟩)
    refine ⟨?_,trivial⟩
    rw [take_step j0 (by rw [hlen];exact hk)]
    unfold pAddrs
    rw [List.getD_eq_getElem?_getD,List.getD_eq_getElem?_getD,List.getElem?_map,List.getElem?_eq_getElem (by omega)]
    rfl
  · have hk:=of_decide_eq_false hk
    rw [List.take_of_length_le (by omega)]
    unfold adrs
    refine ifP_split (fun h => ?_) (fun h => ?_)
    · rw [if_neg (nd_t h)]
      exact ⟨by simp only [List.length_cons,List.length_nil];omega,rfl⟩
    · rw [if_pos (nd_f h),List.append_nil]
theorem ok_ref14_addresses:SpecOK Tryd.prog GL 30 ct_ref14_addresses.spec:=Ct.okH _ Tryd.func30 (by kernel_rfl) noSpecs_ok hmix an_ref14_addresses (hideMp (by kernel_rfl) vc_ref14_addresses)
def ct_ref14_Make:Ct:=⟨[.val (.sl cRt),.agg cChange],[.own 49 cRt],fun d=>[sortedR d.1,okL d.1,((hRoute d.2.1).2.1.length:Int)<=1099511627776],fun d=>((chV d.1 d.2.1,()),())⟩
def an_ref14_Make:PDs ct_ref14_Make.ps->Anns:=(fun _=>{})
theorem vc_ref14_Make :
 ∀(a:List Route) (b:Change),(a.length<=maxLen/\ ∀(c:Route),c∈a->((0<=c.1.1/\c.1.1<=4294967295)/\R64 c.1.2)/\(c.2.1.length<=maxLen/\ ∀(d:Int),d∈c.2.1->R64 d)/\R64 c.2.2)/\CT.wf cChange b/\True->sortedR a/\okL a/\((List.length (hRoute b).2.1):Int)<=1099511627776->ifP b.2.2.1 (okL a/\removeL a b.2.2.2.1=chV a b) (sortedR a/\okL a/\(b.2.2.2.2.1.length:Int)<=1099511627776/\putL a b.2.2.2=chV a b):=by
  rintro l c-⟨hs,hl,hx⟩
  unfold chV
  rw [show c.2.2.1=hRem c from rfl]
  refine ifP_split (fun h=>⟨hl,?_⟩) (fun h=>⟨hs,hl,hx,?_⟩)
  · rw [if_pos h];rfl
  · rw [if_neg (by rw [h];decide)];rfl
theorem ok_ref14_Make:SpecOK Tryd.prog GL 53 ct_ref14_Make.spec:=Ct.okH _ Tryd.func53 (by kernel_rfl) (withSpec_ok (withSpec_ok noSpecs_ok ok_ref09_Put) ok_ref09_Remove) hmix an_ref14_Make (hideMp (by kernel_rfl) vc_ref14_Make)
theorem tri_d {P:Prop} [Decidable P] {a b:Bool}:(bif decide P then true else bif a then !b else false)=decide (P∨(a=true/\b=false)):=by
  by_cases h:P <;> cases a <;> cases b <;> simp [h]
def ct_ref14_changes:Ct:=⟨[.agg cNet],[.val cI],fun d=>[boxesV d.1=0,d.1.1.length<=64,∀ c∈d.1.2.2,((hRoute c).2.1.length:Int)<=1099511627776],fun d=>((scriptV d.1,()),())⟩
def an_ref14_changes:PDs ct_ref14_changes.ps->Anns:=(fun d=>{loops:=(fun n=>match n with|3=>some (fun S=>{ι:=Int×(List (List Rt)),qn:=⟨fun k_=>∀ (j:Int) (t:(List (List Rt))),k_ (j,t),fun k_ h_ i=>h_ i.1 i.2,fun k_=>∃ (j:Int) (t:(List (List Rt))),k_ (j,t),fun k_ ⟨j,t,h_⟩=>⟨_,h_⟩⟩,μ:=fun i=>(d.1.1.length-i.1).toNat,inv:=fun i=>0<=i.1/\i.1<=d.1.1.length/\i.2=(d.1.1.take i.1.toNat).map nRoutes++List.replicate (d.1.1.length-i.1.toNat) [],keep:=[1],slots:=fun i=>[(3,.own 524288 1),(4,.int .i64 i.1)],keepN:=[32],names:=fun i=>[(524288,.live (.row 50 (.sl cRt) i.2))]})|7=>some (fun S=>{ι:=Int×(List (List Rt)),qn:=⟨fun k_=>∀ (j:Int) (t:(List (List Rt))),k_ (j,t),fun k_ h_ i=>h_ i.1 i.2,fun k_=>∃ (j:Int) (t:(List (List Rt))),k_ (j,t),fun k_ ⟨j,t,h_⟩=>⟨_,h_⟩⟩,μ:=fun i=>(d.1.2.2.length-i.1).toNat,inv:=fun i=>0<=i.1/\i.1<=d.1.2.2.length/\first (scrV d.1) i.1.toNat=0/\i.2=tabsV d.1 i.1.toNat,keep:=[1],slots:=fun i=>[(3,.own 524288 1),(5,.int .i64 i.1)],keepN:=[32],names:=fun i=>[(524288,.live (.row 50 (.sl cRt) i.2))]})|_=>none)})
def Qcd0 (c:List Change) (f:Int) :=
 c.getD f.toNat default
def Qcd1 (c:List Change) (f:Int) :=
 Int.toNat (Qcd0 c f).2.1
def Qcd2 (k l:Bool) :=
 (! k&&l)->((! k&&l)->(! k&&l))/\True
theorem vc_ref14_changes :
 ∀(a:List Node) (b:List Link) (c:List Change),((a.length<=maxLen/\ ∀(d:Node),d∈a->CT.wf cNode d)/\(b.length<=maxLen/\ ∀(d:Link),d∈b->CT.wf cLink d)/\c.length<=maxLen/\ ∀(d:Change),d∈c->CT.wf cChange d)/\True->(boxesV (a,b,c)=0/\a.length<=(64:Nat)/\ ∀(d:Change),d∈c->((List.length (hRoute d).2.1):Int)<=1099511627776)->0<=(a.length:Int)/\(a.length:Int)<=(a.length:Int)/\(↑(24:Nat):Int)*(a.length:Int)<=281474976710656/\(∃(d:Int) (e:List (List Rt)),(0<=d/\d<=(a.length:Int)/\e=List.map nRoutes (List.take d.toNat a)++List.replicate (a.length -d.toNat) ([]:List Route))/\(0:Int)=d/\a=a/\b=b/\c=c/\List.replicate (Int.toNat (a.length:Int)) ([]:List Route)=e/\True)/\ ∀(d:Int) (e:List (List Rt)),0<=d/\d<=(a.length:Int)/\e=List.map nRoutes (List.take d.toNat a)++List.replicate (a.length -d.toNat) ([]:List Route)->ifP (decide (d<(a.length:Int))) (0<=d/\d<(a.length:Int)/\0<=d/\d<(e.length:Int)/\ ∃(f:Int)
 (g:List (List Rt)),(0<=f/\f<=(a.length:Int)/\g=List.map nRoutes (List.take f.toNat a)++List.replicate (a.length -f.toNat) ([]:List Route))/\Int.toNat ((a.length:Int) -f)<Int.toNat ((a.length:Int) -d)/\IntKind.wrap .i64 (d+(1:Int))=f/\a=a/\b=b/\c=c/\List.set e d.toNat (a.getD d.toNat default).2.2.2.2.1=g/\True) ((∃(f:Int) (g:List (List Rt)),(0<=f/\f<=(c.length:Int)/\first (scrV (a,b,c)) f.toNat=0/\g=tabsV (a,b,c) f.toNat)/\(0:Int)=f/\a=a/\b=b/\c=c/\e=g/\True)/\ ∀(f:Int) (g:List (List Rt)),0<=f/\f<=(c.length:Int)/\first (scrV (a,b,c)) f.toNat=0/\g=tabsV (a,b,c) f.toNat->ifP (decide (f<(c.length:Int))) (0<=f/\f<(c.length:Int)/\ ∀(h:Bool),h=decide ((Qcd0 c f).1<0)->((! h)->((! h)->(! h))/\True)/\((! h)->((! h)->(! h))/\True)/\(h=false->(! h))/\ifP (bif h then true else decide (1125899906842624<(Qcd0 c f).1)) ((1:Int)=scriptV (a,b,c)) (∀(i:Bool),i=decide
 (0<f)->(i->(i->i)/\True)/\(i->(i->i)/\True)/\(i->(i->i)/\True)/\(i->(i->i)/\(i->i)/\0<=IntKind.wrap .i64 (f -(1:Int))/\IntKind.wrap .i64 (f -(1:Int))<(c.length:Int)/\True)/\(i->(i->i)/\True)/\(i->(i->i)/\True)/\(i->(i->i)/\(i->i)/\True)/\(i->i)/\ifP (bif i then decide ((Qcd0 c f).1<(c.getD (Int.toNat (IntKind.wrap .i64 (f -(1:Int)))) default).1) else false) ((6:Int)=scriptV (a,b,c)) (∀(j:Bool),j=decide ((Qcd0 c f).2.1<0)->((! j)->((! j)->(! j))/\True)/\((! j)->((! j)->(! j))/\True)/\((! j)->((! j)->(! j))/\True)/\((! j)->((! j)->(! j))/\((! j)->(! j))/\True)/\(j=false->(! j))/\ ∀(k:Bool),(k=bif j then true else decide ((a.length:Int)<=(Qcd0 c f).2.1))->((! k)->((! k)->(! k))/\True)/\((! k)->((! k)->(! k))/\True)/\ ∀(l:Bool),l=(Qcd0 c f).2.2.1->(Qcd2 k l)/\((! k&&l)->((! k&&l)->(! k&&l))/\((! k&&l)->(! k&&l))/\0<=(Qcd0 c f).2.1/\(Qcd0 c f).2.1<(g.length:Int)/\True)/\(Qcd2 k l)/\(Qcd2 k
 l)/\(Qcd2 k l)/\((! k&&l)->((! k&&l)->(! k&&l))/\((! k&&l)->(! k&&l))/\okL (g.getD (Qcd1 c f) default)/\True)/\(Qcd2 k l)/\((! k)->((! k)->(! k))/\(l->(! k&&l))/\True)/\(k=false->(! k))/\ifP (bif k then true else bif l then ! hasL (g.getD (Qcd1 c f) default) (Qcd0 c f).2.2.2.1 else false) ((8:Int)=scriptV (a,b,c)) (0<=(Qcd0 c f).2.1/\(Qcd0 c f).2.1<(g.length:Int)/\sortedR (g.getD (Qcd1 c f) default)/\okL (g.getD (Qcd1 c f) default)/\((List.length (Qcd0 c f).2.2.2.2.1):Int)<=1099511627776/\0<=(Qcd0 c f).2.1/\(Qcd0 c f).2.1<(g.length:Int)/\0<=(Qcd0 c f).2.1/\(Qcd0 c f).2.1<((List.length (List.set g (Qcd1 c f) (chV (g.getD (Qcd1 c f) default) (Qcd0 c f)))):Int)/\0<=(Qcd0 c f).2.1/\(Qcd0 c f).2.1<(a.length:Int)/\List.length (nPorts (a.getD (Qcd1 c f) default))<=(100000:Nat)/\ifP (! decide (check (List.getD (List.set g (Qcd1 c f) (chV (g.getD (Qcd1 c f) default) (Qcd0 c f))) (Qcd1 c f)
 default) (pLinks (a.getD (Qcd1 c f) default))=0)) (check (List.getD (List.set g (Qcd1 c f) (chV (g.getD (Qcd1 c f) default) (Qcd0 c f))) (Qcd1 c f) default) (pLinks (a.getD (Qcd1 c f) default))=scriptV (a,b,c)) (∃(m:Int) (n:List (List Rt)),(0<=m/\m<=(c.length:Int)/\first (scrV (a,b,c)) m.toNat=0/\n=tabsV (a,b,c) m.toNat)/\Int.toNat ((c.length:Int) -m)<Int.toNat ((c.length:Int) -f)/\IntKind.wrap .i64 (f+(1:Int))=m/\a=a/\b=b/\c=c/\List.set g (Qcd1 c f) (chV (g.getD (Qcd1 c f) default) (Qcd0 c f))=n/\True))))) ((0:Int)=scriptV (a,b,c))):=by
  delta Qcd0 Qcd1 Qcd2
  rintro ns ls hs ⟨⟨⟨hnl,-⟩,⟨hl,-⟩,⟨hhl,-⟩⟩,-⟩ ⟨hb,hn,hx⟩
  simp only [maxLen] at hl hnl hhl
  refine ⟨by omega,by omega,by omega,⟨0,_,⟨by omega,by omega,rfl⟩,by (repeat first|refine ⟨trivial,?_⟩|refine ⟨(by with_reducible rfl),?_⟩|refine ⟨w64 (by omega) (by omega),?_⟩);simp⟩,?_⟩
  rintro j t ⟨j0,j1,rfl⟩
  have tl:((ns.take j.toNat).map nRoutes++List.replicate (ns.length-j.toNat) ([]:List Rt)).length=ns.length:=by simp;omega
  refine ifP_split (fun hj => ?_) (fun hj => ?_)
  · have hj:=of_decide_eq_true hj
    refine ⟨j0,hj,j0,by rw [tl];exact hj,j+1,_,⟨by omega,by omega,rfl⟩,by omega,?_⟩
    (repeat first|refine ⟨trivial,?_⟩|refine ⟨(by with_reducible rfl),?_⟩|refine ⟨w64 (by omega) (by omega),?_⟩)
    refine ⟨?_,trivial⟩
    rw [show (j+1).toNat=j.toNat+1 by omega,← fill_step (by omega)];rfl
  have hj:=of_decide_eq_false hj
  have e0:(ns.take j.toNat).map nRoutes++List.replicate (ns.length-j.toNat) ([]:List Rt)=tabsV (ns,ls,hs) 0:=by
    rw [List.take_of_length_le (by omega),show ns.length-j.toNat=0 by omega];simp [tabsV]
  rw [e0]
  clear e0 tl hj j0 j1
  refine ⟨⟨0,_,⟨by omega,by omega,rfl,rfl⟩,(by repeat' first|exact trivial|refine ⟨trivial,?_⟩|refine ⟨(by with_reducible rfl),?_⟩|refine ⟨w64 (by omega) (by omega),?_⟩|refine ⟨rfl,?_⟩)⟩,?_⟩
  rintro j t ⟨j0,j1,hf,rfl⟩
  refine ifP_split (fun hj => ?_) (fun hj => ?_)
  rotate_left
  · have hj:=of_decide_eq_false hj
    rw [show j.toNat=hs.length by omega] at hf
    exact hf.symm
  have hj:=of_decide_eq_true hj
  have hm:=getD_mem j0 hj
  have tb:=tabs_ok hb hf
  have tl:=tabs_len (ns,ls,hs) j.toNat
  dsimp only at tl
  have hit:=fun h=>first_hit (f:=scrV (ns,ls,hs)) (n:=hs.length) j0 hj hf h
  have eq:=scrV_eq (ns,ls,hs) j0
  have ej:((j.toNat:Nat):Int)=j:=by omega
  rw [w64 (n:=j-1) (by omega) (by omega),tl]
  refine ⟨j0,hj,?_⟩
  (repeat (intro (b_:Bool) (hb_:b_=_);(repeat refine ⟨(by first|(simp;done)|(rw [hb_];simp;done)|(rw [hb_];simp;omega)|(rw [hb_];simp;intros;omega)|(rw [hb_];simp +contextual;done)),?_⟩);subst hb_))
  rw [bor_d]
  refine ifP_split (fun h => ?_) (fun h => ?_)
  · have h:=of_decide_eq_true h
    have e:scrV (ns,ls,hs) j.toNat=1:=by
      rw [eq];unfold scrC;rw [if_pos];exact h
    have q:=hit (by rw [e];decide)
    rw [e] at q;exact q
  have c1:¬ (hAt (hs.getD j.toNat default)<0∨1125899906842624<hAt (hs.getD j.toNat default)):=of_decide_eq_false h
  clear h
  intro b hb1
  (repeat refine ⟨(by first|(simp;done)|exact fun h=>⟨fun _=>h,fun _=>h,j0,hj,trivial⟩|exact fun h=>⟨fun _=>h,fun _=>h,by rw [hb1] at h;have:=of_decide_eq_true h;omega,by rw [hb1] at h;have:=of_decide_eq_true h;omega,trivial⟩),?_⟩)
  rw [hb1,band_d]
  refine ifP_split (fun h => ?_) (fun h => ?_)
  · have h:=of_decide_eq_true h
    have e:scrV (ns,ls,hs) j.toNat=6:=by
      rw [eq];unfold scrC;rw [if_neg c1,if_pos];exact ⟨by omega,h.2⟩
    have q:=hit (by rw [e];decide)
    rw [e] at q;exact q
  have c2:¬ (0<j.toNat/\hAt (hs.getD j.toNat default)<hAt (hs.getD (j-1).toNat default)):=fun q=>of_decide_eq_false h ⟨by omega,q.2⟩
  clear h hb1
  have okT:¬ (hWho (hs.getD j.toNat default)<0∨(ns.length:Int)<=hWho (hs.getD j.toNat default))->okL ((tabsV (ns,ls,hs) j.toNat).getD (hWho (hs.getD j.toNat default)).toNat default):=fun h=>(tb.r _ (by show _<ns.length;omega)).2
  intro b1 hb1
  (repeat refine ⟨(by simp;done),?_⟩)
  intro b2 hb2
  (repeat refine ⟨(by simp;done),?_⟩)
  rw [hb1,bor_d] at hb2
  intro b3 hb3
  have hb3:b3=hRem (hs.getD j.toNat default):=hb3
  have nb:(!b2&&b3)=true→¬ (hWho (hs.getD j.toNat default)<0∨(ns.length:Int)<=hWho (hs.getD j.toNat default)):=fun h=>by
    have h:=(Bool.and_eq_true_iff.1 h).1
    rw [hb2] at h
    exact nd_t h
  (repeat refine ⟨(by first|(simp;done)|(simp +contextual;done)|exact fun h=>⟨fun _=>h,fun _=>h,okT (nb h),trivial⟩|exact fun h=>⟨fun _=>h,fun _=>h,by have:0<=hWho (hs.getD j.toNat default):=(by have:=nb h;omega);exact this,by have:hWho (hs.getD j.toNat default)<ns.length:=(by have:=nb h;omega);exact this,trivial⟩),?_⟩)
  have tot:(bif b2 then true else bif b3 then !hasL ((tabsV (ns,ls,hs) j.toNat).getD (hs.getD j.toNat default).2.1.toNat default) (hs.getD j.toNat default).2.2.2.1 else false)=decide ((hWho (hs.getD j.toNat default)<0∨(ns.length:Int)<=hWho (hs.getD j.toNat default))∨(hRem (hs.getD j.toNat default)=true/\hasL ((tabsV (ns,ls,hs) j.toNat).getD (hWho (hs.getD j.toNat default)).toNat default) (hRoute (hs.getD j.toNat default)).1=false)):=by
    rw [hb2,hb3]
    exact tri_d
  rw [tot]
  refine ifP_split (fun h => ?_) (fun h => ?_)
  · have h:=of_decide_eq_true h
    have e:scrV (ns,ls,hs) j.toNat=8:=by
      rw [eq];unfold scrC;rw [if_neg c1,if_neg c2]
      rcases h with h|h
      · rw [if_pos h]
      · by_cases hA:hWho (hs.getD j.toNat default)<0∨(ns.length:Int)<=hWho (hs.getD j.toNat default)
        · rw [if_pos hA]
        · rw [if_neg hA,if_pos h]
    have q:=hit (by rw [e];decide)
    rw [e] at q;exact q
  have h:=of_decide_eq_false h
  have c3:¬ (hWho (hs.getD j.toNat default)<0∨(ns.length:Int)<=hWho (hs.getD j.toNat default)):=fun k=>h (.inl k)
  have c4:¬ (hRem (hs.getD j.toNat default)=true/\hasL ((tabsV (ns,ls,hs) j.toNat).getD (hWho (hs.getD j.toNat default)).toNat default) (hRoute (hs.getD j.toNat default)).1=false):=fun k=>h (.inr k)
  have w0:0<=hWho (hs.getD j.toNat default):=by omega
  have w1:hWho (hs.getD j.toNat default)<ns.length:=by omega
  have wl:(hWho (hs.getD j.toNat default)).toNat<ns.length:=by omega
  have tr:=tb.r (hWho (hs.getD j.toNat default)).toNat wl
  rw [List.length_set,tl,getD_set (by rw [tl];exact wl)]
  refine ⟨w0,w1,tr.1,tr.2,hx _ hm,w0,w1,w0,w1,w0,w1,by have:=(boxes_node (n:=(ns,ls,hs)) hb wl).len;exact Nat.le_trans this (by decide),ifP_split (fun h => ?_) (fun h => ?_)⟩
  · have h:=nd_t h
    have e:scrV (ns,ls,hs) j.toNat=check (chV ((tabsV (ns,ls,hs) j.toNat).getD (hWho (hs.getD j.toNat default)).toNat default) (hs.getD j.toNat default)) (pLinks (ns.getD (hWho (hs.getD j.toNat default)).toNat default)):=by
      rw [eq];unfold scrC;rw [if_neg c1,if_neg c2,if_neg c3,if_neg c4]
    have k:=hit (by rw [e];exact h)
    rw [e] at k;exact k
  · have h:=nd_f h
    have e:scrV (ns,ls,hs) j.toNat=0:=by
      rw [eq];unfold scrC;rw [if_neg c1,if_neg c2,if_neg c3,if_neg c4];exact h
    refine ⟨j+1,tabsV (ns,ls,hs) (j+1).toNat,⟨by omega,by omega,first_next j0 hf e,rfl⟩,by omega,?_⟩
    (repeat first|refine ⟨trivial,?_⟩|refine ⟨(by with_reducible rfl),?_⟩|refine ⟨w64 (by omega) (by omega),?_⟩)
    refine ⟨?_,trivial⟩
    rw [show (j+1).toNat=j.toNat+1 by omega];rfl
theorem ok_ref14_changes:SpecOK Tryd.prog GL 32 ct_ref14_changes.spec:=Ct.okH _ Tryd.func32 (by kernel_rfl) (withSpec_ok (withSpec_ok (withSpec_ok (withSpec_ok noSpecs_ok ok_ref09_Has) ok_ref14_Make) ok_ref13_Links) ok_ref09_Check) hmix an_ref14_changes (hideMp (by kernel_rfl) vc_ref14_changes)
end Go.RS

/- Ref14c: the reference's check of networks. -/
namespace Go.RS
open Go.SX Go.Proofs
set_option maxRecDepth 100000
set_option linter.unusedVariables false
theorem seenN_iff (ns:List Node) (a:Int):∀ k:Nat,mhas a (seenN ns k)=true↔∃ j:Nat,j<k/\a∈adrs (ns.getD j default)
  | 0=>⟨fun h=>by (cases h),fun ⟨j,hj,_⟩=>absurd hj (Nat.not_lt_zero _)⟩
  | k+1=>by
    have e:seenN ns (k+1)=seenL k (adrs (ns.getD k default)) (seenN ns k):=by unfold seenN;rw [List.range_succ,List.foldl_append];rfl
    rw [e,seenL_has.1,Bool.or_eq_true,decide_eq_true_iff,seenN_iff ns a k]
    constructor
    · rintro (h|⟨j,hj,h⟩)
      · exact ⟨k,by omega,h⟩
      · exact ⟨j,by omega,h⟩
    · rintro ⟨j,hj,h⟩
      by_cases q:j=k
      · subst q;exact .inl h
      · exact .inr ⟨j,by omega,h⟩
theorem pLinks_get {x:Node} {j:Nat} (h:j<(nPorts x).length):(pLinks x).getD j default=((nPorts x).getD j default).2:=by
  unfold pLinks
  rw [List.getD_eq_getElem?_getD,List.getD_eq_getElem?_getD,List.getElem?_map,List.getElem?_eq_getElem h];rfl
def ct_ref14_Check:Ct:=⟨[.agg cNet],[.val cI],fun d=>[∀ c∈d.1.2.2,((hRoute c).2.1.length:Int)<=1099511627776],fun d=>((checkV d.1,()),())⟩
def an_ref14_Check:PDs ct_ref14_Check.ps->Anns:=(fun d=>{loops:=(fun n=>match n with|4=>some (fun S=>{ι:=Int,μ:=fun i=>(d.1.2.1.length-i).toNat,inv:=fun i=>0<=i/\i<=d.1.2.1.length∧∀ x∈d.1.2.1.take i.toNat,soundL d.1.1.length x,keep:=[1],slots:=fun i=>[(3,.int .i64 i)],keepN:=[32],names:=fun i=>[]})|10=>some (fun S=>{ι:=Int,μ:=fun i=>(d.1.1.length-i).toNat,inv:=fun i=>0<=i/\i<=d.1.1.length/\first (boxV d.1) i.toNat=0,keep:=[1],slots:=fun i=>[(5,.int .i64 i)],keepN:=[32],names:=fun i=>[]})|16=>some (fun S=>{ι:=Int,μ:=fun i=>((pLinks (d.1.1.getD (S.i 5).toNat default)).length-i).toNat,inv:=fun i=>0<=i/\i<=(pLinks (d.1.1.getD (S.i 5).toNat default)).length∧∀ q∈(pLinks (d.1.1.getD (S.i 5).toNat default)).take i.toNat,strayL d.1 (S.i 5).toNat q=false,keep:=[1,5],slots:=fun i=>[(7,.int .i64 i)],keepN:=[32],names:=fun i=>[]})|22=>some (fun S=>{ι:=Int,μ:=fun i=>(d.1.2.1.length-i).toNat,inv:=fun i=>0<=i/\i<=d.1.2.1.length∧∀ k:Nat,(k:Int)<i->loose d.1 k=false,keep:=[1],slots:=fun i=>[(9,.int .i64 i)],keepN:=[32],names:=fun i=>[]})|27=>some (fun S=>{ι:=Int,μ:=fun i=>(d.1.1.length-i).toNat,inv:=fun i=>0<=i/\i<=d.1.1.length∧∀ u:Nat,(u:Int)<i→∀ k:Nat,k<u→∀ a∈adrs (d.1.1.getD u default),ownsA (d.1.1.getD k default) a=false,keep:=[1],slots:=fun i=>[(10,.int .i64 i)],keepN:=[32],names:=fun i=>[]})|31=>some (fun S=>{ι:=Int,μ:=fun i=>(S.i 10-i).toNat,inv:=fun i=>0<=i/\i<=S.i 10∧∀ z:Nat,(z:Int)<i→∀ a∈adrs (d.1.1.getD (S.i 10).toNat default),ownsA (d.1.1.getD z default) a=false,keep:=[1,10,11],slots:=fun i=>[(12,.int .i64 i)],keepN:=[32,3520],names:=fun i=>[]})|34=>some (fun S=>{ι:=Int,μ:=fun i=>((adrs (d.1.1.getD (S.i 10).toNat default)).length-i).toNat,inv:=fun i=>0<=i/\i<=(adrs (d.1.1.getD (S.i 10).toNat default)).length∧∀ a∈(adrs (d.1.1.getD (S.i 10).toNat default)).take i.toNat,ownsA (d.1.1.getD (S.i 12).toNat default) a=false,keep:=[1,10,11,12],slots:=fun i=>[(13,.int .i64 i)],keepN:=[32,3520],names:=fun i=>[]})|39=>some (fun S=>{ι:=Int,μ:=fun i=>(d.1.2.1.length-i).toNat,inv:=fun i=>0<=i/\i<=d.1.2.1.length∧∀ x∈d.1.2.1.take i.toNat,deafL d.1.1 x=false,keep:=[1],slots:=fun i=>[(14,.int .i64 i)],keepN:=[32],names:=fun i=>[]})|_=>none)})
def Qce0 (a:List Node) (j:Int) :=
 a.getD j.toNat default
def Qce1 (j:Bool) :=
 (! j)->((! j)->(! j))/\True
def Qce2 (a:List Node) (h:Int) :=
 a.getD h.toNat default
def Qce3 (b:List Link) :=
 (b.length:Int)
def Qce4 (a:List Node) (h i:Int) :=
 List.getD (Qce2 a h).1 i.toNat default
def Qce5 (a:List Node) (j:Int) :=
 ((List.length (adrs (Qce0 a j))):Int)
def Qce6 (a:List Node) :=
 (a.length:Int)
def Qce7 (b:List Link) (g:Int) :=
 b.getD g.toNat default
def Qce8 (a:List Node) (j:Int) :=
 0<=j/\j<=(Qce6 a)/\ ∀(k:Nat),(↑k:Int)<j-> ∀(l:Nat),l<k-> ∀(m:Int),m∈adrs (a.getD k default)->ownsA (a.getD l default) m=false
def Qce9 (a:List Node) (h:Int) :=
 ((List.length (pLinks (Qce2 a h))):Int)
theorem vc_ref14_Check :
 ∀(a:List Node) (b:List Link) (c:List Change),((a.length<=maxLen/\ ∀(d:Node),d∈a->CT.wf cNode d)/\(b.length<=maxLen/\ ∀(d:Link),d∈b->CT.wf cLink d)/\c.length<=maxLen/\ ∀(d:Change),d∈c->CT.wf cChange d)/\True->(∀(d:Change),d∈c->((List.length (hRoute d).2.1):Int)<=1099511627776)-> ∀(d:Bool),d=decide ((Qce6 a)<1)->((! d)->((! d)->(! d))/\True)/\((! d)->((! d)->(! d))/\True)/\((! d)->((! d)->(! d))/\True)/\(d=false->(! d))/\ ∀(e:Bool),(e=bif d then true else decide (64<(Qce6 a)))->((! e)->((! e)->(! e))/\True)/\((! e)->((! e)->(! e))/\True)/\((! e)->((! e)->(! e))/\True)/\(e=false->(! e))/\ ∀(f:Bool),(f=bif e then true else decide (128<(Qce3 b)))->((! f)->((! f)->(! f))/\True)/\((! f)->((! f)->(! f))/\True)/\((! f)->((! f)->(! f))/\True)/\(f=false->(! f))/\ifP (bif f then true else decide (64<(c.length:Int))) ((5:Int)=checkV (a,b,c)) ((∃(g:Int),(0<=g/\g<=(Qce3 b)/\
 ∀(h:Int×Int×Int×Int×Int×Int),h∈List.take g.toNat b->soundL a.length h)/\(0:Int)=g/\a=a/\b=b/\c=c/\True)/\ ∀(g:Int),(0<=g/\g<=(Qce3 b)/\ ∀(h:Int×Int×Int×Int×Int×Int),h∈List.take g.toNat b->soundL a.length h)->ifP (decide (g<(Qce3 b))) (0<=g/\g<(Qce3 b)/\ ∀(h:Bool),h=decide ((Qce7 b g).1<0)->((! h)->((! h)->(! h))/\True)/\((! h)->((! h)->(! h))/\True)/\((! h)->((! h)->(! h))/\True)/\((! h)->((! h)->(! h))/\((! h)->(! h))/\True)/\(h=false->(! h))/\ ∀(i:Bool),(i=bif h then true else decide ((Qce6 a)<=(Qce7 b g).1))->((! i)->((! i)->(! i))/\True)/\((! i)->((! i)->(! i))/\True)/\(i=false->(! i))/\ ∀(j:Bool),(j=bif i then true else decide ((Qce7 b g).2.1<0))->(Qce1 j)/\(Qce1 j)/\(Qce1 j)/\((! j)->((! j)->(! j))/\((! j)->(! j))/\True)/\(j=false->(! j))/\ ∀(k:Bool),(k=bif j then true else decide ((Qce6 a)<=(Qce7 b g).2.1))->((! k)->((! k)->(! k))/\True)/\((! k)->((! k)->(! k))/\True)/\((! k)->((!
 k)->(! k))/\((! k)->(! k))/\True)/\(k=false->(! k))/\ ∀(l:Bool),(l=bif k then true else decide ((Qce7 b g).1=(Qce7 b g).2.1))->((! l)->((! l)->(! l))/\True)/\((! l)->((! l)->(! l))/\True)/\(l=false->(! l))/\ ∀(m:Bool),(m=bif l then true else decide ((Qce7 b g).2.2.1<1))->((! m)->((! m)->(! m))/\True)/\((! m)->((! m)->(! m))/\True)/\(m=false->(! m))/\ ∀(n:Bool),(n=bif m then true else decide (1073741824<(Qce7 b g).2.2.1))->((! n)->((! n)->(! n))/\True)/\((! n)->((! n)->(! n))/\True)/\(n=false->(! n))/\ ∀(o:Bool),(o=bif n then true else decide ((Qce7 b g).2.2.2.1<0))->((! o)->((! o)->(! o))/\True)/\((! o)->((! o)->(! o))/\True)/\(o=false->(! o))/\ ∀(p:Bool),(p=bif o then true else decide (1073741824<(Qce7 b g).2.2.2.1))->((! p)->((! p)->(! p))/\True)/\((! p)->((! p)->(! p))/\True)/\(p=false->(! p))/\ ∀(q:Bool),(q=bif p then true else decide ((Qce7 b g).2.2.2.2.1<0))->((! q)->((! q)->(!
 q))/\True)/\((! q)->((! q)->(! q))/\True)/\(q=false->(! q))/\ifP (bif q then true else decide (65536<(Qce7 b g).2.2.2.2.1)) ((11:Int)=checkV (a,b,c)) (∃(r:Int),(0<=r/\r<=(Qce3 b)/\ ∀(s:Int×Int×Int×Int×Int×Int),s∈List.take r.toNat b->soundL a.length s)/\Int.toNat ((Qce3 b) -r)<Int.toNat ((Qce3 b) -g)/\IntKind.wrap .i64 (g+(1:Int))=r/\a=a/\b=b/\c=c/\True)) ((∃(h:Int),(0<=h/\h<=(Qce6 a)/\first (boxV (a,b,c)) h.toNat=0)/\(0:Int)=h/\a=a/\b=b/\c=c/\True)/\ ∀(h:Int),0<=h/\h<=(Qce6 a)/\first (boxV (a,b,c)) h.toNat=0->ifP (decide (h<(Qce6 a))) (0<=h/\h<(Qce6 a)/\ifP (! decide (nodeV (Qce2 a h)=0)) (nodeV (Qce2 a h)=checkV (a,b,c)) ((∃(i:Int),(0<=i/\i<=(Qce9 a h)/\ ∀(j:Int),j∈List.take i.toNat (pLinks (Qce2 a h))->strayL (a,b,c) h.toNat j=false)/\h=h/\(0:Int)=i/\a=a/\b=b/\c=c/\True)/\ ∀(i:Int),(0<=i/\i<=(Qce9 a h)/\ ∀(j:Int),j∈List.take i.toNat (pLinks (Qce2 a h))->strayL (a,b,c) h.toNat
 j=false)->0<=h/\h<(Qce6 a)/\ifP (decide (i<((List.length (Qce2 a h).1):Int))) (0<=h/\h<(Qce6 a)/\0<=i/\i<((List.length (Qce2 a h).1):Int)/\ ∀(j:Bool),j=decide ((Qce3 b)<=(Qce4 a h i).2)->(Qce1 j)/\((! j)->((! j)->(! j))/\((! j)->(! j))/\0<=(Qce4 a h i).2/\(Qce4 a h i).2<(Qce3 b)/\True)/\(Qce1 j)/\(Qce1 j)/\((! j)->((! j)->(! j))/\((! j)->(! j))/\True)/\(Qce1 j)/\ ∀(k:Bool),k= ! decide ((b.getD (Int.toNat (Qce4 a h i).2) default).1=h)->((! j&&k)->((! j&&k)->(! j&&k))/\True)/\((! j&&k)->((! j&&k)->(! j&&k))/\((! j&&k)->(! j&&k))/\0<=(Qce4 a h i).2/\(Qce4 a h i).2<(Qce3 b)/\True)/\((! j&&k)->((! j&&k)->(! j&&k))/\True)/\((! j&&k)->((! j&&k)->(! j&&k))/\True)/\((! j&&k)->((! j&&k)->(! j&&k))/\((! j&&k)->(! j&&k))/\True)/\((! j)->((! j)->(! j))/\(k->(! j&&k))/\True)/\(j=false->(! j))/\ifP (bif j then true else bif k then ! decide ((b.getD (Int.toNat (Qce4 a h i).2) default).2.1=h) else false)
 ((11:Int)=checkV (a,b,c)) (∃(l:Int),(0<=l/\l<=(Qce9 a h)/\ ∀(m:Int),m∈List.take l.toNat (pLinks (Qce2 a h))->strayL (a,b,c) h.toNat m=false)/\Int.toNat ((Qce9 a h) -l)<Int.toNat ((Qce9 a h) -i)/\h=h/\IntKind.wrap .i64 (i+(1:Int))=l/\a=a/\b=b/\c=c/\True)) (∃(j:Int),(0<=j/\j<=(Qce6 a)/\first (boxV (a,b,c)) j.toNat=0)/\Int.toNat ((Qce6 a) -j)<Int.toNat ((Qce6 a) -h)/\IntKind.wrap .i64 (h+(1:Int))=j/\a=a/\b=b/\c=c/\True))) ((∃(i:Int),(0<=i/\i<=(Qce3 b)/\ ∀(j:Nat),(↑j:Int)<i->loose (a,b,c) j=false)/\(0:Int)=i/\a=a/\b=b/\c=c/\True)/\ ∀(i:Int),(0<=i/\i<=(Qce3 b)/\ ∀(j:Nat),(↑j:Int)<i->loose (a,b,c) j=false)->ifP (decide (i<(Qce3 b))) (0<=i/\i<(Qce3 b)/\0<=(b.getD i.toNat default).1/\(b.getD i.toNat default).1<(Qce6 a)/\ ∀(j:Bool),j=decide (portL (a.getD (Int.toNat (b.getD i.toNat default).1) default) i<0)->(Qce1 j)/\(Qce1 j)/\((! j)->((! j)->(! j))/\((! j)->(! j))/\0<=i/\i<(Qce3
 b)/\True)/\(Qce1 j)/\(Qce1 j)/\((! j)->((! j)->(! j))/\((! j)->(! j))/\0<=(b.getD i.toNat default).2.1/\(b.getD i.toNat default).2.1<(Qce6 a)/\True)/\(Qce1 j)/\((! j)->((! j)->(! j))/\((! j)->(! j))/\True)/\(Qce1 j)/\(j=false->(! j))/\ifP (bif j then true else decide (portL (a.getD (Int.toNat (b.getD i.toNat default).2.1) default) i<0)) ((11:Int)=checkV (a,b,c)) (∃(k:Int),(0<=k/\k<=(Qce3 b)/\ ∀(l:Nat),(↑l:Int)<k->loose (a,b,c) l=false)/\Int.toNat ((Qce3 b) -k)<Int.toNat ((Qce3 b) -i)/\IntKind.wrap .i64 (i+(1:Int))=k/\a=a/\b=b/\c=c/\True)) ((∃(j:Int),(Qce8 a j)/\(0:Int)=j/\a=a/\b=b/\c=c/\True)/\ ∀(j:Int),(Qce8 a j)->ifP (decide (j<(Qce6 a))) (0<=j/\j<(Qce6 a)/\List.length (nPorts (Qce0 a j))<=(100000:Nat)/\(∃(k:Int),(0<=k/\k<=j/\ ∀(l:Nat),(↑l:Int)<k-> ∀(m:Int),m∈adrs (Qce0 a j)->ownsA (a.getD l default) m=false)/\j=j/\(0:Int)=k/\a=a/\b=b/\c=c/\adrs (Qce0 a j)=adrs (Qce0 a j)/\True)/\
 ∀(k:Int),(0<=k/\k<=j/\ ∀(l:Nat),(↑l:Int)<k-> ∀(m:Int),m∈adrs (Qce0 a j)->ownsA (a.getD l default) m=false)->ifP (decide (k<j)) ((∃(l:Int),(0<=l/\l<=(Qce5 a j)/\ ∀(m:Int),m∈List.take l.toNat (adrs (Qce0 a j))->ownsA (a.getD k.toNat default) m=false)/\j=j/\k=k/\(0:Int)=l/\a=a/\b=b/\c=c/\adrs (Qce0 a j)=adrs (Qce0 a j)/\True)/\ ∀(l:Int),(0<=l/\l<=(Qce5 a j)/\ ∀(m:Int),m∈List.take l.toNat (adrs (Qce0 a j))->ownsA (a.getD k.toNat default) m=false)->ifP (decide (l<(Qce5 a j))) (0<=k/\k<(Qce6 a)/\0<=l/\l<(Qce5 a j)/\ifP (ownsA (a.getD k.toNat default) (List.getD (adrs (Qce0 a j)) l.toNat default)) ((10:Int)=checkV (a,b,c)) (∃(m:Int),(0<=m/\m<=(Qce5 a j)/\ ∀(n:Int),n∈List.take m.toNat (adrs (Qce0 a j))->ownsA (a.getD k.toNat default) n=false)/\Int.toNat ((Qce5 a j) -m)<Int.toNat ((Qce5 a j) -l)/\j=j/\k=k/\IntKind.wrap .i64 (l+(1:Int))=m/\a=a/\b=b/\c=c/\adrs (Qce0 a j)=adrs (Qce0 a j)/\True))
 (∃(m:Int),(0<=m/\m<=j/\ ∀(n:Nat),(↑n:Int)<m-> ∀(o:Int),o∈adrs (Qce0 a j)->ownsA (a.getD n default) o=false)/\Int.toNat (j -m)<Int.toNat (j -k)/\j=j/\IntKind.wrap .i64 (k+(1:Int))=m/\a=a/\b=b/\c=c/\adrs (Qce0 a j)=adrs (Qce0 a j)/\True)) (∃(l:Int),(0<=l/\l<=(Qce6 a)/\ ∀(m:Nat),(↑m:Int)<l-> ∀(n:Nat),n<m-> ∀(o:Int),o∈adrs (a.getD m default)->ownsA (a.getD n default) o=false)/\Int.toNat ((Qce6 a) -l)<Int.toNat ((Qce6 a) -j)/\IntKind.wrap .i64 (j+(1:Int))=l/\a=a/\b=b/\c=c/\True)) ((∃(k:Int),(0<=k/\k<=(Qce3 b)/\ ∀(l:Int×Int×Int×Int×Int×Int),l∈List.take k.toNat b->deafL a l=false)/\(0:Int)=k/\a=a/\b=b/\c=c/\True)/\ ∀(k:Int),(0<=k/\k<=(Qce3 b)/\ ∀(l:Int×Int×Int×Int×Int×Int),l∈List.take k.toNat b->deafL a l=false)->ifP (decide (k<(Qce3 b))) (0<=k/\k<(Qce3 b)/\0<=(b.getD k.toNat default).1/\(b.getD k.toNat default).1<(Qce6 a)/\ ∀(l:Bool),l=(a.getD (Int.toNat (b.getD k.toNat default).1)
 default).2.2.2.2.2.2.2.2.2.2.2.2.1->(l->(l->l)/\True)/\(l->(l->l)/\True)/\(l->(l->l)/\(l->l)/\0<=k/\k<(Qce3 b)/\True)/\(l->(l->l)/\True)/\(l->(l->l)/\True)/\(l->(l->l)/\(l->l)/\0<=(b.getD k.toNat default).2.1/\(b.getD k.toNat default).2.1<(Qce6 a)/\True)/\(l->(l->l)/\True)/\(l->(l->l)/\True)/\(l->l)/\ifP (bif l then (a.getD (Int.toNat (b.getD k.toNat default).2.1) default).2.2.2.2.2.2.2.2.2.2.2.2.1 else false) ((13:Int)=checkV (a,b,c)) (∃(m:Int),(0<=m/\m<=(Qce3 b)/\ ∀(n:Int×Int×Int×Int×Int×Int),n∈List.take m.toNat b->deafL a n=false)/\Int.toNat ((Qce3 b) -m)<Int.toNat ((Qce3 b) -k)/\IntKind.wrap .i64 (k+(1:Int))=m/\a=a/\b=b/\c=c/\True)) (boxesV (a,b,c)=0/\a.length<=(64:Nat)/\(∀(l:Change),l∈c->((List.length (hRoute l).2.1):Int)<=1099511627776)/\scriptV (a,b,c)=checkV (a,b,c))))))):=by
  delta Qce0 Qce1 Qce2 Qce3 Qce4 Qce5 Qce6 Qce7 Qce8 Qce9
  rintro ns ls hs ⟨⟨⟨hnl,-⟩,⟨hl,-⟩,⟨hhl,-⟩⟩,-⟩ hx
  simp only [maxLen] at hl hnl hhl
  intro b1 hb1
  (repeat refine ⟨fun h_=>(by first|(simp;done)|(simp [h_];done)|(simp_all;done)),?_⟩)
  intro b2 hb2
  (repeat refine ⟨fun h_=>(by first|(simp;done)|(simp [h_];done)|(simp_all;done)),?_⟩)
  intro b3 hb3
  (repeat refine ⟨fun h_=>(by first|(simp;done)|(simp [h_];done)|(simp_all;done)),?_⟩)
  rw [hb3,hb2,hb1,bor_d,bor_d,bor_d]
  refine ifP_split (fun h => ?_) (fun h => ?_)
  · have h:=of_decide_eq_true h
    have e:sizesV (ns,ls,hs)=5:=by unfold sizesV;rw [if_pos (by dsimp only;omega)]
    unfold checkV;rw [e];rfl
  have h:=of_decide_eq_false h
  have e1:sizesV (ns,ls,hs)=0:=by unfold sizesV;rw [if_neg (by dsimp only;omega)]
  have eC:checkV (ns,ls,hs)=hop (cablesV (ns,ls,hs)) (hop (boxesV (ns,ls,hs)) (hop (plugsV (ns,ls,hs)) (hop (namesV (ns,ls,hs)) (hop (tunnelsV (ns,ls,hs)) (scriptV (ns,ls,hs)))))):=by unfold checkV;rw [hop_f e1]
  rw [eC]
  clear eC e1 hb1 hb2 hb3
  refine ⟨⟨0,⟨by omega,by omega,by simp⟩,(by repeat' first|exact trivial|refine ⟨trivial,?_⟩|refine ⟨(by with_reducible rfl),?_⟩|refine ⟨w64 (by omega) (by omega),?_⟩|refine ⟨rfl,?_⟩)⟩,?_⟩
  rintro i ⟨i0,i1,hI⟩
  refine ifP_split (fun hi => ?_) (fun hi => ?_)
  · have hi:=of_decide_eq_true hi
    have hm:=getD_mem i0 hi
    have okN:=fun h=>all_next i0 hi hI (P:=soundL ns.length) h
    refine ⟨i0,hi,?_⟩
    generalize ls.getD i.toNat default=l at hm okN ⊢
    intro c1 hc1
    (repeat refine ⟨fun h_=>(by first|(simp;done)|(simp [h_];done)|(simp_all;done)),?_⟩)
    intro c2 hc2
    (repeat refine ⟨fun h_=>(by first|(simp;done)|(simp [h_];done)|(simp_all;done)),?_⟩)
    intro c3 hc3
    (repeat refine ⟨fun h_=>(by first|(simp;done)|(simp [h_];done)|(simp_all;done)),?_⟩)
    intro c4 hc4
    (repeat refine ⟨fun h_=>(by first|(simp;done)|(simp [h_];done)|(simp_all;done)),?_⟩)
    intro c5 hc5
    (repeat refine ⟨fun h_=>(by first|(simp;done)|(simp [h_];done)|(simp_all;done)),?_⟩)
    intro c6 hc6
    (repeat refine ⟨fun h_=>(by first|(simp;done)|(simp [h_];done)|(simp_all;done)),?_⟩)
    intro c7 hc7
    (repeat refine ⟨fun h_=>(by first|(simp;done)|(simp [h_];done)|(simp_all;done)),?_⟩)
    intro c8 hc8
    (repeat refine ⟨fun h_=>(by first|(simp;done)|(simp [h_];done)|(simp_all;done)),?_⟩)
    intro c9 hc9
    (repeat refine ⟨fun h_=>(by first|(simp;done)|(simp [h_];done)|(simp_all;done)),?_⟩)
    intro c10 hc10
    (repeat refine ⟨fun h_=>(by first|(simp;done)|(simp [h_];done)|(simp_all;done)),?_⟩)
    rw [hc10,hc9,hc8,hc7,hc6,hc5,hc4,hc3,hc2,hc1,bor_d,bor_d,bor_d,bor_d,bor_d,bor_d,bor_d,bor_d,bor_d,bor_d]
    refine ifP_split (fun h => ?_) (fun h => ?_)
    · have h:=of_decide_eq_true h
      have e:cablesV (ns,ls,hs)=11:=by
        unfold cablesV
        rw [if_neg]
        intro k
        have k:soundL ns.length l:=of_decide_eq_true (List.all_eq_true.1 k l hm)
        unfold soundL lA lB lDelay lJitter lLoss at k
        omega
      rw [e];rfl
    · have h:=of_decide_eq_false h
      exact ⟨i+1,⟨by omega,by omega,okN (by unfold soundL lA lB lDelay lJitter lLoss;omega)⟩,by omega,(by repeat' first|exact trivial|refine ⟨trivial,?_⟩|refine ⟨(by with_reducible rfl),?_⟩|refine ⟨w64 (by omega) (by omega),?_⟩|refine ⟨rfl,?_⟩)⟩
  have hi:=of_decide_eq_false hi
  rw [List.take_of_length_le (by omega)] at hI
  have e2:cablesV (ns,ls,hs)=0:=by
    unfold cablesV
    rw [if_pos]
    exact List.all_eq_true.2 fun l hl=>decide_eq_true (hI l hl)
  rw [hop_f e2]
  have he:=cables_ends e2
  clear hI hi
  refine ⟨⟨0,⟨by omega,by omega,rfl⟩,(by repeat' first|exact trivial|refine ⟨trivial,?_⟩|refine ⟨(by with_reducible rfl),?_⟩|refine ⟨w64 (by omega) (by omega),?_⟩|refine ⟨rfl,?_⟩)⟩,?_⟩
  rintro i ⟨i0,i1,hf⟩
  refine ifP_split (fun hi => ?_) (fun hi => ?_)
  · have hi:=of_decide_eq_true hi
    have ei:((i.toNat:Nat):Int)=i:=by omega
    have hit:=fun h=>first_hit (f:=boxV (ns,ls,hs)) (n:=ns.length) i0 hi hf h
    have bad:∀ {v R:Int},v≠0->boxV (ns,ls,hs) i.toNat=v->v=hop (boxesV (ns,ls,hs)) R:=fun hv e=>by
      have k:=hit (by rw [e];exact hv)
      rw [e] at k
      rw [show boxesV (ns,ls,hs)=_ from k.symm]
      exact hop_t hv
    refine ⟨i0,hi,ifP_split (fun h => ?_) (fun h => ?_)⟩
    · have h:=nd_t h
      exact bad h (if_pos h)
    have h:=nd_f h
    have nv:=node_is h
    have k0:=node_links0 nv.bad
    have hlen:(pLinks (ns.getD i.toNat default)).length=(nPorts (ns.getD i.toNat default)).length:=by simp [pLinks]
    have n32:=nv.len
    refine ⟨⟨0,⟨by omega,by omega,by simp⟩,(by repeat' first|exact trivial|refine ⟨trivial,?_⟩|refine ⟨(by with_reducible rfl),?_⟩|refine ⟨w64 (by omega) (by omega),?_⟩|refine ⟨rfl,?_⟩)⟩,?_⟩
    rintro j ⟨j0,j1,hj⟩
    refine ⟨i0,hi,ifP_split (fun hk => ?_) (fun hk => ?_)⟩
    rotate_left
    · have hk:=of_decide_eq_false hk
      have hk:¬ j<((nPorts (ns.getD i.toNat default)).length:Int):=hk
      rw [List.take_of_length_le (by omega)] at hj
      refine ⟨i+1,⟨by omega,by omega,first_next i0 hf ?_⟩,by omega,(by repeat' first|exact trivial|refine ⟨trivial,?_⟩|refine ⟨(by with_reducible rfl),?_⟩|refine ⟨w64 (by omega) (by omega),?_⟩|refine ⟨rfl,?_⟩)⟩
      unfold boxV
      rw [if_neg (fun q=>q h),if_neg]
      intro q
      obtain ⟨k,hk,q⟩:=List.any_eq_true.1 q
      rw [hj k hk] at q;cases q
    have hk:=of_decide_eq_true hk
    have hk2:j<((pLinks (ns.getD i.toNat default)).length:Int):=by
      have:j<((nPorts (ns.getD i.toNat default)).length:Int):=hk
      omega
    have hm:=getD_mem j0 hk2
    have okN:=fun h=>all_next j0 hk2 hj h (P:=fun k=>strayL (ns,ls,hs) i.toNat k=false)
    have kk:=k0 _ hm
    have eg:((ns.getD i.toNat default).1.getD j.toNat default).2=(pLinks (ns.getD i.toNat default)).getD j.toNat default:=(pLinks_get (by omega)).symm
    refine ⟨i0,hi,j0,hk,?_⟩
    rw [eg]
    generalize (pLinks (ns.getD i.toNat default)).getD j.toNat default=k at hm okN kk ⊢
    intro b hb
    (repeat refine ⟨fun h_=>(by first|exact ⟨fun _=>h_,fun _=>h_,kk,by rw [hb] at h_;have:=nd_t h_;omega,trivial⟩|((repeat refine ⟨fun _=>h_,?_⟩);exact ⟨i0,hi,trivial⟩)|((repeat refine ⟨fun _=>h_,?_⟩);exact ⟨j0,hk,trivial⟩)|(simp;done)|(simp [h_];done)|(simp_all;done)),?_⟩)
    intro b2 hb2
    (repeat refine ⟨fun h_=>(by first|exact ⟨fun _=>h_,fun _=>h_,kk,by rw [hb] at h_;have:=nd_t (Bool.and_eq_true_iff.1 h_).1;omega,trivial⟩|((repeat refine ⟨fun _=>h_,?_⟩);exact ⟨i0,hi,trivial⟩)|((repeat refine ⟨fun _=>h_,?_⟩);exact ⟨j0,hk,trivial⟩)|(simp;done)|(simp [h_];done)|(simp_all;done)),?_⟩)
    have tot:(bif b then true else bif b2 then !decide ((ls.getD k.toNat default).2.1=i) else false)=strayL (ns,ls,hs) i.toNat k:=by
      rw [hb,hb2]
      unfold strayL lA lB
      rw [ei]
      cases decide ((ls.length:Int)<=k) <;> cases decide ((ls.getD k.toNat default).1=i) <;> cases decide ((ls.getD k.toNat default).2.1=i) <;> rfl
    rw [tot]
    refine ifP_split (fun ht => ?_) (fun ht => ?_)
    · refine bad (by decide) ?_
      unfold boxV
      rw [if_neg (fun q=>q h),if_pos (List.any_eq_true.2 ⟨_,hm,ht⟩)]
    · exact ⟨j+1,⟨by omega,by omega,okN ht⟩,by omega,(by repeat' first|exact trivial|refine ⟨trivial,?_⟩|refine ⟨(by with_reducible rfl),?_⟩|refine ⟨w64 (by omega) (by omega),?_⟩|refine ⟨rfl,?_⟩)⟩
  have hi:=of_decide_eq_false hi
  rw [show i.toNat=ns.length by omega] at hf
  have e3:boxesV (ns,ls,hs)=0:=hf
  rw [hop_f e3]
  clear hf hi
  have hp:∀ x∈ns,(nPorts x).length<=100000:=fun x hx=>Nat.le_trans (boxes_mem e3 x hx).len (by decide)
  refine ⟨⟨0,⟨by omega,by omega,fun k hk=>by omega⟩,(by repeat' first|exact trivial|refine ⟨trivial,?_⟩|refine ⟨(by with_reducible rfl),?_⟩|refine ⟨w64 (by omega) (by omega),?_⟩|refine ⟨rfl,?_⟩)⟩,?_⟩
  rintro i ⟨i0,i1,hI⟩
  refine ifP_split (fun hi => ?_) (fun hi => ?_)
  · have hi:=of_decide_eq_true hi
    have hm:=getD_mem i0 hi
    have e:=he _ hm
    have ei:((i.toNat:Nat):Int)=i:=by omega
    refine ⟨i0,hi,e.1,e.2.1,?_⟩
    intro b hb
    (repeat refine ⟨fun h_=>(by first|((repeat refine ⟨fun _=>h_,?_⟩);first|exact ⟨i0,hi,trivial⟩|exact ⟨e.2.2.1,e.2.2.2,trivial⟩)|(simp;done)|(simp [h_];done)|(simp_all;done)),?_⟩)
    refine ifP_or (fun ho => ?_) (fun x1 x2 => ?_)
    · have e4:plugsV (ns,ls,hs)=11:=by
        unfold plugsV
        rw [if_pos]
        refine List.any_eq_true.2 ⟨i.toNat,List.mem_range.2 (show i.toNat<ls.length by omega),?_⟩
        unfold loose
        rw [Bool.or_eq_true,ei]
        rcases ho with h|h
        · exact .inl (hb.symm.trans h)
        · exact .inr h
      rw [e4];rfl
    · refine ⟨i+1,⟨by omega,by omega,fun k hk => ?_⟩,by omega,(by repeat' first|exact trivial|refine ⟨trivial,?_⟩|refine ⟨(by with_reducible rfl),?_⟩|refine ⟨w64 (by omega) (by omega),?_⟩|refine ⟨rfl,?_⟩)⟩
      by_cases e2:(k:Int)<i
      · exact hI k e2
      · have:k=i.toNat:=by omega
        subst this
        unfold loose
        rw [Bool.or_eq_false_iff,ei]
        exact ⟨hb.symm.trans x1,x2⟩
  have hi:=of_decide_eq_false hi
  have e4:plugsV (ns,ls,hs)=0:=by
    unfold plugsV
    rw [if_neg]
    intro h
    obtain ⟨k,h1,h2⟩:=List.any_eq_true.1 h
    have h1:k<ls.length:=List.mem_range.1 h1
    rw [hI k (by omega)] at h2;cases h2
  rw [hop_f e4]
  clear hI hi
  refine ⟨⟨0,⟨by omega,by omega,fun u hu=>by omega⟩,(by repeat' first|exact trivial|refine ⟨trivial,?_⟩|refine ⟨(by with_reducible rfl),?_⟩|refine ⟨w64 (by omega) (by omega),?_⟩|refine ⟨rfl,?_⟩)⟩,?_⟩
  rintro i ⟨i0,i1,hI⟩
  refine ifP_split (fun hi => ?_) (fun hi => ?_)
  · have hi:=of_decide_eq_true hi
    have ei:((i.toNat:Nat):Int)=i:=by omega
    have hpx:=hp _ (getD_mem i0 hi)
    have al:(adrs (ns.getD i.toNat default)).length<=100001:=by
      unfold adrs pAddrs
      rw [List.length_append,List.length_map]
      split
      · rw [List.length_nil];omega
      · rw [List.length_singleton];omega
    refine ⟨i0,hi,hpx,⟨0,⟨by omega,by omega,fun z hz=>by omega⟩,(by repeat' first|exact trivial|refine ⟨trivial,?_⟩|refine ⟨(by with_reducible rfl),?_⟩|refine ⟨w64 (by omega) (by omega),?_⟩|refine ⟨rfl,?_⟩)⟩,?_⟩
    rintro k ⟨k0,k1,hK⟩
    refine ifP_split (fun hk => ?_) (fun hk => ?_)
    rotate_left
    · have hk:=of_decide_eq_false hk
      refine ⟨i+1,⟨by omega,by omega,fun u hu z hz a ha => ?_⟩,by omega,(by repeat' first|exact trivial|refine ⟨trivial,?_⟩|refine ⟨(by with_reducible rfl),?_⟩|refine ⟨w64 (by omega) (by omega),?_⟩|refine ⟨rfl,?_⟩)⟩
      by_cases q:(u:Int)<i
      · exact hI u q z hz a ha
      · have:u=i.toNat:=by omega
        subst this
        exact hK z (by omega) a ha
    have hk:=of_decide_eq_true hk
    refine ⟨⟨0,⟨by omega,by omega,by simp⟩,(by repeat' first|exact trivial|refine ⟨trivial,?_⟩|refine ⟨(by with_reducible rfl),?_⟩|refine ⟨w64 (by omega) (by omega),?_⟩|refine ⟨rfl,?_⟩)⟩,?_⟩
    rintro x ⟨x0,x1,hX⟩
    refine ifP_split (fun hx1 => ?_) (fun hx1 => ?_)
    rotate_left
    · have hx1:=of_decide_eq_false hx1
      rw [List.take_of_length_le (by omega)] at hX
      refine ⟨k+1,⟨by omega,by omega,fun z hz a ha => ?_⟩,by omega,(by repeat' first|exact trivial|refine ⟨trivial,?_⟩|refine ⟨(by with_reducible rfl),?_⟩|refine ⟨w64 (by omega) (by omega),?_⟩|refine ⟨rfl,?_⟩)⟩
      by_cases q:(z:Int)<k
      · exact hK z q a ha
      · have:z=k.toNat:=by omega
        subst this
        exact hX a ha
    have hx1:=of_decide_eq_true hx1
    have hm:=getD_mem x0 hx1
    have nx:=fun h=>all_next x0 hx1 hX h (P:=fun a=>ownsA (ns.getD k.toNat default) a=false)
    refine ⟨k0,by omega,x0,hx1,ifP_split (fun q => ?_) (fun q => ?_)⟩
    · have e5:namesV (ns,ls,hs)=10:=by
        unfold namesV
        rw [if_pos]
        exact List.any_eq_true.2 ⟨i.toNat,List.mem_range.2 (show i.toNat<ns.length by omega),List.any_eq_true.2 ⟨_,hm,(seenN_iff ns _ i.toNat).2 ⟨k.toNat,by omega,ownsA_iff.1 q⟩⟩⟩
      rw [e5];rfl
    · exact ⟨x+1,⟨by omega,by omega,nx q⟩,by omega,(by repeat' first|exact trivial|refine ⟨trivial,?_⟩|refine ⟨(by with_reducible rfl),?_⟩|refine ⟨w64 (by omega) (by omega),?_⟩|refine ⟨rfl,?_⟩)⟩
  have hi:=of_decide_eq_false hi
  have e5:namesV (ns,ls,hs)=0:=by
    unfold namesV
    rw [if_neg]
    intro h
    obtain ⟨u,hu,h2⟩:=List.any_eq_true.1 h
    obtain ⟨a,ha,h3⟩:=List.any_eq_true.1 h2
    have hu:u<ns.length:=List.mem_range.1 hu
    obtain ⟨j,hj,h4⟩:=(seenN_iff ns a u).1 h3
    have:=hI u (by omega) j hj a ha
    rw [ownsA_iff.2 h4] at this;cases this
  rw [hop_f e5]
  clear hI hi
  refine ⟨⟨0,⟨by omega,by omega,by simp⟩,(by repeat' first|exact trivial|refine ⟨trivial,?_⟩|refine ⟨(by with_reducible rfl),?_⟩|refine ⟨w64 (by omega) (by omega),?_⟩|refine ⟨rfl,?_⟩)⟩,?_⟩
  rintro i ⟨i0,i1,hI⟩
  refine ifP_split (fun hi => ?_) (fun hi => ?_)
  · have hi:=of_decide_eq_true hi
    have hm:=getD_mem i0 hi
    have e:=he _ hm
    refine ⟨i0,hi,e.1,e.2.1,?_⟩
    intro b hb
    (repeat refine ⟨fun h_=>(by first|((repeat refine ⟨fun _=>h_,?_⟩);first|exact ⟨i0,hi,trivial⟩|exact ⟨e.2.2.1,e.2.2.2,trivial⟩)|(simp;done)|(simp [h_];done)|(simp_all;done)),?_⟩)
    refine ifP_and (fun x1 x2 => ?_) (fun hno => ?_)
    · have e6:tunnelsV (ns,ls,hs)=13:=by
        unfold tunnelsV
        rw [if_pos]
        refine List.any_eq_true.2 ⟨_,hm,?_⟩
        unfold deafL
        rw [Bool.and_eq_true]
        exact ⟨hb.symm.trans x1,x2⟩
      rw [e6];rfl
    · refine ⟨i+1,⟨by omega,by omega,all_next i0 hi hI ?_⟩,by omega,(by repeat' first|exact trivial|refine ⟨trivial,?_⟩|refine ⟨(by with_reducible rfl),?_⟩|refine ⟨w64 (by omega) (by omega),?_⟩|refine ⟨rfl,?_⟩)⟩
      unfold deafL
      rw [Bool.and_eq_false_iff]
      rcases hno with h|h
      · exact .inl (hb.symm.trans h)
      · exact .inr h
  have hi:=of_decide_eq_false hi
  rw [List.take_of_length_le (by omega)] at hI
  have e6:tunnelsV (ns,ls,hs)=0:=by
    unfold tunnelsV
    rw [if_neg]
    intro h
    obtain ⟨l,h1,h2⟩:=List.any_eq_true.1 h
    rw [hI l h1] at h2;cases h2
  rw [hop_f e6]
  exact ⟨e3,by omega,hx,rfl⟩
theorem ok_ref14_Check:SpecOK Tryd.prog GL 11 ct_ref14_Check.spec:=Ct.okH _ Tryd.func11 (by kernel_rfl) (withSpec_ok (withSpec_ok (withSpec_ok (withSpec_ok (withSpec_ok noSpecs_ok ok_ref13_Check) ok_ref13_PortOf) ok_ref14_addresses) ok_ref13_Owns) ok_ref14_changes) hmix an_ref14_Check (hideMp (by kernel_rfl) vc_ref14_Check)
end Go.RS

/- Oddnet: networks with one field changed. -/
namespace Go.RS
open Go.SX Go.Proofs
set_option maxRecDepth 100000
set_option linter.unusedVariables false
theorem take_stepO {α:Type} [Inhabited α] {l:List α} {k:Int} (h0:0<=k) (h1:k<l.length):l.take (k+1).toNat=l.take k.toNat++[l.getD k.toNat default]:=by
  rw [show (k+1).toNat=k.toNat+1 by omega,List.take_add_one,List.getElem?_eq_getElem (by omega),List.getD_eq_getElem?_getD,List.getElem?_eq_getElem (by omega)];rfl
def nodeB (k:Int) (x:Node):Prop:=(x.1.length:Int)<=k/\(nRoutes x).length<=k∧∀ r∈nRoutes x,(r.2.1.length:Int)<=k
def netB (k:Int) (n:Net):Prop:=(n.1.length:Int)<=k/\(n.2.1.length:Int)<=k/\(n.2.2.length:Int)<=k/\(∀ x∈n.1,nodeB k x)∧∀ c∈n.2.2,(c.2.2.2.2.1.length:Int)<=k
def ct_CopyO:Ct:=⟨[.val (.sl cRt)],[.own 49 cRt],fun d=>[okL d.1],fun d=>((d.1,()),())⟩
def an_CopyO:PDs ct_CopyO.ps->Anns:=(fun d=>{loops:=(fun n=>match n with|3=>some (fun S=>{ι:=Int×(List Rt),qn:=⟨fun k_=>∀ (j:Int) (l:(List Rt)),k_ (j,l),fun k_ h_ i=>h_ i.1 i.2,fun k_=>∃ (j:Int) (l:(List Rt)),k_ (j,l),fun k_ ⟨j,l,h_⟩=>⟨_,h_⟩⟩,μ:=fun i=>(d.1.length-i.1).toNat,inv:=fun i=>0<=i.1/\i.1<=d.1.length/\i.2=d.1.take i.1.toNat,keep:=[0],slots:=fun i=>[(3,.own 524288 4),(4,.int .i64 i.1)],names:=fun i=>[(524288,.live (.row 49 cRt i.2))]})|_=>none)})
def Qcf3 :=
 (140737488355328:Nat)
theorem vc_CopyO :
 ∀(a:List Route),(a.length<=maxLen/\ ∀(b:Route),b∈a->((0<=b.1.1/\b.1.1<=4294967295)/\R64 b.1.2)/\(b.2.1.length<=maxLen/\ ∀(c:Int),c∈b.2.1->R64 c)/\R64 b.2.2)/\True->((a.length:Int)<=134217728/\ ∀(b:Rt),b∈a->(b.2.1.length:Int)<=1099511627776)->(∃(b:Int) (c:List Rt),(0<=b/\b<=(a.length:Int)/\c=List.take b.toNat a)/\a=a/\(0:Int)=b/\c=([]:List Route)/\True)/\ ∀(b:Int) (c:List Rt),0<=b/\b<=(a.length:Int)/\c=List.take b.toNat a->ifP (decide (b<(a.length:Int))) (0<=b/\b<(a.length:Int)/\((List.length (a.getD b.toNat default).2.1):Int)<=1099511627776/\(c.length+List.length [a.getD b.toNat default])*(48:Nat)<=(Qcf3)/\ ∃(d:Int) (e:List Rt),(0<=d/\d<=(a.length:Int)/\e=List.take d.toNat a)/\Int.toNat ((a.length:Int) -d)<Int.toNat ((a.length:Int) -b)/\a=a/\IntKind.wrap .i64 (b+(1:Int))=d/\c++[a.getD b.toNat default]=e/\True) (c=a):=by
  delta Qcf3
  rintro l ⟨⟨hl,-⟩,-⟩ ⟨h1,h2⟩
  simp only [maxLen] at hl
  refine ⟨⟨0,[],⟨by omega,by omega,rfl⟩,(by repeat' first|exact trivial|refine ⟨trivial,?_⟩|refine ⟨(by with_reducible rfl),?_⟩|refine ⟨w64 (by omega) (by omega),?_⟩|refine ⟨rfl,?_⟩)⟩,?_⟩
  rintro j m ⟨j0,j1,rfl⟩
  refine ifP_split (fun hj => ?_) (fun hj => ?_)
  · have hj:=of_decide_eq_true hj
    refine ⟨j0,hj,h2 _ (getD_mem j0 hj),by simp only [List.length_take,List.length_cons,List.length_nil];omega,j+1,_,⟨by omega,by omega,rfl⟩,by omega,?_⟩
    (repeat first|refine ⟨trivial,?_⟩|refine ⟨(by with_reducible rfl),?_⟩|refine ⟨w64 (by omega) (by omega),?_⟩)
    exact ⟨(take_stepO j0 hj).symm,trivial⟩
  · have hj:=of_decide_eq_false hj
    rw [List.take_of_length_le (by omega)]
theorem ok_CopyO:SpecOK Tryd.prog GL 20 ct_CopyO.spec:=Ct.okH _ Tryd.func20 (by kernel_rfl) (withSpec_ok noSpecs_ok ok_ref09_copied) hmix an_CopyO (hideMp (by kernel_rfl) vc_CopyO)
theorem netB_up {k:Int} {n:Net} (h:netB k n):netB (k+1) n:=by
  obtain ⟨h1,h2,h3,h4,h5⟩:=h
  exact ⟨by omega,by omega,by omega,fun x hx=>by obtain ⟨a,b,c⟩:=h4 x hx;exact ⟨by omega,by omega,fun r hr=>by have:=c r hr;omega⟩,fun c hc=>by have:=h5 c hc;omega⟩
theorem set_mem {ns:List Node} {i:Nat} {x' y:Node} (hy:y∈ns.set i x'):y∈ns∨y=x':=List.mem_or_eq_of_mem_set hy
theorem nodeB_same {k:Int} {x y:Node} (h:nodeB k x) (hp:y.1.length<=x.1.length) (hr:nRoutes y=nRoutes x):nodeB (k+1) y:=by
  obtain ⟨a,b,c⟩:=h
  exact ⟨by omega,by rw [hr];omega,fun r hq=>by rw [hr] at hq;have:=c r hq;omega⟩
theorem nb_any {k:Int} {ns:List Node} {ls:List Link} {cs:List Change} (h:netB k (ns,ls,cs)) {ns':List Node} {ls':List Link} {cs':List Change} (h1:ns'.length<=ns.length+1) (h2:ls'.length<=ls.length+1) (h3:cs'.length<=cs.length+1)
    (h4:∀ x∈ns',x∈ns∨nodeB (k+1) x) (h5:∀ c∈cs',c∈cs∨(c.2.2.2.2.1.length:Int)<=k+1):netB (k+1) (ns',ls',cs'):=by
  obtain ⟨a1,a2,a3,a4,a5⟩:=netB_up h
  obtain ⟨b1,b2,b3,-,-⟩:=h
  simp only at b1 b2 b3
  refine ⟨by simp only;omega,by simp only;omega,by simp only;omega,fun x hx=>(h4 x hx).elim (a4 x) id,fun c hc=>(h5 c hc).elim (a5 c) id⟩
theorem nb_set {k:Int} {ns:List Node} {ls:List Link} {cs:List Change} (h:netB k (ns,ls,cs)) {i:Int} (h0:0<=i) (hi:i<ns.length) {x':Node} (hp:x'.1.length<=(ns.getD i.toNat default).1.length) (hr:nRoutes x'=nRoutes (ns.getD i.toNat default))
    {ls':List Link} (hl:ls'.length<=ls.length+1):netB (k+1) (ns.set i.toNat x',ls',cs) :=
  nb_any h (by rw [List.length_set];omega) hl (by omega) (fun y hy=>(set_mem hy).elim .inl fun e => .inr (e▸nodeB_same (h.2.2.2.1 _ (getD_mem h0 hi)) hp hr)) (fun c hc => .inl hc)
theorem set_at {ns:List Node} {i:Int} (h0:0<=i) (hi:i<ns.length) (x':Node):(ns.set i.toNat x').getD i.toNat default=x':=by
  rw [List.getD_eq_getElem?_getD,List.getElem?_set_self (by omega),Option.getD_some]
def ct_draw_Codes_OddNet:Cn:=⟨[.box 57 cCodes,.agg cNet],[.agg cNet],fun d=>[okC d.1,netB 1000 d.2.1],fun d y=>okC y.2.1∧∀ k:Int,1<=k->netB k d.2.1->netB (k+1) y.1.1,fun d h=>⟨((d.2.1,()),(d.1,())),h.1,fun k _ h=>netB_up h⟩⟩
def an_draw_Codes_OddNet:PDs ct_draw_Codes_OddNet.ps->Anns:=(fun _=>{})
def Qcf0 (c:List Node) (g:Int) :=
 c.getD g.toNat default
def Qcf4 (d:List Link) (j:Int) :=
 d.getD j.toNat default
def Qcf1 (d:List Link) (j s:Int) :=
 List.set d j.toNat ((Qcf4 d j).1,(Qcf4 d j).2.1,s,(Qcf4 d j).2.2.2)
def Qcf6 (c:List Node) (g:Int) :=
 List.set c g.toNat (Qcf0 c g)
def Qcf2 (c:List Node) (g:Int) :=
 List.getD (Qcf6 c g) g.toNat default
def Qcf5 (c:List Node) (d:List Link) (e:List Change) (g:Int) :=
 ∀(s:Int),1<=s->netB s (c,d,e)->netB (s+(1:Int)) (List.set c g.toNat (Qcf0 c g),d,e)
theorem vc_draw_Codes_OddNet :
 ∀(a:List Int) (b:Int) (c:List Node) (d:List Link) (e:List Change),((a.length<=maxLen/\ ∀(f:Int),f∈a->0<=f/\f<=255)/\R64 b)/\((c.length<=maxLen/\ ∀(f:Node),f∈c->CT.wf cNode f)/\(d.length<=maxLen/\ ∀(f:Link),f∈d->CT.wf cLink f)/\e.length<=maxLen/\ ∀(f:Change),f∈e->CT.wf cChange f)/\True->(okC (a,b)/\(c.length:Int)<=1000/\(d.length:Int)<=1000/\(e.length:Int)<=1000/\(∀(f:Node),f∈c->nodeB (1000:Int) f)/\ ∀(f:Change),f∈e->(f.2.2.2.2.1.length:Int)<=1000)->c.length*(152:Nat)<=(Qcf3)/\d.length*(48:Nat)<=(Qcf3)/\e.length*(72:Nat)<=(Qcf3)/\ ∀(f:Bool),f=decide ((c.length:Int)=0)->((! f)->((! f)->(! f))/\True)/\((! f)->((! f)->(! f))/\True)/\((! f)->((! f)->(! f))/\True)/\(f=false->(! f))/\ifP (bif f then true else decide ((d.length:Int)=0)) (okC (a,b)/\ ∀(g:Int),1<=g->netB g (c,d,e)->netB (g+(1:Int)) (c,d,e)) (okC (a,b)/\ ∀(g:Int) (h:List Int) (i:Int),0<=g/\(g<(c.length:Int)∨g=0)/\okC
 (h,i)->0<=g/\g<(c.length:Int)/\okC (h,i)/\ ∀(j:Int) (k:List Int) (l:Int),0<=j/\(j<(d.length:Int)∨j=0)/\okC (k,l)->0<=j/\j<(d.length:Int)/\List.length (Qcf0 c g).1*(16:Nat)<=(Qcf3)/\g.toNat=g.toNat/\okC (k,l)/\ ∀(m:Int) (n:List Int) (o:Int),0<=m/\(m<max (1:Int) ((List.length (Qcf0 c g).1):Int)∨m=0)/\okC (n,o)->okC (n,o)/\ ∀(p:Int) (q:List Int) (r:Int),0<=p/\(p<16∨p=0)/\okC (q,r)->ifP (decide (p=0)) (okC (q,r)/\ ∀(s:Int) (t:List Int) (u:Int),okC (t,u)/\R64 s->okC (t,u)/\ ∀(v:Int),1<=v->netB v (c,d,e)->netB (v+(1:Int)) (List.set c g.toNat (Qcf0 c g),List.set d j.toNat (s,(Qcf4 d j).2),e)) (ifP (decide (p=1)) (okC (q,r)/\ ∀(s:Int) (t:List Int) (u:Int),okC (t,u)/\R64 s->okC (t,u)/\ ∀(v:Int) (w:List Int) (x:Int),okC (w,x)/\R64 v->okC (w,x)/\ ∀(y:Int),1<=y->netB y (c,d,e)->netB (y+(1:Int)) (List.set c g.toNat (Qcf0 c g),List.set (Qcf1 d j s) j.toNat ((List.getD (Qcf1 d j s) j.toNat
 default).1,(List.getD (Qcf1 d j s) j.toNat default).2.1,(List.getD (Qcf1 d j s) j.toNat default).2.2.1,v,(List.getD (Qcf1 d j s) j.toNat default).2.2.2.2),e)) (ifP (decide (p=2)) (okC (q,r)/\ ∀(s:Int) (t:List Int) (u:Int),okC (t,u)/\R64 s->okC (t,u)/\ ∀(v:Int),1<=v->netB v (c,d,e)->netB (v+(1:Int)) (List.set c g.toNat (Qcf0 c g),List.set d j.toNat ((Qcf4 d j).1,(Qcf4 d j).2.1,(Qcf4 d j).2.2.1,(Qcf4 d j).2.2.2.1,s,(Qcf4 d j).2.2.2.2.2),e)) (ifP (decide (p=3)) (g.toNat=g.toNat/\ifP (decide (m<((List.length (Qcf0 c g).1):Int))) (g.toNat=g.toNat/\okC (q,r)/\ ∀(s:Int) (t:List Int) (u:Int),okC (t,u)/\R64 s->0<=m/\m<((List.length (Qcf0 c g).1):Int)/\okC (t,u)/\ ∀(v:Int),1<=v->netB v (c,d,e)->netB (v+(1:Int)) (List.set c g.toNat (List.set (Qcf0 c g).1 m.toNat ((List.getD (Qcf0 c g).1 m.toNat default).1,s),(Qcf0 c g).2),d,e)) (okC (q,r)/\ (Qcf5 c d e g))) (ifP (decide (p=4)) (g.toNat=g.toNat/\ifP
 (decide (m<((List.length (Qcf0 c g).1):Int))) (g.toNat=g.toNat/\okC (q,r)/\ ∀(s:Int) (t:List Int) (u:Int),okC (t,u)/\0<=s/\s<=4294967295->0<=m/\m<((List.length (Qcf0 c g).1):Int)/\okC (t,u)/\ ∀(v:Int),1<=v->netB v (c,d,e)->netB (v+(1:Int)) (List.set c g.toNat (List.set (Qcf0 c g).1 m.toNat (s,(List.getD (Qcf0 c g).1 m.toNat default).2),(Qcf0 c g).2),d,e)) (okC (q,r)/\ (Qcf5 c d e g))) (ifP (decide (p=5)) (okC (q,r)/\ ∀(s:Int) (t:List Int) (u:Int),okC (t,u)/\0<=s/\s<=4294967295->g.toNat=g.toNat/\okC (t,u)/\ ∀(v:Int),1<=v->netB v (c,d,e)->netB (v+(1:Int)) (List.set c g.toNat ((Qcf0 c g).1,s,(Qcf0 c g).2.2),d,e)) (ifP (decide (p=6)) (okC (q,r)/\ ∀(s:Int) (t:List Int) (u:Int),okC (t,u)/\R64 s->okC (t,u)/\ ∀(v:Int) (w:List Int) (x:Int),0<=v/\(v<7∨v=0)/\okC (w,x)->g.toNat=g.toNat/\g.toNat=g.toNat/\okC (w,x)/\ ∀(y:Int),1<=y->netB y (c,d,e)->netB (y+(1:Int)) (List.set c g.toNat ((Qcf0 c
 g).1,(Qcf0 c g).2.1,(Qcf0 c g).2.2.1,(Qcf0 c g).2.2.2.1,(Qcf0 c g).2.2.2.2.1,s,(Qcf0 c g).2.2.2.2.2.2.1,v,(Qcf0 c g).2.2.2.2.2.2.2.2),d,e)) (ifP (decide (p=7)) (okC (q,r)/\ ∀(s:Int) (t:List Int) (u:Int),okC (t,u)/\R64 s->okC (t,u)/\ ∀(v:Int) (w:List Int) (x:Int),okC (w,x)/\R64 v->g.toNat=g.toNat/\g.toNat=g.toNat/\okC (w,x)/\ ∀(y:Int),1<=y->netB y (c,d,e)->netB (y+(1:Int)) (List.set c g.toNat ((Qcf0 c g).1,(Qcf0 c g).2.1,(Qcf0 c g).2.2.1,(Qcf0 c g).2.2.2.1,(Qcf0 c g).2.2.2.2.1,(Qcf0 c g).2.2.2.2.2.1,(Qcf0 c g).2.2.2.2.2.2.1,(Qcf0 c g).2.2.2.2.2.2.2.1,s,v,(Qcf0 c g).2.2.2.2.2.2.2.2.2.2),d,e)) (ifP (decide (p=8)) (okC (q,r)/\ ∀(s:Int) (t:List Int) (u:Int),okC (t,u)/\R64 s->okC (t,u)/\ ∀(v:Int) (w:List Int) (x:Int),okC (w,x)/\R64 v->g.toNat=g.toNat/\okC (w,x)/\ ∀(y:Int),1<=y->netB y (c,d,e)->netB (y+(1:Int)) (List.set c g.toNat ((Qcf0 c g).1,(Qcf0 c g).2.1,(Qcf0 c g).2.2.1,(Qcf0 c
 g).2.2.2.1,(Qcf0 c g).2.2.2.2.1,(Qcf0 c g).2.2.2.2.2.1,(Qcf0 c g).2.2.2.2.2.2.1,(Qcf0 c g).2.2.2.2.2.2.2.1,(Qcf0 c g).2.2.2.2.2.2.2.2.1,(Qcf0 c g).2.2.2.2.2.2.2.2.2.1,(s,v),(Qcf0 c g).2.2.2.2.2.2.2.2.2.2.2),d,e)) (ifP (decide (p=9)) (okC (q,r)/\ ∀(s:Int) (t:List Int) (u:Int),okC (t,u)/\R64 s->okC (t,u)/\ ∀(v:Int) (w:List Int) (x:Int),okC (w,x)/\R64 v->g.toNat=g.toNat/\g.toNat=g.toNat/\okC (w,x)/\ ∀(y:Int),1<=y->netB y (c,d,e)->netB (y+(1:Int)) (List.set c g.toNat ((Qcf0 c g).1,(Qcf0 c g).2.1,v,(Qcf0 c g).2.2.2.1,(Qcf0 c g).2.2.2.2.1,(Qcf0 c g).2.2.2.2.2.1,(Qcf0 c g).2.2.2.2.2.2.1,(Qcf0 c g).2.2.2.2.2.2.2.1,(Qcf0 c g).2.2.2.2.2.2.2.2.1,(Qcf0 c g).2.2.2.2.2.2.2.2.2.1,(Qcf0 c g).2.2.2.2.2.2.2.2.2.2.1,(Qcf0 c g).2.2.2.2.2.2.2.2.2.2.2.1,(Qcf0 c g).2.2.2.2.2.2.2.2.2.2.2.2.1,s,(Qcf0 c g).2.2.2.2.2.2.2.2.2.2.2.2.2.2),d,e)) (ifP (decide (p=10)) (g.toNat=g.toNat/\okC (q,r)/\ ∀(s:Int),1<=s->netB s
 (c,d,e)->netB (s+(1:Int)) (List.set c g.toNat (([]:List (Int×Int)),(Qcf0 c g).2),d,e)) (ifP (decide (p=11)) (g.toNat=g.toNat/\okC (q,r)/\ ∀(s:Int),1<=s->netB s (c,d,e)->netB (s+(1:Int)) (List.set c g.toNat ((Qcf0 c g).1,(Qcf0 c g).2.1,(Qcf0 c g).2.2.1,(Qcf0 c g).2.2.2.1,(Qcf0 c g).2.2.2.2.1,(Qcf0 c g).2.2.2.2.2.1,(Qcf0 c g).2.2.2.2.2.2.1,(Qcf0 c g).2.2.2.2.2.2.2.1,(Qcf0 c g).2.2.2.2.2.2.2.2.1,(Qcf0 c g).2.2.2.2.2.2.2.2.2.1,(Qcf0 c g).2.2.2.2.2.2.2.2.2.2.1,(Qcf0 c g).2.2.2.2.2.2.2.2.2.2.2.1,true,(Qcf0 c g).2.2.2.2.2.2.2.2.2.2.2.2.2),d,e)) (ifP (decide (p=12)) (okC (q,r)/\ ∀(s:Int) (t:List Int) (u:Int),okC (t,u)/\R64 s->okC (t,u)/\ ∀(v:Int) (w:List Int) (x:Int),okC (w,x)/\R64 v->okC (w,x)/\ ∀(y:Int) (z:List Int) (A:Int),0<=y/\(y<2∨y=0)/\okC (z,A)->okC (z,A)/\ ∀(B C:Int) (D:List Int) (E:Int),okC (D,E)/\pValid (B,C)=true->okC (D,E)/\ ∀(F:Int) (G:List Int) (H:Int),0<=F/\(F<4∨F=0)/\okC
 (G,H)->okC (G,H)/\ ∀(I:Int) (J:List Int) (K:Int),0<=I/\(I<4∨I=0)/\okC (J,K)->(e.length+List.length [(s,v,decide (y=1),(B,C),[F],IntKind.wrap .i64 ((1:Int)+I))])*(72:Nat)<=(Qcf3)/\okC (J,K)/\ ∀(L:Int),1<=L->netB L (c,d,e)->netB (L+(1:Int)) (List.set c g.toNat (Qcf0 c g),d,e++[(s,v,decide (y=1),(B,C),[F],IntKind.wrap .i64 ((1:Int)+I))])) (ifP (decide (p=13)) ((0:Int)<=0/\0<(d.length:Int)/\(d.length+List.length [d.getD (Int.toNat (0:Int)) default])*(48:Nat)<=(Qcf3)/\okC (q,r)/\ ∀(s:Int),1<=s->netB s (c,d,e)->netB (s+(1:Int)) (List.set c g.toNat (Qcf0 c g),d++[d.getD (Int.toNat (0:Int)) default],e)) (ifP (decide (p=14)) ((0:Int)<=0/\0<((List.length (Qcf6 c g)):Int)/\(List.length (Qcf6 c g)+List.length [List.getD (Qcf6 c g) (Int.toNat (0:Int)) default])*(152:Nat)<=(Qcf3)/\okC (q,r)/\ ∀(s:Int),1<=s->netB s (c,d,e)->netB (s+(1:Int)) (List.set c g.toNat (Qcf0 c g)++[List.getD (Qcf6 c g)
 (Int.toNat (0:Int)) default],d,e)) (ifP (decide (p=15)) (okL (Qcf2 c g).2.2.2.2.1/\okC (q,r)/\ ∀(s:Int) (t:List Int) (u:Int),okC (t,u)/\0<=s/\s<=4294967295->okC (t,u)/\ ∀(v:Int) (w:List Int) (x:Int),0<=v/\(v<34∨v=0)/\okC (w,x)->okC (w,x)/\ ∀(y:Int) (z:List Int) (A:Int),okC (z,A)/\R64 y->okC (z,A)/\ ∀(B:Int) (C:List Int) (D:Int),0<=B/\(B<5∨B=0)/\okC (C,D)->(List.length (Qcf2 c g).2.2.2.2.1+List.length [((s,v),[y],B)])*(48:Nat)<=(Qcf3)/\okC (C,D)/\ ∀(E:Int),1<=E->netB E (c,d,e)->netB (E+(1:Int)) (List.set (Qcf6 c g) g.toNat ((Qcf2 c g).1,(Qcf2 c g).2.1,(Qcf2 c g).2.2.1,(Qcf2 c g).2.2.2.1,(Qcf2 c g).2.2.2.2.1++[((s,v),[y],B)],(Qcf2 c g).2.2.2.2.2),d,e)) (okC (q,r)/\ (Qcf5 c d e g)))))))))))))))))):=by
  delta Qcf0 Qcf1 Qcf2 Qcf3 Qcf4 Qcf5 Qcf6
  rintro l p ns ls cs-⟨hc,n1,n2,n3,n4,n5⟩
  refine ⟨by omega,by omega,by omega,?_⟩
  (repeat (intro (b_:Bool) (hb_:b_=_);(repeat refine ⟨(by first|(simp;done)|(rw [hb_];simp;done)|(rw [hb_];simp;omega)|(rw [hb_];simp;intros;omega)|(rw [hb_];simp +contextual;done)),?_⟩);subst hb_))
  (repeat refine ⟨rfl,?_⟩)
  refine ifP_or (fun _=>⟨hc,fun k _ h=>netB_up h⟩) (fun z1 z2=>⟨hc,?_⟩)
  have z1:=of_decide_eq_false z1
  have z2:=of_decide_eq_false z2
  rintro i l1 p1 ⟨i0,i1,hc1⟩
  have i1:i<(ns.length:Int):=by omega
  (repeat refine ⟨rfl,?_⟩)
  refine ⟨i0,i1,hc1,?_⟩
  rintro j l2 p2 ⟨j0,j1,hc2⟩
  have j1:j<(ls.length:Int):=by omega
  have X:=n4 _ (getD_mem i0 i1)
  have X1:=X.1
  (repeat refine ⟨rfl,?_⟩)
  refine ⟨j0,j1,by omega,?_⟩
  (repeat refine ⟨rfl,?_⟩)
  refine ⟨hc2,?_⟩
  rintro k0 l3 p3 ⟨k00,k01,hc3⟩
  (repeat refine ⟨rfl,?_⟩)
  refine ⟨hc3,?_⟩
  rintro w l4 p4 ⟨-,-,hc4⟩
  (repeat refine ⟨rfl,?_⟩)
  refine ifP_split (fun _ => ?_) (fun _ => ?_)
  · (repeat refine ⟨rfl,?_⟩)
    refine ⟨hc4,?_⟩
    rintro a l5 p5 ⟨hc5,-⟩
    (repeat refine ⟨rfl,?_⟩)
    exact ⟨hc5,fun k hk h=>nb_set h i0 i1 (by first|exact Nat.le_refl _|simp) (by rfl) (by first|exact Nat.le_succ _|simp)⟩
  (repeat refine ⟨rfl,?_⟩)
  refine ifP_split (fun _ => ?_) (fun _ => ?_)
  · (repeat refine ⟨rfl,?_⟩)
    refine ⟨hc4,?_⟩
    rintro a l5 p5 ⟨hc5,-⟩
    (repeat refine ⟨rfl,?_⟩)
    refine ⟨hc5,?_⟩
    rintro b l6 p6 ⟨hc6,-⟩
    (repeat refine ⟨rfl,?_⟩)
    exact ⟨hc6,fun k hk h=>nb_set h i0 i1 (by first|exact Nat.le_refl _|simp) (by rfl) (by first|exact Nat.le_succ _|simp)⟩
  (repeat refine ⟨rfl,?_⟩)
  refine ifP_split (fun _ => ?_) (fun _ => ?_)
  · (repeat refine ⟨rfl,?_⟩)
    refine ⟨hc4,?_⟩
    rintro a l5 p5 ⟨hc5,-⟩
    (repeat refine ⟨rfl,?_⟩)
    exact ⟨hc5,fun k hk h=>nb_set h i0 i1 (by first|exact Nat.le_refl _|simp) (by rfl) (by first|exact Nat.le_succ _|simp)⟩
  (repeat refine ⟨rfl,?_⟩)
  refine ifP_split (fun _ => ?_) (fun _ => ?_)
  · (repeat refine ⟨rfl,?_⟩)
    refine ifP_split (fun kk => ?_) (fun _ => ?_)
    · have kk:=of_decide_eq_true kk
      (repeat refine ⟨rfl,?_⟩)
      refine ⟨hc4,?_⟩
      rintro a l5 p5 ⟨hc5,-⟩
      (repeat refine ⟨rfl,?_⟩)
      refine ⟨k00,kk,?_⟩
      (repeat refine ⟨rfl,?_⟩)
      exact ⟨hc5,fun k hk h=>nb_set h i0 i1 (by first|exact Nat.le_refl _|simp) (by rfl) (by first|exact Nat.le_succ _|simp)⟩
    · (repeat refine ⟨rfl,?_⟩)
      exact ⟨hc4,fun k hk h=>nb_set h i0 i1 (by first|exact Nat.le_refl _|simp) (by rfl) (by first|exact Nat.le_succ _|simp)⟩
  (repeat refine ⟨rfl,?_⟩)
  refine ifP_split (fun _ => ?_) (fun _ => ?_)
  · (repeat refine ⟨rfl,?_⟩)
    refine ifP_split (fun kk => ?_) (fun _ => ?_)
    · have kk:=of_decide_eq_true kk
      (repeat refine ⟨rfl,?_⟩)
      refine ⟨hc4,?_⟩
      rintro a l5 p5 ⟨hc5,-,-⟩
      (repeat refine ⟨rfl,?_⟩)
      refine ⟨k00,kk,?_⟩
      (repeat refine ⟨rfl,?_⟩)
      exact ⟨hc5,fun k hk h=>nb_set h i0 i1 (by first|exact Nat.le_refl _|simp) (by rfl) (by first|exact Nat.le_succ _|simp)⟩
    · (repeat refine ⟨rfl,?_⟩)
      exact ⟨hc4,fun k hk h=>nb_set h i0 i1 (by first|exact Nat.le_refl _|simp) (by rfl) (by first|exact Nat.le_succ _|simp)⟩
  (repeat refine ⟨rfl,?_⟩)
  refine ifP_split (fun _ => ?_) (fun _ => ?_)
  · (repeat refine ⟨rfl,?_⟩)
    refine ⟨hc4,?_⟩
    rintro a l5 p5 ⟨hc5,-,-⟩
    (repeat refine ⟨rfl,?_⟩)
    exact ⟨hc5,fun k hk h=>nb_set h i0 i1 (by first|exact Nat.le_refl _|simp) (by rfl) (by first|exact Nat.le_succ _|simp)⟩
  (repeat refine ⟨rfl,?_⟩)
  refine ifP_split (fun _ => ?_) (fun _ => ?_)
  · (repeat refine ⟨rfl,?_⟩)
    refine ⟨hc4,?_⟩
    rintro a l5 p5 ⟨hc5,-⟩
    (repeat refine ⟨rfl,?_⟩)
    refine ⟨hc5,?_⟩
    rintro b l6 p6 ⟨-,-,hc6⟩
    (repeat refine ⟨rfl,?_⟩)
    exact ⟨hc6,fun k hk h=>nb_set h i0 i1 (by first|exact Nat.le_refl _|simp) (by rfl) (by first|exact Nat.le_succ _|simp)⟩
  (repeat refine ⟨rfl,?_⟩)
  refine ifP_split (fun _ => ?_) (fun _ => ?_)
  · (repeat refine ⟨rfl,?_⟩)
    refine ⟨hc4,?_⟩
    rintro a l5 p5 ⟨hc5,-⟩
    (repeat refine ⟨rfl,?_⟩)
    refine ⟨hc5,?_⟩
    rintro b l6 p6 ⟨hc6,-⟩
    (repeat refine ⟨rfl,?_⟩)
    exact ⟨hc6,fun k hk h=>nb_set h i0 i1 (by first|exact Nat.le_refl _|simp) (by rfl) (by first|exact Nat.le_succ _|simp)⟩
  (repeat refine ⟨rfl,?_⟩)
  refine ifP_split (fun _ => ?_) (fun _ => ?_)
  · (repeat refine ⟨rfl,?_⟩)
    refine ⟨hc4,?_⟩
    rintro a l5 p5 ⟨hc5,-⟩
    (repeat refine ⟨rfl,?_⟩)
    refine ⟨hc5,?_⟩
    rintro b l6 p6 ⟨hc6,-⟩
    (repeat refine ⟨rfl,?_⟩)
    exact ⟨hc6,fun k hk h=>nb_set h i0 i1 (by first|exact Nat.le_refl _|simp) (by rfl) (by first|exact Nat.le_succ _|simp)⟩
  (repeat refine ⟨rfl,?_⟩)
  refine ifP_split (fun _ => ?_) (fun _ => ?_)
  · (repeat refine ⟨rfl,?_⟩)
    refine ⟨hc4,?_⟩
    rintro a l5 p5 ⟨hc5,-⟩
    (repeat refine ⟨rfl,?_⟩)
    refine ⟨hc5,?_⟩
    rintro b l6 p6 ⟨hc6,-⟩
    (repeat refine ⟨rfl,?_⟩)
    exact ⟨hc6,fun k hk h=>nb_set h i0 i1 (by first|exact Nat.le_refl _|simp) (by rfl) (by first|exact Nat.le_succ _|simp)⟩
  (repeat refine ⟨rfl,?_⟩)
  refine ifP_split (fun _ => ?_) (fun _ => ?_)
  · (repeat refine ⟨rfl,?_⟩)
    exact ⟨hc4,fun k hk h=>nb_set h i0 i1 (by first|exact Nat.le_refl _|simp) (by rfl) (by first|exact Nat.le_succ _|simp)⟩
  (repeat refine ⟨rfl,?_⟩)
  refine ifP_split (fun _ => ?_) (fun _ => ?_)
  · (repeat refine ⟨rfl,?_⟩)
    exact ⟨hc4,fun k hk h=>nb_set h i0 i1 (by first|exact Nat.le_refl _|simp) (by rfl) (by first|exact Nat.le_succ _|simp)⟩
  (repeat refine ⟨rfl,?_⟩)
  refine ifP_split (fun _ => ?_) (fun _ => ?_)
  · (repeat refine ⟨rfl,?_⟩)
    refine ⟨hc4,?_⟩
    rintro a l5 p5 ⟨hc5,-⟩
    (repeat refine ⟨rfl,?_⟩)
    refine ⟨hc5,?_⟩
    rintro b l6 p6 ⟨hc6,-⟩
    (repeat refine ⟨rfl,?_⟩)
    refine ⟨hc6,?_⟩
    rintro c l7 p7 ⟨-,-,hc7⟩
    (repeat refine ⟨rfl,?_⟩)
    refine ⟨hc7,?_⟩
    rintro q1 q2 l8 p8 ⟨hc8,-⟩
    (repeat refine ⟨rfl,?_⟩)
    refine ⟨hc8,?_⟩
    rintro f l9 p9 ⟨-,-,hc9⟩
    (repeat refine ⟨rfl,?_⟩)
    refine ⟨hc9,?_⟩
    rintro g la pa ⟨-,-,hca⟩
    (repeat refine ⟨rfl,?_⟩)
    refine ⟨by simp only [List.length_singleton];omega,hca,fun k hk h=>nb_any h (by rw [List.length_set];omega) (by omega) (by simp) (fun y hy=>(set_mem hy).elim .inl fun e => .inr (e▸nodeB_same (h.2.2.2.1 _ (getD_mem i0 i1)) (Nat.le_refl _) rfl)) (fun c hc => ?_)⟩
    rcases List.mem_append.1 hc with hc|hc
    · exact .inl hc
    · right
      have:=List.mem_singleton.1 hc
      subst this
      simp only [List.length_singleton];omega
  (repeat refine ⟨rfl,?_⟩)
  refine ifP_split (fun _ => ?_) (fun _ => ?_)
  · exact ⟨by omega,by omega,by simp only [List.length_singleton];omega,by (repeat refine ⟨rfl,?_⟩);exact ⟨hc4,fun k hk h=>nb_set h i0 i1 (by first|exact Nat.le_refl _|simp) (by rfl) (by first|exact Nat.le_succ _|simp)⟩⟩
  (repeat refine ⟨rfl,?_⟩)
  refine ifP_split (fun _ => ?_) (fun _ => ?_)
  · (repeat refine ⟨rfl,?_⟩)
    refine ⟨by omega,by rw [List.length_set];omega,by simp only [List.length_set,List.length_singleton];omega,hc4,fun k hk h=>nb_any h (by simp) (by omega) (by omega) (fun y hy => ?_) (fun c hc => .inl hc)⟩
    have key:∀ y∈ns.set i.toNat _,y∈ns∨nodeB (k+1) y:=fun y hy=>(set_mem hy).elim .inl fun e => .inr (e▸nodeB_same (h.2.2.2.1 _ (getD_mem i0 i1)) (Nat.le_refl _) rfl)
    rcases List.mem_append.1 hy with hy|hy
    · exact key y hy
    · have:=List.mem_singleton.1 hy
      subst this
      exact key _ (getD_mem (i:=0) (by omega) (by rw [List.length_set];omega))
  (repeat refine ⟨rfl,?_⟩)
  refine ifP_split (fun _ => ?_) (fun _ => ?_)
  · rw [set_at i0 i1]
    have hx2:((nRoutes (ns.getD i.toNat default)).length:Int)<=1000:=X.2.1
    refine ⟨⟨by show ((nRoutes (ns.getD i.toNat default)).length:Int)<=_;omega,fun r hr=>by have:=X.2.2 r hr;omega⟩,hc4,?_⟩
    rintro a l5 p5 ⟨hc5,-,-⟩
    (repeat refine ⟨rfl,?_⟩)
    refine ⟨hc5,?_⟩
    rintro b l6 p6 ⟨-,-,hc6⟩
    (repeat refine ⟨rfl,?_⟩)
    refine ⟨hc6,?_⟩
    rintro c l7 p7 ⟨hc7,-⟩
    (repeat refine ⟨rfl,?_⟩)
    refine ⟨hc7,?_⟩
    rintro e l8 p8 ⟨-,-,hc8⟩
    refine ⟨by show ((nRoutes (ns.getD i.toNat default)).length+_)*48<=_;simp only [List.length_singleton];omega,hc8,fun k hk h => ?_⟩
    rw [List.set_set]
    refine nb_any h (by rw [List.length_set];omega) (by omega) (by omega) (fun y hy=>(set_mem hy).elim .inl fun e => .inr ?_) (fun c hc => .inl hc)
    subst e
    have M:nodeB k (ns.getD i.toNat default):=h.2.2.2.1 _ (getD_mem i0 i1)
    obtain ⟨m1,m2,m3⟩:=M
    (repeat refine ⟨rfl,?_⟩)
    refine ⟨by show ((ns.getD i.toNat default).1.length:Int)<=_;omega,?_,fun r hr => ?_⟩
    · show (((nRoutes (ns.getD i.toNat default)++[_]).length:Nat):Int)<=_
      rw [List.length_append,List.length_singleton];omega
    · have hr:r∈nRoutes (ns.getD i.toNat default)++[((a,b),[c],_)]:=hr
      rcases List.mem_append.1 hr with hr|hr
      · have:=m3 r hr;omega
      · have:=List.mem_singleton.1 hr
        subst this
        simp only [List.length_singleton];omega
  (repeat refine ⟨rfl,?_⟩)
  exact ⟨hc4,fun k hk h=>nb_set h i0 i1 (by first|exact Nat.le_refl _|simp) (by rfl) (by first|exact Nat.le_succ _|simp)⟩
theorem ok_draw_Codes_OddNet:SpecOK Tryd.prog GL 9 ct_draw_Codes_OddNet.spec:=Cn.okH _ Tryd.func9 (by kernel_rfl) (withClose_ok (withCloseAt_ok (withOpens_ok (withSpec_ok (withSpec_ok (withSpec_ok (withSpec_ok (withSpec_ok noSpecs_ok ok_Next) ok_draw_Codes_Int) ok_draw_Codes_Address) ok_draw_Codes_Prefix) ok_CopyO)) (d:=225) (n:=176)) (d:=259)) hmix an_draw_Codes_OddNet (hideMp (by kernel_rfl) vc_draw_Codes_OddNet)
end Go.RS

/- Drawn3: each node of a drawn network has a port. -/
namespace Go.RS
open Go.SX Go.Proofs
set_option maxRecDepth 100000
set_option linter.unusedVariables false
def tch (ls:List Link) (i:Int):Prop:=∃ l∈ls,lA l=i∨lB l=i
theorem tch.app {ls:List Link} {i:Int} (h:tch ls i) (m:List Link):tch (ls++m) i:=by
  obtain ⟨l,hl,e⟩:=h
  exact ⟨l,List.mem_append_left _ hl,e⟩
theorem tch.link {s:Scene} {i:Int} (h:tch s.1.2.1 i) (a b:Int):tch (linkS s a b).1.2.1 i:=h.app _
theorem tch_a (s:Scene) (a b:Int):tch (linkS s a b).1.2.1 a:=⟨_,List.mem_append_right _ List.mem_cons_self,.inl rfl⟩
theorem tch_b (s:Scene) (a b:Int):tch (linkS s a b).1.2.1 b:=⟨_,List.mem_append_right _ List.mem_cons_self,.inr rfl⟩
theorem chain_tch (s:Scene):∀ k j:Nat,j<k->tch ((List.range k).foldl chainS s).1.2.1 j
  | 0,j,h=>absurd h (Nat.not_lt_zero _)
  | k+1,j,h=>by
    rw [List.range_succ,List.foldl_append]
    by_cases e:j<k
    · exact (chain_tch s k j e).link (s:=nodeS ((List.range k).foldl chainS s) false) _ _
    · have:j=k:=by omega
      subst this
      exact tch_a _ _ _
theorem line_tch {c:Codes} (h:okB c) {j:Nat} (hj:j<(lineN c).toNat+2):tch (lineS c).2.1.2.1 j:=by
  have hn:=lineN_ok h
  rw [lineS_eq]
  by_cases e:j<(lineN c).toNat
  · exact (chain_tch _ _ _ e).link (s:=nodeS ((List.range (lineN c).toNat).foldl chainS (line0 c)) true) _ _
  by_cases e2:j=(lineN c).toNat
  · rw [show ((j:Nat):Int)=lineN c by omega];exact tch_a _ _ _
  · rw [show ((j:Nat):Int)=lineN c+1 by omega];exact tch_b _ _ _
theorem short_tch {s:Scene} {i:Int} (h:tch s.1.2.1 i) (n:Int):tch (shortS n s).1.2.1 i:=by
  unfold shortS
  dsimp only
  split
  · exact h
  · exact tch.app h _
theorem shorts_tch {n i:Int}:∀ (k:Nat) {s:Scene},tch s.1.2.1 i->tch ((List.range k).foldl (fun s _=>shortS n s) s).1.2.1 i
  | 0,s,h=>h
  | k+1,s,h=>by
    rw [List.range_succ,List.foldl_append]
    exact short_tch (shorts_tch k h) n
theorem more_tch {s:Scene} {i:Int} (h:tch s.1.2.1 i) (plain:Bool) (n:Int):tch (moreS plain n s).1.2.1 i:=by
  rw [moreS_eq]
  dsimp only
  have h1:tch (more1 plain n s (nextV s.2 4).1.toNat).1.2.1 i:=by
    unfold more1
    split
    · exact shorts_tch _ h
    · exact h
  generalize more1 plain n s (nextV s.2 4).1.toNat=t at h1 ⊢
  split
  · split
    · exact tch.app h1 _
    · exact h1
  · exact h1
theorem odd_tch {s r:Scene} {nn nl:Nat} (h:RS s nn nl r) (n3:3<=nn) (n7:nn<=7) (l10:nl<=10) {i:Int} (ht:tch r.1.2.1 i):tch (oddS r).1.2.1 i:=by
  have pre:=h.preO (by omega) (by omega) (by omega)
  have inv:=oL_inv h.np h.c pre.g h.lk (i:=r.1.2.1.length) (Nat.le_refl _)
  have e:(oddS r).1.2.1=(oL r r.1.2.1.length).1.2:=by
    unfold oddS oL oN
    rfl
  rw [e]
  obtain ⟨l,hl,q⟩:=ht
  obtain ⟨j,hj,rfl⟩:=getD_of_mem hl
  have k:=inv.lk.k j hj
  refine ⟨_,getD_memN (by rw [inv.lk.n];exact hj),?_⟩
  rw [k.a,k.b];exact q
theorem odd_len {s r:Scene} {nn nl:Nat} (h:RS s nn nl r) (n3:3<=nn) (n7:nn<=7) (l10:nl<=10):(oddS r).1.1.length=r.1.1.length:=by
  have pre:=h.preO (by omega) (by omega) (by omega)
  have ok:=oL_ok r h.c pre.g (i:=r.1.2.1.length) (Int.le_refl _)
  have e:(oddS r).1.1=(oL r r.1.2.1.length).1.1:=by
    unfold oddS oL oN
    rfl
  rw [e]
  exact ok.1.n
theorem net_tch {c:Codes} (h:okB c) (plain:Bool) {i:Nat} (hi:i<(netV plain c).1.length):tch (netV plain c).2.1 i:=by
  have hn:=lineN_ok h
  obtain ⟨m,m2,m10,G⟩:=net_ok h plain
  have R:=G.rs plain
  have rn:=R.i.n.trans R.g.n
  have t:=fun j=>fun (hj:j<(lineN c).toNat+2)=>more_tch (line_tch h hj) plain (lineS c).1
  unfold netV netS at hi ⊢
  dsimp only at hi ⊢
  cases plain with
  | true =>
    rw [if_pos rfl] at hi ⊢
    rw [R.links]
    exact t i (by rw [← rn];exact hi)
  | false =>
    rw [if_neg (by decide)] at hi ⊢
    have ol:=odd_len R (by omega) (by omega) m10
    refine odd_tch R (by omega) (by omega) m10 ?_
    rw [R.links]
    exact t i (by rw [← rn];omega)
theorem net_ports {c:Codes} (h:okB c) (plain:Bool) {i:Nat} (hi:i<(netV plain c).1.length):0<(nPorts ((netV plain c).1.getD i default)).length:=by
  have D:=net_dn h plain
  obtain ⟨l,hl,q⟩:=net_tch h plain hi
  obtain ⟨j,hj,rfl⟩:=getD_of_mem hl
  rcases q with q|q
  · exact List.length_pos_of_mem ((D.port hi).2 ⟨j,hj,.inl ⟨q,rfl⟩⟩)
  · exact List.length_pos_of_mem ((D.port hi).2 ⟨j,hj,.inr ⟨q,rfl⟩⟩)
end Go.RS

/- Drawn4: drawn networks are in order. -/
namespace Go.RS
open Go.SX Go.Proofs
set_option maxRecDepth 100000
set_option linter.unusedVariables false
theorem portsF_lt (i:Int):∀ (k:Nat) (ls:List Link),(∀ l∈ls,lA l≠lB l)->(portsF i k ls).Pairwise (fun a b=>a.2<b.2/\a.1<b.1)∧∀ q∈portsF i k ls,(k:Int)<=q.2/\baseA k<q.1
  | _,[],_=>by simp [portsF]
  | k,l::r,h=>by
    obtain ⟨h1,h2⟩:=portsF_lt i (k+1) r (fun x hx=>h x (List.mem_cons_of_mem _ hx))
    have hl:=h l List.mem_cons_self
    have e:port1 i k l=[]∨∃ a:Int,(a=1∨a=2)/\port1 i k l=[(baseA k+a,(k:Int))]:=by
      unfold port1
      by_cases ha:lA l=i
      · rw [if_pos ha,if_neg (by omega)];exact .inr ⟨1,.inl rfl,rfl⟩
      · rw [if_neg ha]
        by_cases hb:lB l=i
        · rw [if_pos hb];exact .inr ⟨2,.inr rfl,rfl⟩
        · rw [if_neg hb];exact .inl rfl
    rw [portsF]
    unfold baseA at *
    rcases e with e|⟨a,ha,e⟩ <;> rw [e]
    · rw [List.nil_append]
      exact ⟨h1,fun q hq=>by have:=h2 q hq;omega⟩
    · rw [List.singleton_append]
      refine ⟨List.pairwise_cons.2 ⟨fun q hq => ?_,h1⟩,fun q hq => ?_⟩
      · have:=h2 q hq;simp only;omega
      · rcases List.mem_cons.1 hq with rfl|hq
        · simp only;omega
        · have:=h2 q hq;omega
theorem findP_at {l:List Port} {q:Port->Bool} {i:Nat} (hi:i<l.length) (hq:q (l.getD i default)=true) (hn:∀ j:Nat,j<i->q (l.getD j default)=false):findP q l=i:=by
  have e:l.findIdx q=i:=by
    rw [List.findIdx_eq hi]
    refine ⟨by rwa [List.getD_eq_getElem?_getD,List.getElem?_eq_getElem hi,Option.getD_some] at hq,fun j hj => ?_⟩
    have:=hn j hj
    rwa [List.getD_eq_getElem?_getD,List.getElem?_eq_getElem (by omega),Option.getD_some] at this
  unfold findP
  rw [e,if_pos hi]
theorem findP_hasD {q:Int×Int->Bool} {l:List (Int×Int)} {y:Int×Int} (hy:y∈l) (hq:q y=true):0<=findP q l:=by
  have hlt:l.findIdx q<l.length:=List.findIdx_lt_length_of_exists ⟨y,hy,hq⟩
  unfold findP;rw [if_pos hlt];omega
theorem pw_getD {α:Type} [Inhabited α] {R:α->α->Prop} {l:List α} (h:l.Pairwise R) {k j:Nat} (hk:k<j) (hj:j<l.length):R (l.getD k default) (l.getD j default):=by
  rw [List.getD_eq_getElem?_getD,List.getD_eq_getElem?_getD,List.getElem?_eq_getElem hj,List.getElem?_eq_getElem (by omega),Option.getD_some,Option.getD_some]
  exact List.pairwise_iff_getElem.1 h _ _ _ _ hk
theorem usable_in {a:Int} (h:167837696<=a/\a<=167903300):usable a:=by
  right
  unfold special
  have:a/16777216=10:=by omega
  rw [if_neg (by omega),if_neg (by omega),if_pos (.inl this)]
theorem valid32 {a n:Int} (h:n=32):pValid (a,n)=true:=by
  subst h
  unfold pValid
  have:sz 32=1:=by decide
  rw [this]
  simp only [decide_eq_true_eq]
  omega
theorem chk_of {links:List Int}:∀ {l:List Rt} {q:Option Pfx},sortedR l->(∀ p,q=some p→∀ r∈l,plt p r.1)->(∀ r∈l,pValid r.1=true/\rightR r links)->chk links q l=0
  | [],_,_,_,_=>rfl
  | r::rs,q,hs,hq,hr=>by
    obtain ⟨v,w⟩:=hr r List.mem_cons_self
    obtain ⟨s1,s2⟩:=List.pairwise_cons.1 hs
    rw [chk,if_neg (by rw [v];simp)]
    have e:q.any (fun q=>decide (0<=pcmp q r.1))=false:=by
      cases q with
      | none=>rfl
      | some p =>
        have:=hq p rfl r List.mem_cons_self
        simp only [Option.any_some,decide_eq_false_iff_not]
        rw [pcmp_nonneg];exact fun k=>k this
    rw [if_neg (by rw [e];simp),if_neg (by simpa using w)]
    exact chk_of s2 (fun p hp x hx=>by cases hp;exact s1 x hx) (fun x hx=>hr x (List.mem_cons_of_mem _ hx))
structure GT (m:Nat) (links:List Int) (l:List Rt):Prop where
  s:sortedR l
  n:l.length<=m
  r:∀ r∈l,pValid r.1=true/\rightR r links
theorem GT.ok {m:Nat} {links:List Int} {l:List Rt} (h:GT m links l) (hm:m<=64):check l links=0:=by
  have:=h.n
  unfold check
  rw [if_neg (by omega)]
  exact chk_of h.s (fun p hp=>by cases hp) h.r
theorem DN.gt {n:Net} (h:DN n) {i:Nat} (hi:i<n.1.length):GT 20 (pLinks (n.1.getD i default)) (nRoutes (n.1.getD i default)):=by
  have t:=h.t i hi
  refine ⟨t.1,tab20 t,fun r hr => ?_⟩
  have k:=t.2 r hr
  have l10:=h.l10
  have hl:=rtOK_len k
  refine ⟨valid32 k.len,⟨by omega,fun j hj=>⟨fun h0 => ?_,?_⟩⟩,k.w0,k.w1⟩
  · rw [List.getD_eq_getElem?_getD,List.getD_eq_getElem?_getD,List.getElem?_eq_getElem hj,List.getElem?_eq_getElem (by omega),Option.getD_some,Option.getD_some]
    exact List.pairwise_iff_getElem.1 k.pw _ _ _ _ (by omega)
  · rw [(h.links hi)]
    rw [List.getD_eq_getElem?_getD,List.getElem?_eq_getElem hj,Option.getD_some]
    exact k.ln _ (List.getElem_mem hj)
theorem DN.pw {n:Net} (h:DN n) {i:Nat} (hi:i<n.1.length):(nPorts (n.1.getD i default)).Pairwise (fun a b=>a.2<b.2/\a.1<b.1):=by
  rw [h.p i hi]
  exact (portsF_lt i 0 n.2.1 fun l hl=>(h.g l hl).2.2.1).1
theorem DN.node {n:Net} (h:DN n) {i:Nat} (hi:i<n.1.length) (hp:0<(nPorts (n.1.getD i default)).length):nodeV (n.1.getD i default)=0:=by
  have pw:=h.pw hi
  have d:=h.d i hi
  have n7:=h.n7
  have l10:=h.l10
  have hlen:(nPorts (n.1.getD i default)).length<=20:=by
    rw [h.p i hi]
    have:=portsF_len i 0 n.2.1;omega
  have gt:=h.gt hi
  have ports:∀ j:Nat,j<(nPorts (n.1.getD i default)).length->portBad (n.1.getD i default) j=0:=fun j hj=>by
    have hm:(nPorts (n.1.getD i default)).getD j default∈nPorts (n.1.getD i default):=getD_memN hj
    have hadr:=h.padr hi (List.mem_map_of_mem (f:=(·.1)) hm)
    have hlnk:=(h.links hi).1 (List.mem_map_of_mem (f:=(·.2)) hm)
    have ne:∀ k:Nat,k<j->((nPorts (n.1.getD i default)).getD k default).2<((nPorts (n.1.getD i default)).getD j default).2/\((nPorts (n.1.getD i default)).getD k default).1<((nPorts (n.1.getD i default)).getD j default).1:=fun k hk=>pw_getD pw hk hj
    have ea:portA (n.1.getD i default) ((nPorts (n.1.getD i default)).getD j default).1=j:=findP_at hj (by simp [isA]) (fun k hk=>by have:=ne k hk;simp only [isA,decide_eq_false_iff_not];omega)
    have el:portL (n.1.getD i default) ((nPorts (n.1.getD i default)).getD j default).2=j:=findP_at hj (by simp [isL]) (fun k hk=>by have:=ne k hk;simp only [isL,decide_eq_false_iff_not];omega)
    have hu:usable ((nPorts (n.1.getD i default)).getD j default).1:=usable_in (by omega)
    unfold portBad
    have:=hlnk.1
    rw [ea,el,if_neg (by rintro (k|k);exact k hu;omega),if_neg (by omega)]
  have hloop:¬ loopBad (n.1.getD i default):=by
    rintro ⟨k0,k⟩
    have hl:=d.loop.resolve_left k0
    rcases k with k|k
    · exact k (usable_in (by omega))
    · have:=h.padr hi (portA_nonneg.1 k)
      omega
  have hform:¬ formBad (n.1.getD i default):=by
    have o:=d.own
    have f:=d.first
    unfold formBad
    rintro (k|k|⟨k1,k2⟩|⟨k1,k2⟩|⟨k1,k2⟩|k|k)
    · omega
    · rcases d.src with s|⟨s,-⟩|⟨s,-⟩ <;> omega
    · rcases d.src with s|⟨s,s2⟩|⟨s,-⟩ <;> omega
    · have:=d.fix.resolve_left k1
      exact k2 (usable_in (by omega))
    · rcases d.src with s|⟨s,s2⟩|⟨s,s2⟩ <;> omega
    · omega
    · omega
  have hid:idCheck (n.1.getD i default)=0:=by
    unfold idCheck
    rw [if_pos]
    obtain ⟨⟨a,b⟩,⟨c,e⟩,f,g⟩:=d.id
    exact decide_eq_true ⟨a,b,c,e,f,g⟩
  have hb:bCheck (nLimit (n.1.getD i default))=0:=by
    unfold bCheck
    rw [if_pos]
    rcases d.lim with k|k
    · exact .inl k
    · right;omega
  rw [nodeV_rest (by omega) (first_of ports) hloop hform,if_neg (fun k=>k hid),if_neg (fun k=>k hb)]
  exact gt.ok (by omega)
theorem seenN_iffD (ns:List Node) (a:Int):∀ k:Nat,mhas a (seenN ns k)=true↔∃ j:Nat,j<k/\a∈adrs (ns.getD j default)
  | 0=>by simp [seenN,mhas]
  | k+1=>by
    have e:seenN ns (k+1)=seenL k (adrs (ns.getD k default)) (seenN ns k):=by unfold seenN;rw [List.range_succ,List.foldl_append];rfl
    rw [e,seenL_has.1,Bool.or_eq_true,decide_eq_true_iff,seenN_iffD ns a k]
    constructor
    · rintro (h|⟨j,hj,h⟩)
      · exact ⟨k,by omega,h⟩
      · exact ⟨j,by omega,h⟩
    · rintro ⟨j,hj,h⟩
      by_cases e:j=k
      · subst e;exact .inl h
      · exact .inr ⟨j,by omega,h⟩
theorem DN.tabs {n:Net} (h:DN n):∀ i:Nat,i<=n.2.2.length→∀ k:Nat,k<n.1.length->GT (20+i) (pLinks (n.1.getD k default)) ((tabsV n i).getD k default)
  | 0,_,k,hk=>by
    rw [tabsV,getD_map' hk];exact h.gt hk
  | i+1,hi,k,hk=>by
    have ih:=h.tabs i (by omega)
    have hc:=h.c _ (getD_memN (i:=i) (xs:=n.2.2) (by omega))
    rw [tabsV]
    by_cases e:(hWho (n.2.2.getD i default)).toNat=k
    · rw [e,getD_set (by rw [tabs_len];omega)]
      have g:=ih k hk
      obtain ⟨r,hr,p1,p2⟩:=hc.p
      rw [e] at hr
      have gr:=(h.gt hk).r r hr
      have hx:=hc.x
      rw [e] at hx
      refine ⟨?_,?_,fun x hx' => ?_⟩
      · unfold chV;rw [if_neg (by rw [hc.r];simp)];exact putL_sorted g.s
      · unfold chV;rw [if_neg (by rw [hc.r];simp)]
        have:=putL_len ((tabsV n i).getD k default) (hRoute (n.2.2.getD i default))
        have:=g.n
        omega
      · unfold chV at hx';rw [if_neg (by rw [hc.r];simp)] at hx'
        rcases mem_putL hx' with rfl|hx'
        · refine ⟨by rw [p1];exact gr.1,⟨?_,by rw [p2];exact gr.2.2⟩⟩
          rcases hx with q|⟨y,hy,q⟩ <;> rw [q]
          · exact ⟨by simp,fun j hj=>absurd hj (by simp)⟩
          · refine ⟨by simp,fun j hj => ?_⟩
            have:j=0:=by simpa using hj
            subst this
            exact ⟨fun k=>absurd k (by omega),List.mem_map_of_mem (f:=(·.2)) hy⟩
        · exact g.r x hx'
    · have g:=ih k hk
      have e2:((tabsV n i).set (hWho (n.2.2.getD i default)).toNat (chV ((tabsV n i).getD (hWho (n.2.2.getD i default)).toNat default) (n.2.2.getD i default))).getD k default=(tabsV n i).getD k default:=by
        exact getD_setne e
      rw [e2]
      exact ⟨g.s,by have:=g.n;omega,g.r⟩
theorem DN.right {n:Net} (h:DN n) (hp:∀ i:Nat,i<n.1.length->0<(nPorts (n.1.getD i default)).length):checkV n=0:=by
  have n3:=h.n3
  have n7:=h.n7
  have l10:=h.l10
  have h3:=h.h3
  have e1:sizesV n=0:=by unfold sizesV;rw [if_neg (by omega)]
  have e2:cablesV n=0:=by
    unfold cablesV
    rw [if_pos]
    rw [List.all_eq_true]
    intro l hl
    obtain ⟨a,b,c,d,e,f,g⟩:=h.g l hl
    refine decide_eq_true ?_
    unfold soundL
    omega
  have e3:boxesV n=0:=first_of fun i hi=>by
    unfold boxV
    rw [if_neg (fun k=>k (h.node hi (hp i hi))),if_neg]
    rw [List.any_eq_true]
    rintro ⟨k,hk,hs⟩
    obtain ⟨a,b,c⟩:=(h.links hi).1 hk
    unfold strayL at hs
    simp only [Bool.or_eq_true,Bool.not_eq_true',decide_eq_true_eq,Bool.or_eq_false_iff,decide_eq_false_iff_not] at hs
    rcases hs with hs|⟨s1,s2⟩
    · omega
    · rcases c with c|c
      · exact s1 c
      · exact s2 c
  have e4:plugsV n=0:=by
    unfold plugsV
    rw [if_neg]
    rw [List.any_eq_true]
    rintro ⟨k,hk,hs⟩
    have hk:=List.mem_range.1 hk
    obtain ⟨⟨a0,a1⟩,⟨b0,b1⟩,-⟩:=h.g _ (getD_memN hk)
    unfold loose at hs
    simp only [Bool.or_eq_true,decide_eq_true_eq] at hs
    have key:∀ i:Int,0<=i->i<n.1.length->(lA (n.2.1.getD k default)=i∨lB (n.2.1.getD k default)=i)→¬ portL (n.1.getD i.toNat default) k<0:=fun i i0 i1 hq hlt=>by
      have hi:i.toNat<n.1.length:=by omega
      have:(k:Int)∈pLinks (n.1.getD i.toNat default):=(h.links hi).2 ⟨by omega,by omega,by rw [Int.toNat_natCast];rcases hq with q|q;left;omega;right;omega⟩
      obtain ⟨y,hy,e⟩:=List.mem_map.1 this
      have:=findP_hasD (q:=isL k) hy (by simp [isL,e])
      have e5:portL (n.1.getD i.toNat default) k=findP (isL k) (nPorts (n.1.getD i.toNat default)):=rfl
      omega
    rcases hs with hs|hs
    · exact key _ a0 a1 (.inl rfl) hs
    · exact key _ b0 b1 (.inr rfl) hs
  have e5:namesV n=0:=by
    unfold namesV
    rw [if_neg]
    unfold twice
    rw [List.any_eq_true]
    rintro ⟨i,hi,hs⟩
    have hi:=List.mem_range.1 hi
    obtain ⟨a,ha,hm⟩:=List.any_eq_true.1 hs
    obtain ⟨j,hj,hb⟩:=(seenN_iffD n.1 a i).1 hm
    have:=h.apart (i:=i) (j:=j) hi (by omega) ha hb
    omega
  have e6:tunnelsV n=0:=by
    unfold tunnelsV
    rw [if_neg]
    rw [List.any_eq_true]
    rintro ⟨l,hl,hs⟩
    rw [h.o l hl] at hs;cases hs
  have e7:scriptV n=0:=first_of fun i hi=>by
    have hc:=h.c _ (getD_memN (i:=i) (xs:=n.2.2) hi)
    have ha:=hc.at'
    have hw:=hc.w
    have hk:(hWho (n.2.2.getD i default)).toNat<n.1.length:=by omega
    have hs:0<i->hAt (n.2.2.getD (i-1) default)<=hAt (n.2.2.getD i default):=fun h0=>pw_getD h.s (by omega) hi
    have g:=h.tabs (i+1) (by omega) _ hk
    rw [tabsV,getD_set (by rw [tabs_len];omega)] at g
    unfold scrV scrC
    rw [if_neg (by omega),if_neg (by rintro ⟨k0,k1⟩;have:=hs k0;omega),if_neg (by omega),if_neg (by rintro ⟨k0,-⟩;rw [hc.r] at k0;cases k0)]
    exact g.ok (by omega)
  unfold checkV hop
  simp [e1,e2,e3,e4,e5,e6,e7]
end Go.RS

/- SX: from a law's arguments to data, with a bound on how long they are. -/
namespace Go.SX
open Go.ChangeShapes Go.WideShapes Go.ChangeAt Go.RowKit
set_option linter.unusedVariables false
universe u v
def leC (m:Nat):(t:CT)->t.D->Prop
  | .int _,_=>True
  | .bool,_=>True
  | .str,_=>True
  | .sl t,xs=>xs.length<=m∧∀ x∈xs,leC m t x
  | .pair a b,d=>leC m a d.1/\leC m b d.2
theorem leC_mono {m m':Nat} (h:m<=m'):∀ (t:CT) (d:t.D),leC m t d->leC m' t d
  | .int _,_,_=>trivial
  | .bool,_,_=>trivial
  | .str,_,_=>trivial
  | .sl t,xs,k=>⟨Nat.le_trans k.1 h,fun x hx=>leC_mono h t x (k.2 x hx)⟩
  | .pair a b,d,k=>⟨leC_mono h a d.1 k.1,leC_mono h b d.2 k.2⟩
structure Meas {H:Type} (μ:DataW H->Nat):Prop where
  sl:∀ elems spare,elems.length<=μ (.slice elems spare)∧∀ e∈elems,μ e<=μ (.slice elems spare)
  ag:∀ parts,∀ e∈parts,μ e<=μ (.agg parts)
section
variable {H:Type} {enc:TypeId×Value->H} {P:Program} {w:World} {base:Nat} {held:Bool}
theorem fieldsFit_rdM {A:Nat->Prop} {μ:DataW H->Nat} {M:Nat} {f:CT->TypeId->Bool} {cs:List Value} {n:Nat}
    (hf:∀ t τ cs x,f t τ=true->DataW.trod enc P w base (fun _=>true) held n τ cs=some x→∃ d,Rd A w t (fun j=>cs[j]?) 0 d∧∀ m,μ x.1<=m->leC m t d) :
    ∀ (fs:List Field) (t:CT) (o:Nat),fieldsFit P f fs t o=true->(∀ fd∈fs,∃ x,DataW.trod enc P w base (fun _=>true) held n fd.type ((cs.drop fd.offset).take (P.cellsOf fd.type))=some x/\μ x.1<=M)→∃ d,Rd A w t (fun j=>cs[j]?) o d/\leC M t d
  | [],t,o,h,_=>by cases h
  | [fd],t,o,h,hx=>by
    simp only [fieldsFit,Bool.and_eq_true] at h
    obtain ⟨⟨h1,h2⟩,h3⟩:=h
    have h2:=Nat.eq_of_beq_eq_true h2
    have h3:=Nat.eq_of_beq_eq_true h3
    obtain ⟨x,hx,hM⟩:=hx fd (by simp)
    obtain ⟨d,hd,hl⟩:=hf t fd.type _ x h1 hx
    rw [h2] at hd
    exact ⟨d,Rd_part h3 hd,hl M hM⟩
  | fd::g::r,.pair a b,o,h,hx=>by
    simp only [fieldsFit,Bool.and_eq_true] at h
    obtain ⟨⟨⟨h1,h2⟩,h3⟩,h4⟩:=h
    have h2:=Nat.eq_of_beq_eq_true h2
    have h3:=Nat.eq_of_beq_eq_true h3
    obtain ⟨x,hx1,hM⟩:=hx fd (by simp)
    obtain ⟨d,hd,hl⟩:=hf a fd.type _ x h1 hx1
    rw [h2] at hd
    obtain ⟨d',hd',hl'⟩:=fieldsFit_rdM hf (g::r) b (o+a.size) h4 (fun fd' hm=>hx fd' (List.mem_cons_of_mem _ hm))
    exact ⟨(d,d'),⟨Rd_part h3 hd,hd'⟩,hl M hM,hl'⟩
  | _::_::_,.int _,_,h,_=>by cases h
  | _::_::_,.bool,_,h,_=>by cases h
  | _::_::_,.str,_,h,_=>by cases h
  | _::_::_,.sl _,_,h,_=>by cases h
theorem arrFit_rdM {A:Nat->Prop} {μ:DataW H->Nat} {M:Nat} {f:CT->TypeId->Bool} {cs:List Value} {n:Nat} {e:TypeId}
    (hf:∀ t τ cs x,f t τ=true->DataW.trod enc P w base (fun _=>true) held n τ cs=some x→∃ d,Rd A w t (fun j=>cs[j]?) 0 d∧∀ m,μ x.1<=m->leC m t d) :
    ∀ (k:Nat) (t:CT) (i:Nat),arrFit P f e k t=true->(∀ j,i<=j->j<i+k→∃ x,DataW.trod enc P w base (fun _=>true) held n e ((cs.drop (j*P.cellsOf e)).take (P.cellsOf e))=some x/\μ x.1<=M)→∃ d,Rd A w t (fun j=>cs[j]?) (i*P.cellsOf e) d/\leC M t d
  | 0,t,i,h,_=>by cases h
  | 1,t,i,h,hx=>by
    simp only [arrFit,Bool.and_eq_true] at h
    obtain ⟨h1,h2⟩:=h
    have h2:=Nat.eq_of_beq_eq_true h2
    obtain ⟨x,hx,hM⟩:=hx i (by omega) (by omega)
    obtain ⟨d,hd,hl⟩:=hf t e _ x h1 hx
    exact ⟨d,Rd_part h2 hd,hl M hM⟩
  | k+2,.pair a b,i,h,hx=>by
    simp only [arrFit,Bool.and_eq_true] at h
    obtain ⟨⟨h1,h2⟩,h4⟩:=h
    have h2:=Nat.eq_of_beq_eq_true h2
    obtain ⟨x,hx1,hM⟩:=hx i (by omega) (by omega)
    obtain ⟨d,hd,hl⟩:=hf a e _ x h1 hx1
    obtain ⟨d',hd',hl'⟩:=arrFit_rdM hf (k+1) b (i+1) h4 (fun j h1 h2=>hx j (by omega) (by omega))
    refine ⟨(d,d'),⟨Rd_part h2 hd,?_⟩,hl M hM,hl'⟩
    rw [Nat.add_mul,Nat.one_mul] at hd'
    rw [← h2];exact hd'
  | _+2,.int _,_,h,_=>by cases h
  | _+2,.bool,_,h,_=>by cases h
  | _+2,.str,_,h,_=>by cases h
  | _+2,.sl _,_,h,_=>by cases h
theorem trod_rdM {μ:DataW H->Nat} (hμ:Meas μ):∀ (n:Nat) (t:CT) (τ:TypeId) (fuel:Nat) (cs:List Value) (x:DataW H×List MemPlace),fitsT P n t τ=true->DataW.trod enc P w base (fun _=>true) held fuel τ cs=some x →
    ∃ d,Rd (fun b=>b<w.heap.size) w t (fun j=>cs[j]?) 0 d∧∀ m,μ x.1<=m->leC m t d
  | 0,t,τ,fuel,cs,x,h,_=>by cases h
  | n+1,t,τ,fuel,cs,x,h,hx=>by
    unfold fitsT at h
    split at h
    · rename_i k k' hu
      cases kEq_eq h
      obtain ⟨m,rfl,_,hw⟩:=DataW.trod_int hu hx
      exact ⟨m,⟨by simp,lit_has hw⟩,fun _ _=>trivial⟩
    · rename_i hu
      obtain ⟨b,rfl,_⟩:=DataW.trod_bool hu hx
      exact ⟨b,by simp [Rd],fun _ _=>trivial⟩
    · rename_i hu
      obtain ⟨s,rfl,_,hs⟩:=DataW.trod_string hu hx
      exact ⟨s,⟨by simp,hs⟩,fun _ _=>trivial⟩
    · rename_i e u hu
      simp only [Bool.and_eq_true] at h
      obtain ⟨h1,h2⟩:=h
      have h2:=Nat.eq_of_beq_eq_true h2
      rcases DataW.trod_slice hu hx with ⟨rfl,_⟩|⟨a,len,cap,elems,rest,m,_,rfl,hx1,_,hl,hm,hlen,hel,hsp,_⟩
      · exact ⟨[],Rd_sl.2 ⟨_,rfl,by simp,.inl ⟨⟨_,rfl⟩,rfl⟩⟩,fun _ _=>⟨by simp,fun x hx=>by cases hx⟩⟩
      · have hcap:=(hsp rfl)
        by_cases h0:cap=0
        · have:len=0:=by omega
          subst this h0
          exact ⟨[],Rd_sl.2 ⟨_,rfl,by simp,.inl ⟨⟨_,rfl⟩,rfl⟩⟩,fun _ _=>⟨by simp,fun x hx=>by cases hx⟩⟩
        · -- the cells that are there
          have first:∃ v,w.cell? a=some v:=by
            have hb:∃ cs',w.cells? base (a.add 0) (P.cellsOf e)=some cs':=by
              by_cases hl0:0<len
              · have:=hel 0 hl0
                rw [Nat.zero_mul] at this
                have hs:∃ y,elems[0]? = some y:=⟨_,List.getElem?_eq_getElem (by omega)⟩
                obtain ⟨y,hy⟩:=hs
                rw [hy,Option.bind_eq_some_iff] at this
                obtain ⟨cs',hcs,_⟩:=this
                exact ⟨cs',hcs⟩
              · have:=hcap.2 0 (by omega)
                have hz:(len+0)*P.cellsOf e=0:=by
                  have:len=0:=by omega
                  subst this;simp
                rw [hz] at this
                have hs:∃ y,rest[0]? = some y:=⟨_,List.getElem?_eq_getElem (by omega)⟩
                obtain ⟨y,hy⟩:=hs
                rw [hy,Option.bind_eq_some_iff] at this
                obtain ⟨cs',hcs,_⟩:=this
                exact ⟨cs',hcs⟩
            obtain ⟨cs',hcs⟩:=hb
            obtain ⟨_,hl1,hl2⟩:=World.cells?_some hcs
            have hp:=u.size_pos
            have:=hl2 0 (by omega)
            refine ⟨cs'[0]'(by omega),?_⟩
            rw [List.getElem?_eq_getElem (by omega)] at this
            simpa [Addr.add] using this
          obtain ⟨v0,hv0⟩:=first
          have hspot:=World.cell?_spot hv0
          obtain ⟨b,off,spot⟩:=a
          simp only at hspot
          subst hspot
          have hlt:b<w.heap.size:=by
            unfold World.cell? at hv0
            simp only at hv0
            split at hv0
            · rename_i c E sp hb
              exact (Array.getElem?_eq_some_iff.1 hb).1
            · cases hv0
          obtain ⟨xs,hxl,hxp⟩:=list_of len (fun i d=>Rd (fun b=>b<w.heap.size) w u (fun o=>w.cell? ⟨b,o,none⟩) (off+i*u.size) d∧∀ m',(∀ e'∈elems.map (·.1),μ e'<=m')->leC m' u d) fun i hi=>by
            have:=hel i hi
            rw [List.getElem?_eq_getElem (by omega),Option.bind_eq_some_iff] at this
            obtain ⟨cs',hcs,ht⟩:=this
            obtain ⟨_,hl1,hl2⟩:=World.cells?_some hcs
            obtain ⟨d,hd,hle⟩:=trod_rdM hμ n u e _ cs' _ h1 ht
            refine ⟨d,?_,fun m' hm'=>hle m' (hm' _ (List.mem_map_of_mem (List.getElem_mem _)))⟩
            have:=Rd_shift hd (off+i*u.size)
            rw [Nat.zero_add] at this
            refine Rd_mono (fun _ h=>h) (fun _ _ _=>rfl) u _ _ _ _ (fun j hj => ?_) this
            have:=hl2 j (by omega)
            rw [addr_add,addr_add,h2] at this
            rw [Nat.add_sub_cancel_left,← this]
          subst hxl
          refine ⟨xs,Rd_sl.2 ⟨_,rfl,by omega,.inr ⟨b,off,cap,rfl,hl,hm,hlt,fun i hi=>(hxp i hi).1⟩⟩,fun m' hm'=>⟨?_,fun y hy => ?_⟩⟩
          · have:=(hμ.sl (elems.map (·.1)) (rest.map (·.1))).1
            rw [List.length_map] at this
            rw [hx1] at hm'
            have hm':μ (.slice (elems.map (·.1)) (rest.map (·.1)))<=m':=hm'
            omega
          · obtain ⟨i,hi,rfl⟩:=List.mem_iff_getElem.1 hy
            rw [hx1] at hm'
            exact (hxp i hi).2 m' fun e' he'=>Nat.le_trans ((hμ.sl (elems.map (·.1)) (rest.map (·.1))).2 e' he') hm'
    · rename_i t' fs hu
      obtain ⟨xs,m,_,hx1,hl,hlen,hf⟩:=DataW.trod_struct hu hx
      have hag:∀ y∈xs,μ y.1<=μ x.1:=fun y hy=>by rw [hx1];exact hμ.ag _ _ (List.mem_map_of_mem hy)
      have key:∀ fd∈fs.toList,∃ y,DataW.trod enc P w base (fun _=>true) held m fd.type ((cs.drop fd.offset).take (P.cellsOf fd.type))=some y/\μ y.1<=μ x.1:=fun fd hm=>by
        obtain ⟨i,hi,rfl⟩:=List.mem_iff_getElem.1 hm
        have:=hf i fs[i] (Array.getElem?_eq_getElem (by simpa using hi))
        have hi':i<fs.size:=by simpa using hi
        rw [List.getElem?_eq_getElem (by omega)] at this
        exact ⟨_,by simpa using this,hag _ (List.getElem_mem _)⟩
      obtain ⟨d,hd,hdl⟩:=fieldsFit_rdM (μ:=μ) (M:=μ x.1) (n:=m) (fun t τ cs x h1 h2=>trod_rdM hμ n t τ m cs x h1 h2) fs.toList _ 0 h key
      exact ⟨d,hd,fun m' hm'=>leC_mono hm' _ _ hdl⟩
    · rename_i t' k e hu
      obtain ⟨xs,m,_,hx1,hl,hlen,hf⟩:=DataW.trod_array hu hx
      have hag:∀ y∈xs,μ y.1<=μ x.1:=fun y hy=>by rw [hx1];exact hμ.ag _ _ (List.mem_map_of_mem hy)
      obtain ⟨d,hd,hdl⟩:=arrFit_rdM (μ:=μ) (M:=μ x.1) (n:=m) (cs:=cs) (e:=e) (fun t τ cs x h1 h2=>trod_rdM hμ n t τ m cs x h1 h2) k _ 0 h fun j _ hj=>by
        have:=hf j (by omega)
        rw [List.getElem?_eq_getElem (by omega)] at this
        exact ⟨_,this,hag _ (List.getElem_mem _)⟩
      exact ⟨d,by simpa using hd,fun m' hm'=>leC_mono hm' _ _ hdl⟩
    · cases h
def lawCtP (l:LPs) (pre:PDs (lawPs l)->List Prop):Ct:=⟨lawPs l,[.val .bool],pre,fun _=>((true,()),lawB l)⟩
def leL (m:Nat):(l:LPs)->PDs (lawPs l)->Prop
  | [],_=>True
  | (true,t)::r,d=>leC m t d.1/\leL m r d.2
  | (false,t)::r,d=>leC m t d.1/\leL m r d.2
theorem law_argsM {μ:DataW H->Nat} (hμ:Meas μ) {M:Nat} {r:Reach} {b0:Nat}:∀ (l:LPs) (τs:List TypeId) (vs:List Value) (ds:List (DataW H)) (ps:List MemPlace),lawFits P l τs=true->DataW.TrodAll enc P w base (fun _=>true) held τs vs ds ps->(∀ x∈ds,μ x<=M) →
    (∀ (j:Nat) t v,τs[j]? = some t->vs[j]? = some v->Value.okWide P w r b0 t v)->lpsOk l=true∧∃ d:PDs (lawPs l),DenL (fun b=>b<w.heap.size) (fun _ => .un) w (argsOf (lawPs l) d 0 0) vs/\leL M l d
  | [],[],vs,ds,ps,h,ht,hM,hv=>by
    obtain ⟨rfl,_,_⟩:=trodAll_nil ht
    exact ⟨rfl,(),by simp [lawPs,argsOf,DenL],trivial⟩
  | (b,t)::l,τ::τs,vs,ds,ps,h,ht,hM,hv=>by
    obtain ⟨v,vs',d,ds',p,q,rfl,rfl,rfl,h0,hr⟩:=trodAll_cons ht
    simp only [lawFits,Bool.and_eq_true] at h
    obtain ⟨⟨⟨h1,h2⟩,h3⟩,h4⟩:=h
    have h3:=Nat.eq_of_beq_eq_true h3
    obtain ⟨g1,d2,g2,g3⟩:=law_argsM hμ (M:=M) l τs vs' ds' q h4 hr (fun x hx=>hM x (List.mem_cons_of_mem _ hx)) (fun j t v ht hv'=>hv (j+1) t v (by simpa using ht) (by simpa using hv'))
    have hv0:=hv 0 τ v rfl rfl
    obtain ⟨fuel,hf⟩:=h0
    obtain ⟨d1,hd1,hd2⟩:=trod_rdM hμ 12 t τ fuel _ _ h2 hf
    have hd2:=hd2 M (hM _ (by simp))
    cases b with
    | true =>
      have hag:isAggT P τ=true:=by
        cases hq:isAggT P τ with
        | true=>rfl
        | false=>rw [hq] at h1;cases h1
      obtain ⟨us,rfl,hus⟩:=okWide_agg hag hv0
      refine ⟨by simp [lpsOk,g1],(d1,d2),?_,hd2,g3⟩
      simp only [lawPs,argsOf,DenL,Den]
      refine ⟨_,vs',rfl,⟨us,rfl,den_flatL (by simpa using hus.trans h3) (by simpa [Value.cells] using hd1)⟩,g2⟩
    | false =>
      have hq:isAggT P τ=false:=by
        cases hq:isAggT P τ with
        | true=>rw [hq] at h1;cases h1
        | false=>rfl
      rw [hq] at h1
      simp only at h1
      refine ⟨by simp [lpsOk,g1,h1],(d1,d2),?_,hd2,g3⟩
      simp only [lawPs,argsOf,DenL]
      have hc:=okWide_one h1 hq h2 hv0
      rw [hc] at hd1
      exact ⟨v,vs',rfl,den_flat1 (rest:=[]) (by simpa using hd1),g2⟩
  | [],_::_,_,_,_,h,_,_,_=>by cases h
  | _::_,[],_,_,_,h,_,_,_=>by cases h
theorem law_walkM {μ:DataW H->Nat} (hμ:Meas μ) {M:Nat} {G:Globs} (hG:GlobsOK w G) {f:FuncId} {l:LPs} {pre:PDs (lawPs l)->List Prop} (hpre:∀ d,leL M l d->conj (pre d)) (ok:SpecOK P G f (lawCtP l pre).spec) {r:Reach} {b0:Nat} {τs:List TypeId} {args:Array Value} {ds:List (DataW H)} {ps:List MemPlace} (hl:lawFits P l τs=true)
    (ht:DataW.TrodAll enc P w base (fun _=>true) held τs args.toList ds ps) (hM:∀ x∈ds,μ x<=M) (hv:∀ (j:Nat) t v,τs.toArray[j]? = some t->args[j]? = some v->Value.okWide P w r b0 t v) :
    Calls P f args w fun e w'=>e = .returned (.bool true)/\Below w.heap.size w w':=by
  obtain ⟨hok,d,hd,hle⟩:=law_argsM hμ (M:=M) l τs args.toList ds ps hl ht hM (fun j t v h1 h2=>hv j t v (by simpa using h1) (by simpa using h2))
  have hkeep:keepF (lawPs l) [.val .bool]=false:=by
    have:∀ l:LPs,psPlain (lawPs l)=true:=by
      intro l
      induction l with
      | nil=>rfl
      | cons x l ih=>obtain ⟨b,t⟩:=x;cases b <;> exact ih
    simp only [keepF,this,rsPlain,CT.plain,Bool.and_self,Bool.not_true]
  have hbU:∀ nb,boxU 0 (lawPs l) (lawB l) [] nb=[]:=by
    intro nb
    induction l with
    | nil=>rfl
    | cons x l ih =>
      obtain ⟨b,t⟩:=x
      have:∀ l:LPs,boxU 0 (lawPs l) (lawB l) [] nb=[]:=by
        intro l
        induction l with
        | nil=>rfl
        | cons x l ih=>obtain ⟨b,t⟩:=x;cases b <;> exact ih
      cases b <;> exact this l
  have hnU:∀ (l:LPs) nb,newU (lawPs l) (lawB l) nb=[]:=by
    intro l nb
    induction l with
    | nil=>rfl
    | cons x l ih=>obtain ⟨b,t⟩:=x;cases b <;> exact ih
  have hnB:∀ (l:LPs),nOwnB (lawPs l)=0:=by
    intro l
    induction l with
    | nil=>rfl
    | cons x l ih=>obtain ⟨b,t⟩:=x;cases b <;> exact ih
  have hrun:((lawCtP l pre).spec 0 (argsOf (lawPs l) d 0 0)).run (fun _ => .un)=some (Dl.det (pre d) (.bool true) [],[]):=by
    unfold Ct.spec
    refine Q.bind_run0 _ _ _ _ (match_law l d hok) ?_
    simp only [namesOk,somes,List.append_nil,nodupN,disjN,lawCtP,retU,hkeep,hbU,hnU,hnB,deadU,resH,resSV,resV,val1,flat,nOwn,askUn,List.headD_nil]
    rfl
  have m:Mod w ⟨fun _=>False,fun b=>b<w.heap.size,G⟩ (fun b=>b<w.heap.size) (fun _ => .un) (fun _ => .un) w :=
    ⟨rfl,rfl,rfl,Nat.le_refl _,fun _ _ _=>rfl,fun _ h=>h,fun _=>rfl,fun _ _ _ _ h=>(by cases h),fun _ _ _ _ _ _ _ h=>(by cases h),fun b hb => .inl hb,hG⟩
  have:=ok 0 (argsOf (lawPs l) d 0 0) (fun _ => .un) _ _ hrun (hpre d hle) w _ _ _ w args.toList rfl m hd
  refine Calls.mono this ?_
  rintro e w' ⟨v,rfl,x,A',env',_,hm,_,hden⟩
  simp only [Dl.val,Den] at hden
  exact ⟨by rw [hden],hm.os,hm.tape,hm.output,hm.size,fun k hk=>hm.fr k hk (fun h=>h)⟩
end
end Go.SX
