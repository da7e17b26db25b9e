/- Netd: networks as the laws draw them: exact. -/
import Derived.Test.YtgllbbabppaaaaaDoorNodek
import Derived.Test.YtgllbbabppaaaaaDoorReply
namespace Go.RS
open Go.SX Go.Proofs
set_option maxRecDepth 100000
set_option linter.unusedVariables false
abbrev cLink:CT := .pair cI (.pair cI (.pair cI (.pair cI (.pair cI cI))))
abbrev cChange:CT := .pair cI (.pair cI (.pair .bool cRt))
abbrev cNet:CT := .pair (.sl cNode) (.pair (.sl cLink) (.sl cChange))
abbrev Link:Type:=Int×Int×Int×Int×Int×Int
abbrev Change:Type:=Int×Int×Bool×Rt
abbrev Net:Type:=List Node×List Link×List Change
abbrev Codes:Type:=List Int×Int
abbrev Port:Type:=Int×Int
def lA (l:Link):Int:=l.1
def lB (l:Link):Int:=l.2.1
def lDelay (l:Link):Int:=l.2.2.1
def lJitter (l:Link):Int:=l.2.2.2.1
def lLoss (l:Link):Int:=l.2.2.2.2.1
def lSeed (l:Link):Int:=l.2.2.2.2.2
theorem getD_setne {α:Type} [Inhabited α] {l:List α} {i j:Nat} {a:α} (h:i≠j):(l.set i a).getD j default=l.getD j default:=by
  rw [List.getD_eq_getElem?_getD,List.getD_eq_getElem?_getD,List.getElem?_set_ne h]
def codeAt (c:Codes):Int:=c.1.getD c.2.toNat default
def next1 (c:Codes) (n:Int):Int×Codes:=if (c.1.length:Int)<=c.2∨n<1 then (0,c) else ((codeAt c).tmod n,(c.1,c.2+1))
def nextV (c:Codes) (n:Int):Int×Codes :=
  if (c.1.length:Int)<=c.2∨n<1 then (0,c)
  else if 256<n then ((256*codeAt c+(next1 (c.1,c.2+1) 256).1).tmod n,(next1 (c.1,c.2+1) 256).2)
  else ((codeAt c).tmod n,(c.1,c.2+1))
structure okB (c:Codes):Prop where
  at':okC c
  b:∀ x∈c.1,0<=x/\x<=255
theorem okB.code {c:Codes} (h:okB c) (hb:¬ (c.1.length:Int)<=c.2):0<=codeAt c/\codeAt c<=255:=h.b _ (getD_mem h.at'.1 (by omega))
theorem next1_ok {c:Codes} (h:okB c) (n:Int):okB (next1 c n).2/\0<=(next1 c n).1/\((next1 c n).1<n∨(next1 c n).1=0):=by
  unfold next1
  split
  · exact ⟨h,by simp,.inr rfl⟩
  · rename_i hb
    have hc:=h.code (by omega)
    have ha:=h.at'
    exact ⟨⟨⟨by have:=ha.1;show 0<=c.2+1;omega,by show c.2+1<=(c.1.length:Int);omega⟩,h.b⟩,tmod_lo hc.1,.inl (tmod_hi hc.1 (by omega))⟩
theorem nextV_ok {c:Codes} (h:okB c) (n:Int):okB (nextV c n).2/\0<=(nextV c n).1/\((nextV c n).1<n∨(nextV c n).1=0):=by
  unfold nextV
  split
  · exact ⟨h,by simp,.inr rfl⟩
  · rename_i hb
    have hc:=h.code (by omega)
    have ha:=h.at'
    have h1:okB (c.1,c.2+1):=⟨⟨by have:=ha.1;show 0<=c.2+1;omega,by show c.2+1<=(c.1.length:Int);omega⟩,h.b⟩
    split
    · have k:=next1_ok h1 256
      exact ⟨k.1,tmod_lo (by omega),.inl (tmod_hi (by omega) (by omega))⟩
    · exact ⟨h1,tmod_lo hc.1,.inl (tmod_hi hc.1 (by omega))⟩
theorem nextV_lt {c:Codes} (h:okB c) {n:Int} (hn:0<n):0<=(nextV c n).1/\(nextV c n).1<n:=by
  have:=nextV_ok h n;omega
def newNode (i:Int) (host:Bool) (f sd:Int):Node:=([],0,1+i/3,host,[],1,0,0,0,0,(0,0),false,false,f,sd)
abbrev Scene:Type:=Net×Codes
def nodeS (s:Scene) (host:Bool):Scene :=
  ((s.1.1++[newNode s.1.1.length host (([64,255,128]:List Int).getD (nextV s.2 3).1.toNat default) (nextV (nextV s.2 3).2 256).1],s.1.2),(nextV (nextV s.2 3).2 256).2)
def addPort (ns:List Node) (x:Int) (p:Port):List Node:=ns.set x.toNat ((ns.getD x.toNat default).1++[p],(ns.getD x.toNat default).2)
def baseA (l:Int):Int:=167837696+4*l
def linkS (s:Scene) (a b:Int):Scene :=
  ((addPort (addPort s.1.1 a (baseA s.1.2.1.length+1,s.1.2.1.length)) b (baseA s.1.2.1.length+2,s.1.2.1.length),
    s.1.2.1++[(a,b,1+(nextV s.2 20).1,0,0,(nextV (nextV s.2 20).2 256).1)],s.1.2.2),(nextV (nextV s.2 20).2 256).2)
def insN (k:Int):List Int->List Int
  | []=>[k]
  | x::r=>if k<x then k::x::r else x::insN k r
theorem insN_none {k:Int}:∀ {l:List Int},(∀ x∈l,¬ k<x)->insN k l=l++[k]
  | [],_=>rfl
  | x::r,h=>by rw [insN,if_neg (h x List.mem_cons_self),insN_none fun y hy=>h y (List.mem_cons_of_mem _ hy)];rfl
theorem insN_some {k:Int} {m:List Int}:∀ {l:List Int},(∃ x∈l,k<x)->insN k (l++m)=insN k l++m
  | [],h=>by obtain ⟨x,hx,-⟩:=h;cases hx
  | y::r,h=>by
    rw [List.cons_append,insN,insN]
    by_cases hy:k<y
    · rw [if_pos hy,if_pos hy];rfl
    · rw [if_neg hy,if_neg hy,insN_some (l:=r)];rfl
      obtain ⟨x,hx,hk⟩:=h
      rcases List.mem_cons.1 hx with rfl|hx
      · exact absurd hk hy
      · exact ⟨x,hx,hk⟩
theorem insN_new {k x:Int}:∀ {l:List Int},(∀ y∈l,¬ k<y)->k<x->insN k (l++[x])=l++[k]++[x]
  | [],_,h=>by rw [List.nil_append,insN,if_pos h];rfl
  | y::r,h,hk=>by rw [List.cons_append,insN,if_neg (h y List.mem_cons_self),insN_new (fun z hz=>h z (List.mem_cons_of_mem _ hz)) hk];rfl
theorem insN_len (k:Int):∀ l:List Int,(insN k l).length=l.length+1
  | []=>rfl
  | x::r=>by rw [insN];split <;> simp [insN_len k r]
def rFind (l:List Rt) (p:Pfx):Nat:=l.findIdx fun r=>decide (r.1=p)
def setRoutes (x:Node) (l:List Rt):Node:=(x.1,x.2.1,x.2.2.1,x.2.2.2.1,l,x.2.2.2.2.2)
def routeL (l:List Rt) (p:Pfx) (k way:Int):List Rt :=
  if rFind l p<l.length then
    if k∈(l.getD (rFind l p) default).2.1 then l else putL l (p,insN k (l.getD (rFind l p) default).2.1,(l.getD (rFind l p) default).2.2)
  else putL l (p,[k],way)
def routeN (ns:List Node) (n:Int) (p:Pfx) (k way:Int):List Node:=ns.set n.toNat (setRoutes (ns.getD n.toNat default) (routeL (nRoutes (ns.getD n.toNat default)) p k way))
def relax (d:List Int) (l:Link):List Int :=
  (d.set (lA l).toNat (min (d.getD (lA l).toNat default) (d.getD (lB l).toNat default+1))).set (lB l).toNat (min (d.getD (lB l).toNat default) (d.getD (lA l).toNat default+1))
def distL (nn:Nat) (ls:List Link) (to:Int):List Int:=(List.range nn).foldl (fun d _=>ls.foldl relax d) ((List.replicate nn (1000:Int)).set to.toNat 0)
def stepE (d:List Int) (to:Int) (p:Pfx) (plain:Bool) (k way:Int) (ns:List Node) (a b:Int):List Node :=
  if d.getD a.toNat default≠d.getD b.toNat default+1∨(b≠to/\nHost (ns.getD b.toNat default)=true) then ns
  else if plain=true/\hasL (nRoutes (ns.getD a.toNat default)) p=true then ns else routeN ns a p k way
def stepK (ls:List Link) (d:List Int) (to:Int) (p:Pfx) (plain:Bool) (way:Int) (ns:List Node) (k:Nat):List Node :=
  stepE d to p plain k way (stepE d to p plain k way ns (lA (ls.getD k default)) (lB (ls.getD k default))) (lB (ls.getD k default)) (lA (ls.getD k default))
def stepP (ls:List Link) (d:List Int) (to:Int) (plain:Bool) (way:Int) (ns:List Node) (q:Port):List Node :=
  (List.range ls.length).foldl (stepK ls d to (q.1,32) plain way) ns
def wayC (c:Codes):Int×Codes:=if 1+(nextV c 3).1=3 then (if 0<(nextV (nextV c 3).2 3).1 then 1 else 3,(nextV (nextV c 3).2 3).2) else (1+(nextV c 3).1,(nextV c 3).2)
def stepT (ls:List Link) (plain:Bool) (s:List Node×Codes) (to:Nat):List Node×Codes :=
  ((nPorts (s.1.getD to default)).foldl (stepP ls (distL s.1.length ls to) to plain (wayC s.2).1) s.1,(wayC s.2).2)
def routesS (s:Scene) (plain:Bool):Scene :=
  let r:=(List.range s.1.1.length).foldl (stepT s.1.2.1 plain) (s.1.1,s.2)
  ((r.1,s.1.2),r.2)
def odSilent (x:Node):Node:=(x.1,x.2.1,x.2.2.1,x.2.2.2.1,x.2.2.2.2.1,x.2.2.2.2.2.1,x.2.2.2.2.2.2.1,x.2.2.2.2.2.2.2.1,x.2.2.2.2.2.2.2.2.1,x.2.2.2.2.2.2.2.2.2.1,x.2.2.2.2.2.2.2.2.2.2.1,true,x.2.2.2.2.2.2.2.2.2.2.2.2)
def odLimit (x:Node) (b:Int×Int):Node:=(x.1,x.2.1,x.2.2.1,x.2.2.2.1,x.2.2.2.2.1,x.2.2.2.2.2.1,x.2.2.2.2.2.2.1,x.2.2.2.2.2.2.2.1,x.2.2.2.2.2.2.2.2.1,x.2.2.2.2.2.2.2.2.2.1,b,x.2.2.2.2.2.2.2.2.2.2.2)
def odOpaque (x:Node) (b:Bool):Node:=(x.1,x.2.1,x.2.2.1,x.2.2.2.1,x.2.2.2.2.1,x.2.2.2.2.2.1,x.2.2.2.2.2.2.1,x.2.2.2.2.2.2.2.1,x.2.2.2.2.2.2.2.2.1,x.2.2.2.2.2.2.2.2.2.1,x.2.2.2.2.2.2.2.2.2.2.1,x.2.2.2.2.2.2.2.2.2.2.2.1,b,x.2.2.2.2.2.2.2.2.2.2.2.2.2)
def odSource (x:Node) (s:Int):Node:=(x.1,x.2.1,x.2.2.1,x.2.2.2.1,x.2.2.2.2.1,s,x.2.2.2.2.2.2)
def odLoop (x:Node) (a s:Int):Node:=(x.1,a,x.2.2.1,x.2.2.2.1,x.2.2.2.2.1,s,x.2.2.2.2.2.2)
def odFixed (x:Node) (a s:Int):Node:=(x.1,x.2.1,x.2.2.1,x.2.2.2.1,x.2.2.2.2.1,s,a,x.2.2.2.2.2.2.2)
def odIds (x:Node) (i b s:Int):Node:=(x.1,x.2.1,x.2.2.1,x.2.2.2.1,x.2.2.2.2.1,x.2.2.2.2.2.1,x.2.2.2.2.2.2.1,i,b,s,x.2.2.2.2.2.2.2.2.2.2)
def odWay (x:Node) (i:Int) (c:Codes):Node×Codes :=
  let a:=nextV c 10
  if a.1=1 then (odSilent x,a.2)
  else if a.1=2 then (odLimit x (1+(nextV a.2 3).1,1+(nextV (nextV a.2 3).2 200).1),(nextV (nextV a.2 3).2 200).2)
  else if a.1=3 then (odOpaque x (!nHost x&&decide (i%2=1)),a.2)
  else if a.1=4 then (odSource x 2,a.2)
  else if a.1=5 then (odLoop x (167903232+i) 3,a.2)
  else if a.1=6 then (odFixed x (167837696+(nextV a.2 40).1) 4,(nextV a.2 40).2)
  else (x,a.2)
def odNode (x:Node) (i:Int) (c:Codes):Node×Codes :=
  let y:=odWay x i c
  (odIds y.1 (nextV y.2 6).1 (nextV (nextV y.2 6).2 65536).1 (nextV (nextV (nextV y.2 6).2 65536).2 1000).1,(nextV (nextV (nextV y.2 6).2 65536).2 1000).2)
def odNodes (s:List Node×Codes) (i:Nat):List Node×Codes:=(s.1.set i (odNode (s.1.getD i default) i s.2).1,(odNode (s.1.getD i default) i s.2).2)
def odLink (l:Link) (c:Codes):Link×Codes :=
  let a:=nextV c 6
  if a.1=1 then ((l.1,l.2.1,l.2.2.1,(nextV a.2 10).1,l.2.2.2.2),(nextV a.2 10).2)
  else if a.1=2 then ((l.1,l.2.1,l.2.2.1,l.2.2.2.1,([65536,20000,3]:List Int).getD (nextV a.2 3).1.toNat default,l.2.2.2.2.2),(nextV a.2 3).2)
  else (l,a.2)
def odClear (ns:List Node) (l:Link):List Node :=
  if nOpaque (ns.getD (lA l).toNat default)=true/\nOpaque (ns.getD (lB l).toNat default)=true then ns.set (lB l).toNat (odOpaque (ns.getD (lB l).toNat default) false) else ns
def odLinks (s:(List Node×List Link)×Codes) (i:Nat):(List Node×List Link)×Codes :=
  let r:=odLink (s.1.2.getD i default) s.2
  ((odClear s.1.1 r.1,s.1.2.set i r.1),r.2)
def odChange (ns:List Node) (s:List Change×Int×Codes):List Change×Int×Codes :=
  let a:=nextV s.2.2 60
  let at':=s.2.1+a.1
  let w:=nextV a.2 ns.length
  let x:=ns.getD w.1.toNat default
  if (nRoutes x).length=0 then (s.1,at',w.2)
  else
    let r:=nextV w.2 (nRoutes x).length
    let p:=nextV r.2 (nPorts x).length
    let z:=nextV p.2 4
    let rt:=(nRoutes x).getD r.1.toNat default
    (s.1++[(at',w.1,false,(rt.1,if z.1=3 then [] else [((nPorts x).getD p.1.toNat default).2],rt.2.2))],at',z.2)
def oddS (s:Scene):Scene :=
  let n:=(List.range s.1.1.length).foldl odNodes (s.1.1,s.2)
  let l:=(List.range s.1.2.1.length).foldl odLinks ((n.1,s.1.2.1),n.2)
  let k:=nextV l.2 4
  let h:=(List.range k.1.toNat).foldl (fun s _=>odChange l.1.1 s) ([],0,k.2)
  ((l.1.1,l.1.2,h.1),h.2.2)
def chainS (s:Scene) (k:Nat):Scene:=linkS (nodeS s false) k (k+1)
def shortS (n:Int) (s:Scene):Scene :=
  let a:=nextV s.2 n
  let b:=nextV a.2 n
  if a.1=b.1 then (s.1,b.2) else linkS (s.1,b.2) (1+a.1) (1+b.1)
def lineS (c:Codes):Int×Scene :=
  let a:=nodeS (([],[],[]),c) true
  let m:=nextV a.2 5
  let s:=(List.range (1+m.1).toNat).foldl chainS (a.1,m.2)
  (1+m.1,linkS (nodeS s true) (1+m.1) (1+m.1+1))
def moreS (plain:Bool) (n:Int) (s:Scene):Scene :=
  let k:=nextV s.2 4
  let s1:=if 1<n/\plain=false then (List.range k.1.toNat).foldl (fun s _=>shortS n s) (s.1,k.2) else (s.1,k.2)
  if plain=true/\2<n then
    if (nextV s1.2 2).1=1 then linkS (s1.1,(nextV (nextV s1.2 2).2 (n-1)).2) (1+(nextV (nextV s1.2 2).2 (n-1)).1) n else (s1.1,(nextV s1.2 2).2)
  else s1
def netS (plain:Bool) (c:Codes):Scene :=
  let s:=routesS (moreS plain (lineS c).1 (lineS c).2) plain
  if plain then s else oddS s
def netV (plain:Bool) (c:Codes):Net:=(netS plain c).1
def netC (plain:Bool) (c:Codes):Codes:=(netS plain c).2
end Go.RS

/- Topo: networks: their errors and their parts. -/
namespace Go.RS
open Go.SX Go.Proofs
set_option maxRecDepth 100000
set_option linter.unusedVariables false
def adrs (x:Node):List Int:=pAddrs x++(if nLoop x=0 then [] else [nLoop x])
def ct_topology_within:Ct:=⟨[.val cI,.val cI,.val cI],[.val .bool],fun _=>[],fun d=>((decide (d.2.1<=d.1/\d.1<=d.2.2.1),()),())⟩
def an_topology_within:PDs ct_topology_within.ps->Anns:=(fun _=>{})
theorem vc_topology_within :
 ∀(a b c:Int),R64 a/\R64 b/\R64 c/\True->True-> ∀(d:Bool),d=decide (b<=a)->(d->(d->d)/\(d->d)/\True)/\(d->d)/\(bif d then decide (a<=c) else false)=decide (b<=a/\a<=c):=by
  rintro a b c - -
  (repeat (intro (b_:Bool) (hb_:b_=_);(repeat refine ⟨(by first|(simp;done)|(rw [hb_];simp;done)|(rw [hb_];simp;omega)|(rw [hb_];simp;intros;omega)|(rw [hb_];simp +contextual;done)),?_⟩);subst hb_))
  by_cases h1:b<=a <;> by_cases h2:a<=c <;> simp [h1,h2]
theorem ok_topology_within:SpecOK Tryd.prog GL 33 ct_topology_within.spec:=Ct.okH _ Tryd.func33 (by kernel_rfl) noSpecs_ok hmix an_topology_within (hideMp (by kernel_rfl) vc_topology_within)
def ct_topology_addresses:Ct:=⟨[.agg cNode],[.own 41 cU32],fun d=>[(nPorts d.1).length<=100000],fun d=>((adrs d.1,()),())⟩
def an_topology_addresses:PDs ct_topology_addresses.ps->Anns:=(fun d=>{loops:=(fun n=>match n with|3=>some (fun S=>{ι:=Int×(List Int),qn:=⟨fun k_=>∀ (j:Int) (l:(List Int)),k_ (j,l),fun k_ h_ i=>h_ i.1 i.2,fun k_=>∃ (j:Int) (l:(List Int)),k_ (j,l),fun k_ ⟨j,l,h_⟩=>⟨_,h_⟩⟩,μ:=fun i=>((nPorts d.1).length-i.1).toNat,inv:=fun i=>0<=i.1/\i.1<=(nPorts d.1).length/\i.2=(pAddrs d.1).take i.1.toNat,keep:=[1,7,8],slots:=fun i=>[(3,.own 524288 1),(9,.int .i64 i.1)],keepN:=[32],names:=fun i=>[(524288,.live (.row 41 cU32 i.2))]})|_=>none)})
def Qbu0 (a:Node) (b:Int) (c:List Int) :=
 a.1=a.1/\(a.1.length:Int)=(a.1.length:Int)/\(0:Int)=b/\a.1=a.1/\a.2.1=a.2.1/\a.2.2.1=a.2.2.1/\a.2.2.2.1=a.2.2.2.1/\a.2.2.2.2.1=a.2.2.2.2.1/\a.2.2.2.2.2.1=a.2.2.2.2.2.1/\a.2.2.2.2.2.2.1=a.2.2.2.2.2.2.1/\a.2.2.2.2.2.2.2.1=a.2.2.2.2.2.2.2.1/\a.2.2.2.2.2.2.2.2.1=a.2.2.2.2.2.2.2.2.1/\a.2.2.2.2.2.2.2.2.2.1=a.2.2.2.2.2.2.2.2.2.1/\a.2.2.2.2.2.2.2.2.2.2.1.1=a.2.2.2.2.2.2.2.2.2.2.1.1/\a.2.2.2.2.2.2.2.2.2.2.1.2=a.2.2.2.2.2.2.2.2.2.2.1.2/\a.2.2.2.2.2.2.2.2.2.2.2.1=a.2.2.2.2.2.2.2.2.2.2.2.1/\a.2.2.2.2.2.2.2.2.2.2.2.2.1=a.2.2.2.2.2.2.2.2.2.2.2.2.1/\a.2.2.2.2.2.2.2.2.2.2.2.2.2.1=a.2.2.2.2.2.2.2.2.2.2.2.2.2.1/\a.2.2.2.2.2.2.2.2.2.2.2.2.2.2=a.2.2.2.2.2.2.2.2.2.2.2.2.2.2/\c=([]:List Int)/\True
def Qbu4 (a:Node) :=
 ((List.length (nPorts a)):Int)
theorem vc_topology_addresses :
 ∀(a:Node),CT.wf cNode a/\True->List.length (nPorts a)<=(100000:Nat)->(∃(b:Int) (c:List Int),(0<=b/\b<=(Qbu4 a)/\c=List.take b.toNat (pAddrs a))/\(Qbu0 a b c))/\ ∀(b:Int) (c:List Int),0<=b/\b<=(Qbu4 a)/\c=List.take b.toNat (pAddrs a)->ifP (decide (b<(a.1.length:Int))) (0<=b/\b<(a.1.length:Int)/\(c.length+List.length [(List.getD a.1 b.toNat default).1])*(4:Nat)<=(140737488355328:Nat)/\ ∃(d:Int) (e:List Int),(0<=d/\d<=(Qbu4 a)/\e=List.take d.toNat (pAddrs a))/\Int.toNat ((Qbu4 a) -d)<Int.toNat ((Qbu4 a) -b)/\a.1=a.1/\(a.1.length:Int)=(a.1.length:Int)/\IntKind.wrap .i64
 (b+(1:Int))=d/\a.1=a.1/\a.2.1=a.2.1/\a.2.2.1=a.2.2.1/\a.2.2.2.1=a.2.2.2.1/\a.2.2.2.2.1=a.2.2.2.2.1/\a.2.2.2.2.2.1=a.2.2.2.2.2.1/\a.2.2.2.2.2.2.1=a.2.2.2.2.2.2.1/\a.2.2.2.2.2.2.2.1=a.2.2.2.2.2.2.2.1/\a.2.2.2.2.2.2.2.2.1=a.2.2.2.2.2.2.2.2.1/\a.2.2.2.2.2.2.2.2.2.1=a.2.2.2.2.2.2.2.2.2.1/\a.2.2.2.2.2.2.2.2.2.2.1.1=a.2.2.2.2.2.2.2.2.2.2.1.1/\a.2.2.2.2.2.2.2.2.2.2.1.2=a.2.2.2.2.2.2.2.2.2.2.1.2/\a.2.2.2.2.2.2.2.2.2.2.2.1=a.2.2.2.2.2.2.2.2.2.2.2.1/\a.2.2.2.2.2.2.2.2.2.2.2.2.1=a.2.2.2.2.2.2.2.2.2.2.2.2.1/\a.2.2.2.2.2.2.2.2.2.2.2.2.2.1=a.2.2.2.2.2.2.2.2.2.2.2.2.2.1/\a.2.2.2.2.2.2.2.2.2.2.2.2.2.2=a.2.2.2.2.2.2.2.2.2.2.2.2.2.2/\c++[(List.getD a.1 b.toNat default).1]=e/\True) (ifP (! decide (a.2.1=0)) ((c.length+List.length [a.2.1])*(4:Nat)<=(140737488355328:Nat)/\c++[a.2.1]=adrs a) (c=adrs a)):=by
  delta Qbu0 Qbu4
  rintro d-hl
  have hlen:(pAddrs d).length=(nPorts d).length:=by simp [pAddrs]
  have hd:d.1=nPorts d:=rfl
  have hz:d.2.1=nLoop d:=rfl
  rw [hd,hz]
  refine ⟨⟨0,[],⟨by omega,by omega,rfl⟩,(by repeat' first|exact trivial|refine ⟨trivial,?_⟩|refine ⟨(by with_reducible rfl),?_⟩|refine ⟨w64 (by omega) (by omega),?_⟩|refine ⟨rfl,?_⟩)⟩,?_⟩
  rintro j l ⟨j0,j1,rfl⟩
  refine ifP_split (fun hk => ?_) (fun hk => ?_)
  · have hk:=of_decide_eq_true hk
    refine ⟨j0,hk,by simp only [List.length_take,List.length_cons,List.length_nil];omega,j+1,_,⟨by omega,by omega,rfl⟩,by omega,?_⟩
    (repeat first|refine ⟨trivial,?_⟩|refine ⟨(by with_reducible rfl),?_⟩|refine ⟨w64 (by omega) (by omega),?_⟩)
    refine ⟨?_,trivial⟩
    rw [take_step j0 (by rw [hlen];exact hk)]
    unfold pAddrs
    rw [List.getD_eq_getElem?_getD,List.getD_eq_getElem?_getD,List.getElem?_map,List.getElem?_eq_getElem (by omega)]
    rfl
  · have hk:=of_decide_eq_false hk
    rw [List.take_of_length_le (by omega)]
    unfold adrs
    refine ifP_split (fun h => ?_) (fun h => ?_)
    · rw [if_neg (nd_t h)]
      exact ⟨by simp only [List.length_cons,List.length_nil];omega,rfl⟩
    · rw [if_pos (nd_f h),List.append_nil]
theorem ok_topology_addresses:SpecOK Tryd.prog GL 42 ct_topology_addresses.spec:=Ct.okH _ Tryd.func42 (by kernel_rfl) noSpecs_ok hmix an_topology_addresses (hideMp (by kernel_rfl) vc_topology_addresses)
def seenL (i:Int) (l:List Int) (m:List (Int×Int)):List (Int×Int):=l.foldl (fun m a=>mput a i m) m
def seenN (ns:List Node) (k:Nat):List (Int×Int):=(List.range k).foldl (fun m (i:Nat)=>seenL (i:Int) (adrs (ns.getD i default)) m) []
def twice (ns:List Node):Bool:=(List.range ns.length).any fun (i:Nat)=>(adrs (ns.getD i default)).any fun a=>mhas a (seenN ns i)
def namesV (n:Net):Int:=if twice n.1 then 10 else 0
theorem mhas_put {a b v:Int}:∀ {m:List (Int×Int)},mhas a (mput b v m)=(decide (a=b)||mhas a m)
  | []=>by simp only [mput,mhas];cases decide (a=b) <;> rfl
  | p::m=>by
    simp only [mput]
    by_cases hb:b=p.1
    · rw [decide_eq_true hb,cond_true,mhas,mhas,← hb]
      cases decide (a=b) <;> rfl
    · rw [decide_eq_false hb,cond_false,mhas,mhas,mhas_put]
      cases decide (a=p.1) <;> cases decide (a=b) <;> rfl
theorem mval_put {a b v:Int}:∀ {m:List (Int×Int)},mval a (mput b v m)=if a=b then v else mval a m
  | []=>by
    simp only [mput,mval]
    by_cases h:a=b
    · rw [decide_eq_true h,if_pos h];rfl
    · rw [decide_eq_false h,if_neg h];rfl
  | p::m=>by
    simp only [mput]
    by_cases hb:b=p.1
    · rw [decide_eq_true hb,cond_true,mval,mval,← hb]
      by_cases h:a=b
      · rw [decide_eq_true h,if_pos h];rfl
      · rw [decide_eq_false h,if_neg h];rfl
    · rw [decide_eq_false hb,cond_false,mval,mval,mval_put]
      by_cases h:a=p.1
      · have hab:¬ a=b:=fun e=>hb (e.symm.trans h)
        simp only [if_neg hab]
      · rw [decide_eq_false h];rfl
theorem seenL_snoc (i a:Int) (l:List Int) (m:List (Int×Int)):seenL i (l++[a]) m=mput a i (seenL i l m):=by
  unfold seenL;rw [List.foldl_append];rfl
theorem seenL_has {i a:Int} {m:List (Int×Int)}:∀ {l:List Int},mhas a (seenL i l m)=(decide (a∈l)||mhas a m)/\mval a (seenL i l m)=if a∈l then i else mval a m:=by
  intro l
  induction l generalizing m with
  | nil=>simp [seenL]
  | cons b l ih =>
    have k:=ih (m:=mput b i m)
    unfold seenL at k ⊢
    rw [List.foldl_cons,k.1,k.2,mhas_put,mval_put]
    by_cases h1:a=b <;> by_cases h2:a∈l <;> simp [h1,h2]
theorem seenN_lt (ns:List Node):∀ (k:Nat) (a:Int),mhas a (seenN ns k)=true->mval a (seenN ns k)<k
  | 0,a,h=>by cases h
  | k+1,a,h=>by
    have e:seenN ns (k+1)=seenL k (adrs (ns.getD k default)) (seenN ns k):=by unfold seenN;rw [List.range_succ,List.foldl_append];rfl
    rw [e] at h ⊢
    have q:=seenL_has (i:=(k:Int)) (a:=a) (m:=seenN ns k) (l:=adrs (ns.getD k default))
    rw [q.1] at h
    rw [q.2]
    split
    · omega
    · rename_i hn
      rw [decide_eq_false hn,Bool.false_or] at h
      have:=seenN_lt ns k a h
      omega
def ct_topology_names:Ct:=⟨[.agg cNet],[.val cI],fun d=>[∀ x∈d.1.1,(nPorts x).length<=100000],fun d=>((namesV d.1,()),())⟩
def an_topology_names:PDs ct_topology_names.ps->Anns:=(fun d=>{loops:=(fun n=>match n with|3=>some (fun S=>{ι:=Int,μ:=fun i=>(d.1.1.length-i).toNat,inv:=fun i=>0<=i/\i<=d.1.1.length∧∀ k:Nat,(k:Int)<i→∀ a∈adrs (d.1.1.getD k default),mhas a (seenN d.1.1 k)=false,keep:=[1,12,13],slots:=fun i=>[(14,.int .i64 i),(3,.mapp 524288)],keepN:=[32],names:=fun i=>[(524288,.live (.mp .u32 .i64 (seenN d.1.1 i.toNat)))]})|6=>some (fun S=>{ι:=Int,μ:=fun i=>((adrs (d.1.1.getD (S.i 14).toNat default)).length-i).toNat,inv:=fun i=>0<=i/\i<=(adrs (d.1.1.getD (S.i 14).toNat default)).length∧∀ a∈(adrs (d.1.1.getD (S.i 14).toNat default)).take i.toNat,mhas a (seenN d.1.1 (S.i 14).toNat)=false,keep:=[1,4,12,13,14,20,21],slots:=fun i=>[(22,.int .i64 i),(3,.mapp 524288)],keepN:=[32,336],names:=fun i=>[(524288,.live (.mp .u32 .i64 (seenL (S.i 14) ((adrs (d.1.1.getD (S.i 14).toNat default)).take i.toNat) (seenN d.1.1 (S.i 14).toNat))))]})|_=>none)})
def Qbu1 (a:List Node) (b:List Link) (c:List Change) :=
 (a.length<=maxLen/\ ∀(d:Node),d∈a->CT.wf cNode d)/\(b.length<=maxLen/\ ∀(d:Link),d∈b->CT.wf cLink d)/\c.length<=maxLen/\ ∀(d:Change),d∈c->CT.wf cChange d
def Qbu2 (a:List Node) (d:Int) :=
 adrs (a.getD d.toNat default)
def Qbu5 (a:List Node) (d:Int) :=
 ((List.length (Qbu2 a d)):Int)
def Qbu8 (a:List Node) :=
 (a.length:Int)
def Qbu9 (a:List Node) (d:Int) :=
 0<=d/\d<=(Qbu8 a)/\ ∀(e:Nat),(↑e:Int)<d-> ∀(f:Int),f∈adrs (a.getD e default)->mhas f (seenN a e)=false
theorem vc_topology_names :
 ∀(a:List Node) (b:List Link) (c:List Change),(Qbu1 a b c)/\True->(∀(d:Node),d∈a->List.length (nPorts d)<=(100000:Nat))->(∃(d:Int),(Qbu9 a d)/\a=a/\(Qbu8 a)=(Qbu8 a)/\(0:Int)=d/\a=a/\b=b/\c=c/\([]:List (Int×Int))=seenN a d.toNat/\True)/\ ∀(d:Int),(Qbu9 a d)->ifP (decide (d<(Qbu8 a))) (0<=d/\d<(Qbu8 a)/\List.length (nPorts (a.getD d.toNat default))<=(100000:Nat)/\(∃(e:Int),(0<=e/\e<=(Qbu5 a d)/\ ∀(f:Int),f∈List.take e.toNat (Qbu2 a d)->mhas f (seenN a d.toNat)=false)/\d=d/\a=a/\(Qbu8 a)=(Qbu8 a)/\d=d/\(Qbu5 a d)=(Qbu5 a d)/\(0:Int)=e/\a=a/\b=b/\c=c/\adrs (a.getD d.toNat default)=adrs (a.getD d.toNat default)/\seenN a d.toNat=seenL d (List.take e.toNat (Qbu2 a d)) (seenN a d.toNat)/\True)/\ ∀(e:Int),(0<=e/\e<=(Qbu5 a d)/\ ∀(f:Int),f∈List.take e.toNat (Qbu2 a d)->mhas f (seenN a d.toNat)=false)->ifP (decide (e<(Qbu5 a d))) (0<=e/\e<(Qbu5 a d)/\ ∀(f:Bool),f=mhas (List.getD (Qbu2 a d) e.toNat
 default) (seenL d (List.take e.toNat (Qbu2 a d)) (seenN a d.toNat))->(f->(f->f)/\(f->f)/\True)/\(f->f)/\ifP (bif f then ! decide (mval (List.getD (Qbu2 a d) e.toNat default) (seenL d (List.take e.toNat (Qbu2 a d)) (seenN a d.toNat))=d) else false) ((10:Int)=namesV (a,b,c)) (∃(g:Int),(0<=g/\g<=(Qbu5 a d)/\ ∀(h:Int),h∈List.take g.toNat (Qbu2 a d)->mhas h (seenN a d.toNat)=false)/\Int.toNat ((Qbu5 a d) -g)<Int.toNat ((Qbu5 a d) -e)/\d=d/\a=a/\(Qbu8 a)=(Qbu8 a)/\d=d/\(Qbu5 a d)=(Qbu5 a d)/\IntKind.wrap .i64 (e+(1:Int))=g/\a=a/\b=b/\c=c/\adrs (a.getD d.toNat default)=adrs (a.getD d.toNat default)/\mput (List.getD (Qbu2 a d) e.toNat default) d (seenL d (List.take e.toNat (Qbu2 a d)) (seenN a d.toNat))=seenL d (List.take g.toNat (Qbu2 a d)) (seenN a d.toNat)/\True)) (∃(f:Int),(0<=f/\f<=(Qbu8 a)/\ ∀(g:Nat),(↑g:Int)<f-> ∀(h:Int),h∈adrs (a.getD g default)->mhas h (seenN a g)=false)/\Int.toNat
 ((Qbu8 a) -f)<Int.toNat ((Qbu8 a) -d)/\a=a/\(Qbu8 a)=(Qbu8 a)/\IntKind.wrap .i64 (d+(1:Int))=f/\a=a/\b=b/\c=c/\seenL d (List.take e.toNat (Qbu2 a d)) (seenN a d.toNat)=seenN a f.toNat/\True)) ((0:Int)=namesV (a,b,c)):=by
  delta Qbu1 Qbu2 Qbu5 Qbu8 Qbu9
  rintro ns ls hs ⟨⟨⟨hnl,-⟩,-⟩,-⟩ hp
  simp only [maxLen] at hnl
  have hlen:∀ x∈ns,(adrs x).length<=100001:=fun x hx=>by
    have:=hp x hx
    unfold adrs pAddrs
    rw [List.length_append,List.length_map]
    split <;> simp <;> omega
  refine ⟨⟨0,⟨by omega,by omega,fun k hk=>by omega⟩,(by repeat' first|exact trivial|refine ⟨trivial,?_⟩|refine ⟨(by with_reducible rfl),?_⟩|refine ⟨w64 (by omega) (by omega),?_⟩|refine ⟨rfl,?_⟩)⟩,?_⟩
  rintro i ⟨i0,i1,hI⟩
  refine ifP_split (fun hi => ?_) (fun hi => ?_)
  rotate_left
  · have hi:=of_decide_eq_false hi
    unfold namesV
    rw [if_neg]
    intro h
    obtain ⟨k,hk,h2⟩:=List.any_eq_true.1 h
    obtain ⟨a,ha,h3⟩:=List.any_eq_true.1 h2
    have hk:k<ns.length:=List.mem_range.1 hk
    rw [hI k (by omega) a ha] at h3
    cases h3
  have hi:=of_decide_eq_true hi
  have hm:=getD_mem i0 hi
  have hl:=hlen _ hm
  refine ⟨i0,hi,hp _ hm,⟨0,⟨by omega,by omega,by simp⟩,(by repeat' first|exact trivial|refine ⟨trivial,?_⟩|refine ⟨(by with_reducible rfl),?_⟩|refine ⟨w64 (by omega) (by omega),?_⟩|refine ⟨rfl,?_⟩)⟩,?_⟩
  rintro j ⟨j0,j1,hJ⟩
  have ei:((i.toNat:Nat):Int)=i:=by omega
  refine ifP_split (fun hj => ?_) (fun hj => ?_)
  rotate_left
  · have hj:=of_decide_eq_false hj
    rw [List.take_of_length_le (by omega)] at hJ ⊢
    refine ⟨i+1,⟨by omega,by omega,fun k hk a ha => ?_⟩,by omega,?_⟩
    · by_cases e:(k:Int)<i
      · exact hI k e a ha
      · have:k=i.toNat:=by omega
        subst this
        exact hJ a ha
    · have e:seenL i (adrs (ns.getD i.toNat default)) (seenN ns i.toNat)=seenN ns (i+1).toNat:=by
        rw [show (i+1).toNat=i.toNat+1 by omega]
        unfold seenN
        rw [List.range_succ,List.foldl_append,List.foldl_cons,List.foldl_nil,ei]
      rw [e]
      exact (by repeat' first|exact trivial|refine ⟨trivial,?_⟩|refine ⟨(by with_reducible rfl),?_⟩|refine ⟨w64 (by omega) (by omega),?_⟩|refine ⟨rfl,?_⟩)
  have hj:=of_decide_eq_true hj
  have ha:=getD_mem j0 hj
  have st:=take_step j0 hj
  refine ⟨j0,hj,?_⟩
  have q:=seenL_has (i:=i) (a:=(adrs (ns.getD i.toNat default)).getD j.toNat default) (m:=seenN ns i.toNat) (l:=(adrs (ns.getD i.toNat default)).take j.toNat)
  generalize (adrs (ns.getD i.toNat default)).getD j.toNat default=a at ha st q ⊢
  have lt:=seenN_lt ns i.toNat a
  rw [ei] at lt
  intro b hb
  (repeat refine ⟨by simp,?_⟩)
  refine ifP_and (fun x1 x2 => ?_) (fun hno => ?_)
  · have x2:=nd_t x2
    rw [hb,q.1] at x1
    rw [q.2] at x2
    have hn:a ∉ (adrs (ns.getD i.toNat default)).take j.toNat:=fun h=>by rw [if_pos h] at x2;exact x2 rfl
    rw [decide_eq_false hn,Bool.false_or] at x1
    unfold namesV
    rw [if_pos]
    exact List.any_eq_true.2 ⟨i.toNat,List.mem_range.2 (show i.toNat<ns.length by omega),List.any_eq_true.2 ⟨a,ha,x1⟩⟩
  · have hz:mhas a (seenN ns i.toNat)=false:=by
      by_cases hn:a∈(adrs (ns.getD i.toNat default)).take j.toNat
      · exact hJ a hn
      · rw [decide_eq_false hn,Bool.false_or] at q
        rw [if_neg hn] at q
        rcases hno with h|h
        · rw [hb,q.1] at h;exact h
        · have h:=nd_f h
          rw [q.2] at h
          cases hq:mhas a (seenN ns i.toNat) with
          | false=>rfl
          | true=>have:=lt hq;omega
    refine ⟨j+1,⟨by omega,by omega,fun y hy => ?_⟩,by omega,?_⟩
    · rw [st] at hy
      rcases List.mem_append.1 hy with hy|hy
      · exact hJ y hy
      · rw [List.mem_singleton.1 hy];exact hz
    · rw [st,seenL_snoc]
      exact (by repeat' first|exact trivial|refine ⟨trivial,?_⟩|refine ⟨(by with_reducible rfl),?_⟩|refine ⟨w64 (by omega) (by omega),?_⟩|refine ⟨rfl,?_⟩)
theorem ok_topology_names:SpecOK Tryd.prog GL 25 ct_topology_names.spec:=Ct.okH _ Tryd.func25 (by kernel_rfl) (withSpec_ok noSpecs_ok ok_topology_addresses) hmix an_topology_names (hideMp (by kernel_rfl) vc_topology_names)
def otherV (ls:List Link) (k x:Int):Int:=if k<0∨(ls.length:Int)<=k then -1 else if x=lA (ls.getD k.toNat default) then lB (ls.getD k.toNat default) else if x=lB (ls.getD k.toNat default) then lA (ls.getD k.toNat default) else -1
def sizesV (n:Net):Int:=if n.1.length<1∨64<n.1.length∨128<n.2.1.length∨64<n.2.2.length then 5 else 0
def ct_topology_sizes:Ct:=⟨[.agg cNet],[.val cI],fun _=>[],fun d=>((sizesV d.1,()),())⟩
def an_topology_sizes:PDs ct_topology_sizes.ps->Anns:=(fun _=>{})
def Qbu6 (b:List Link) :=
 (b.length:Int)
def Qbu7 (e:Bool) :=
 (! e)->((! e)->(! e))/\True
theorem vc_topology_sizes :
 ∀(a:List Node) (b:List Link) (c:List Change),(Qbu1 a b c)/\True->True-> ∀(d:Bool),d=decide ((Qbu8 a)<1)->((! d)->((! d)->(! d))/\True)/\((! d)->((! d)->(! d))/\True)/\((! d)->((! d)->(! d))/\True)/\(d=false->(! d))/\ ∀(e:Bool),(e=bif d then true else decide (64<(Qbu8 a)))->(Qbu7 e)/\(Qbu7 e)/\(Qbu7 e)/\(e=false->(! e))/\ ∀(f:Bool),(f=bif e then true else decide (128<(Qbu6 b)))->((! f)->((! f)->(! f))/\True)/\((! f)->((! f)->(! f))/\True)/\((! f)->((! f)->(! f))/\True)/\(f=false->(! f))/\ifP (bif f then true else decide (64<(c.length:Int))) ((5:Int)=sizesV (a,b,c)) ((0:Int)=sizesV (a,b,c)):=by
  delta Qbu1 Qbu6 Qbu7 Qbu8
  rintro ns ls hs - -
  (repeat (intro (b_:Bool) (hb_:b_=_);(repeat refine ⟨(by first|(simp;done)|(rw [hb_];simp;done)|(rw [hb_];simp;omega)|(rw [hb_];simp;intros;omega)|(rw [hb_];simp +contextual;done)),?_⟩);subst hb_))
  unfold sizesV
  refine ifP_split (fun h => ?_) (fun h => ?_)
  · simp [Bool.cond_eq_ite] at h
    rw [if_pos (by dsimp only;omega)]
  · simp [Bool.cond_eq_ite] at h
    rw [if_neg (by dsimp only;omega)]
theorem ok_topology_sizes:SpecOK Tryd.prog GL 21 ct_topology_sizes.spec:=Ct.okH _ Tryd.func21 (by kernel_rfl) noSpecs_ok hmix an_topology_sizes (hideMp (by kernel_rfl) vc_topology_sizes)
def ct_topology_links:Ct:=⟨[.agg cNode],[.own 3 cI],fun d=>[(nPorts d.1).length<=100000],fun d=>((pLinks d.1,()),())⟩
def an_topology_links:PDs ct_topology_links.ps->Anns:=(fun d=>{loops:=(fun n=>match n with|3=>some (fun S=>{ι:=Int×(List Int),qn:=⟨fun k_=>∀ (j:Int) (l:(List Int)),k_ (j,l),fun k_ h_ i=>h_ i.1 i.2,fun k_=>∃ (j:Int) (l:(List Int)),k_ (j,l),fun k_ ⟨j,l,h_⟩=>⟨_,h_⟩⟩,μ:=fun i=>((nPorts d.1).length-i.1).toNat,inv:=fun i=>0<=i.1/\i.1<=(nPorts d.1).length/\i.2=(pLinks d.1).take i.1.toNat,keep:=[1,7,8],slots:=fun i=>[(3,.own 524288 1),(9,.int .i64 i.1)],keepN:=[32],names:=fun i=>[(524288,.live (.row 3 cI i.2))]})|_=>none)})
theorem vc_topology_links :
 ∀(a:Node),CT.wf cNode a/\True->List.length (nPorts a)<=(100000:Nat)->(∃(b:Int) (c:List Int),(0<=b/\b<=(Qbu4 a)/\c=List.take b.toNat (pLinks a))/\(Qbu0 a b c))/\ ∀(b:Int) (c:List Int),0<=b/\b<=(Qbu4 a)/\c=List.take b.toNat (pLinks a)->ifP (decide (b<(a.1.length:Int))) (0<=b/\b<(a.1.length:Int)/\(c.length+List.length [(List.getD a.1 b.toNat default).2])*(8:Nat)<=(140737488355328:Nat)/\ ∃(d:Int) (e:List Int),(0<=d/\d<=(Qbu4 a)/\e=List.take d.toNat (pLinks a))/\Int.toNat ((Qbu4 a) -d)<Int.toNat ((Qbu4 a) -b)/\a.1=a.1/\(a.1.length:Int)=(a.1.length:Int)/\IntKind.wrap .i64
 (b+(1:Int))=d/\a.1=a.1/\a.2.1=a.2.1/\a.2.2.1=a.2.2.1/\a.2.2.2.1=a.2.2.2.1/\a.2.2.2.2.1=a.2.2.2.2.1/\a.2.2.2.2.2.1=a.2.2.2.2.2.1/\a.2.2.2.2.2.2.1=a.2.2.2.2.2.2.1/\a.2.2.2.2.2.2.2.1=a.2.2.2.2.2.2.2.1/\a.2.2.2.2.2.2.2.2.1=a.2.2.2.2.2.2.2.2.1/\a.2.2.2.2.2.2.2.2.2.1=a.2.2.2.2.2.2.2.2.2.1/\a.2.2.2.2.2.2.2.2.2.2.1.1=a.2.2.2.2.2.2.2.2.2.2.1.1/\a.2.2.2.2.2.2.2.2.2.2.1.2=a.2.2.2.2.2.2.2.2.2.2.1.2/\a.2.2.2.2.2.2.2.2.2.2.2.1=a.2.2.2.2.2.2.2.2.2.2.2.1/\a.2.2.2.2.2.2.2.2.2.2.2.2.1=a.2.2.2.2.2.2.2.2.2.2.2.2.1/\a.2.2.2.2.2.2.2.2.2.2.2.2.2.1=a.2.2.2.2.2.2.2.2.2.2.2.2.2.1/\a.2.2.2.2.2.2.2.2.2.2.2.2.2.2=a.2.2.2.2.2.2.2.2.2.2.2.2.2.2/\c++[(List.getD a.1 b.toNat default).2]=e/\True) (c=pLinks a):=by
  delta Qbu0 Qbu4
  rintro d-hl
  have hlen:(pLinks d).length=(nPorts d).length:=by simp [pLinks]
  refine ⟨⟨0,[],⟨by omega,by omega,rfl⟩,(by repeat' first|exact trivial|refine ⟨trivial,?_⟩|refine ⟨(by with_reducible rfl),?_⟩|refine ⟨w64 (by omega) (by omega),?_⟩|refine ⟨rfl,?_⟩)⟩,?_⟩
  rintro j l ⟨j0,j1,rfl⟩
  have hd:d.1=nPorts d:=rfl
  rw [hd]
  refine ifP_split (fun hk => ?_) (fun hk => ?_)
  · have hk:=of_decide_eq_true hk
    refine ⟨j0,hk,by simp only [List.length_take,List.length_cons,List.length_nil];omega,j+1,_,⟨by omega,by omega,rfl⟩,by omega,?_⟩
    (repeat first|refine ⟨trivial,?_⟩|refine ⟨(by with_reducible rfl),?_⟩|refine ⟨w64 (by omega) (by omega),?_⟩)
    refine ⟨?_,trivial⟩
    rw [take_step j0 (by rw [hlen];exact hk)]
    unfold pLinks
    rw [List.getD_eq_getElem?_getD,List.getD_eq_getElem?_getD,List.getElem?_map,List.getElem?_eq_getElem (by omega)]
    rfl
  · have hk:=of_decide_eq_false hk
    rw [List.take_of_length_le (by omega)]
theorem ok_topology_links:SpecOK Tryd.prog GL 40 ct_topology_links.spec:=Ct.okH _ Tryd.func40 (by kernel_rfl) noSpecs_ok hmix an_topology_links (hideMp (by kernel_rfl) vc_topology_links)
def ct_topology_Other:Ct:=⟨[.agg cNet,.val cI,.val cI],[.val cI],fun _=>[],fun d=>((otherV d.1.2.1 d.2.1 d.2.2.1,()),())⟩
def an_topology_Other:PDs ct_topology_Other.ps->Anns:=(fun _=>{})
def Qbu3 (b:List Link) (d:Int) :=
 b.getD d.toNat default
theorem vc_topology_Other :
 ∀(a:List Node) (b:List Link) (c:List Change) (d e:Int),((a.length<=maxLen/\ ∀(f:Node),f∈a->CT.wf cNode f)/\(b.length<=maxLen/\ ∀(f:Link),f∈b->CT.wf cLink f)/\c.length<=maxLen/\ ∀(f:Change),f∈c->CT.wf cChange f)/\R64 d/\R64 e/\True->True->ifP (! decide (0<=d/\d<=IntKind.wrap .i64 ((Qbu6 b) -(1:Int)))) ((-1:Int)=otherV b d e) (0<=d/\d<(Qbu6 b)/\ifP (decide (e=(Qbu3 b d).1)) ((Qbu3 b d).2.1=otherV b d e) (ifP (decide (e=(Qbu3 b d).2.1)) ((Qbu3 b d).1=otherV b d e) ((-1:Int)=otherV b d e))):=by
  delta Qbu3 Qbu6
  rintro ns ls hs k x ⟨⟨-,⟨hl,-⟩,-⟩,-⟩ -
  simp only [maxLen] at hl
  rw [w64 (n:=(ls.length:Int)-1) (by omega) (by omega)]
  unfold otherV lA lB
  refine ifP_split (fun h => ?_) (fun h => ?_)
  · have h:=nd_t h
    rw [if_pos (by omega)]
  have h:=nd_f h
  rw [if_neg (by omega)]
  refine ⟨h.1,by omega,ifP_split (fun h1 => ?_) (fun h1 => ?_)⟩
  · rw [if_pos (of_decide_eq_true h1)]
  rw [if_neg (of_decide_eq_false h1)]
  refine ifP_split (fun h2 => ?_) (fun h2 => ?_)
  · rw [if_pos (of_decide_eq_true h2)]
  · rw [if_neg (of_decide_eq_false h2)]
theorem ok_topology_Other:SpecOK Tryd.prog GL 12 ct_topology_Other.spec:=Ct.okH _ Tryd.func12 (by kernel_rfl) (withSpec_ok noSpecs_ok ok_topology_within) hmix an_topology_Other (hideMp (by kernel_rfl) vc_topology_Other)
def deafL (ns:List Node) (l:Link):Bool:=nOpaque (ns.getD (lA l).toNat default)&&nOpaque (ns.getD (lB l).toNat default)
def tunnelsV (n:Net):Int:=if n.2.1.any (deafL n.1) then 13 else 0
def endsOK (n:Net):Prop:=∀ l∈n.2.1,0<=lA l/\lA l<n.1.length/\0<=lB l/\lB l<n.1.length
def ct_topology_tunnels:Ct:=⟨[.agg cNet],[.val cI],fun d=>[endsOK d.1],fun d=>((tunnelsV d.1,()),())⟩
def an_topology_tunnels:PDs ct_topology_tunnels.ps->Anns:=(fun d=>{loops:=(fun n=>match n with|2=>some (fun S=>{ι:=Int,μ:=fun i=>(d.1.2.1.length-i).toNat,inv:=fun i=>0<=i/\i<=d.1.2.1.length∧∀ x∈d.1.2.1.take i.toNat,deafL d.1.1 x=false,keep:=[1,6,7],slots:=fun i=>[(8,.int .i64 i)],keepN:=[32],names:=fun i=>[]})|_=>none)})
theorem vc_topology_tunnels :
 ∀(a:List Node) (b:List Link) (c:List Change),(Qbu1 a b c)/\True->(∀(d:Link),d∈b->0<=lA d/\lA d<(Qbu8 a)/\0<=lB d/\lB d<(Qbu8 a))->(∃(d:Int),(0<=d/\d<=(Qbu6 b)/\ ∀(e:Int×Int×Int×Int×Int×Int),e∈List.take d.toNat b->deafL a e=false)/\b=b/\(Qbu6 b)=(Qbu6 b)/\(0:Int)=d/\a=a/\b=b/\c=c/\True)/\ ∀(d:Int),(0<=d/\d<=(Qbu6 b)/\ ∀(e:Int×Int×Int×Int×Int×Int),e∈List.take d.toNat b->deafL a e=false)->ifP (decide (d<(Qbu6 b))) (0<=d/\d<(Qbu6 b)/\0<=(Qbu3 b d).1/\(Qbu3 b d).1<(Qbu8 a)/\ ∀(e:Bool),e=(a.getD (Int.toNat (Qbu3 b d).1) default).2.2.2.2.2.2.2.2.2.2.2.2.1->(e->(e->e)/\True)/\(e->(e->e)/\True)/\(e->(e->e)/\(e->e)/\0<=(Qbu3 b d).2.1/\(Qbu3 b d).2.1<(Qbu8 a)/\True)/\(e->(e->e)/\True)/\(e->(e->e)/\True)/\(e->e)/\ifP (bif e then (a.getD (Int.toNat (Qbu3 b d).2.1) default).2.2.2.2.2.2.2.2.2.2.2.2.1 else false) ((13:Int)=tunnelsV (a,b,c)) (∃(f:Int),(0<=f/\f<=(Qbu6 b)/\
 ∀(g:Int×Int×Int×Int×Int×Int),g∈List.take f.toNat b->deafL a g=false)/\Int.toNat ((Qbu6 b) -f)<Int.toNat ((Qbu6 b) -d)/\b=b/\(Qbu6 b)=(Qbu6 b)/\IntKind.wrap .i64 (d+(1:Int))=f/\a=a/\b=b/\c=c/\True)) ((0:Int)=tunnelsV (a,b,c)):=by
  delta Qbu1 Qbu3 Qbu6 Qbu8
  rintro ns ls hs ⟨⟨-,⟨hl,-⟩,-⟩,-⟩ he
  simp only [maxLen] at hl
  refine ⟨⟨0,⟨by omega,by omega,by simp⟩,(by repeat' first|exact trivial|refine ⟨trivial,?_⟩|refine ⟨(by with_reducible rfl),?_⟩|refine ⟨w64 (by omega) (by omega),?_⟩|refine ⟨rfl,?_⟩)⟩,?_⟩
  rintro i ⟨i0,i1,hI⟩
  refine ifP_split (fun hi => ?_) (fun hi => ?_)
  rotate_left
  · have hi:=of_decide_eq_false hi
    rw [List.take_of_length_le (by omega)] at hI
    unfold tunnelsV
    rw [if_neg]
    intro h
    obtain ⟨l,h1,h2⟩:=List.any_eq_true.1 h
    rw [hI l h1] at h2;cases h2
  have hi:=of_decide_eq_true hi
  have hm:=getD_mem i0 hi
  have e:=he _ hm
  refine ⟨i0,hi,e.1,e.2.1,?_⟩
  intro b hb
  (repeat first|refine ⟨fun h=>⟨fun _=>h,fun _=>h,e.2.2.1,e.2.2.2,trivial⟩,?_⟩|refine ⟨fun h=>⟨fun _=>h,e.2.2.1,e.2.2.2,trivial⟩,?_⟩|refine ⟨by simp,?_⟩)
  refine ifP_and (fun x1 x2 => ?_) (fun hno => ?_)
  · unfold tunnelsV
    rw [if_pos]
    refine List.any_eq_true.2 ⟨_,hm,?_⟩
    unfold deafL
    rw [Bool.and_eq_true]
    exact ⟨hb.symm.trans x1,x2⟩
  · refine ⟨i+1,⟨by omega,by omega,all_next i0 hi hI ?_⟩,by omega,(by repeat' first|exact trivial|refine ⟨trivial,?_⟩|refine ⟨(by with_reducible rfl),?_⟩|refine ⟨w64 (by omega) (by omega),?_⟩|refine ⟨rfl,?_⟩)⟩
    unfold deafL
    rw [Bool.and_eq_false_iff]
    rcases hno with h|h
    · exact .inl (hb.symm.trans h)
    · exact .inr h
theorem ok_topology_tunnels:SpecOK Tryd.prog GL 26 ct_topology_tunnels.spec:=Ct.okH _ Tryd.func26 (by kernel_rfl) noSpecs_ok hmix an_topology_tunnels (hideMp (by kernel_rfl) vc_topology_tunnels)
def loose (n:Net) (k:Nat):Bool:=decide (portL (n.1.getD (lA (n.2.1.getD k default)).toNat default) k<0)||decide (portL (n.1.getD (lB (n.2.1.getD k default)).toNat default) k<0)
def plugsV (n:Net):Int:=if (List.range n.2.1.length).any (loose n) then 11 else 0
def ct_topology_plugs:Ct:=⟨[.agg cNet],[.val cI],fun d=>[endsOK d.1],fun d=>((plugsV d.1,()),())⟩
def an_topology_plugs:PDs ct_topology_plugs.ps->Anns:=(fun d=>{loops:=(fun n=>match n with|2=>some (fun S=>{ι:=Int,μ:=fun i=>(d.1.2.1.length-i).toNat,inv:=fun i=>0<=i/\i<=d.1.2.1.length∧∀ k:Nat,(k:Int)<i->loose d.1 k=false,keep:=[1,6,7],slots:=fun i=>[(8,.int .i64 i)],keepN:=[32],names:=fun i=>[]})|_=>none)})
theorem vc_topology_plugs :
 ∀(a:List Node) (b:List Link) (c:List Change),(Qbu1 a b c)/\True->(∀(d:Link),d∈b->0<=lA d/\lA d<(Qbu8 a)/\0<=lB d/\lB d<(Qbu8 a))->(∃(d:Int),(0<=d/\d<=(Qbu6 b)/\ ∀(e:Nat),(↑e:Int)<d->loose (a,b,c) e=false)/\b=b/\(Qbu6 b)=(Qbu6 b)/\(0:Int)=d/\a=a/\b=b/\c=c/\True)/\ ∀(d:Int),(0<=d/\d<=(Qbu6 b)/\ ∀(e:Nat),(↑e:Int)<d->loose (a,b,c) e=false)->ifP (decide (d<(Qbu6 b))) (0<=d/\d<(Qbu6 b)/\0<=(Qbu3 b d).1/\(Qbu3 b d).1<(Qbu8 a)/\ ∀(e:Bool),e=decide (portL (a.getD (Int.toNat (Qbu3 b d).1) default) d<0)->(Qbu7 e)/\(Qbu7 e)/\((! e)->((! e)->(! e))/\((! e)->(! e))/\0<=(Qbu3 b d).2.1/\(Qbu3 b d).2.1<(Qbu8 a)/\True)/\(Qbu7 e)/\((! e)->((! e)->(! e))/\((! e)->(! e))/\True)/\(Qbu7 e)/\(e=false->(! e))/\ifP (bif e then true else decide (portL (a.getD (Int.toNat (Qbu3 b d).2.1) default) d<0)) ((11:Int)=plugsV (a,b,c)) (∃(f:Int),(0<=f/\f<=(Qbu6 b)/\ ∀(g:Nat),(↑g:Int)<f->loose (a,b,c) g=false)/\Int.toNat
 ((Qbu6 b) -f)<Int.toNat ((Qbu6 b) -d)/\b=b/\(Qbu6 b)=(Qbu6 b)/\IntKind.wrap .i64 (d+(1:Int))=f/\a=a/\b=b/\c=c/\True)) ((0:Int)=plugsV (a,b,c)):=by
  delta Qbu1 Qbu3 Qbu6 Qbu7 Qbu8
  rintro ns ls hs ⟨⟨-,⟨hl,-⟩,-⟩,-⟩ he
  simp only [maxLen] at hl
  refine ⟨⟨0,⟨by omega,by omega,fun k hk=>by omega⟩,(by repeat' first|exact trivial|refine ⟨trivial,?_⟩|refine ⟨(by with_reducible rfl),?_⟩|refine ⟨w64 (by omega) (by omega),?_⟩|refine ⟨rfl,?_⟩)⟩,?_⟩
  rintro i ⟨i0,i1,hI⟩
  refine ifP_split (fun hi => ?_) (fun hi => ?_)
  rotate_left
  · have hi:=of_decide_eq_false hi
    unfold plugsV
    rw [if_neg]
    intro h
    obtain ⟨k,h1,h2⟩:=List.any_eq_true.1 h
    have h1:k<ls.length:=List.mem_range.1 h1
    rw [hI k (by omega)] at h2;cases h2
  have hi:=of_decide_eq_true hi
  have hm:=getD_mem i0 hi
  have e:=he _ hm
  have ei:((i.toNat:Nat):Int)=i:=by omega
  refine ⟨i0,hi,e.1,e.2.1,?_⟩
  intro b hb
  (repeat first|refine ⟨fun h=>⟨fun _=>h,fun _=>h,e.2.2.1,e.2.2.2,trivial⟩,?_⟩|refine ⟨fun h=>⟨fun _=>h,e.2.2.1,e.2.2.2,trivial⟩,?_⟩|refine ⟨by simp,?_⟩)
  refine ifP_or (fun ho => ?_) (fun x1 x2 => ?_)
  · unfold plugsV
    rw [if_pos]
    refine List.any_eq_true.2 ⟨i.toNat,List.mem_range.2 (show i.toNat<ls.length by omega),?_⟩
    unfold loose
    rw [Bool.or_eq_true,ei]
    rcases ho with h|h
    · exact .inl (hb.symm.trans h)
    · exact .inr h
  · refine ⟨i+1,⟨by omega,by omega,fun k hk => ?_⟩,by omega,(by repeat' first|exact trivial|refine ⟨trivial,?_⟩|refine ⟨(by with_reducible rfl),?_⟩|refine ⟨w64 (by omega) (by omega),?_⟩|refine ⟨rfl,?_⟩)⟩
    by_cases e2:(k:Int)<i
    · exact hI k e2
    · have:k=i.toNat:=by omega
      subst this
      unfold loose
      rw [Bool.or_eq_false_iff,ei]
      exact ⟨hb.symm.trans x1,x2⟩
theorem ok_topology_plugs:SpecOK Tryd.prog GL 24 ct_topology_plugs.spec:=Ct.okH _ Tryd.func24 (by kernel_rfl) (withSpec_ok noSpecs_ok ok_node_PortOf) hmix an_topology_plugs (hideMp (by kernel_rfl) vc_topology_plugs)
def soundL (nn:Nat) (l:Link):Prop:=0<=lA l/\lA l<nn/\0<=lB l/\lB l<nn/\lA l≠lB l/\1<=lDelay l/\lDelay l<=1073741824/\0<=lJitter l/\lJitter l<=1073741824/\0<=lLoss l/\lLoss l<=65536
instance (nn:Nat) (l:Link):Decidable (soundL nn l):=by unfold soundL;infer_instance
def cablesV (n:Net):Int:=if n.2.1.all (fun l=>decide (soundL n.1.length l)) then 0 else 11
def ct_topology_cables:Ct:=⟨[.agg cNet],[.val cI],fun d=>[],fun d=>((cablesV d.1,()),())⟩
def an_topology_cables:PDs ct_topology_cables.ps->Anns:=(fun d=>{loops:=(fun n=>match n with|3=>some (fun S=>{ι:=Int,μ:=fun i=>(d.1.2.1.length-i).toNat,inv:=fun i=>0<=i/\i<=d.1.2.1.length∧∀ x∈d.1.2.1.take i.toNat,soundL d.1.1.length x,keep:=[1,3,11,12],slots:=fun i=>[(13,.int .i64 i)],keepN:=[32],names:=fun i=>[]})|_=>none)})
theorem vc_topology_cables :
 ∀(a:List Node) (b:List Link) (c:List Change),(Qbu1 a b c)/\True->True->(∃(d:Int),(0<=d/\d<=(Qbu6 b)/\ ∀(e:Int×Int×Int×Int×Int×Int),e∈List.take d.toNat b->soundL a.length e)/\IntKind.wrap .i64 ((Qbu8 a) -(1:Int))=IntKind.wrap .i64 ((Qbu8 a) -(1:Int))/\b=b/\(Qbu6 b)=(Qbu6 b)/\(0:Int)=d/\a=a/\b=b/\c=c/\True)/\ ∀(d:Int),(0<=d/\d<=(Qbu6 b)/\ ∀(e:Int×Int×Int×Int×Int×Int),e∈List.take d.toNat b->soundL a.length e)->ifP (decide (d<(Qbu6 b))) (0<=d/\d<(Qbu6 b)/\ ∀(e:Bool),e= ! decide (0<=(Qbu3 b d).1/\(Qbu3 b d).1<=IntKind.wrap .i64 ((Qbu8 a) -(1:Int)))->(Qbu7 e)/\((! e)->((! e)->(! e))/\((! e)->(! e))/\True)/\(Qbu7 e)/\(e=false->(! e))/\ ∀(f:Bool),(f=bif e then true else ! decide (0<=(Qbu3 b d).2.1/\(Qbu3 b d).2.1<=IntKind.wrap .i64 ((Qbu8 a) -(1:Int))))->((! f)->((! f)->(! f))/\True)/\((! f)->((! f)->(! f))/\True)/\((! f)->((! f)->(! f))/\((! f)->(! f))/\True)/\(f=false->(! f))/\ ∀(g:Bool),(g=bif
 f then true else decide ((Qbu3 b d).1=(Qbu3 b d).2.1))->((! g)->((! g)->(! g))/\True)/\((! g)->((! g)->(! g))/\True)/\((! g)->((! g)->(! g))/\True)/\(g=false->(! g))/\ ∀(h:Bool),(h=bif g then true else ! decide (1<=(Qbu3 b d).2.2.1/\(Qbu3 b d).2.2.1<=1073741824))->((! h)->((! h)->(! h))/\True)/\((! h)->((! h)->(! h))/\True)/\((! h)->((! h)->(! h))/\True)/\(h=false->(! h))/\ ∀(i:Bool),(i=bif h then true else ! decide (0<=(Qbu3 b d).2.2.2.1/\(Qbu3 b d).2.2.2.1<=1073741824))->((! i)->((! i)->(! i))/\True)/\((! i)->((! i)->(! i))/\True)/\((! i)->((! i)->(! i))/\True)/\(i=false->(! i))/\ifP (bif i then true else ! decide (0<=(Qbu3 b d).2.2.2.2.1/\(Qbu3 b d).2.2.2.2.1<=65536)) ((11:Int)=cablesV (a,b,c)) (∃(j:Int),(0<=j/\j<=(Qbu6 b)/\ ∀(k:Int×Int×Int×Int×Int×Int),k∈List.take j.toNat b->soundL a.length k)/\Int.toNat ((Qbu6 b) -j)<Int.toNat ((Qbu6 b) -d)/\IntKind.wrap .i64 ((Qbu8 a)
 -(1:Int))=IntKind.wrap .i64 ((Qbu8 a) -(1:Int))/\b=b/\(Qbu6 b)=(Qbu6 b)/\IntKind.wrap .i64 (d+(1:Int))=j/\a=a/\b=b/\c=c/\True)) ((0:Int)=cablesV (a,b,c)):=by
  delta Qbu1 Qbu3 Qbu6 Qbu7 Qbu8
  rintro ns ls hs ⟨⟨⟨hnl,-⟩,⟨hl,-⟩,-⟩,-⟩ -
  simp only [maxLen] at hl hnl
  rw [w64 (n:=(ns.length:Int)-1) (by omega) (by omega)]
  refine ⟨⟨0,⟨by omega,by omega,by simp⟩,(by repeat' first|exact trivial|refine ⟨trivial,?_⟩|refine ⟨(by with_reducible rfl),?_⟩|refine ⟨w64 (by omega) (by omega),?_⟩|refine ⟨rfl,?_⟩)⟩,?_⟩
  rintro i ⟨i0,i1,hI⟩
  refine ifP_split (fun hi => ?_) (fun hi => ?_)
  rotate_left
  · have hi:=of_decide_eq_false hi
    rw [List.take_of_length_le (by omega)] at hI
    unfold cablesV
    rw [if_pos]
    exact List.all_eq_true.2 fun l hl=>decide_eq_true (hI l hl)
  have hi:=of_decide_eq_true hi
  have hm:=getD_mem i0 hi
  refine ⟨i0,hi,?_⟩
  have key:soundL ns.length (ls.getD i.toNat default)↔((0<=(ls.getD i.toNat default).1/\(ls.getD i.toNat default).1<=(ns.length:Int)-1)/\(0<=(ls.getD i.toNat default).2.1/\(ls.getD i.toNat default).2.1<=(ns.length:Int)-1)∧¬ (ls.getD i.toNat default).1=(ls.getD i.toNat default).2.1/\(1<=(ls.getD i.toNat default).2.2.1/\(ls.getD i.toNat default).2.2.1<=1073741824)/\(0<=(ls.getD i.toNat default).2.2.2.1/\(ls.getD i.toNat default).2.2.2.1<=1073741824)/\(0<=(ls.getD i.toNat default).2.2.2.2.1/\(ls.getD i.toNat default).2.2.2.2.1<=65536)):=by
    unfold soundL lA lB lDelay lJitter lLoss
    omega
  have okN:=fun h=>all_next i0 hi hI (P:=soundL ns.length) h
  generalize ls.getD i.toNat default=l at hm key okN ⊢
  generalize hA:decide (0<=l.1/\l.1<=(ns.length:Int)-1)=bA
  generalize hB:decide (0<=l.2.1/\l.2.1<=(ns.length:Int)-1)=bB
  generalize hC:decide (l.1=l.2.1)=bC
  generalize hD:decide (1<=l.2.2.1/\l.2.2.1<=1073741824)=bD
  generalize hE:decide (0<=l.2.2.2.1/\l.2.2.2.1<=1073741824)=bE
  generalize hF:decide (0<=l.2.2.2.2.1/\l.2.2.2.2.1<=65536)=bF
  have key2:soundL ns.length l↔(bA=true/\bB=true/\bC=false/\bD=true/\bE=true/\bF=true):=by
    rw [key,← hA,← hB,← hC,← hD,← hE,← hF]
    simp only [decide_eq_true_eq,decide_eq_false_iff_not]
  have bad:¬ soundL ns.length l->(11:Int)=cablesV (ns,ls,hs):=fun h=>by
    unfold cablesV
    rw [if_neg]
    intro k
    exact h (of_decide_eq_true (List.all_eq_true.1 k l hm))
  intro b1 hb1
  (repeat refine ⟨by simp,?_⟩)
  intro b2 hb2
  (repeat refine ⟨by simp,?_⟩)
  intro b3 hb3
  (repeat refine ⟨by simp,?_⟩)
  intro b4 hb4
  (repeat refine ⟨by simp,?_⟩)
  intro b5 hb5
  (repeat refine ⟨by simp,?_⟩)
  have tot:(bif b5 then true else !bF) = !(bA&&bB && !bC&&bD&&bE&&bF):=by
    rw [hb5,hb4,hb3,hb2,hb1]
    cases bA <;> cases bB <;> cases bC <;> cases bD <;> cases bE <;> cases bF <;> rfl
  rw [tot]
  refine ifP_split (fun h=>bad fun k => ?_) (fun h => ?_)
  · obtain ⟨a1,a2,a3,a4,a5,a6⟩:=key2.1 k
    rw [a1,a2,a3,a4,a5,a6] at h;cases h
  · have h2:soundL ns.length l:=key2.2 (by
      clear tot hb1 hb2 hb3 hb4 hb5 key2 hA hB hC hD hE hF
      revert h
      cases bA <;> cases bB <;> cases bC <;> cases bD <;> cases bE <;> cases bF <;> decide)
    exact ⟨i+1,⟨by omega,by omega,okN h2⟩,by omega,(by repeat' first|exact trivial|refine ⟨trivial,?_⟩|refine ⟨(by with_reducible rfl),?_⟩|refine ⟨w64 (by omega) (by omega),?_⟩|refine ⟨rfl,?_⟩)⟩
theorem ok_topology_cables:SpecOK Tryd.prog GL 22 ct_topology_cables.spec:=Ct.okH _ Tryd.func22 (by kernel_rfl) (withSpec_ok noSpecs_ok ok_topology_within) hmix an_topology_cables (hideMp (by kernel_rfl) vc_topology_cables)
end Go.RS

/- Topod: what the errors of networks, their parts and their routes at a time are: plain. -/
namespace Go.RS
open Go.SX Go.Proofs
set_option maxRecDepth 100000
set_option linter.unusedVariables false
theorem chk_is {links:List Int}:∀ {l:List Rt} {q:Option Pfx},chk links q l=0->sortedR l/\(∀ p,q=some p→∀ r∈l,plt p r.1)∧∀ r∈l,pValid r.1=true/\rightR r links
  | [],q,_=>⟨List.Pairwise.nil,fun _ _ r hr=>(by cases hr),fun r hr=>(by cases hr)⟩
  | r::l,q,h=>by
    rw [chk] at h
    split at h
    · cases h
    rename_i h1
    split at h
    · cases h
    rename_i h2
    split at h
    · cases h
    rename_i h3
    obtain ⟨i1,i2,i3⟩:=chk_is h
    have hv:pValid r.1=true:=by cases hh:pValid r.1 <;> simp_all
    have hp:∀ p,q=some p->plt p r.1:=fun p hp=>by
      subst hp
      rw [Option.any_some] at h2
      have:¬ (0<=pcmp p r.1):=by simpa using h2
      exact pcmp_neg.1 (by omega)
    refine ⟨List.pairwise_cons.2 ⟨i2 _ rfl,i1⟩,fun p e z hz => ?_,fun z hz => ?_⟩
    · rcases List.mem_cons.1 hz with rfl|hz
      · exact hp p e
      · exact plt_trans (hp p e) (i2 _ rfl z hz)
    · rcases List.mem_cons.1 hz with rfl|hz
      · exact ⟨hv,Classical.byContradiction h3⟩
      · exact i3 z hz
theorem check_is {l:List Rt} {links:List Int} (h:check l links=0):sortedR l/\l.length<=64∧∀ r∈l,pValid r.1=true/\rightR r links:=by
  unfold check at h
  split at h
  · cases h
  · rename_i hl
    have k:=chk_is h
    exact ⟨k.1,by omega,k.2.2⟩
theorem check_okL {l:List Rt} {links:List Int} (h:check l links=0):sortedR l/\okL l:=by
  obtain ⟨h1,h2,h3⟩:=check_is h
  exact ⟨h1,by omega,fun r hr=>by have:=(h3 r hr).2.1.1;omega⟩
def hAt (c:Change):Int:=c.1
def hWho (c:Change):Int:=c.2.1
def hRem (c:Change):Bool:=c.2.2.1
def hRoute (c:Change):Rt:=c.2.2.2
def hop (a b:Int):Int:=if a≠0 then a else b
def strayL (n:Net) (i:Nat) (k:Int):Bool:=decide ((n.2.1.length:Int)<=k) || !(decide (lA (n.2.1.getD k.toNat default)=i)||decide (lB (n.2.1.getD k.toNat default)=i))
def boxV (n:Net) (i:Nat):Int :=
  if nodeV (n.1.getD i default)≠0 then nodeV (n.1.getD i default)
  else if (pLinks (n.1.getD i default)).any (strayL n i) then 11 else 0
def boxesV (n:Net):Int:=first (boxV n) n.1.length
def chV (l:List Rt) (c:Change):List Rt:=if hRem c=true then removeL l (hRoute c).1 else putL l (hRoute c)
def tabsV (n:Net):Nat->List (List Rt)
  | 0=>n.1.map nRoutes
  | i+1=>(tabsV n i).set (hWho (n.2.2.getD i default)).toNat (chV ((tabsV n i).getD (hWho (n.2.2.getD i default)).toNat default) (n.2.2.getD i default))
def scrC (n:Net) (i:Nat) (c p:Change) (l:List Rt):Int :=
  if hAt c<0∨1125899906842624<hAt c then 1
  else if 0<i/\hAt c<hAt p then 6
  else if hWho c<0∨(n.1.length:Int)<=hWho c then 8
  else if hRem c=true/\hasL l (hRoute c).1=false then 8
  else check (chV l c) (pLinks (n.1.getD (hWho c).toNat default))
def scrV (n:Net) (i:Nat):Int:=scrC n i (n.2.2.getD i default) (n.2.2.getD (i-1) default) ((tabsV n i).getD (hWho (n.2.2.getD i default)).toNat default)
def scriptV (n:Net):Int:=first (scrV n) n.2.2.length
def checkV (n:Net):Int:=hop (sizesV n) (hop (cablesV n) (hop (boxesV n) (hop (plugsV n) (hop (namesV n) (hop (tunnelsV n) (scriptV n))))))
theorem cables_ends {n:Net} (h:cablesV n=0):endsOK n:=fun l hl=>by
  unfold cablesV at h
  split at h
  · rename_i k
    have k:=of_decide_eq_true (List.all_eq_true.1 k l hl)
    exact ⟨k.1,k.2.1,k.2.2.1,k.2.2.2.1⟩
  · cases h
theorem getD_memN {α:Type} [Inhabited α] {xs:List α} {i:Nat} (h:i<xs.length):xs.getD i default∈xs:=by
  have:=getD_mem (xs:=xs) (i:=(i:Nat)) (by omega) (by omega)
  simpa using this
theorem node_links0 {x:Node} (h:first (portBad x) (nPorts x).length=0):∀ k∈pLinks x,0<=k:=fun k hk=>by
  obtain ⟨q,hq,rfl⟩:=List.mem_map.1 hk
  obtain ⟨i,hi,e⟩:=List.mem_iff_getElem.1 hq
  have k1:=first_zero h i hi
  unfold portBad at k1
  rw [List.getD_eq_getElem?_getD,List.getElem?_eq_getElem hi,Option.getD_some,e] at k1
  split at k1
  · cases k1
  split at k1
  · cases k1
  rename_i h2
  show 0<=q.2
  omega
structure NV (x:Node):Prop where
  len:(nPorts x).length<=32
  pos:0<(nPorts x).length
  bad:first (portBad x) (nPorts x).length=0
  loop:¬ loopBad x
  form:¬ formBad x
  tab:check (nRoutes x) (pLinks x)=0
theorem node_is {x:Node} (h:nodeV x=0):NV x:=by
  unfold nodeV at h
  split at h
  · cases h
  rename_i h1
  split at h
  · rename_i k;exact absurd h k
  rename_i h2
  split at h
  · cases h
  rename_i h3
  split at h
  · cases h
  rename_i h4
  split at h
  · rename_i k;exact absurd h k
  split at h
  · rename_i k;exact absurd h k
  refine ⟨by omega,?_,by omega,h3,h4,h⟩
  unfold formBad at h4
  omega
theorem boxes_node {n:Net} (h:boxesV n=0) {i:Nat} (hi:i<n.1.length):NV (n.1.getD i default):=by
  have k:=first_zero h i hi
  unfold boxV at k
  split at k
  · rename_i e;exact absurd k e
  · rename_i e;exact node_is (by omega)
theorem boxes_mem {n:Net} (h:boxesV n=0):∀ x∈n.1,NV x:=fun x hx=>by
  obtain ⟨i,hi,e⟩:=List.mem_iff_getElem.1 hx
  have:=boxes_node h hi
  rw [List.getD_eq_getElem?_getD,List.getElem?_eq_getElem hi,e] at this;exact this
structure TB (n:Net) (t:List (List Rt)):Prop where
  len:t.length=n.1.length
  r:∀ i:Nat,i<n.1.length->sortedR (t.getD i default)/\okL (t.getD i default)
theorem getD_map' {α β:Type} [Inhabited α] [Inhabited β] {f:α->β} {l:List α} {i:Nat} (h:i<l.length):(l.map f).getD i default=f (l.getD i default):=by
  rw [List.getD_eq_getElem?_getD,List.getD_eq_getElem?_getD,List.getElem?_map,List.getElem?_eq_getElem h];rfl
theorem tabs_len (n:Net):∀ i:Nat,(tabsV n i).length=n.1.length
  | 0=>by simp [tabsV]
  | i+1=>by rw [tabsV,List.length_set,tabs_len n i]
theorem tabs_ok {n:Net} (hb:boxesV n=0):∀ {i:Nat},first (scrV n) i=0->TB n (tabsV n i)
  | 0,_=>⟨tabs_len n 0,fun i hi=>by
    rw [tabsV,getD_map' hi]
    exact check_okL (boxes_node hb hi).tab⟩
  | i+1,h=>by
    have h0:first (scrV n) i=0:=by
      by_cases e:first (scrV n) i=0
      · exact e
      · rw [first,if_pos e] at h;exact h
    have k:=tabs_ok hb h0
    have hz:scrV n i=0:=first_zero h i (by omega)
    refine ⟨tabs_len n _,fun j hj => ?_⟩
    rw [tabsV]
    unfold scrV scrC at hz
    generalize n.2.2.getD i default=c at hz ⊢
    split at hz
    · cases hz
    split at hz
    · cases hz
    split at hz
    · cases hz
    rename_i hw
    split at hz
    · cases hz
    by_cases e:(hWho c).toNat=j
    · subst e
      rw [getD_set (by rw [k.len];exact hj)]
      exact check_okL hz
    · rw [getD_setne e];exact k.r j hj
def stepC (who at':Int) (l:List Rt) (c:Change):List Rt:=if hWho c=who/\hAt c<=at' then chV l c else l
def routesK (n:Net) (who at':Int) (k:Int):List Rt:=(n.2.2.take k.toNat).foldl (stepC who at') (nRoutes (n.1.getD who.toNat default))
def routesV (n:Net) (who at':Int):List Rt:=if who<0∨(n.1.length:Int)<=who then [] else routesK n who at' n.2.2.length
structure okTb (m:Nat) (l:List Rt):Prop where
  s:sortedR l
  n:l.length<=m
  x:∀ r∈l,(r.2.1.length:Int)<=1099511627776
theorem okTb.okL {m:Nat} {l:List Rt} (h:okTb m l) (hm:m<=100000):okL l:=⟨by have:=h.n;omega,h.x⟩
theorem portA_nonneg {x:Node} {a:Int}:0<=portA x a↔a∈pAddrs x:=by
  unfold portA findP
  constructor
  · intro h
    split at h
    · rename_i k
      have:=List.findIdx_getElem (w:=k)
      exact List.mem_map.2 ⟨_,List.getElem_mem k,of_decide_eq_true this⟩
    · omega
  · intro h
    obtain ⟨q,hq,rfl⟩:=List.mem_map.1 h
    have:(nPorts x).findIdx (isA q.1)<(nPorts x).length:=List.findIdx_lt_length_of_exists ⟨q,hq,by unfold isA;simp⟩
    rw [if_pos this];omega
theorem ownsA_iff {x:Node} {a:Int}:ownsA x a=true↔a∈adrs x:=by
  unfold ownsA adrs
  rw [Bool.or_eq_true,Bool.and_eq_true,decide_eq_true_iff,portA_nonneg,List.mem_append]
  refine or_congr Iff.rfl ?_
  by_cases h:nLoop x=0
  · rw [if_pos h];simp [h]
  · rw [if_neg h];simp [h];exact eq_comm
end Go.RS

/- Topo2: networks: the program's check of all, finding, and routes at a time. -/
namespace Go.RS
open Go.SX Go.Proofs
set_option maxRecDepth 100000
set_option linter.unusedVariables false
def idxI {α:Type} (q:α->Bool) (l:List α):Int:=if l.findIdx q<l.length then (l.findIdx q:Int) else -1
theorem idxI_any {α:Type} {q:α->Bool} {l:List α}:decide (0<=idxI q l)=l.any q:=by
  unfold idxI
  cases h:l.any q with
  | true =>
    rw [if_pos (List.findIdx_lt_length_of_exists (by simpa using h))]
    exact decide_eq_true (by omega)
  | false =>
    have:l.findIdx q=l.length:=List.findIdx_eq_length_of_false (by simpa using h)
    rw [if_neg (by omega)];rfl
theorem hop_t {a b:Int} (h:a≠0):a=hop a b:=by unfold hop;rw [if_pos h]
theorem hop_f {a b:Int} (h:a=0):hop a b=b:=by unfold hop;rw [if_neg (fun k=>k h)]
def ct_topology_boxes:Ct:=⟨[.agg cNet],[.val cI],fun d=>[],fun d=>((boxesV d.1,()),())⟩
def an_topology_boxes:PDs ct_topology_boxes.ps->Anns:=(fun d=>{loops:=(fun n=>match n with|2=>some (fun S=>{ι:=Int,μ:=fun i=>(d.1.1.length-i).toNat,inv:=fun i=>0<=i/\i<=d.1.1.length/\first (boxV d.1) i.toNat=0,keep:=[1,9,10],slots:=fun i=>[(11,.int .i64 i)],keepN:=[32],names:=fun i=>[]})|8=>some (fun S=>{ι:=Int,μ:=fun i=>((pLinks (d.1.1.getD (S.i 11).toNat default)).length-i).toNat,inv:=fun i=>0<=i/\i<=(pLinks (d.1.1.getD (S.i 11).toNat default)).length∧∀ k∈(pLinks (d.1.1.getD (S.i 11).toNat default)).take i.toNat,strayL d.1 (S.i 11).toNat k=false,keep:=[1,3,9,10,11,22,23],slots:=fun i=>[(24,.int .i64 i)],keepN:=[32,368],names:=fun i=>[]})|_=>none)})
def Qbw6 (a:List Node) :=
 (a.length:Int)
def Qbw1 (a:List Node) (d:Int) :=
 pLinks (a.getD d.toNat default)
def Qbw4 (a:List Node) (b:List Link) (c:List Change) :=
 (a.length<=maxLen/\ ∀(d:Node),d∈a->CT.wf cNode d)/\(b.length<=maxLen/\ ∀(d:Link),d∈b->CT.wf cLink d)/\c.length<=maxLen/\ ∀(d:Change),d∈c->CT.wf cChange d
def Qbw5 (a:List Node) (d:Int) :=
 ((List.length (Qbw1 a d)):Int)
theorem vc_topology_boxes :
 ∀(a:List Node) (b:List Link) (c:List Change),(Qbw4 a b c)/\True->True->(∃(d:Int),(0<=d/\d<=(Qbw6 a)/\first (boxV (a,b,c)) d.toNat=0)/\a=a/\(Qbw6 a)=(Qbw6 a)/\(0:Int)=d/\a=a/\b=b/\c=c/\True)/\ ∀(d:Int),0<=d/\d<=(Qbw6 a)/\first (boxV (a,b,c)) d.toNat=0->ifP (decide (d<(Qbw6 a))) (0<=d/\d<(Qbw6 a)/\ifP (! decide (nodeV (a.getD d.toNat default)=0)) (nodeV (a.getD d.toNat default)=boxesV (a,b,c)) (List.length (nPorts (a.getD d.toNat default))<=(100000:Nat)/\(∃(e:Int),(0<=e/\e<=(Qbw5 a d)/\ ∀(f:Int),f∈List.take e.toNat (Qbw1 a d)->strayL (a,b,c) d.toNat f=false)/\d=d/\a=a/\(Qbw6 a)=(Qbw6 a)/\d=d/\(Qbw5 a d)=(Qbw5 a d)/\(0:Int)=e/\a=a/\b=b/\c=c/\pLinks (a.getD d.toNat default)=pLinks (a.getD d.toNat default)/\True)/\ ∀(e:Int),(0<=e/\e<=(Qbw5 a d)/\ ∀(f:Int),f∈List.take e.toNat (Qbw1 a d)->strayL (a,b,c) d.toNat f=false)->ifP (decide (e<(Qbw5 a d))) (0<=e/\e<(Qbw5 a d)/\ ∀(f:Bool),f=decide
 ((b.length:Int)<=List.getD (Qbw1 a d) e.toNat default)->((! f)->((! f)->(! f))/\True)/\((! f)->((! f)->(! f))/\((! f)->(! f))/\0<=List.getD (Qbw1 a d) e.toNat default/\List.getD (Qbw1 a d) e.toNat default<(b.length:Int)/\True)/\((! f)->((! f)->(! f))/\True)/\((! f)->((! f)->(! f))/\True)/\((! f)->((! f)->(! f))/\((! f)->(! f))/\True)/\((! f)->((! f)->(! f))/\True)/\ ∀(g:Bool),g= ! decide ((b.getD (Int.toNat (List.getD (Qbw1 a d) e.toNat default)) default).1=d)->((! f&&g)->((! f&&g)->(! f&&g))/\True)/\((! f&&g)->((! f&&g)->(! f&&g))/\((! f&&g)->(! f&&g))/\0<=List.getD (Qbw1 a d) e.toNat default/\List.getD (Qbw1 a d) e.toNat default<(b.length:Int)/\True)/\((! f&&g)->((! f&&g)->(! f&&g))/\True)/\((! f&&g)->((! f&&g)->(! f&&g))/\True)/\((! f&&g)->((! f&&g)->(! f&&g))/\((! f&&g)->(! f&&g))/\True)/\((! f)->((! f)->(! f))/\(g->(! f&&g))/\True)/\(f=false->(! f))/\ifP (bif f then true else bif g
 then ! decide ((b.getD (Int.toNat (List.getD (Qbw1 a d) e.toNat default)) default).2.1=d) else false) ((11:Int)=boxesV (a,b,c)) (∃(h:Int),(0<=h/\h<=(Qbw5 a d)/\ ∀(i:Int),i∈List.take h.toNat (Qbw1 a d)->strayL (a,b,c) d.toNat i=false)/\Int.toNat ((Qbw5 a d) -h)<Int.toNat ((Qbw5 a d) -e)/\d=d/\a=a/\(Qbw6 a)=(Qbw6 a)/\d=d/\(Qbw5 a d)=(Qbw5 a d)/\IntKind.wrap .i64 (e+(1:Int))=h/\a=a/\b=b/\c=c/\pLinks (a.getD d.toNat default)=pLinks (a.getD d.toNat default)/\True)) (∃(f:Int),(0<=f/\f<=(Qbw6 a)/\first (boxV (a,b,c)) f.toNat=0)/\Int.toNat ((Qbw6 a) -f)<Int.toNat ((Qbw6 a) -d)/\a=a/\(Qbw6 a)=(Qbw6 a)/\IntKind.wrap .i64 (d+(1:Int))=f/\a=a/\b=b/\c=c/\True))) ((0:Int)=boxesV (a,b,c)):=by
  delta Qbw1 Qbw4 Qbw5 Qbw6
  rintro ns ls hs ⟨⟨⟨hnl,-⟩,⟨hl,-⟩,-⟩,-⟩ -
  simp only [maxLen] at hl hnl
  refine ⟨⟨0,⟨by omega,by omega,rfl⟩,(by repeat' first|exact trivial|refine ⟨trivial,?_⟩|refine ⟨(by with_reducible rfl),?_⟩|refine ⟨w64 (by omega) (by omega),?_⟩|refine ⟨rfl,?_⟩)⟩,?_⟩
  rintro i ⟨i0,i1,hf⟩
  refine ifP_split (fun hi => ?_) (fun hi => ?_)
  rotate_left
  · have hi:=of_decide_eq_false hi
    rw [show i.toNat=ns.length by omega] at hf
    exact hf.symm
  have hi:=of_decide_eq_true hi
  have ei:((i.toNat:Nat):Int)=i:=by omega
  have hit:=fun h=>first_hit (f:=boxV (ns,ls,hs)) (n:=ns.length) i0 hi hf h
  refine ⟨i0,hi,ifP_split (fun h => ?_) (fun h => ?_)⟩
  · have h:=nd_t h
    have e:boxV (ns,ls,hs) i.toNat=nodeV (ns.getD i.toNat default):=if_pos h
    have k:=hit (by rw [e];exact h)
    rw [e] at k;exact k
  have h:=nd_f h
  have nv:=node_is h
  have k0:=node_links0 nv.bad
  have hlen:(pLinks (ns.getD i.toNat default)).length=(nPorts (ns.getD i.toNat default)).length:=by simp [pLinks]
  have n32:=nv.len
  refine ⟨by omega,⟨0,⟨by omega,by omega,by simp⟩,(by repeat' first|exact trivial|refine ⟨trivial,?_⟩|refine ⟨(by with_reducible rfl),?_⟩|refine ⟨w64 (by omega) (by omega),?_⟩|refine ⟨rfl,?_⟩)⟩,?_⟩
  rintro j ⟨j0,j1,hj⟩
  refine ifP_split (fun hk => ?_) (fun hk => ?_)
  rotate_left
  · have hk:=of_decide_eq_false hk
    rw [List.take_of_length_le (by omega)] at hj
    refine ⟨i+1,⟨by omega,by omega,first_next i0 hf ?_⟩,by omega,(by repeat' first|exact trivial|refine ⟨trivial,?_⟩|refine ⟨(by with_reducible rfl),?_⟩|refine ⟨w64 (by omega) (by omega),?_⟩|refine ⟨rfl,?_⟩)⟩
    unfold boxV
    rw [if_neg (fun q=>q h),if_neg]
    intro q
    obtain ⟨k,hk,q⟩:=List.any_eq_true.1 q
    rw [hj k hk] at q;cases q
  have hk:=of_decide_eq_true hk
  have hm:=getD_mem j0 hk
  have okN:=fun h=>all_next j0 hk hj h (P:=fun k=>strayL (ns,ls,hs) i.toNat k=false)
  have kk:=k0 _ hm
  refine ⟨j0,hk,?_⟩
  generalize (pLinks (ns.getD i.toNat default)).getD j.toNat default=k at hm okN kk ⊢
  intro b hb
  (repeat refine ⟨(by first|(simp;done)|exact fun h=>⟨fun _=>h,fun _=>h,kk,by rw [hb] at h;have:=nd_t h;omega,trivial⟩),?_⟩)
  intro b1 hb1
  (repeat refine ⟨(by first|(simp;done)|(simp +contextual;done)|exact fun h=>⟨fun _=>h,fun _=>h,kk,by rw [hb] at h;have:=nd_t (Bool.and_eq_true_iff.1 h).1;omega,trivial⟩),?_⟩)
  have tot:(bif b then true else bif b1 then !decide ((ls.getD k.toNat default).2.1=i) else false)=strayL (ns,ls,hs) i.toNat k:=by
    rw [hb,hb1]
    unfold strayL lA lB
    rw [ei]
    cases decide ((ls.length:Int)<=k) <;> cases decide ((ls.getD k.toNat default).1=i) <;> cases decide ((ls.getD k.toNat default).2.1=i) <;> rfl
  rw [tot]
  refine ifP_split (fun ht => ?_) (fun ht => ?_)
  · have e:boxV (ns,ls,hs) i.toNat=11:=by
      unfold boxV
      rw [if_neg (fun q=>q h),if_pos (List.any_eq_true.2 ⟨_,hm,ht⟩)]
    have q:=hit (by rw [e];decide)
    rw [e] at q;exact q
  · exact ⟨j+1,⟨by omega,by omega,okN ht⟩,by omega,(by repeat' first|exact trivial|refine ⟨trivial,?_⟩|refine ⟨(by with_reducible rfl),?_⟩|refine ⟨w64 (by omega) (by omega),?_⟩|refine ⟨rfl,?_⟩)⟩
theorem ok_topology_boxes:SpecOK Tryd.prog GL 23 ct_topology_boxes.spec:=Ct.okH _ Tryd.func23 (by kernel_rfl) (withSpec_ok (withSpec_ok noSpecs_ok ok_node_Check) ok_topology_links) hmix an_topology_boxes (hideMp (by kernel_rfl) vc_topology_boxes)
def ct_topology_changed:Ct:=⟨[.val (.sl cRt),.agg cChange],[.own 49 cRt],fun d=>[sortedR d.1,okL d.1,((hRoute d.2.1).2.1.length:Int)<=1099511627776],fun d=>((chV d.1 d.2.1,()),())⟩
def an_topology_changed:PDs ct_topology_changed.ps->Anns:=(fun _=>{})
def Qbw3 (a:List Route) :=
 a.length<=maxLen/\ ∀(c:Route),c∈a->((0<=c.1.1/\c.1.1<=4294967295)/\R64 c.1.2)/\(c.2.1.length<=maxLen/\ ∀(d:Int),d∈c.2.1->R64 d)/\R64 c.2.2
theorem vc_topology_changed :
 ∀(a:List Route) (b:Change),(Qbw3 a)/\CT.wf cChange b/\True->sortedR a/\okL a/\((List.length (hRoute b).2.1):Int)<=1099511627776->ifP b.2.2.1 (sortedR a/\okL a/\removeL a b.2.2.2.1=chV a b) (sortedR a/\okL a/\(b.2.2.2.2.1.length:Int)<=1099511627776/\putL a b.2.2.2=chV a b):=by
  delta Qbw3
  rintro l c-⟨hs,hl,hx⟩
  unfold chV
  rw [show c.2.2.1=hRem c from rfl]
  refine ifP_split (fun h=>⟨hs,hl,?_⟩) (fun h=>⟨hs,hl,hx,?_⟩)
  · rw [if_pos h];rfl
  · rw [if_neg (by rw [h];decide)];rfl
theorem ok_topology_changed:SpecOK Tryd.prog GL 45 ct_topology_changed.spec:=Ct.okH _ Tryd.func45 (by kernel_rfl) (withSpec_ok (withSpec_ok noSpecs_ok ok_fib_Put) ok_fib_Remove) hmix an_topology_changed (hideMp (by kernel_rfl) vc_topology_changed)
def samePfx (p:Pfx) (r:Rt):Bool:=decide (r.1=p)
def ct_topology_script_1:Ct:=⟨[.agg cRt,.box 70 cChange],[.val .bool],fun _=>[],fun d=>((samePfx (hRoute d.2.1).1 d.1,()),(d.2.1,()))⟩
def an_topology_script_1:PDs ct_topology_script_1.ps->Anns:=(fun _=>{})
theorem vc_topology_script_1 :
 ∀(a b:Int) (c:List Int) (d:Int) (e:Change),(((0<=a/\a<=4294967295)/\R64 b)/\(c.length<=maxLen/\ ∀(f:Int),f∈c->R64 f)/\R64 d)/\CT.wf cChange e/\True->True->(decide (a=e.2.2.2.1.1)&&(decide (b=e.2.2.2.1.2)&&true))=samePfx (hRoute e).1 ((a,b),c,d)/\e=e:=by
  rintro a n nx b c - -
  refine ⟨?_,rfl⟩
  rw [Bool.eq_iff_iff];simp [samePfx,Prod.ext_iff,hRoute]
theorem ok_topology_script_1:SpecOK Tryd.prog GL 44 ct_topology_script_1.spec:=Ct.okH _ Tryd.func44 (by kernel_rfl) noSpecs_ok hmix an_topology_script_1 (hideMp (by kernel_rfl) vc_topology_script_1)
def ct_IndexPfx:Ct:=⟨[.val (.sl cRt),.fn 44 1,.box 70 cChange],[.val cI],fun _=>[],fun d=>((idxI (samePfx (hRoute d.2.2.1).1) d.1,()),(d.2.2.1,()))⟩
def an_IndexPfx:PDs ct_IndexPfx.ps->Anns:=(fun d=>{loops:=(fun n=>match n with|2=>some (fun S=>{ι:=Int,μ:=fun i=>(d.1.length-i).toNat,inv:=fun i=>0<=i/\i<=d.1.length∧∀ x∈d.1.take i.toNat,samePfx (hRoute d.2.2.1).1 x=false,keep:=[0,1,6,7],slots:=fun i=>[(8,.int .i64 i)],keepN:=[1048576],names:=fun i=>[]})|_=>none)})
def Qbw7 (b:Change) :=
 b.1=b.1/\b.2.1=b.2.1/\b.2.2.1=b.2.2.1/\b.2.2.2.1.1=b.2.2.2.1.1/\b.2.2.2.1.2=b.2.2.2.1.2/\b.2.2.2.2.1=b.2.2.2.2.1/\b.2.2.2.2.2=b.2.2.2.2.2/\True
theorem vc_IndexPfx :
 ∀(a:List Route) (b:Change),(Qbw3 a)/\True/\CT.wf cChange b/\True->True->(∃(c:Int),(0<=c/\c<=(a.length:Int)/\ ∀(d:Route),d∈List.take c.toNat a->samePfx (hRoute b).1 d=false)/\a=a/\a=a/\(a.length:Int)=(a.length:Int)/\(0:Int)=c/\(Qbw7 b))/\ ∀(c:Int),(0<=c/\c<=(a.length:Int)/\ ∀(d:Route),d∈List.take c.toNat a->samePfx (hRoute b).1 d=false)->ifP (decide (c<(a.length:Int))) (0<=c/\c<(a.length:Int)/\ifP (samePfx b.2.2.2.1 (a.getD c.toNat default)) (c=idxI (samePfx (hRoute b).1) a/\b=b) (∃(d:Int),(0<=d/\d<=(a.length:Int)/\ ∀(e:Route),e∈List.take d.toNat a->samePfx (hRoute b).1 e=false)/\Int.toNat ((a.length:Int) -d)<Int.toNat ((a.length:Int) -c)/\a=a/\a=a/\(a.length:Int)=(a.length:Int)/\IntKind.wrap .i64 (c+(1:Int))=d/\(Qbw7 b))) ((-1:Int)=idxI (samePfx (hRoute b).1) a/\b=b):=by
  delta Qbw3 Qbw7
  rintro l c ⟨⟨hl,-⟩,-⟩ -
  simp only [maxLen] at hl
  refine ⟨⟨0,⟨by omega,by omega,by simp⟩,(by repeat' first|exact trivial|refine ⟨trivial,?_⟩|refine ⟨(by with_reducible rfl),?_⟩|refine ⟨w64 (by omega) (by omega),?_⟩|refine ⟨rfl,?_⟩)⟩,?_⟩
  rintro j ⟨j0,j1,hj⟩
  refine ifP_split (fun hk => ?_) (fun hk => ?_)
  · have hk:=of_decide_eq_true hk
    refine ⟨j0,hk,ifP_split (fun hm => ?_) (fun hm => ?_)⟩
    · exact ⟨findI_at j0 hk hj hm,rfl⟩
    · exact ⟨j+1,⟨by omega,by omega,all_next j0 hk hj hm⟩,by omega,(by repeat' first|exact trivial|refine ⟨trivial,?_⟩|refine ⟨(by with_reducible rfl),?_⟩|refine ⟨w64 (by omega) (by omega),?_⟩|refine ⟨rfl,?_⟩)⟩
  · exact ⟨findI_none (of_decide_eq_false hk) hj,rfl⟩
theorem ok_IndexPfx:SpecOK Tryd.prog GL 62 ct_IndexPfx.spec:=Ct.okH _ Tryd.func62 (by kernel_rfl) (withSpec_ok noSpecs_ok ok_topology_script_1) hmix an_IndexPfx (hideMp (by kernel_rfl) vc_IndexPfx)
def ct_ContainsPfx:Ct:=⟨[.val (.sl cRt),.fn 44 1,.box 70 cChange],[.val .bool],fun _=>[],fun d=>((d.1.any (samePfx (hRoute d.2.2.1).1),()),(d.2.2.1,()))⟩
def an_ContainsPfx:PDs ct_ContainsPfx.ps->Anns:=(fun _=>{})
theorem vc_ContainsPfx :
 ∀(a:List Route) (b:Change),(Qbw3 a)/\True/\CT.wf cChange b/\True->True->decide (0<=idxI (samePfx b.2.2.2.1) a)=List.any a (samePfx (hRoute b).1)/\b=b:=by
  delta Qbw3
  rintro l c - -
  exact ⟨idxI_any,rfl⟩
theorem ok_ContainsPfx:SpecOK Tryd.prog GL 43 ct_ContainsPfx.spec:=Ct.okH _ Tryd.func43 (by kernel_rfl) (withSpec_ok noSpecs_ok ok_IndexPfx) hmix an_ContainsPfx (hideMp (by kernel_rfl) vc_ContainsPfx)
theorem hasL_any {l:List Rt} {p:Pfx}:l.any (samePfx p)=hasL l p:=by rw [hasL_iff,Bool.eq_iff_iff];simp [samePfx]
theorem fill_step {ns:List Node} {j:Nat} (h:j<ns.length):((ns.take j).map nRoutes++List.replicate (ns.length-j) []).set j (nRoutes (ns.getD j default))=(ns.take (j+1)).map nRoutes++List.replicate (ns.length-(j+1)) []:=by
  have e1:((ns.take j).map nRoutes).length=j:=by simp;omega
  rw [show ns.length-j=(ns.length-(j+1))+1 by omega,List.replicate_succ,List.set_append_right _ _ (by omega),e1,Nat.sub_self,List.set_cons_zero,List.take_succ_eq_append_getElem h,List.map_append,List.getD_eq_getElem?_getD,List.getElem?_eq_getElem h]
  simp
theorem scrV_eq (n:Net) {j:Int} (j0:0<=j):scrV n j.toNat=scrC n j.toNat (n.2.2.getD j.toNat default) (n.2.2.getD (j-1).toNat default) ((tabsV n j.toNat).getD (hWho (n.2.2.getD j.toNat default)).toNat default):=by
  unfold scrV;rw [show (j-1).toNat=j.toNat-1 by omega]
def ct_topology_script:Ct:=⟨[.agg cNet],[.val cI],fun d=>[boxesV d.1=0,d.1.1.length<=64,∀ c∈d.1.2.2,((hRoute c).2.1.length:Int)<=1099511627776],fun d=>((scriptV d.1,()),())⟩
def an_topology_script:PDs ct_topology_script.ps->Anns:=(fun d=>{loops:=(fun n=>match n with|3=>some (fun S=>{ι:=Int×(List (List Rt)),qn:=⟨fun k_=>∀ (j:Int) (t:(List (List Rt))),k_ (j,t),fun k_ h_ i=>h_ i.1 i.2,fun k_=>∃ (j:Int) (t:(List (List Rt))),k_ (j,t),fun k_ ⟨j,t,h_⟩=>⟨_,h_⟩⟩,μ:=fun i=>(d.1.1.length-i.1).toNat,inv:=fun i=>0<=i.1/\i.1<=d.1.1.length/\i.2=(d.1.1.take i.1.toNat).map nRoutes++List.replicate (d.1.1.length-i.1.toNat) [],keep:=[1,15,16],slots:=fun i=>[(3,.own 524288 1),(17,.int .i64 i.1)],keepN:=[32],names:=fun i=>[(524288,.live (.row 50 (.sl cRt) i.2))]})|8=>some (fun S=>{ι:=Int×(List (List Rt)),qn:=⟨fun k_=>∀ (j:Int) (t:(List (List Rt))),k_ (j,t),fun k_ h_ i=>h_ i.1 i.2,fun k_=>∃ (j:Int) (t:(List (List Rt))),k_ (j,t),fun k_ ⟨j,t,h_⟩=>⟨_,h_⟩⟩,μ:=fun i=>(d.1.2.2.length-i.1).toNat,inv:=fun i=>0<=i.1/\i.1<=d.1.2.2.length/\first (scrV d.1) i.1.toNat=0/\i.2=tabsV d.1 i.1.toNat,keep:=[1,29,30],slots:=fun i=>[(3,.own 524288 1),(31,.int .i64 i.1)],keepN:=[32],names:=fun i=>[(524288,.live (.row 50 (.sl cRt) i.2))]})|_=>none)})
def Qbw2 (c:List Change) (f:Int) :=
 c.getD f.toNat default
def Qbw8 (c:List Change) (f:Int) :=
 Int.toNat (Qbw2 c f).2.1
def Qbw0 (a:List Node) (b:List Link) (c:List Change) (f:Int) (g:List (List Rt)) :=
 sortedR (g.getD (Qbw8 c f) default)/\okL (g.getD (Qbw8 c f) default)/\((List.length (Qbw2 c f).2.2.2.2.1):Int)<=1099511627776/\0<=(Qbw2 c f).2.1/\(Qbw2 c f).2.1<(Qbw6 a)/\List.length (nPorts (a.getD (Qbw8 c f) default))<=(100000:Nat)/\ifP (! decide (check (chV (g.getD (Qbw8 c f) default) (Qbw2 c f)) (pLinks (a.getD (Qbw8 c f) default))=0)) (check (chV (g.getD (Qbw8 c f) default) (Qbw2 c f)) (pLinks (a.getD (Qbw8 c f) default))=scriptV (a,b,c)) (0<=(Qbw2 c f).2.1/\(Qbw2 c f).2.1<(g.length:Int)/\ ∃(j:Int) (k:List (List Rt)),(0<=j/\j<=(c.length:Int)/\first (scrV (a,b,c)) j.toNat=0/\k=tabsV (a,b,c) j.toNat)/\Int.toNat ((c.length:Int) -j)<Int.toNat ((c.length:Int) -f)/\c=c/\(c.length:Int)=(c.length:Int)/\IntKind.wrap .i64 (f+(1:Int))=j/\a=a/\b=b/\c=c/\List.set g (Qbw8 c f) (chV (g.getD (Qbw8 c f) default) (Qbw2 c f))=k/\True)
def Qbw9 (c:List Change) :=
 ∀(d:Change),d∈c->((List.length (hRoute d).2.1):Int)<=1099511627776
theorem vc_topology_script :
 ∀(a:List Node) (b:List Link) (c:List Change),(Qbw4 a b c)/\True->(boxesV (a,b,c)=0/\a.length<=(64:Nat)/\ (Qbw9 c))->0<=(Qbw6 a)/\(Qbw6 a)<=(Qbw6 a)/\(↑(24:Nat):Int)*(Qbw6 a)<=281474976710656/\(∃(d:Int) (e:List (List Rt)),(0<=d/\d<=(Qbw6 a)/\e=List.map nRoutes (List.take d.toNat a)++List.replicate (a.length -d.toNat) ([]:List Route))/\a=a/\(Qbw6 a)=(Qbw6 a)/\(0:Int)=d/\a=a/\b=b/\c=c/\List.replicate (Int.toNat (Qbw6 a)) ([]:List Route)=e/\True)/\ ∀(d:Int) (e:List (List Rt)),0<=d/\d<=(Qbw6 a)/\e=List.map nRoutes (List.take d.toNat a)++List.replicate (a.length -d.toNat) ([]:List Route)->ifP (decide (d<(Qbw6 a))) (0<=d/\d<(Qbw6 a)/\0<=d/\d<(e.length:Int)/\ ∃(f:Int) (g:List (List Rt)),(0<=f/\f<=(Qbw6 a)/\g=List.map nRoutes (List.take f.toNat a)++List.replicate (a.length -f.toNat) ([]:List Route))/\Int.toNat ((Qbw6 a) -f)<Int.toNat ((Qbw6 a) -d)/\a=a/\(Qbw6 a)=(Qbw6 a)/\IntKind.wrap .i64
 (d+(1:Int))=f/\a=a/\b=b/\c=c/\List.set e d.toNat (a.getD d.toNat default).2.2.2.2.1=g/\True) ((∃(f:Int) (g:List (List Rt)),(0<=f/\f<=(c.length:Int)/\first (scrV (a,b,c)) f.toNat=0/\g=tabsV (a,b,c) f.toNat)/\c=c/\(c.length:Int)=(c.length:Int)/\(0:Int)=f/\a=a/\b=b/\c=c/\e=g/\True)/\ ∀(f:Int) (g:List (List Rt)),0<=f/\f<=(c.length:Int)/\first (scrV (a,b,c)) f.toNat=0/\g=tabsV (a,b,c) f.toNat->ifP (decide (f<(c.length:Int))) (0<=f/\f<(c.length:Int)/\ifP (! decide (0<=(Qbw2 c f).1/\(Qbw2 c f).1<=1125899906842624)) ((1:Int)=scriptV (a,b,c)) (∀(h:Bool),h=decide (0<f)->(h->(h->h)/\True)/\(h->(h->h)/\True)/\(h->(h->h)/\True)/\(h->(h->h)/\(h->h)/\0<=IntKind.wrap .i64 (f -(1:Int))/\IntKind.wrap .i64 (f -(1:Int))<(c.length:Int)/\True)/\(h->(h->h)/\True)/\(h->(h->h)/\True)/\(h->(h->h)/\(h->h)/\True)/\(h->h)/\ifP (bif h then decide ((Qbw2 c f).1<(c.getD (Int.toNat (IntKind.wrap .i64 (f -(1:Int))))
 default).1) else false) ((6:Int)=scriptV (a,b,c)) (ifP (! decide (0<=(Qbw2 c f).2.1/\(Qbw2 c f).2.1<=IntKind.wrap .i64 ((Qbw6 a) -(1:Int)))) ((8:Int)=scriptV (a,b,c)) (0<=(Qbw2 c f).2.1/\(Qbw2 c f).2.1<(g.length:Int)/\ ∀(i:Bool),i=(Qbw2 c f).2.2.1->ifP i ((i->i)/\(i->i)/\(i->i)/\ifP (bif i then ! List.any (g.getD (Qbw8 c f) default) (samePfx (Qbw2 c f).2.2.2.1) else false) ((8:Int)=scriptV (a,b,c)) (Qbw0 a b c f g)) (i=false/\(i->false=true)/\ifP (bif i then false else false) ((8:Int)=scriptV (a,b,c)) (Qbw0 a b c f g)))))) ((0:Int)=scriptV (a,b,c))):=by
  delta Qbw0 Qbw2 Qbw4 Qbw6 Qbw8 Qbw9
  rintro ns ls hs ⟨⟨⟨hnl,-⟩,⟨hl,-⟩,⟨hhl,-⟩⟩,-⟩ ⟨hb,hn,hx⟩
  simp only [maxLen] at hl hnl hhl
  refine ⟨by omega,by omega,by omega,⟨0,_,⟨by omega,by omega,rfl⟩,by (repeat first|refine ⟨trivial,?_⟩|refine ⟨(by with_reducible rfl),?_⟩|refine ⟨w64 (by omega) (by omega),?_⟩);simp⟩,?_⟩
  rintro j t ⟨j0,j1,rfl⟩
  have tl:((ns.take j.toNat).map nRoutes++List.replicate (ns.length-j.toNat) ([]:List Rt)).length=ns.length:=by simp;omega
  refine ifP_split (fun hj => ?_) (fun hj => ?_)
  · have hj:=of_decide_eq_true hj
    refine ⟨j0,hj,j0,by rw [tl];exact hj,j+1,_,⟨by omega,by omega,rfl⟩,by omega,?_⟩
    (repeat first|refine ⟨trivial,?_⟩|refine ⟨(by with_reducible rfl),?_⟩|refine ⟨w64 (by omega) (by omega),?_⟩)
    refine ⟨?_,trivial⟩
    rw [show (j+1).toNat=j.toNat+1 by omega,← fill_step (by omega)];rfl
  have hj:=of_decide_eq_false hj
  have e0:(ns.take j.toNat).map nRoutes++List.replicate (ns.length-j.toNat) ([]:List Rt)=tabsV (ns,ls,hs) 0:=by
    rw [List.take_of_length_le (by omega),show ns.length-j.toNat=0 by omega];simp [tabsV]
  rw [e0]
  clear e0 tl hj j0 j1
  refine ⟨⟨0,_,⟨by omega,by omega,rfl,rfl⟩,(by repeat' first|exact trivial|refine ⟨trivial,?_⟩|refine ⟨(by with_reducible rfl),?_⟩|refine ⟨w64 (by omega) (by omega),?_⟩|refine ⟨rfl,?_⟩)⟩,?_⟩
  rintro j t ⟨j0,j1,hf,rfl⟩
  refine ifP_split (fun hj => ?_) (fun hj => ?_)
  rotate_left
  · have hj:=of_decide_eq_false hj
    rw [show j.toNat=hs.length by omega] at hf
    exact hf.symm
  have hj:=of_decide_eq_true hj
  have hm:=getD_mem j0 hj
  have tb:=tabs_ok hb hf
  have tl:=tabs_len (ns,ls,hs) j.toNat
  have hit:=fun h=>first_hit (f:=scrV (ns,ls,hs)) (n:=hs.length) j0 hj hf h
  have eq:=scrV_eq (ns,ls,hs) j0
  have ej:((j.toNat:Nat):Int)=j:=by omega
  rw [w64 (n:=j-1) (by omega) (by omega),w64 (n:=(ns.length:Int)-1) (by omega) (by omega)]
  refine ⟨j0,hj,ifP_split (fun h => ?_) (fun h => ?_)⟩
  · have h:=nd_t h
    have e:scrV (ns,ls,hs) j.toNat=1:=by
      rw [eq];unfold scrC;rw [if_pos];dsimp only [hAt];omega
    have q:=hit (by rw [e];decide)
    rw [e] at q;exact q
  have h1:=nd_f h
  have c1:¬ (hAt (hs.getD j.toNat default)<0∨1125899906842624<hAt (hs.getD j.toNat default)):=by unfold hAt;omega
  clear h
  intro b hb1
  (repeat refine ⟨(by first|(simp;done)|exact fun h=>⟨fun _=>h,fun _=>h,by rw [hb1] at h;have:=of_decide_eq_true h;omega,by rw [hb1] at h;have:=of_decide_eq_true h;omega,trivial⟩),?_⟩)
  rw [hb1,band_d]
  refine ifP_split (fun h => ?_) (fun h => ?_)
  · have h:=of_decide_eq_true h
    have e:scrV (ns,ls,hs) j.toNat=6:=by
      rw [eq];unfold scrC;rw [if_neg c1,if_pos];exact ⟨by omega,h.2⟩
    have q:=hit (by rw [e];decide)
    rw [e] at q;exact q
  have c2:¬ (0<j.toNat/\hAt (hs.getD j.toNat default)<hAt (hs.getD (j-1).toNat default)):=fun q=>of_decide_eq_false h ⟨by omega,q.2⟩
  clear h
  refine ifP_split (fun h => ?_) (fun h => ?_)
  · have h:=nd_t h
    have e:scrV (ns,ls,hs) j.toNat=8:=by
      rw [eq];unfold scrC;rw [if_neg c1,if_neg c2,if_pos]
      dsimp only [hWho];omega
    have q:=hit (by rw [e];decide)
    rw [e] at q;exact q
  have h2:=nd_f h
  have h2:0<=hWho (hs.getD j.toNat default)/\hWho (hs.getD j.toNat default)<=(ns.length:Int)-1:=h2
  have c3:¬ (hWho (hs.getD j.toNat default)<0∨(ns.length:Int)<=hWho (hs.getD j.toNat default)):=by omega
  clear h
  refine ⟨h2.1,by rw [tl];show hWho _<(ns.length:Int);omega,?_⟩
  intro b2 hb2
  have hb2:b2=hRem (hs.getD j.toNat default):=hb2
  refine ifP_split (fun q => ?_) (fun q => ?_)
  · subst q
    (repeat refine ⟨by simp,?_⟩)
    simp only [cond_true]
    rw [hasL_any]
    refine ifP_split (fun h => ?_) (fun h => ?_)
    · have e:scrV (ns,ls,hs) j.toNat=8:=by
        rw [eq];unfold scrC;rw [if_neg c1,if_neg c2,if_neg c3,if_pos]
        exact ⟨hb2.symm,(Bool.not_eq_true' _).mp h⟩
      have q:=hit (by rw [e];decide)
      rw [e] at q;exact q
    have c4:¬ (hRem (hs.getD j.toNat default)=true/\hasL ((tabsV (ns,ls,hs) j.toNat).getD (hWho (hs.getD j.toNat default)).toNat default) (hRoute (hs.getD j.toNat default)).1=false):=fun z=>by
      have z2:=z.2
      have h:(!hasL ((tabsV (ns,ls,hs) j.toNat).getD (hWho (hs.getD j.toNat default)).toNat default) (hRoute (hs.getD j.toNat default)).1)=false:=h
      rw [z2] at h;cases h
    have wl:(hWho (hs.getD j.toNat default)).toNat<ns.length:=by omega
    have tr:=tb.r (hWho (hs.getD j.toNat default)).toNat wl
    refine ⟨tr.1,tr.2,hx _ hm,by omega,by omega,by have:=(boxes_node (n:=(ns,ls,hs)) hb wl).len;exact Nat.le_trans this (by decide),ifP_split (fun h => ?_) (fun h => ?_)⟩
    · have h:=nd_t h
      have e:scrV (ns,ls,hs) j.toNat=check (chV ((tabsV (ns,ls,hs) j.toNat).getD (hWho (hs.getD j.toNat default)).toNat default) (hs.getD j.toNat default)) (pLinks (ns.getD (hWho (hs.getD j.toNat default)).toNat default)):=by
        rw [eq];unfold scrC;rw [if_neg c1,if_neg c2,if_neg c3,if_neg c4]
      have k:=hit (by rw [e];exact h)
      rw [e] at k;exact k
    · have h:=nd_f h
      have e:scrV (ns,ls,hs) j.toNat=0:=by
        rw [eq];unfold scrC;rw [if_neg c1,if_neg c2,if_neg c3,if_neg c4];exact h
      refine ⟨by omega,by rw [tabs_len];show hWho _<(ns.length:Int);omega,j+1,tabsV (ns,ls,hs) (j+1).toNat,⟨by omega,by omega,first_next j0 hf e,rfl⟩,by omega,?_⟩
      (repeat first|refine ⟨trivial,?_⟩|refine ⟨(by with_reducible rfl),?_⟩|refine ⟨w64 (by omega) (by omega),?_⟩)
      refine ⟨?_,trivial⟩
      rw [show (j+1).toNat=j.toNat+1 by omega];rfl
  · (repeat refine ⟨by simp [q],?_⟩)
    refine ifP_split (fun h=>by rw [q] at h;cases h) (fun h => ?_)
    have c4:¬ (hRem (hs.getD j.toNat default)=true/\hasL ((tabsV (ns,ls,hs) j.toNat).getD (hWho (hs.getD j.toNat default)).toNat default) (hRoute (hs.getD j.toNat default)).1=false):=fun z=>by
      rw [← hb2,q] at z;cases z.1
    have wl:(hWho (hs.getD j.toNat default)).toNat<ns.length:=by omega
    have tr:=tb.r (hWho (hs.getD j.toNat default)).toNat wl
    refine ⟨tr.1,tr.2,hx _ hm,by omega,by omega,by have:=(boxes_node (n:=(ns,ls,hs)) hb wl).len;exact Nat.le_trans this (by decide),ifP_split (fun h => ?_) (fun h => ?_)⟩
    · have h:=nd_t h
      have e:scrV (ns,ls,hs) j.toNat=check (chV ((tabsV (ns,ls,hs) j.toNat).getD (hWho (hs.getD j.toNat default)).toNat default) (hs.getD j.toNat default)) (pLinks (ns.getD (hWho (hs.getD j.toNat default)).toNat default)):=by
        rw [eq];unfold scrC;rw [if_neg c1,if_neg c2,if_neg c3,if_neg c4]
      have k:=hit (by rw [e];exact h)
      rw [e] at k;exact k
    · have h:=nd_f h
      have e:scrV (ns,ls,hs) j.toNat=0:=by
        rw [eq];unfold scrC;rw [if_neg c1,if_neg c2,if_neg c3,if_neg c4];exact h
      refine ⟨by omega,by rw [tabs_len];show hWho _<(ns.length:Int);omega,j+1,tabsV (ns,ls,hs) (j+1).toNat,⟨by omega,by omega,first_next j0 hf e,rfl⟩,by omega,?_⟩
      (repeat first|refine ⟨trivial,?_⟩|refine ⟨(by with_reducible rfl),?_⟩|refine ⟨w64 (by omega) (by omega),?_⟩)
      refine ⟨?_,trivial⟩
      rw [show (j+1).toNat=j.toNat+1 by omega];rfl
theorem ok_topology_script:SpecOK Tryd.prog GL 27 ct_topology_script.spec:=Ct.okH _ Tryd.func27 (by kernel_rfl) (withSpec_ok (withSpec_ok (withSpec_ok (withSpec_ok (withSpec_ok noSpecs_ok ok_topology_within) ok_ContainsPfx) ok_topology_changed) ok_topology_links) ok_fib_Check) hmix an_topology_script (hideMp (by kernel_rfl) vc_topology_script)
def ct_topology_Check:Ct:=⟨[.agg cNet],[.val cI],fun d=>[∀ c∈d.1.2.2,((hRoute c).2.1.length:Int)<=1099511627776],fun d=>((checkV d.1,()),())⟩
def an_topology_Check:PDs ct_topology_Check.ps->Anns:=(fun d=>{unr:=fun n=>match n with|2=>8|_=>0})
theorem vc_topology_Check :
 ∀(a:List Node) (b:List Link) (c:List Change),(Qbw4 a b c)/\True->(Qbw9 c)->ifP (! decide (sizesV (a,b,c)=0)) (sizesV (a,b,c)=checkV (a,b,c)) (ifP (! decide (cablesV (a,b,c)=0)) (cablesV (a,b,c)=checkV (a,b,c)) (ifP (! decide (boxesV (a,b,c)=0)) (boxesV (a,b,c)=checkV (a,b,c)) (endsOK (a,b,c)/\ifP (! decide (plugsV (a,b,c)=0)) (plugsV (a,b,c)=checkV (a,b,c)) ((∀(d:Node),d∈a->List.length (nPorts d)<=(100000:Nat))/\ifP (! decide (namesV (a,b,c)=0)) (namesV (a,b,c)=checkV (a,b,c)) (endsOK (a,b,c)/\ifP (! decide (tunnelsV (a,b,c)=0)) (tunnelsV (a,b,c)=checkV (a,b,c)) (boxesV (a,b,c)=0/\a.length<=(64:Nat)/\(Qbw9 c)/\ifP (! decide (scriptV (a,b,c)=0)) (scriptV (a,b,c)=checkV (a,b,c)) ((0:Int)=checkV (a,b,c)))))))):=by
  delta Qbw4 Qbw9
  rintro ns ls hs-hx
  unfold checkV
  refine ifP_split (fun h=>hop_t (nd_t h)) (fun h => ?_)
  have h1:=nd_f h
  rw [hop_f h1]
  refine ifP_split (fun h=>hop_t (nd_t h)) (fun h => ?_)
  have h2:=nd_f h
  rw [hop_f h2]
  refine ifP_split (fun h=>hop_t (nd_t h)) (fun h => ?_)
  have h3:=nd_f h
  rw [hop_f h3]
  refine ⟨cables_ends h2,ifP_split (fun h=>hop_t (nd_t h)) (fun h => ?_)⟩
  have h4:=nd_f h
  rw [hop_f h4]
  refine ⟨fun x hx=>Nat.le_trans (boxes_mem h3 x hx).len (by decide),ifP_split (fun h=>hop_t (nd_t h)) (fun h => ?_)⟩
  have h5:=nd_f h
  rw [hop_f h5]
  refine ⟨cables_ends h2,ifP_split (fun h=>hop_t (nd_t h)) (fun h => ?_)⟩
  have h6:=nd_f h
  rw [hop_f h6]
  refine ⟨h3,?_,hx,ifP_split (fun h=>rfl) (fun h=>(nd_f h).symm)⟩
  unfold sizesV at h1
  split at h1
  · cases h1
  · dsimp only at *;omega
theorem ok_topology_Check:SpecOK Tryd.prog GL 10 ct_topology_Check.spec:=Ct.okH _ Tryd.func10 (by kernel_rfl) (withSpec_ok (withSpec_ok (withSpec_ok (withSpec_ok (withSpec_ok (withSpec_ok (withSpec_ok noSpecs_ok ok_topology_sizes) ok_topology_cables) ok_topology_boxes) ok_topology_plugs) ok_topology_names) ok_topology_tunnels) ok_topology_script) hmix an_topology_Check (hideMp (by kernel_rfl) vc_topology_Check)
end Go.RS

/- Netr: routes of drawn networks: what holds of them at any time. -/
namespace Go.RS
open Go.SX Go.Proofs
set_option maxRecDepth 100000
set_option linter.unusedVariables false
theorem nodup_len {α:Type} [DecidableEq α]:∀ {l m:List α},l.Nodup->(∀ x∈l,x∈m)->l.length<=m.length
  | [],m,_,_=>by simp
  | x::l,m,h,hs=>by
    have hx:=hs x List.mem_cons_self
    have hn:=List.nodup_cons.1 h
    have:=nodup_len (l:=l) (m:=m.erase x) hn.2 fun y hy=>(List.mem_erase_of_ne (fun e:y=x=>hn.1 (e▸hy))).2 (hs y (List.mem_cons_of_mem _ hy))
    rw [List.length_erase_of_mem hx] at this
    have hp:=List.length_pos_of_mem hx
    rw [List.length_cons];omega
theorem foldl_inv {α β:Type} (I:β->Prop) (f:β->α->β):∀ {l:List α} {b:β},I b->(∀ x∈l,∀ b,I b->I (f b x))->I (l.foldl f b)
  | [],b,h,_=>h
  | x::l,b,h,hf=>foldl_inv I f (l:=l) (hf x List.mem_cons_self b h) fun y hy=>hf y (List.mem_cons_of_mem _ hy)
theorem mem_insN {k x:Int}:∀ {l:List Int},x∈insN k l->x=k∨x∈l
  | [],h=>by simp [insN] at h;exact .inl h
  | y::r,h=>by
    rw [insN] at h
    split at h
    · rcases List.mem_cons.1 h with e|h
      · exact .inl e
      · exact .inr h
    · rcases List.mem_cons.1 h with e|h
      · exact .inr (e▸List.mem_cons_self)
      · rcases mem_insN h with e|h
        · exact .inl e
        · exact .inr (List.mem_cons_of_mem _ h)
theorem insN_pw {k:Int}:∀ {l:List Int},l.Pairwise (· < ·)->k ∉ l->(insN k l).Pairwise (· < ·)
  | [],_,_=>by rw [insN];exact List.pairwise_singleton _ _
  | y::r,h,hk=>by
    have h:=List.pairwise_cons.1 h
    rw [insN]
    split
    · rename_i hy
      refine List.pairwise_cons.2 ⟨fun z hz => ?_,List.pairwise_cons.2 h⟩
      rcases List.mem_cons.1 hz with rfl|hz
      · exact hy
      · exact Int.lt_trans hy (h.1 z hz)
    · rename_i hy
      have:k≠y:=fun e=>hk (e▸List.mem_cons_self)
      refine List.pairwise_cons.2 ⟨fun z hz => ?_,insN_pw h.2 fun e=>hk (List.mem_cons_of_mem _ e)⟩
      rcases mem_insN hz with rfl|hz
      · omega
      · exact h.1 z hz
theorem insN_ne (k:Int) (l:List Int):insN k l≠[]:=by
  intro e
  have:=insN_len k l
  rw [e] at this;simp at this
theorem mem_putL {l:List Rt} {r x:Rt} (h:x∈putL l r):x=r∨x∈l:=by
  unfold putL at h
  rcases List.mem_append.1 h with h|h
  · exact .inr (List.mem_filter.1 h).1
  · rcases List.mem_cons.1 h with e|h
    · exact .inl e
    · exact .inr (List.mem_filter.1 h).1
def lnk (ls:List Link) (i k:Int):Prop:=0<=k/\k<ls.length/\(lA (ls.getD k.toNat default)=i∨lB (ls.getD k.toNat default)=i)
structure rtOK (ls:List Link) (aa:List Int) (i:Int) (r:Rt):Prop where
  len:r.1.2=32
  mem:r.1.1∈aa
  ne:r.2.1≠[]
  pw:r.2.1.Pairwise (· < ·)
  ln:∀ k∈r.2.1,lnk ls i k
  w0:1<=r.2.2
  w1:r.2.2<=3
def tabOK (ls:List Link) (aa:List Int) (i:Int) (t:List Rt):Prop:=sortedR t∧∀ r∈t,rtOK ls aa i r
theorem tabOK_len {ls:List Link} {aa:List Int} {i:Int} {t:List Rt} (h:tabOK ls aa i t):t.length<=aa.length:=by
  have hn:(t.map fun r=>r.1.1).Nodup:=by
    refine List.Pairwise.map (R:=fun a b:Rt=>a.1.1≠b.1.1) _ (fun a b h=>h) (h.1.imp_of_mem fun {a b} ha hb k => ?_)
    have e1:=(h.2 a ha).len
    have e2:=(h.2 b hb).len
    unfold plt at k
    omega
  have:=nodup_len hn (m:=aa) fun x hx=>by
    obtain ⟨r,hr,rfl⟩:=List.mem_map.1 hx
    exact (h.2 r hr).mem
  simpa using this
theorem rtOK_len {ls:List Link} {aa:List Int} {i:Int} {r:Rt} (h:rtOK ls aa i r):r.2.1.length<=ls.length:=by
  have hn:r.2.1.Nodup:=h.pw.imp fun k=>by omega
  have:=nodup_len hn (m:=(List.range ls.length).map fun (n:Nat)=>(n:Int)) fun x hx=>by
    obtain ⟨k0,k1,_⟩:=h.ln x hx
    exact List.mem_map.2 ⟨x.toNat,List.mem_range.2 (by omega),by omega⟩
  simpa using this
theorem tabOK_route {ls:List Link} {aa:List Int} {i:Int} {t:List Rt} (h:tabOK ls aa i t) {p:Pfx} {k way:Int} (hp:p.2=32) (ha:p.1∈aa) (hk:lnk ls i k) (h0:1<=way) (h1:way<=3) :
    tabOK ls aa i (routeL t p k way):=by
  have put:∀ r:Rt,rtOK ls aa i r->tabOK ls aa i (putL t r):=fun r hr =>
    ⟨putL_sorted h.1,fun x hx=>by
      rcases mem_putL hx with rfl|hx
      · exact hr
      · exact h.2 x hx⟩
  unfold routeL
  split
  · rename_i hf
    have hx:t.getD (rFind t p) default∈t:=by
      have:=getD_mem (xs:=t) (i:=(rFind t p:Nat)) (by omega) (by omega)
      simpa using this
    have hx:=h.2 _ hx
    split
    · exact h
    · rename_i hn
      exact put _ ⟨hp,ha,insN_ne _ _,insN_pw hx.pw hn,fun y hy=>by
        rcases mem_insN hy with rfl|hy
        · exact hk
        · exact hx.ln y hy,hx.w0,hx.w1⟩
  · exact put _ ⟨hp,ha,by simp,List.pairwise_singleton _ _,fun y hy=>by rw [List.mem_singleton.1 hy];exact hk,h0,h1⟩
structure RI (ls:List Link) (aa:List Int) (ns0 ns:List Node):Prop where
  n:ns.length=ns0.length
  e:∀ i:Nat,i<ns0.length->setRoutes (ns.getD i default) []=setRoutes (ns0.getD i default) []
  t:∀ i:Nat,i<ns0.length->tabOK ls aa i (nRoutes (ns.getD i default))
theorem RI.ports {ls aa ns0 ns} (h:RI ls aa ns0 ns) {i:Nat} (hi:i<ns0.length):nPorts (ns.getD i default)=nPorts (ns0.getD i default):=by
  have:=congrArg nPorts (h.e i hi);exact this
theorem RI.host {ls aa ns0 ns} (h:RI ls aa ns0 ns) {i:Nat} (hi:i<ns0.length):nHost (ns.getD i default)=nHost (ns0.getD i default):=by
  have:=congrArg nHost (h.e i hi);exact this
theorem RI.route {ls aa ns0 ns} (h:RI ls aa ns0 ns) {a:Int} {p:Pfx} {k way:Int} (a0:0<=a) (a1:a<ns0.length) (hp:p.2=32) (ha:p.1∈aa) (hk:lnk ls a k) (h0:1<=way) (h1:way<=3) :
    RI ls aa ns0 (routeN ns a p k way):=by
  have hl:a.toNat<ns.length:=by have:=h.n;omega
  unfold routeN
  refine ⟨by rw [List.length_set];exact h.n,fun i hi => ?_,fun i hi => ?_⟩
  · by_cases e:a.toNat=i
    · subst e
      rw [getD_set hl];exact h.e _ hi
    · rw [getD_setne e];exact h.e _ hi
  · by_cases e:a.toNat=i
    · subst e
      rw [getD_set hl]
      have:=tabOK_route (h.t _ hi) (p:=p) (k:=k) (way:=way) hp ha (by rwa [show ((a.toNat:Nat):Int)=a by omega]) h0 h1
      exact this
    · rw [getD_setne e];exact h.t _ hi
theorem RI.step {ls aa ns0 ns} (h:RI ls aa ns0 ns) {d:List Int} {to:Int} {p:Pfx} {plain:Bool} {k way a b:Int} (a0:0<=a) (a1:a<ns0.length) (hp:p.2=32) (ha:p.1∈aa) (hk:lnk ls a k) (h0:1<=way) (h1:way<=3) :
    RI ls aa ns0 (stepE d to p plain k way ns a b):=by
  unfold stepE
  split
  · exact h
  · split
    · exact h
    · exact h.route a0 a1 hp ha hk h0 h1
def goodEnds (n:Nat) (ls:List Link):Prop:=∀ l∈ls,0<=l.1/\l.1<n/\0<=l.2.1/\l.2.1<n
theorem goodEnds.at' {n:Nat} {ls:List Link} (hg:goodEnds n ls) {k:Nat} (hk:k<ls.length):(0<=lA (ls.getD k default)/\lA (ls.getD k default)<n)/\0<=lB (ls.getD k default)/\lB (ls.getD k default)<n:=by
  have hx:ls.getD k default∈ls:=by
    have:=getD_mem (xs:=ls) (i:=(k:Nat)) (by omega) (by omega)
    simpa using this
  obtain ⟨q1,q2,q3,q4⟩:=hg _ hx
  exact ⟨⟨q1,q2⟩,q3,q4⟩
theorem lnkA {ls:List Link} {k:Nat} (hk:k<ls.length):lnk ls (lA (ls.getD k default)) k:=⟨by omega,by omega,.inl (by simp)⟩
theorem lnkB {ls:List Link} {k:Nat} (hk:k<ls.length):lnk ls (lB (ls.getD k default)) k:=⟨by omega,by omega,.inr (by simp)⟩
theorem RI.stepK {ls aa ns0 ns} (h:RI ls aa ns0 ns) (hg:goodEnds ns0.length ls) {d:List Int} {to:Int} {p:Pfx} {plain:Bool} {way:Int} {k:Nat} (hk:k<ls.length) (hp:p.2=32) (ha:p.1∈aa) (h0:1<=way) (h1:way<=3) :
    RI ls aa ns0 (stepK ls d to p plain way ns k):=by
  have hh:=hg.at' hk
  unfold Go.RS.stepK
  exact (h.step hh.1.1 hh.1.2 hp ha (lnkA hk) h0 h1).step hh.2.1 hh.2.2 hp ha (lnkB hk) h0 h1
theorem RI.stepKs {ls aa ns0 ns} (h:RI ls aa ns0 ns) (hg:goodEnds ns0.length ls) {d:List Int} {to:Int} {p:Pfx} {plain:Bool} {way:Int} (hp:p.2=32) (ha:p.1∈aa) (h0:1<=way) (h1:way<=3) {n:Nat} (hn:n<=ls.length) :
    RI ls aa ns0 ((List.range n).foldl (Go.RS.stepK ls d to p plain way) ns) :=
  foldl_inv _ _ h fun k hk b hb=>hb.stepK hg (by have:=List.mem_range.1 hk;omega) hp ha h0 h1
theorem RI.stepP {ls aa ns0 ns} (h:RI ls aa ns0 ns) (hg:goodEnds ns0.length ls) {d:List Int} {to:Int} {plain:Bool} {way:Int} {q:Port} (ha:q.1∈aa) (h0:1<=way) (h1:way<=3) :
    RI ls aa ns0 (stepP ls d to plain way ns q) :=
  h.stepKs (p:=(q.1,32)) hg rfl ha h0 h1 (Nat.le_refl _)
def allA (ns:List Node):List Int:=ns.flatMap fun x=>(nPorts x).map (·.1)
theorem mem_allA {ns:List Node} {i:Nat} (hi:i<ns.length) {q:Port} (hq:q∈nPorts (ns.getD i default)):q.1∈allA ns:=by
  have hx:ns.getD i default∈ns:=by
    have:=getD_mem (xs:=ns) (i:=(i:Nat)) (by omega) (by omega)
    simpa using this
  exact List.mem_flatMap.2 ⟨_,hx,List.mem_map.2 ⟨q,hq,rfl⟩⟩
theorem RI.stepPs {ls ns0 ns} (h:RI ls (allA ns0) ns0 ns) (hg:goodEnds ns0.length ls) {d:List Int} {to:Int} {plain:Bool} {way:Int} (h0:1<=way) (h1:way<=3) {l:List Port} (hl:∀ q∈l,q.1∈allA ns0) :
    RI ls (allA ns0) ns0 (l.foldl (Go.RS.stepP ls d to plain way) ns) :=
  foldl_inv _ _ h fun q hq b hb=>hb.stepP hg (hl q hq) h0 h1
theorem wayC_ok {c:Codes} (h:okB c):okB (wayC c).2/\1<=(wayC c).1/\(wayC c).1<=3:=by
  have k:=nextV_ok h 3
  have k2:=nextV_ok k.1 3
  have:=nextV_lt h (n:=3) (by omega)
  unfold wayC
  split
  · refine ⟨k2.1,?_⟩
    dsimp only
    split <;> omega
  · exact ⟨k.1,by dsimp only;omega,by dsimp only;omega⟩
theorem RI.stepT {ls ns0} {s:List Node×Codes} (h:RI ls (allA ns0) ns0 s.1/\okB s.2) (hg:goodEnds ns0.length ls) {plain:Bool} {to:Nat} (ht:to<ns0.length) :
    RI ls (allA ns0) ns0 (stepT ls plain s to).1/\okB (stepT ls plain s to).2:=by
  have w:=wayC_ok h.2
  unfold Go.RS.stepT
  refine ⟨h.1.stepPs hg w.2.1 w.2.2 fun q hq => ?_,w.1⟩
  rw [h.1.ports ht] at hq
  exact mem_allA ht hq
theorem RI.stepTs {ls ns0} {s:List Node×Codes} (h:RI ls (allA ns0) ns0 s.1/\okB s.2) (hg:goodEnds ns0.length ls) {plain:Bool} {n:Nat} (hn:n<=ns0.length) :
    RI ls (allA ns0) ns0 ((List.range n).foldl (Go.RS.stepT ls plain) s).1/\okB ((List.range n).foldl (Go.RS.stepT ls plain) s).2 :=
  foldl_inv (fun s:List Node×Codes=>RI ls (allA ns0) ns0 s.1/\okB s.2) _ h fun k hk b hb=>RI.stepT hb hg (by have:=List.mem_range.1 hk;omega)
theorem RI.start {ls:List Link} {ns0:List Node} (h:∀ x∈ns0,nRoutes x=[]):RI ls (allA ns0) ns0 ns0:=by
  refine ⟨rfl,fun _ _=>rfl,fun i hi => ?_⟩
  have hx:ns0.getD i default∈ns0:=by
    have:=getD_mem (xs:=ns0) (i:=(i:Nat)) (by omega) (by omega)
    simpa using this
  rw [h _ hx]
  exact ⟨List.Pairwise.nil,fun r hr=>by cases hr⟩
end Go.RS

/- Netg: how drawn networks grow: what holds of their nodes and links. -/
namespace Go.RS
open Go.SX Go.Proofs
set_option maxRecDepth 100000
set_option linter.unusedVariables false
def port1 (i:Int) (k:Nat) (l:Link):List Port:=(if lA l=i then [(baseA k+1,(k:Int))] else [])++(if lB l=i then [(baseA k+2,(k:Int))] else [])
def portsF (i:Int):Nat->List Link->List Port
  | _,[]=>[]
  | k,l::r=>port1 i k l++portsF i (k+1) r
theorem portsF_snoc (i:Int) (l:Link):∀ (k:Nat) (ls:List Link),portsF i k (ls++[l])=portsF i k ls++port1 i (k+ls.length) l
  | k,[]=>by simp [portsF]
  | k,x::r=>by
    rw [List.cons_append,portsF,portsF_snoc i l (k+1) r,portsF,List.append_assoc,List.length_cons,show k+1+r.length=k+(r.length+1) by omega]
theorem port1_len (i:Int) (k:Nat) (l:Link):(port1 i k l).length<=2:=by
  unfold port1
  split <;> split <;> simp
theorem portsF_len (i:Int):∀ (k:Nat) (ls:List Link),(portsF i k ls).length<=2*ls.length
  | k,[]=>by simp [portsF]
  | k,x::r=>by
    have:=portsF_len i (k+1) r
    have:=port1_len i k x
    rw [portsF,List.length_append,List.length_cons];omega
theorem portsF_none {i:Int}:∀ {k:Nat} {ls:List Link},(∀ x∈ls,lA x≠i/\lB x≠i)->portsF i k ls=[]
  | k,[],_=>rfl
  | k,x::r,h=>by
    have hx:=h x List.mem_cons_self
    rw [portsF,portsF_none fun y hy=>h y (List.mem_cons_of_mem _ hy),port1,if_neg hx.1,if_neg hx.2];rfl
theorem mem_portsF {i:Int} {q:Port}:∀ {k:Nat} {ls:List Link},q∈portsF i k ls↔∃ j,j<ls.length/\((lA (ls.getD j default)=i/\q=(baseA (k+j:Nat)+1,((k+j:Nat):Int)))∨(lB (ls.getD j default)=i/\q=(baseA (k+j:Nat)+2,((k+j:Nat):Int))))
  | k,[]=>by simp [portsF]
  | k,x::r=>by
    rw [portsF,List.mem_append,mem_portsF (k:=k+1) (ls:=r)]
    constructor
    · rintro (h|⟨j,hj,h⟩)
      · refine ⟨0,by simp,?_⟩
        unfold port1 at h
        rcases List.mem_append.1 h with h|h
        · split at h
          · rename_i e
            exact .inl ⟨e,by simpa using h⟩
          · cases h
        · split at h
          · rename_i e
            exact .inr ⟨e,by simpa using h⟩
          · cases h
      · refine ⟨j+1,by rw [List.length_cons];omega,?_⟩
        rw [List.getD_cons_succ,show k+(j+1)=k+1+j by omega];exact h
    · rintro ⟨j,hj,h⟩
      cases j with
      | zero =>
        refine .inl ?_
        rw [List.getD_cons_zero] at h
        unfold port1
        rcases h with ⟨e,h⟩|⟨e,h⟩
        · rw [if_pos e];exact List.mem_append.2 (.inl (by simpa using h))
        · rw [if_pos e];exact List.mem_append.2 (.inr (by simpa using h))
      | succ j =>
        refine .inr ⟨j,by rw [List.length_cons] at hj;omega,?_⟩
        rw [List.getD_cons_succ,show k+(j+1)=k+1+j by omega] at h;exact h
theorem getD_app_lt {α:Type} [Inhabited α] {l m:List α} {i:Nat} (h:i<l.length):(l++m).getD i default=l.getD i default:=by
  rw [List.getD_eq_getElem?_getD,List.getElem?_append_left h,List.getD_eq_getElem?_getD]
theorem getD_app_eq {α:Type} [Inhabited α] {l:List α} {x:α}:(l++[x]).getD l.length default=x:=by
  rw [List.getD_eq_getElem?_getD];simp
theorem addPort_get {ns:List Node} {x:Int} {p:Port} (x0:0<=x) {i:Nat} (hi:i<ns.length) :
    (addPort ns x p).getD i default=((ns.getD i default).1++(if x=i then [p] else []),(ns.getD i default).2):=by
  unfold addPort
  by_cases e:x=i
  · have:x.toNat=i:=by omega
    rw [this,getD_set hi,if_pos e]
  · have:x.toNat≠i:=by omega
    rw [getD_setne this,if_neg e,List.append_nil]
theorem addPort_len (ns:List Node) (x:Int) (p:Port):(addPort ns x p).length=ns.length:=by unfold addPort;exact List.length_set
structure GI (s:Scene) (nn nl:Nat):Prop where
  n:s.1.1.length=nn
  l:s.1.2.1.length=nl
  h:s.1.2.2=[]
  c:okB s.2
  g:∀ x∈s.1.2.1,(0<=lA x/\lA x<nn)/\(0<=lB x/\lB x<nn)/\lA x≠lB x/\(1<=lDelay x/\lDelay x<=20)/\lJitter x=0/\lLoss x=0/\0<=lSeed x/\lSeed x<=255
  p:∀ i:Nat,i<nn->nPorts (s.1.1.getD i default)=portsF i 0 s.1.2.1
  d:∀ i:Nat,i<nn→∃ host f sd,(s.1.1.getD i default).2=(newNode i host f sd).2/\(f=64∨f=255∨f=128)/\0<=sd/\sd<=255
theorem GI.node {s:Scene} {nn nl:Nat} (h:GI s nn nl) (host:Bool):GI (nodeS s host) (nn+1) nl:=by
  have k3:=nextV_lt h.c (n:=3) (by omega)
  have c3:=(nextV_ok h.c 3).1
  have k4:=nextV_lt c3 (n:=256) (by omega)
  have c4:=(nextV_ok c3 256).1
  refine ⟨by simp only [nodeS,List.length_append,List.length_cons,List.length_nil,h.n],h.l,h.h,c4,fun x hx => ?_,fun i hi => ?_,fun i hi => ?_⟩
  · have:=h.g x hx
    omega
  · by_cases e:i<nn
    · rw [show (nodeS s host).1.1.getD i default=s.1.1.getD i default from getD_app_lt (by rw [h.n];exact e)]
      exact h.p i e
    · have e:i=s.1.1.length:=by rw [h.n];omega
      subst e
      rw [show (nodeS s host).1.1.getD s.1.1.length default=newNode s.1.1.length host _ _ from getD_app_eq]
      refine (portsF_none fun x hx => ?_).symm
      have:=h.g x hx
      have:=h.n
      omega
  · by_cases e:i<nn
    · rw [show (nodeS s host).1.1.getD i default=s.1.1.getD i default from getD_app_lt (by rw [h.n];exact e)]
      exact h.d i e
    · have e:i=s.1.1.length:=by rw [h.n];omega
      subst e
      rw [show (nodeS s host).1.1.getD s.1.1.length default=newNode s.1.1.length host _ _ from getD_app_eq]
      refine ⟨host,_,_,rfl,?_,k4.1,by omega⟩
      rcases (show (nextV s.2 3).1=0∨(nextV s.2 3).1=1∨(nextV s.2 3).1=2 by omega) with e|e|e <;> rw [e] <;> simp
theorem GI.link {s:Scene} {nn nl:Nat} (h:GI s nn nl) {a b:Int} (a0:0<=a) (a1:a<nn) (b0:0<=b) (b1:b<nn) (ne:a≠b):GI (linkS s a b) nn (nl+1):=by
  have k3:=nextV_lt h.c (n:=20) (by omega)
  have c3:=(nextV_ok h.c 20).1
  have k4:=nextV_lt c3 (n:=256) (by omega)
  have c4:=(nextV_ok c3 256).1
  refine ⟨by simp only [linkS,addPort_len,h.n],by simp only [linkS,List.length_append,List.length_cons,List.length_nil,h.l],h.h,c4,fun x hx => ?_,fun i hi => ?_,fun i hi => ?_⟩
  · rcases List.mem_append.1 hx with hx|hx
    · exact h.g x hx
    · rw [List.mem_singleton.1 hx]
      refine ⟨⟨a0,a1⟩,⟨b0,b1⟩,ne,?_,rfl,rfl,k4.1,?_⟩
      · show 1<=1+(nextV s.2 20).1/\1+(nextV s.2 20).1<=20
        omega
      · show (nextV (nextV s.2 20).2 256).1<=255
        omega
  · have hp:=h.p i hi
    unfold linkS
    dsimp only
    rw [addPort_get b0 (by rw [addPort_len,h.n];exact hi),addPort_get a0 (by rw [h.n];exact hi),portsF_snoc,← hp,Nat.zero_add]
    simp only [nPorts,port1,lA,lB,List.append_assoc]
    rfl
  · unfold linkS
    dsimp only
    rw [addPort_get b0 (by rw [addPort_len,h.n];exact hi),addPort_get a0 (by rw [h.n];exact hi)]
    exact h.d i hi
theorem GI.codes {s:Scene} {nn nl:Nat} (h:GI s nn nl) {c:Codes} (hc:okB c):GI (s.1,c) nn nl:=⟨h.n,h.l,h.h,hc,h.g,h.p,h.d⟩
theorem GI.start {c:Codes} (hc:okB c):GI (([],[],[]),c) 0 0 :=
  ⟨rfl,rfl,rfl,hc,fun x hx=>(by cases hx),fun i hi=>(by omega),fun i hi=>(by omega)⟩
theorem GI.routes {s:Scene} {nn nl:Nat} (h:GI s nn nl):∀ x∈s.1.1,nRoutes x=[]:=fun x hx=>by
  obtain ⟨i,hi,e⟩:=List.mem_iff_getElem.1 hx
  obtain ⟨host,f,sd,hd,-⟩:=h.d i (by rw [← h.n];exact hi)
  have:s.1.1.getD i default=x:=by rw [List.getD_eq_getElem?_getD,List.getElem?_eq_getElem hi,e];rfl
  rw [this] at hd
  show x.2.2.2.2.1=[]
  rw [hd];rfl
theorem GI.plen {s:Scene} {nn nl:Nat} (h:GI s nn nl):∀ x∈s.1.1,x.1.length<=2*nl:=fun x hx=>by
  obtain ⟨i,hi,e⟩:=List.mem_iff_getElem.1 hx
  have hp:=h.p i (by rw [← h.n];exact hi)
  have:s.1.1.getD i default=x:=by rw [List.getD_eq_getElem?_getD,List.getElem?_eq_getElem hi,e];rfl
  rw [this] at hp
  have:=portsF_len i 0 s.1.2.1
  rw [← hp,h.l] at this;exact this
theorem allA_len:∀ {ns:List Node} {m:Nat},(∀ x∈ns,x.1.length<=m)->(allA ns).length<=ns.length*m
  | [],m,_=>by simp [allA]
  | x::r,m,h=>by
    have k:=allA_len (ns:=r) (m:=m) fun y hy=>h y (List.mem_cons_of_mem _ hy)
    have hx:=h x List.mem_cons_self
    unfold allA at k ⊢
    rw [List.flatMap_cons,List.length_append,List.length_map,List.length_cons,Nat.succ_mul]
    show (nPorts x).length+_<=_
    have:(nPorts x).length<=m:=hx
    omega
theorem GI.ends {s:Scene} {nn nl:Nat} (h:GI s nn nl):goodEnds s.1.1.length s.1.2.1:=fun x hx=>by
  have:=h.g x hx
  rw [h.n]
  exact ⟨this.1.1,this.1.2,this.2.1.1,this.2.1.2⟩
theorem GI.chain {s:Scene} (h:GI s 1 0):∀ k:Nat,GI ((List.range k).foldl chainS s) (k+1) k
  | 0=>h
  | k+1=>by
    rw [List.range_succ,List.foldl_append]
    exact ((GI.chain h k).node false).link (by omega) (by omega) (by omega) (by omega) (by omega)
def lineN (c:Codes):Int:=1+(nextV (nodeS (([],[],[]),c) true).2 5).1
def line0 (c:Codes):Scene:=((nodeS (([],[],[]),c) true).1,(nextV (nodeS (([],[],[]),c) true).2 5).2)
theorem line0_ok {c:Codes} (h:okB c):GI (line0 c) 1 0:=((GI.start h).node true).codes (nextV_ok ((GI.start h).node true).c 5).1
theorem lineN_ok {c:Codes} (h:okB c):1<=lineN c/\lineN c<=5:=by
  have:=nextV_lt ((GI.start h).node true).c (n:=5) (by omega)
  unfold lineN;omega
theorem lineS_eq (c:Codes):lineS c=(lineN c,linkS (nodeS ((List.range (lineN c).toNat).foldl chainS (line0 c)) true) (lineN c) (lineN c+1)):=rfl
theorem line_ok {c:Codes} (h:okB c):GI (lineS c).2 ((lineN c).toNat+2) ((lineN c).toNat+1):=by
  have:=lineN_ok h
  rw [lineS_eq]
  exact (((line0_ok h).chain _).node true).link (by omega) (by omega) (by omega) (by omega) (by omega)
theorem GI.short {s:Scene} {nn nl:Nat} (h:GI s nn nl) {n:Int} (n1:1<=n) (hn:n+2<=nn):∃ m,nl<=m/\m<=nl+1/\GI (shortS n s) nn m:=by
  have ka:=nextV_lt h.c (n:=n) (by omega)
  have ca:=(nextV_ok h.c n).1
  have kb:=nextV_lt ca (n:=n) (by omega)
  have cb:=(nextV_ok ca n).1
  unfold shortS
  dsimp only
  split
  · exact ⟨nl,by omega,by omega,h.codes cb⟩
  · rename_i e
    exact ⟨nl+1,by omega,by omega,(h.codes cb).link (by omega) (by omega) (by omega) (by omega) (by omega)⟩
theorem GI.shorts {s:Scene} {nn nl:Nat} (h:GI s nn nl) {n:Int} (n1:1<=n) (hn:n+2<=nn):∀ k:Nat,∃ m,nl<=m/\m<=nl+k/\GI ((List.range k).foldl (fun s _=>shortS n s) s) nn m
  | 0=>⟨nl,by omega,by omega,h⟩
  | k+1=>by
    obtain ⟨m,m0,m1,hm⟩:=GI.shorts h n1 hn k
    obtain ⟨m',q0,q1,hq⟩:=hm.short n1 hn
    refine ⟨m',by omega,by omega,?_⟩
    rw [List.range_succ,List.foldl_append];exact hq
def more1 (plain:Bool) (n:Int) (s:Scene) (k:Nat):Scene:=if 1<n/\plain=false then (List.range k).foldl (fun s _=>shortS n s) (s.1,(nextV s.2 4).2) else (s.1,(nextV s.2 4).2)
theorem more1_ok {s:Scene} {nn nl:Nat} (h:GI s nn nl) {plain:Bool} {n:Int} (n1:1<=n) (hn:n+2<=nn) (k:Nat):∃ m,nl<=m/\m<=nl+k/\GI (more1 plain n s k) nn m:=by
  have hc:=h.codes (nextV_ok h.c 4).1
  unfold more1
  split
  · exact hc.shorts n1 hn k
  · exact ⟨nl,by omega,by omega,hc⟩
theorem moreS_eq (plain:Bool) (n:Int) (s:Scene):moreS plain n s=(let s1:=more1 plain n s (nextV s.2 4).1.toNat
    if plain=true/\2<n then
      if (nextV s1.2 2).1=1 then linkS (s1.1,(nextV (nextV s1.2 2).2 (n-1)).2) (1+(nextV (nextV s1.2 2).2 (n-1)).1) n else (s1.1,(nextV s1.2 2).2)
    else s1):=rfl
theorem moreS_ok {s:Scene} {nn nl:Nat} (h:GI s nn nl) {plain:Bool} {n:Int} (n1:1<=n) (hn:n+2<=nn):∃ m,nl<=m/\m<=nl+4/\GI (moreS plain n s) nn m:=by
  have k4:=nextV_lt h.c (n:=4) (by omega)
  obtain ⟨m,m0,m1,hm⟩:=more1_ok h (plain:=plain) n1 hn (nextV s.2 4).1.toNat
  rw [moreS_eq]
  dsimp only
  generalize more1 plain n s (nextV s.2 4).1.toNat=t at hm ⊢
  have c2:=(nextV_ok hm.c 2).1
  have c3:=(nextV_ok c2 (n-1)).1
  split
  · rename_i e
    split
    · have k5:=nextV_lt c2 (n:=n-1) (by omega)
      exact ⟨m+1,by omega,by omega,(hm.codes c3).link (by omega) (by omega) (by omega) (by omega) (by omega)⟩
    · exact ⟨m,by omega,by omega,hm.codes c2⟩
  · exact ⟨m,by omega,by omega,hm⟩
theorem net_ok {c:Codes} (h:okB c) (plain:Bool):∃ m,2<=m/\m<=10/\GI (moreS plain (lineS c).1 (lineS c).2) ((lineN c).toNat+2) m:=by
  have hn:=lineN_ok h
  obtain ⟨m,m0,m1,hm⟩:=moreS_ok (line_ok h) (plain:=plain) (n:=lineN c) hn.1 (by omega)
  exact ⟨m,by omega,by omega,hm⟩
end Go.RS
