/- Node2: a node's state; what a node does, in the program and in the reference. -/
import Derived.Test.YtfgcoeablgoccaaGreatDoorTopod
import Derived.Test.YtfgcoeablgoccaaGreatDoorBucket
namespace Go.RS
open Go.SX Go.Proofs
set_option maxRecDepth 100000
set_option linter.unusedVariables false
def startV (x:Node):NState:=(nRoutes x,0,List.replicate (nPorts x).length 0,bFull (nLimit x) 0,0)
def okTk (b t:Int×Int):Prop:=(0<=t.2/\t.2<=1125899906842624)/\(b=(0,0)->t.1=0)/\(b≠(0,0)->0<=t.1/\t.1<=b.1*b.2)
structure StOK (x:Node) (s:NState) (K:Int):Prop where
  srt:sortedR (sRoutes s)
  okl:okL (sRoutes s)
  rt:∀ r∈sRoutes s,rightR r (pLinks x)
  ps:(sPortSent s).length=(nPorts x).length
  tk:okTk (nLimit x) (sTokens s)
  cn:0<=sSent s/\sSent s<=K
  cp:∀ y∈sPortSent s,0<=y/\y<=K
theorem bCheck_prod {b:Int×Int} (h:bCheck b=0):b=(0,0)∨(1<=b.1/\b.1<=65536/\1<=b.2/\b.2<=1073741824/\b.2<=b.1*b.2/\b.1*b.2<=70368744177664):=by
  unfold bCheck at h
  split at h
  · rename_i hh
    rcases hh with hh|⟨h1,h2,h3,h4⟩
    · exact .inl hh
    · refine .inr ⟨h1,h2,h3,h4,?_,?_⟩
      · have:=Int.mul_le_mul_of_nonneg_right (a:=1) (b:=b.1) (c:=b.2) h1 (by omega);omega
      · have:=Int.mul_le_mul (a:=b.1) (b:=b.2) (c:=65536) (d:=1073741824) h2 h4 (by omega) (by omega);omega
  · cases h
theorem bFull_w {b:Int×Int} (h:bCheck b=0) (x:Int):bFull b x=(b.1*b.2,x):=by
  rcases bCheck_prod h with rfl|hh
  · rfl
  · unfold bFull w;rw [w64 (by omega) (by omega)]
theorem bTake_is {b t:Int×Int} {x:Int} (h:bCheck b=0) (hb:b≠(0,0)) (ht:okTk b t) (hx:0<=x/\x<=1125899906842624) :
    bTake b t x=if min (t.1+(max x t.2-t.2)) (b.1*b.2)<b.2 then ((min (t.1+(max x t.2-t.2)) (b.1*b.2),max x t.2),false) else ((min (t.1+(max x t.2-t.2)) (b.1*b.2)-b.2,max x t.2),true):=by
  obtain ⟨h1,-,h3⟩:=ht
  have h3:=h3 hb
  have hc:=(bCheck_prod h).resolve_left hb
  have e:bCredit b t (max x t.2)=min (t.1+(max x t.2-t.2)) (b.1*b.2):=by
    unfold bCredit w
    rw [w64 (n:=max x t.2-t.2) (by omega) (by omega),w64 (by omega) (by omega),w64 (by omega) (by omega)]
  unfold bTake w
  rw [if_neg hb,e]
  split
  · rfl
  · rw [w64 (by omega) (by omega)]
theorem bTake_ok {b t:Int×Int} {x:Int} (h:bCheck b=0) (ht:okTk b t) (hx:0<=x/\x<=1125899906842624):okTk b (bTake b t x).1/\(bTake b t x).1.2=max x t.2:=by
  have h1:=ht.1
  by_cases hb:b=(0,0)
  · subst hb
    rw [show bTake (0,0) t x=((0,max x t.2),true) by simp [bTake]]
    exact ⟨⟨⟨by show 0<=max x t.2;omega,by show max x t.2<=_;omega⟩,fun _=>rfl,fun k=>absurd rfl k⟩,rfl⟩
  · have hc:=(bCheck_prod h).resolve_left hb
    have h3:=ht.2.2 hb
    rw [bTake_is h hb ht hx]
    split
    · exact ⟨⟨⟨by show 0<=max x t.2;omega,by show max x t.2<=_;omega⟩,fun k=>absurd k hb,fun _=>⟨by show 0<=min _ _;omega,by show min _ _<=_;omega⟩⟩,rfl⟩
    · exact ⟨⟨⟨by show 0<=max x t.2;omega,by show max x t.2<=_;omega⟩,fun k=>absurd k hb,fun _=>⟨by show 0<=min _ _-_;omega,by show min _ _-_<=_;omega⟩⟩,rfl⟩
structure NodeOK (x:Node):Prop where
  n1:1<=(nPorts x).length
  n32:(nPorts x).length<=32
  id:idCheck x=0
  bk:bCheck (nLimit x)=0
  rt:check (nRoutes x) (pLinks x)=0
  loop:¬ loopBad x
  ports:∀ i,i<(nPorts x).length->portBad x i=0
  form:¬ formBad x
theorem nodeV_ok {x:Node} (h:nodeV x=0):NodeOK x:=by
  unfold nodeV at h
  split at h
  · cases h
  rename_i a1
  split at h
  · rename_i k;exact absurd h k
  rename_i a2
  split at h
  · cases h
  rename_i a3
  split at h
  · cases h
  rename_i a4
  split at h
  · rename_i k;exact absurd h k
  rename_i a5
  split at h
  · rename_i k;exact absurd h k
  rename_i a6
  refine ⟨?_,by omega,by simpa using a5,by simpa using a6,h,a3,first_zero (by simpa using a2),a4⟩
  by_cases k:(nPorts x).length=0
  · exact absurd (.inr (.inr (.inr (.inr (.inr (.inr k)))))) a4
  · omega
theorem findP_has {q:Int×Int->Bool} {l:List (Int×Int)} {y:Int×Int} (hy:y∈l) (hq:q y=true):0<=findP q l:=by
  have hlt:l.findIdx q<l.length:=List.findIdx_lt_length_of_exists ⟨y,hy,hq⟩
  unfold findP;rw [if_pos hlt];omega
theorem look_mem {l:List Rt} {a:Int} (h:lookB l a=true):lookR l a∈l:=by
  have key:∀ (l:List Rt) (b:Option Rt) (r:Rt),l.foldl (stepR a) b=some r->r∈l∨b=some r:=by
    intro l
    induction l with
    | nil=>intro b r e;exact .inr e
    | cons y l ih =>
      intro b r e
      rcases ih _ _ e with h1|h1
      · exact .inl (List.mem_cons_of_mem _ h1)
      · unfold stepR at h1
        split at h1
        · split at h1
          · cases h1;exact .inl List.mem_cons_self
          · split at h1
            · cases h1;exact .inl List.mem_cons_self
            · exact .inr h1
        · exact .inr h1
  unfold lookB at h
  unfold lookR
  cases hl:look l a with
  | none=>rw [hl] at h;cases h
  | some r =>
    rcases key l none r hl with k|k
    · exact k
    · cases k
theorem way_mem {s:NState} {a:Int} (h:¬ wayB s a=false):lookR (sRoutes s) a∈sRoutes s:=by
  refine look_mem ?_
  unfold wayB at h
  cases hb:lookB (sRoutes s) a with
  | true=>rfl
  | false=>rw [hb] at h;simp at h
theorem pickL_mem {x:Node} {s:NState} {r:Rt} {k:Key} (h:r.2.1≠[]):pickL x s r k∈r.2.1:=by
  have hpos:1<=(r.2.1.length:Int):=by cases hh:r.2.1 with
    | nil=>exact absurd hh h
    | cons a l=>simp;omega
  unfold pickL
  split
  · exact getD_mem (i:=0) (by omega) (by omega)
  · have hc:=choose_in (way:=r.2.2) (seed:=nSeed x) (k:=k) (count:=sBalanced s) hpos
    exact getD_mem hc.1 hc.2
theorem right_next {r:Rt} {links:List Int} (h:rightR r links):∀ y∈r.2.1,y∈links:=by
  intro y hy
  obtain ⟨i,hi,rfl⟩:=List.mem_iff_getElem.1 hy
  have:=(h.1.2 i hi).2
  rwa [List.getD_eq_getElem?_getD,List.getElem?_eq_getElem hi,Option.getD_some] at this
theorem portL_has {x:Node} {k:Int} (h:k∈pLinks x):0<=portL x k:=by
  obtain ⟨y,hy,rfl⟩:=List.mem_map.1 h
  exact findP_has hy (by simp [isL])
theorem nextOut {x:Node} {s:NState} {K:Int} (hs:StOK x s K) {a:Int} (hw:¬ wayB s a=false) (s':NState) (k:Key):0<=portL x (pickL x s' (lookR (sRoutes s) a) k) :=
  portL_has (right_next (hs.rt _ (way_mem hw)) _ (pickL_mem (way_ne hw)))
theorem bump_ok {l:List Int} {K i:Int} (h:∀ y∈l,0<=y/\y<=K) (hK:0<=K/\K<=2199023255552) (h0:0<=i):(bump l i).length=l.length∧∀ y∈bump l i,0<=y/\y<=K+1:=by
  unfold bump
  split
  · rename_i hi
    refine ⟨List.length_set,fun y hy => ?_⟩
    rcases List.mem_or_eq_of_mem_set hy with hy|rfl
    · have:=h y hy;omega
    · have:=h _ (getD_mem h0 hi)
      rw [w64 (by omega) (by omega)];omega
  · exact ⟨rfl,fun y hy=>by have:=h y hy;omega⟩
theorem StOK.more {x:Node} {s:NState} {K K':Int} (h:StOK x s K) (hk:K<=K'):StOK x s K' :=
  ⟨h.srt,h.okl,h.rt,h.ps,h.tk,by have:=h.cn;omega,fun y hy=>by have:=h.cp y hy;omega⟩
theorem StOK.tok {x:Node} {s:NState} {K:Int} (h:StOK x s K) {t:Int×Int} (ht:okTk (nLimit x) t):StOK x (tokS s t) K:=⟨h.srt,h.okl,h.rt,h.ps,ht,h.cn,h.cp⟩
theorem StOK.bal {x:Node} {s:NState} {K:Int} (h:StOK x s K) (b:Int):StOK x (setBal s b) K:=⟨h.srt,h.okl,h.rt,h.ps,h.tk,h.cn,h.cp⟩
theorem StOK.pick {x:Node} {s:NState} {K:Int} (h:StOK x s K) (r:Rt):StOK x (pickS s r) K:=by
  unfold pickS;split
  · exact h
  · exact h.bal _
theorem StOK.sent {x:Node} {s:NState} {K i:Int} (h:StOK x s K) (hK:0<=K/\K<=2199023255552) (h0:0<=i):StOK x (sentS s i) (K+1):=by
  obtain ⟨b1,b2⟩:=bump_ok h.cp hK h0
  refine ⟨h.srt,h.okl,h.rt,b1.trans h.ps,h.tk,?_,b2⟩
  have:=h.cn
  show 0<=IntKind.i64.wrap (sSent s+1)/\IntKind.i64.wrap (sSent s+1)<=K+1
  rw [w64 (by omega) (by omega)];omega
theorem ansV_st {B:Int->Int->List Int} {E:Int->Int} {w:Work} {own:Int} {K:Int} (hx:NodeOK w.1) (hs:StOK w.1 w.2.1 K) (hK:0<=K/\K<=2199023255552) (ha:0<=w.2.2.2.1/\w.2.2.2.1<=1125899906842624) :
    StOK w.1 (ansV B E w own).1 (K+1):=by
  have ht:=bTake_ok hx.bk hs.tk ha
  unfold ansV
  split
  · exact hs.more (by omega)
  split
  · exact hs.more (by omega)
  split
  · exact hs.more (by omega)
  split
  · exact (hs.tok ht.1).more (by omega)
  · exact ((hs.tok ht.1).sent hK (inP_nn _ _)).pick _
theorem handleV_st {x:Node} {s:NState} {link at':Int} {b:List Int} {K:Int} (hx:NodeOK x) (hs:StOK x s K) (hK:0<=K/\K<=2199023255552) (ha:0<=at'∧at'<=1125899906842624):StOK x (handleV x s link at' b).1 (K+1):=by
  have m:StOK x s (K+1):=hs.more (by omega)
  unfold handleV hdV
  split
  · exact m
  split
  · unfold recvV
    split
    · exact m
    · exact ansV_st (w:=setH (x,s,link,at',b,hdr0) (decPkt b).1) hx hs hK ha
  split
  · exact m
  · unfold fwdV
    split
    · exact ansV_st (w:=setH (x,s,link,at',b,hdr0) (decPkt b).1) hx hs hK ha
    split
    · split
      · exact m
      · exact ansV_st (w:=setH (x,s,link,at',b,hdr0) (decPkt b).1) hx hs hK ha
    · exact m.pick _
theorem start_ok {x:Node} (hx:NodeOK x):StOK x (startV x) 0:=by
  obtain ⟨h1,h2⟩:=check_okL hx.rt
  obtain ⟨-,-,h3⟩:=check_is hx.rt
  refine ⟨h1,h2,fun r hr=>(h3 r hr).2,List.length_replicate,?_,⟨Int.le_refl _,Int.le_refl _⟩,fun y hy=>by rw [List.eq_of_mem_replicate hy];exact ⟨Int.le_refl _,Int.le_refl _⟩⟩
  show okTk (nLimit x) (bFull (nLimit x) 0)
  rw [bFull_w hx.bk]
  refine ⟨⟨by simp,by simp⟩,fun k=>by rw [k];rfl,fun k => ?_⟩
  have:=(bCheck_prod hx.bk).resolve_left k
  exact ⟨by show 0<=_*_;omega,Int.le_refl _⟩
def ct_node_routes:Ct:=⟨[.val (.sl cRt)],[.own 87 cRt],fun d=>[okL d.1],fun d=>((d.1,()),())⟩
def an_node_routes:PDs ct_node_routes.ps->Anns:=(fun d=>{loops:=(fun n=>match n with|3=>some (fun S=>{ι:=Int,μ:=fun i=>(d.1.length-i).toNat,inv:=fun i=>0<=i/\i<=d.1.length,keep:=[3,8,9],slots:=fun i=>[(10,.int .i64 i)],keepN:=[128],names:=fun i=>[]})|_=>none)})
theorem vc_node_routes :
 ∀(a:List Route),(a.length<=maxLen/\ ∀(b:Route),b∈a->((0<=b.1.1/\b.1.1<=4294967295)/\R64 b.1.2)/\(b.2.1.length<=maxLen/\ ∀(c:Int),c∈b.2.1->R64 c)/\R64 b.2.2)/\True->((a.length:Int)<=134217728/\ ∀(b:Rt),b∈a->(b.2.1.length:Int)<=1099511627776)->(a.length:Int)<=134217728/\(∃(b:Int),(0<=b/\b<=(a.length:Int))/\(a.length:Int)=(a.length:Int)/\(0:Int)=b/\a=a/\True)/\ ∀(b:Int),0<=b/\b<=(a.length:Int)->ifP (decide (b<(a.length:Int))) (0<=b/\b<(a.length:Int)/\((List.length (a.getD b.toNat default).2.1):Int)<=1099511627776/\0<=b/\b<(a.length:Int)/\ ∃(c:Int),(0<=c/\c<=(a.length:Int))/\Int.toNat ((a.length:Int) -c)<Int.toNat ((a.length:Int) -b)/\(a.length:Int)=(a.length:Int)/\IntKind.wrap .i64 (b+(1:Int))=c/\List.set a b.toNat (a.getD b.toNat default)=a/\True) (a=a):=by
  rintro l ⟨⟨hl,-⟩,-⟩ ⟨h1,h2⟩
  simp only [maxLen] at hl
  refine ⟨h1,⟨0,⟨by omega,by omega⟩,(by repeat' first|exact trivial|refine ⟨trivial,?_⟩|refine ⟨(by with_reducible rfl),?_⟩|refine ⟨w64 (by omega) (by omega),?_⟩|refine ⟨rfl,?_⟩)⟩,?_⟩
  rintro j ⟨j0,j1⟩
  refine ifP_split (fun hj => ?_) (fun hj => ?_)
  · have hj:=of_decide_eq_true hj
    refine ⟨j0,hj,h2 _ (getD_mem j0 hj),j0,hj,j+1,⟨by omega,by omega⟩,by omega,?_⟩
    (repeat first|refine ⟨trivial,?_⟩|refine ⟨(by with_reducible rfl),?_⟩|refine ⟨w64 (by omega) (by omega),?_⟩)
    exact ⟨set_getD j0 hj,trivial⟩
  · rfl
theorem ok_node_routes:SpecOK Tryz.prog GL 63 ct_node_routes.spec:=Ct.okH _ Tryz.func63 (by kernel_rfl) (withSpec_ok (withSpec_ok noSpecs_ok ok_CloneRtN) ok_slices_Clone_263e) hmix an_node_routes (hideMp (by kernel_rfl) vc_node_routes)
def ct_node_Start:Ct:=⟨[.agg cNode],[.agg cState],fun d=>[okL (nRoutes d.1),((nPorts d.1).length:Int)<=1000000],fun d=>((startV d.1,()),())⟩
def an_node_Start:PDs ct_node_Start.ps->Anns:=(fun _=>{})
theorem vc_node_Start :
 ∀(a:Node),CT.wf cNode a/\True->okL (nRoutes a)/\((List.length (nPorts a)):Int)<=1000000->0<=(a.1.length:Int)/\(a.1.length:Int)<=(a.1.length:Int)/\(↑(8:Nat):Int)*(a.1.length:Int)<=281474976710656/\okL a.2.2.2.2.1/\(a.2.2.2.2.1,(0:Int),List.replicate (Int.toNat (a.1.length:Int)) (0:Int),(w (a.2.2.2.2.2.2.2.2.2.2.1.1*a.2.2.2.2.2.2.2.2.2.2.1.2),(0:Int)),(0:Int))=startV a:=by
  rintro d-⟨h,hl⟩
  have hl:(d.1.length:Int)<=1000000:=hl
  exact ⟨by omega,by omega,by omega,h,rfl⟩
theorem ok_node_Start:SpecOK Tryz.prog GL 21 ct_node_Start.spec:=Ct.okH _ Tryz.func21 (by kernel_rfl) (withSpec_ok (withSpec_ok noSpecs_ok ok_bucket_Full) ok_node_routes) hmix an_node_Start (hideMp (by kernel_rfl) vc_node_Start)
def ct_node_Handle:Ct:=⟨[.agg cNode,.agg cState,.val cI,.val cI,.val (.sl cU8)],[.agg cState,.agg cOut,.val cI],fun d=>[sortedR (sRoutes d.2.1),okL (sRoutes d.2.1),((sPortSent d.2.1).length:Int)<=1000000,(d.2.2.2.2.1.length:Int)<=1000000],fun d=>(((handleV d.1 d.2.1 d.2.2.1 d.2.2.2.1 d.2.2.2.2.1).1,(handleV d.1 d.2.1 d.2.2.1 d.2.2.2.1 d.2.2.2.2.1).2.1,(handleV d.1 d.2.1 d.2.2.1 d.2.2.2.1 d.2.2.2.2.1).2.2,()),())⟩
def an_node_Handle:PDs ct_node_Handle.ps->Anns:=(fun _=>{})
def Qbw0 (a:Node) (b:List Route) (c:Int) (d:List Int) (e f g h i:Int) (j:List Int) :=
 (a,(b,c,d,(e,f),g),h,i,j,(0:Int),(0:Int),(0:Int),(0:Int),false,(0:Int),(0:Int))
theorem vc_node_Handle :
 ∀(a:Node) (b:List Route) (c:Int) (d:List Int) (e f g h i:Int) (j:List Int),CT.wf cNode a/\((b.length<=maxLen/\ ∀(k:Route),k∈b->((0<=k.1.1/\k.1.1<=4294967295)/\R64 k.1.2)/\(k.2.1.length<=maxLen/\ ∀(l:Int),l∈k.2.1->R64 l)/\R64 k.2.2)/\R64 c/\(d.length<=maxLen/\ ∀(k:Int),k∈d->R64 k)/\(R64 e/\R64 f)/\R64 g)/\R64 h/\R64 i/\(j.length<=maxLen/\ ∀(k:Int),k∈j->0<=k/\k<=255)/\True->sortedR (sRoutes (b,c,d,(e,f),g))/\okL (sRoutes (b,c,d,(e,f),g))/\((List.length (sPortSent (b,c,d,(e,f),g))):Int)<=1000000/\(j.length:Int)<=1000000->(d.length:Int)<=1099511627776/\okL b/\okW (Qbw0 a b c d e f g h i j)/\(hdV (Qbw0 a b c d e f g h i j)).1=(handleV a (b,c,d,(e,f),g) h i j).1/\(hdV (Qbw0 a b c d e f g h i j)).2.1=(handleV a (b,c,d,(e,f),g) h i j).2.1/\(hdV (Qbw0 a b c d e f g h i j)).2.2=(handleV a (b,c,d,(e,f),g) h i j).2.2:=by
  delta Qbw0
  rintro d x x1 x2 x3 x4 x5 x6 x7 x8-⟨hs,hl,hp,hb⟩
  have e2:sPortSent (x,x1,x2,(x3,x4),x5)=x2:=rfl
  rw [e2] at hp
  exact ⟨by omega,hl,⟨hs,hl,hb⟩,rfl,rfl,rfl⟩
theorem ok_node_Handle:SpecOK Tryz.prog GL 24 ct_node_Handle.spec:=Ct.okH _ Tryz.func24 (by kernel_rfl) (withSpec_ok (withSpec_ok (withSpec_ok noSpecs_ok ok_slices_Clone_263e) ok_node_routes) ok_node_work_handle) hmix an_node_Handle (hideMp (by kernel_rfl) vc_node_Handle)
theorem pickS_eq (s:NState) (r:Rt):pickS s r=(s.1,s.2.1,s.2.2.1,s.2.2.2.1,sBalanced (pickS s r)):=by unfold pickS;split <;> rfl
end Go.RS

/- Law08: the laws of answers. -/
namespace Go.RS
open Go.SX Go.Proofs
set_option maxRecDepth 100000
set_option linter.unusedVariables false
theorem un_notice' {n:Notice} (h0:noticeErr n=0) (hb:bytes n.2.2):unNoticeErr (noticeEnc n)=0/\unNotice (noticeEnc n)=n:=by
  have h1:(n.1=3∨n.1=11)/\0<=n.2.1/\n.2.1<=255:=Classical.byContradiction fun k=>by rw [noticeErr,if_pos k] at h0;cases h0
  have h2:¬ (n.2.2.length:Int)<28:=fun k=>by rw [noticeErr,if_neg (fun q=>q h1),if_pos k] at h0;cases h0
  have h3:¬ (1472:Int)<n.2.2.length:=fun k=>by rw [noticeErr,if_neg (fun q=>q h1),if_neg h2,if_pos k] at h0;cases h0
  have hc:=csum_range (notice_bytes (e:=n) h1 hb)
  obtain ⟨t,k,l⟩:=n
  simp only at h1 h3 hb hc h2
  generalize hB:noticeEnc (t,k,l)=B
  have hs:B=t::k::(csum (noticeBody (t,k,l))/256%256)::(csum (noticeBody (t,k,l))%256)::0::0::0::0::l:=by rw [← hB,noticeEnc,if_pos h0];rfl
  have i2:wordAt B (Int.toNat 2)=csum (noticeBody (t,k,l))/256%256*256+csum (noticeBody (t,k,l))%256:=by rw [hs];exact wordAt0 _ _ _
  have i4:wordAt B (Int.toNat 4)=0:=by rw [hs];exact (wordAt0 0 0 _)
  have i6:wordAt B (Int.toNat 6)=0:=by rw [hs];exact (wordAt0 0 0 _)
  have hset:setW B (Int.toNat 2) 0=noticeBody (t,k,l):=by rw [hs];rfl
  have hlen:(B.length:Int)=8+l.length:=by rw [hs];simp only [List.length_cons];omega
  have g0:B.getD (Int.toNat 0) default=t:=by rw [hs];rfl
  have g1:B.getD (Int.toNat 1) default=k:=by rw [hs];rfl
  have g8:B.drop 8=l:=by rw [hs];rfl
  have he:unNoticeErr B=0:=by
    rw [unNoticeErr,if_neg (by omega),if_neg (fun q=>q ⟨by rw [g0];exact h1.1,i4,i6⟩),if_neg (by omega),if_neg]
    rw [hset,i2,word_w2 hc.1 hc.2];exact fun q=>q rfl
  refine ⟨he,?_⟩
  rw [unNotice,if_pos he,g0,g1,g8]
theorem notice_first {n:Notice} (h0:noticeErr n=0):(noticeEnc n).getD 0 default=n.1/\(noticeEnc n).length=8+n.2.2.length:=by
  rw [noticeEnc,if_pos h0];exact ⟨rfl,by rw [setW_len,notice_len]⟩
theorem notice_enc_bytes {n:Notice} (h0:noticeErr n=0) (hb:bytes n.2.2):bytes (noticeEnc n):=by
  have h1:(n.1=3∨n.1=11)/\0<=n.2.1/\n.2.1<=255:=Classical.byContradiction fun k=>by rw [noticeErr,if_pos k] at h0;cases h0
  rw [noticeEnc,if_pos h0];exact bytes_setW (notice_bytes h1 hb)
structure Good (p:Probe):Prop where
  ok:probeErr p=0
  s:u32 p.1
  d:u32 p.2.1
theorem Good.dec {p:Probe} (g:Good p):pkHdrF (build p)=hdrP p/\decErr (build p)=0/\(build p).drop 20=conP p:=dec_build g.ok g.s g.d
theorem Good.len {p:Probe} (g:Good p):((p.2.2.1≠6/\(build p).length=30)∨(p.2.2.1=6/\(build p).length=40)):=by
  rw [build_eq g.ok,List.length_append,hdrB_len]
  rcases con_len g.ok with h|h
  · exact .inl ⟨h.1,by rw [h.2]⟩
  · exact .inr ⟨h.1,by rw [h.2]⟩
theorem con_first {p:Probe} (g:Good p):(p.2.2.1=1->(conP p).getD 0 default=8)/\(p.2.2.1=6->(conP p).getD 13 default=2):=by
  have hr:=(probe_ok.1 g.ok).2
  constructor
  · intro h;rw [con_echo hr h];rfl
  · intro h;rw [con_tcp hr h];rfl
theorem ans_build {p:Probe} (g:Good p):ansOK (build p)↔usable p.1:=by
  obtain ⟨e1,e2,e3⟩:=g.dec
  have hs:srcOf (build p)=p.1:=by rw [srcOf,e1];rfl
  constructor
  · intro h;rw [← hs];exact (ans_facts h).2.2.2.2
  · intro hu
    refine ans_mk e2 (by rcases g.len with h|h <;> omega) ?_ ?_ (by rw [hs];exact hu)
    · rw [e3];intro h;exact (con_first g).1 (by rw [protoOf,e1] at h;exact h)
    · rw [e3];intro h _;rw [(con_first g).2 (by rw [protoOf,e1] at h;exact h)];decide
theorem con_more {p:Probe} (g:Good p):(p.2.2.1=1->wordAt (conP p) 4=21075/\wordAt (conP p) 6=p.2.2.2.2.1)/\(p.2.2.1=17->wordAt (conP p) 4=10/\wordAt (conP p) 6=p.2.2.2.2.1+1)/\(p.2.2.1=6->numB (((conP p).drop 4).take 4)=p.2.2.2.2.1):=by
  have hr:=(probe_ok.1 g.ok).2
  obtain ⟨hf,ht,-⟩:=id hr
  refine ⟨fun h => ?_,fun h => ?_,fun h => ?_⟩
  · rw [con_echo hr h,word_setW_ne (by show 4+2<=10;omega) (by omega),word_setW_ne (by show 6+2<=10;omega) (by omega)]
    refine ⟨rfl,?_⟩
    show wordAt (_::_::_) 0=_
    rw [wordAt0];exact word_w2 (n:=p.2.2.2.2.1) (by omega) (by omega)
  · have hs:=udp_sum hr
    rw [con_udp hr h,word_setW_ne (by show 4+2<=10;omega) (by omega),word_setW (by show 6+2<=10;omega) (by omega) (by omega)]
    refine ⟨?_,hs⟩
    show wordAt (_::_::_) 0=10
    rw [wordAt0]
    have:((conDgram p).2.2.length:Int)=2:=rfl
    rw [this];decide
  · rw [con_tcp hr h]
    show numB [_,_,_,_]=_
    rw [numB4];exact num4_back (n:=p.2.2.2.2.1) ⟨by omega,by omega⟩
theorem quote_facts {p:Probe} (g:Good p):((build p).take 28).length=28/\bytes ((build p).take 28)/\quV ((build p).take 28)=(p,true):=by
  obtain ⟨e1,e2,e3⟩:=g.dec
  have hl28:((build p).take 28).length=28:=by rw [List.length_take];rcases g.len with h|h <;> omega
  refine ⟨hl28,bytes_take (build_bytes p),?_⟩
  have hF:pkHdrF ((build p).take 28)=hdrP p:=by
    rw [← e1];unfold pkHdrF
    rw [take_get (by omega),take_get (by omega),take_get (by omega),take_word (by omega),take_word (by omega),take_drop_take (by omega),take_drop_take (by omega)]
  have hpk:pkErr ((build p).take 28)=0:=by
    have h0:=dec_pk e2
    have hlen:20<=(build p).length:=by rcases g.len with h|h <;> omega
    rw [pkErr,if_neg (by omega)] at h0 ⊢
    rw [take_get (by omega),take_word (by omega),take_word (by omega),take_word (by omega),List.take_take]
    exact h0
  have wq:∀ i,i+2<=8->wordAt ((build p).take 28) (20+i)=wordAt (conP p) i:=fun i hi=>by
    rw [take_word (by omega),← e3];unfold wordAt;rw [List.drop_drop]
  have w0:=wq 0 (by omega)
  have w2:=wq 2 (by omega)
  have w4:=wq 4 (by omega)
  have w6:=wq 6 (by omega)
  have n4:numB ((((build p).take 28).drop 24).take 4)=numB (((conP p).drop 4).take 4):=by rw [take_drop_take (by omega),← e3,List.drop_drop]
  have cw:=con_words g.ok
  have cm:=con_more g
  have hlw:wordAt ((build p).take 28) 2=(build p).length:=by rw [take_word (by omega),(dec_len e2).2]
  have hq:quHead ((build p).take 28):=⟨hpk,hl28,by rw [hF];rfl,by rw [hF];rfl⟩
  have hpr:protoOf ((build p).take 28)=p.2.2.1:=by rw [protoOf,hF];rfl
  have hfl:quFlow ((build p).take 28)=p.2.2.2.1:=by
    rw [quFlow,hpr]
    have w0:wordAt ((build p).take 28) 20=wordAt (conP p) 0:=w0
    rw [w2,w0,cw.1,cw.2]
    rcases (probe_ok.1 g.ok).1 with h|h|h <;> simp [h,keyA,keyC] <;> omega
  have hP:quP ((build p).take 28)=p:=by
    rw [quP,hfl,hpr,srcOf,dstOf,hF];rfl
  rw [quV,if_pos hq,hP]
  have hR:quRight ((build p).take 28):=by
    unfold quRight
    rw [hpr,hF]
    have w0:wordAt ((build p).take 28) 20=wordAt (conP p) 0:=w0
    rw [w0,w2,w4,w6,n4,cw.1,cw.2,hlw]
    rcases (probe_ok.1 g.ok).1 with h|h|h
    · refine .inl ⟨h,?_,by rw [keyA,if_pos h],(cm.1 h).1,(cm.1 h).2⟩
      rcases g.len with k|k <;> omega
    · refine .inr (.inr ⟨h,?_,by rw [keyC,if_neg (by omega),if_neg (by omega)],cm.2.2 h⟩)
      rcases g.len with k|k <;> omega
    · refine .inr (.inl ⟨h,?_,by rw [keyC,if_neg (by omega),if_pos h],?_,(cm.2.1 h).2⟩)
      · rcases g.len with k|k <;> omega
      · rw [(cm.2.1 h).1];rcases g.len with k|k <;> omega
  rw [decide_eq_true ⟨hR,g.ok⟩]
theorem send_back {src dst proto id ttl:Int} {data:List Int} (hn:numOK id ttl) (hp:0<=proto/\proto<=255) (hs:u32 src) (hd:u32 dst) (hl:(data.length:Int)<=1480) (hb:bytes data) :
    decErr (ipEnc (sendP src dst proto id ttl data))=0/\pkHdrF (ipEnc (sendP src dst proto id ttl data))=(0,id,ttl,proto,false,src,dst)/\(ipEnc (sendP src dst proto id ttl data)).drop 20=data/\(ipEnc (sendP src dst proto id ttl data)).length=20+data.length:=by
  have h0:=ip_send (src:=src) (dst:=dst) hn hp hl
  obtain ⟨⟨a,b⟩,c,d⟩:=hn
  rw [ipEnc,if_pos h0]
  have:=pk_back (h:=(0,id,ttl,proto,false,src,dst)) (X:=data) ⟨⟨Int.le_refl _,by simp only;omega⟩,⟨c,d⟩,hp,a,b⟩ hs hd hl hb
  refine ⟨this.2.1,this.1,this.2.2,?_⟩
  show (hdrB _ _++data).length=_
  rw [List.length_append,hdrB_len]
structure IsAns (p:Probe) (a:Ans) (x:List Int):Prop where
  no:¬ ansOK x
  rd:readA x=(noT p 0,a)
  re:readAE x=0
  len:x.length<=1500
theorem Good.t1 {p:Probe} (g:Good p) (t:Int) (h:1<=t/\t<=255):probeErr (noT p t)=0:=by
  obtain ⟨h1,h2,h3,-⟩:=probe_ok.1 g.ok
  exact probe_ok.2 ⟨h1,h2,h3,h⟩
theorem read_mk {p:Probe} {a:Ans} {x:List Int} (g:Good p) (hd:decErr x=0) (hr:partR x=(noT p 0,(0,a.2.1,a.2.2.1,0,0,a.2.2.2.2.2),true)) (ha:a.1=srcOf x) (hl:a.2.2.2.1=(pkHdrF x).2.2.1) (hi:a.2.2.2.2.1=(pkHdrF x).2.1) (hn:¬ ansOK x):IsAns p a x:=by
  have hg:readGood x:=⟨hd,by rw [hr],by rw [hr];exact g.t1 1 (by omega)⟩
  have:=dec_len hd
  refine ⟨hn,?_,by rw [readAE,if_pos hg],by omega⟩
  rw [readA,if_pos hg,hr,← ha,← hl,← hi]
theorem is_notice {p:Probe} (g:Good p) (hu:usable p.1) {from' kind code id ttl:Int} (hf:u32 from') (hg:errGood kind code id ttl) :
    errE (build p) kind code id ttl=0/\IsAns p (from',kindN kind code,code,ttl,id,p.2.2.2.2.2) (errB (build p) from' kind code id ttl)/\(errB (build p) from' kind code id ttl).length=56:=by
  have ha:=(ans_build g).2 hu
  obtain ⟨e0,eB,en,-⟩:=err_good (src:=from') hg ha
  obtain ⟨e1,-,-⟩:=g.dec
  obtain ⟨ql,qb,qv⟩:=quote_facts g
  have hs:srcOf (build p)=p.1:=by rw [srcOf,e1];rfl
  have hk:=hg.1
  refine ⟨e0,?_⟩
  rw [eB,hs]
  generalize hD:noticeEnc (kind,code,(build p).take 28)=D
  have un:=un_notice' en qb
  have nf:=notice_first en
  have nb:=notice_enc_bytes en qb
  rw [hD] at un nf nb
  rw [ql] at nf
  have sb:=send_back (src:=from') (dst:=p.1) (proto:=1) (data:=D) hg.2.2 (by omega) hf g.s (by omega) nb
  generalize ipEnc (sendP from' p.1 1 id ttl D)=x at sb
  obtain ⟨s1,s2,s3,s4⟩:=sb
  have hp1:protoOf x=1:=by rw [protoOf,s2]
  have hns:¬ D.getD 0 default=8:=by rw [nf.1];simp only;omega
  refine ⟨read_mk g s1 ?_ (by rw [srcOf,s2]) (by rw [s2]) (by rw [s2]) (fun k => ?_),by rw [s4,nf.2]⟩
  · rw [partR,if_neg,if_pos hp1,s3,noticeR,if_pos un.1,un.2]
    · simp only
      rw [qv]
      simp [dstOf,s2,noT]
    · rw [s3]
      rintro ⟨-,-,k⟩
      rw [nf.1] at k;simp only at k;omega
  · exact hns (by have:=(ans_facts k).2.2.1 hp1;rw [s3] at this;exact this)
theorem sumF_echoT (t n:Int):sumF true (echoBody (true,21075,t,w2 n))=sumF true (echoBody (false,21075,t,w2 n))-2048:=by
  simp [echoBody,w2,sumF];omega
theorem sumF_echo_pos (t n:Int):23000<=sumF true (echoBody (false,21075,t,w2 n)):=by
  simp [echoBody,w2,sumF];omega
def wantA (p:Probe) (id ttl:Int):Ans:=if p.2.2.1=6 then (p.2.1,4,0,ttl,id,0) else if p.2.2.1=17 then (p.2.1,3,3,ttl,id,p.2.2.2.2.2) else (p.2.1,2,0,ttl,id,0)
theorem is_host {p:Probe} (g:Good p) (hu:usable p.1) {id ttl:Int} (hn:numOK id ttl) :
    hostE (build p) id ttl=0/\IsAns p (wantA p id ttl) (hostB (build p) p.2.1 id ttl):=by
  have ha:=(ans_build g).2 hu
  obtain ⟨e1,e2,e3⟩:=g.dec
  have hs:srcOf (build p)=p.1:=by rw [srcOf,e1];rfl
  have hd:dstOf (build p)=p.2.1:=by rw [dstOf,e1];rfl
  have hpr:protoOf (build p)=p.2.2.1:=by rw [protoOf,e1];rfl
  have hr:=(probe_ok.1 g.ok).2
  have hr':=hr
  obtain ⟨hf,ht,-⟩:=hr'
  rcases (probe_ok.1 g.ok).1 with h|h|h
  · have eE:conP p=echoEnc (conEcho p):=by rw [con_echo hr h,echoEnc,if_pos (echo_err0 hr)]
    have u:=un_echo (okEchoP hr) (bytes_w2 _) (by rw [w2_bytes2];omega)
    have hh:=host_1 (src:=p.2.1) hn ha (by rw [hpr];exact h) (by rw [e3,eE];exact u.1)
    refine ⟨hh.2,?_⟩
    rw [hh.1,hs,e3,eE,u.2]
    have ok2:okEcho (w2 (icmpN p)) (true,(conEcho p).2):=⟨(okEchoP hr).1,rfl⟩
    have u2:=un_echo ok2 (bytes_w2 _) (by rw [w2_bytes2];omega)
    have eg:=echo_good ok2 (by rw [w2_bytes2];omega)
    have esh:echoEnc (true,(conEcho p).2)=setW (echoBody (true,(conEcho p).2)) 2 (csum (echoBody (true,(conEcho p).2))):=by rw [echoEnc,if_pos eg]
    have bb:bytes (echoBody (true,(conEcho p).2)):=echo_bytes (bytes_w2 _)
    have hcs:=csum_range bb
    have ecs:csum (echoBody (true,(conEcho p).2))=18432+p.2.2.2.1:=by
      have h1:=echo_sum hr
      have h2:=sumF_echoT p.2.2.2.2.1 (icmpN p)
      have h3:=sumF_echo_pos p.2.2.2.2.1 (icmpN p)
      unfold csum at h1 ⊢
      have k1:conEcho p=(false,21075,p.2.2.2.2.1,w2 (icmpN p)):=rfl
      rw [k1] at h1 ⊢
      simp only
      rw [h2]
      generalize sumF true (echoBody (false,21075,p.2.2.2.2.1,w2 (icmpN p)))=S at h1 h3 ⊢
      unfold oc at h1 ⊢
      rw [if_neg (by omega)] at h1 ⊢
      omega
    have w2c:wordAt (echoEnc (true,(conEcho p).2)) 2=18432+p.2.2.2.1:=by
      rw [esh,word_setW (by show 2+2<=10;omega) hcs.1 hcs.2,ecs]
    have hl10:(echoEnc (true,(conEcho p).2)).length=10:=by rw [esh,setW_len];rfl
    have hb:bytes (echoEnc (true,(conEcho p).2)):=by rw [esh];exact bytes_setW bb
    have h0:(echoEnc (true,(conEcho p).2)).getD 0 default=0:=by rw [esh];rfl
    generalize hD:echoEnc (true,(conEcho p).2)=D at *
    have sb:=send_back (src:=p.2.1) (dst:=p.1) (proto:=1) (data:=D) hn (by omega) g.d g.s (by omega) hb
    generalize ipEnc (sendP p.2.1 p.1 1 id ttl D)=x at sb
    obtain ⟨s1,s2,s3,s4⟩:=sb
    have hp1:protoOf x=1:=by rw [protoOf,s2]
    have hx:dstOf x=p.1:=by rw [dstOf,s2]
    have hy:srcOf x=p.2.1:=by rw [srcOf,s2]
    rw [wantA,if_neg (by omega),if_neg (by omega)]
    refine read_mk g s1 ?_ hy.symm (by rw [s2]) (by rw [s2]) (fun k => ?_)
    · have eg2:echoGood D:=⟨u2.1,by rw [u2.2],by rw [u2.2];rfl,by rw [u2.2];rfl⟩
      rw [partR,if_pos ⟨hp1,by rw [s3];omega,by rw [s3];exact h0⟩,s3,echoR,if_pos eg2,hx,hy,w2c,u2.2]
      have e9:18432+p.2.2.2.1-18432=p.2.2.2.1:=by omega
      rw [e9,noT,h];rfl
    · have:=(ans_facts k).2.2.1 hp1
      rw [s3,h0] at this;cases this
  · have eE:conP p=tcpEnc p.1 p.2.1 (conSeg p):=by rw [con_tcp hr h,tcpEnc,if_pos (tcp_err0 hr)]
    have u:=un_tcp (s:=p.1) (d:=p.2.1) (okSegP hr) bytes_nil (by simp)
    have hun:unTCP (srcOf (build p)) (dstOf (build p)) ((build p).drop 20)=conSeg p:=by rw [hs,hd,e3,eE];exact u.2
    have hh:=host_6 (src:=p.2.1) hn ha (by rw [hpr];exact h) (by rw [hs,hd,e3,eE];exact u.1) (by rw [hun];show bits .and .i64 2 2≠0;decide) (by rw [hun];show bits .and .i64 2 4=0;decide)
    refine ⟨hh.2,?_⟩
    rw [hh.1,hun,hs]
    have eY:rstOf (conSeg p)=(80,20000+p.2.2.2.1,0,p.2.2.2.2.1+1,20,0,[]):=by
      have:(p.2.2.2.2.1+1)%4294967296=p.2.2.2.2.1+1:=by omega
      show (80,20000+p.2.2.2.1,0,(p.2.2.2.2.1+1)%4294967296,20,0,[])=_
      rw [this]
    have okY:okSeg [] (rstOf (conSeg p)):=by
      rw [eY]
      refine ⟨⟨(word16_iff _).2 ⟨?_,?_⟩,(word16_iff _).2 ⟨?_,?_⟩,⟨?_,?_⟩,⟨?_,?_⟩,⟨?_,?_⟩,(word16_iff _).2 ⟨?_,?_⟩⟩,rfl⟩ <;> simp only <;> omega
    have u2:=un_tcp (s:=p.2.1) (d:=p.1) okY bytes_nil (by simp)
    have eg:=tcp_good okY (by simp)
    have esh:tcpEnc p.2.1 p.1 (rstOf (conSeg p))=setW (tcpBody (rstOf (conSeg p))) 16 (pseudo p.2.1 p.1 6 (tcpBody (rstOf (conSeg p)))):=by rw [tcpEnc,if_pos eg]
    have hb:bytes (tcpEnc p.2.1 p.1 (rstOf (conSeg p))):=by rw [esh];exact bytes_setW (tcp_bytes okY.1 bytes_nil)
    have hl20:(tcpEnc p.2.1 p.1 (rstOf (conSeg p))).length=20:=by rw [esh,setW_len];rfl
    have h13:(tcpEnc p.2.1 p.1 (rstOf (conSeg p))).getD 13 default=20:=by rw [esh];rfl
    rw [eY] at u2
    generalize hD:tcpEnc p.2.1 p.1 (rstOf (conSeg p))=D at *
    rw [← eY,hD] at u2
    have sb:=send_back (src:=p.2.1) (dst:=p.1) (proto:=6) (data:=D) hn (by omega) g.d g.s (by omega) hb
    generalize ipEnc (sendP p.2.1 p.1 6 id ttl D)=x at sb
    obtain ⟨s1,s2,s3,s4⟩:=sb
    have hp1:protoOf x=6:=by rw [protoOf,s2]
    have hx:dstOf x=p.1:=by rw [dstOf,s2]
    have hy:srcOf x=p.2.1:=by rw [srcOf,s2]
    rw [eY] at u2
    rw [wantA,if_pos h]
    refine read_mk g s1 ?_ hy.symm (by rw [s2]) (by rw [s2]) (fun k => ?_)
    · have eg2:resetGood p.2.1 p.1 D:=⟨u2.1,by rw [u2.2],by rw [u2.2],by rw [u2.2],by rw [u2.2],by rw [u2.2]⟩
      rw [partR,if_neg (by rw [hp1];omega),if_neg (by omega),if_pos hp1,s3,hx,hy,resetR,if_pos eg2,u2.2]
      have e9:20000+p.2.2.2.1-20000=p.2.2.2.1:=by omega
      have e8:p.2.2.2.2.1+1-1=p.2.2.2.2.1:=by omega
      simp only
      rw [e9,e8,noT,h]
    · have:=(ans_facts k).2.2.2.1 hp1 (by rw [s3];omega)
      rw [s3,h13] at this;exact absurd this (by decide)
  · have eE:conP p=udpEnc p.1 p.2.1 (conDgram p):=by rw [con_udp hr h,udpEnc,if_pos (udp_err0 hr)]
    have u:=un_udp (s:=p.1) (d:=p.2.1) (okDgramP hr) (bytes_w2 _) (by rw [w2_bytes2];omega)
    have hh:=host_17 (src:=p.2.1) hn ha (by rw [hpr];exact h) (by rw [hs,hd,e3,eE];exact u.1)
    refine ⟨hh.2,?_⟩
    rw [hh.1,wantA,if_neg (by omega),if_pos h]
    exact (is_notice g hu g.d (kind:=3) (code:=3) ⟨.inr rfl,by omega,hn⟩).2.1
def answered (p:Probe) (x:List Int):Prop:=(¬ usable p.1->x=[])/\(usable p.1→∃ a:Ans,0<a.2.1/\IsAns p a x)
theorem no_err {p:Probe} (g:Good p) (hu:¬ usable p.1) {f k c i t:Int} (hg:errGood k c i t):errB (build p) f k c i t=[]/\errE (build p) k c i t=17:=by
  have:=err_bad (src:=f) hg (fun k=>hu ((ans_build g).1 k))
  exact ⟨this.1.symm,this.2.symm⟩
theorem no_host {p:Probe} (g:Good p) (hu:¬ usable p.1) {f i t:Int} (hg:numOK i t):hostB (build p) f i t=[]/\hostE (build p) i t=17:=by
  have:=host_bad (src:=f) hg (fun k=>hu ((ans_build g).1 k.1))
  exact ⟨this.1.symm,this.2.symm⟩
theorem answered_err {p:Probe} (g:Good p) {f k c i t:Int} (hf:u32 f) (hg:errGood k c i t):answered p (errB (build p) f k c i t) :=
  ⟨fun hu=>(no_err g hu hg).1,fun hu=>⟨_,by simp only [kindN];split <;> (try split) <;> omega,(is_notice g hu hf hg).2.1⟩⟩
theorem answered_host {p:Probe} (g:Good p) {i t:Int} (hg:numOK i t):answered p (hostB (build p) p.2.1 i t) :=
  ⟨fun hu=>(no_host g hu hg).1,fun hu=>⟨_,by unfold wantA;split <;> (try split) <;> simp,(is_host g hu hg).2⟩⟩
theorem nil_no:¬ ansOK []:=fun k=>by have:=(ans_facts k).2.1;simp at this
theorem answered_no {p:Probe} {x:List Int} (h:answered p x):¬ ansOK x/\x.length<=1500:=by
  by_cases hu:usable p.1
  · obtain ⟨a,-,k⟩:=h.2 hu;exact ⟨k.no,k.len⟩
  · rw [h.1 hu];exact ⟨nil_no,by simp⟩
def ct_draw_Codes_Answer:Cn:=⟨[.box 96 cCodes,.agg cProbe],[.own 5 cU8],fun d=>[okC d.1,Good d.2.1],fun d y=>okC y.2.1/\answered d.2.1 y.1.1,fun d h=>⟨((hostB (build d.2.1) d.2.1.2.1 0 0,()),(d.1,())),h.1,answered_host h.2.1 ⟨by omega,by omega⟩⟩⟩
def an_draw_Codes_Answer:PDs ct_draw_Codes_Answer.ps->Anns:=(fun _=>{})
theorem vc_draw_Codes_Answer :
 ∀(a:List Int) (b c d e f g h:Int),((a.length<=maxLen/\ ∀(i:Int),i∈a->0<=i/\i<=255)/\R64 b)/\((0<=c/\c<=4294967295)/\(0<=d/\d<=4294967295)/\R64 e/\R64 f/\R64 g/\R64 h)/\True->okC (a,b)/\Good (c,d,e,f,g,h)->okC (a,b)/\ ∀(i:Int) (j:List Int) (k:Int),okC (j,k)/\0<=i/\i<=4294967295->okC (j,k)/\ ∀(l:Int) (m:List Int) (n:Int),0<=l/\(l<65536∨l=0)/\okC (m,n)->okC (m,n)/\ ∀(o:Int) (p:List Int) (q:Int),0<=o/\(o<255∨o=0)/\okC (p,q)->okC (p,q)/\ ∀(r:Int) (s:List Int) (t:Int),0<=r/\(r<4∨r=0)/\okC (s,t)->ifP (decide (r=0)) (((List.length (build (c,d,e,f,g,h))):Int)<=1099511627776/\okC (s,t)/\answered (c,d,e,f,g,h) (hostB (build (c,d,e,f,g,h)) d l (IntKind.wrap .i64 ((1:Int)+o)))) (ifP (decide (r=1)) (okC (s,t)/\ ∀(u:Int) (v:List Int) (w:Int),0<=u/\(u<4∨u=0)/\okC (v,w)->0<=u/\u<((List.length [(0:Int),(1:Int),(3:Int),(13:Int)]):Int)/\((List.length (build (c,d,e,f,g,h))):Int)<=1099511627776/\okC
 (v,w)/\answered (c,d,e,f,g,h) (errB (build (c,d,e,f,g,h)) i (3:Int) (List.getD [(0:Int),(1:Int),(3:Int),(13:Int)] u.toNat default) l (IntKind.wrap .i64 ((1:Int)+o)))) (((List.length (build (c,d,e,f,g,h))):Int)<=1099511627776/\okC (s,t)/\answered (c,d,e,f,g,h) (errB (build (c,d,e,f,g,h)) i (11:Int) (0:Int) l (IntKind.wrap .i64 ((1:Int)+o))))):=by
  rintro l p s d pr f t tl-⟨hc,hg⟩
  have hl:=build_len (s,d,pr,f,t,tl)
  refine ⟨hc,?_⟩
  rintro from' _ _ ⟨hc,f0,f1⟩
  refine ⟨hc,?_⟩
  rintro id _ _ ⟨i0,i1,hc⟩
  refine ⟨hc,?_⟩
  rintro ttl _ _ ⟨u0,u1,hc⟩
  refine ⟨hc,?_⟩
  rw [w64 (n:=1+ttl) (by omega) (by omega)]
  have hn:numOK id (1+ttl):=⟨by omega,by omega⟩
  rintro k _ _ ⟨k0,k1,hc⟩
  refine ifP_split (fun _ => ?_) (fun _=>ifP_split (fun _=>⟨hc,?_⟩) (fun _ => ?_))
  · exact ⟨by omega,hc,answered_host hg hn⟩
  · rintro c _ _ ⟨c0,c1,hc⟩
    have hcd:=getD_all (p:=fun v:Int=>0<=v/\v<=255) (xs:=[(0:Int),1,3,13]) (by simp) (i:=c) c0 (by simp only [List.length_cons,List.length_nil];omega)
    exact ⟨c0,by simp only [List.length_cons,List.length_nil];omega,by omega,hc,answered_err hg ⟨f0,f1⟩ ⟨.inr rfl,hcd,hn⟩⟩
  · exact ⟨by omega,hc,answered_err hg ⟨f0,f1⟩ ⟨.inl rfl,by omega,hn⟩⟩
theorem ok_draw_Codes_Answer:SpecOK Tryz.prog GL 34 ct_draw_Codes_Answer.spec:=Cn.okH _ Tryz.func34 (by kernel_rfl) (withSpec_ok (withSpec_ok (withSpec_ok (withSpec_ok (withSpec_ok noSpecs_ok ok_draw_Codes_Address) ok_Next) ok_ref07_Build) ok_ref08_Host) ok_ref08_Error) hmix an_draw_Codes_Answer (hideMp (by kernel_rfl) vc_draw_Codes_Answer)
end Go.RS

/- Drawsome: an address of a network, drawn. -/
namespace Go.RS
open Go.SX Go.Proofs
set_option maxRecDepth 100000
set_option linter.unusedVariables false
def ct_draw_Codes_Some:Cn:=⟨[.box 96 cCodes,.agg cNet],[.val cU32],fun d=>[okC d.1],fun d y=>okC y.2.1/\0<=y.1.1/\y.1.1<=4294967295,fun d h=>⟨((0,()),(d.1,())),h.1,by simp,by simp⟩⟩
def an_draw_Codes_Some:PDs ct_draw_Codes_Some.ps->Anns:=(fun _=>{})
def Qby0 (c:List Node) (f:Int) :=
 ((List.length (c.getD f.toNat default).1):Int)
theorem vc_draw_Codes_Some :
 ∀(a:List Int) (b:Int) (c:List Node) (d:List Link) (e:List Change),((a.length<=maxLen/\ ∀(f:Int),f∈a->0<=f/\f<=255)/\R64 b)/\((c.length<=maxLen/\ ∀(f:Node),f∈c->CT.wf cNode f)/\(d.length<=maxLen/\ ∀(f:Link),f∈d->CT.wf cLink f)/\e.length<=maxLen/\ ∀(f:Change),f∈e->CT.wf cChange f)/\True->0<=b/\b<=(a.length:Int)->ifP (decide ((c.length:Int)=0)) (okC (a,b)/\ ∀(f:Int) (g:List Int) (h:Int),okC (g,h)/\0<=f/\f<=4294967295->okC (g,h)/\0<=f/\f<=4294967295) (okC (a,b)/\ ∀(f:Int) (g:List Int) (h:Int),0<=f/\(f<(c.length:Int)∨f=0)/\okC (g,h)->0<=f/\f<(c.length:Int)/\ ∀(i:Bool),i=decide ((Qby0 c f)=0)->ifP (! i) (((! i)->(! i))/\okC (g,h)/\ ∀(j:Int) (k:List Int) (l:Int),0<=j/\(j<12∨j=0)/\okC (k,l)->(i=false->(! i))/\ifP (bif i then true else decide (j=11)) (okC (k,l)/\ ∀(m:Int) (n:List Int) (o:Int),okC (n,o)/\0<=m/\m<=4294967295->okC (n,o)/\0<=m/\m<=4294967295) (okC (k,l)/\ ∀(m:Int) (n:List Int)
 (o:Int),0<=m/\(m<(Qby0 c f)∨m=0)/\okC (n,o)->0<=m/\m<(Qby0 c f)/\okC (n,o)/\0<=(List.getD (c.getD f.toNat default).1 m.toNat default).1/\(List.getD (c.getD f.toNat default).1 m.toNat default).1<=4294967295)) ((! i)=false/\(i=false->false=true)/\ifP (bif i then true else false) (okC (g,h)/\ ∀(j:Int) (k:List Int) (l:Int),okC (k,l)/\0<=j/\j<=4294967295->okC (k,l)/\0<=j/\j<=4294967295) (okC (g,h)/\ ∀(j:Int) (k:List Int) (l:Int),0<=j/\(j<(Qby0 c f)∨j=0)/\okC (k,l)->0<=j/\j<(Qby0 c f)/\okC (k,l)/\0<=(List.getD (c.getD f.toNat default).1 j.toNat default).1/\(List.getD (c.getD f.toNat default).1 j.toNat default).1<=4294967295))):=by
  delta Qby0
  rintro l p ns ls hs ⟨-,⟨⟨hnl,hnw⟩,-⟩,-⟩ hc
  refine ifP_split (fun h => ?_) (fun h => ?_)
  · exact ⟨hc,fun x l2 p2 h=>h⟩
  have h:=of_decide_eq_false h
  refine ⟨hc,?_⟩
  rintro x l2 p2 ⟨x0,x1,hc2⟩
  have x1:x<(ns.length:Int):=by omega
  have hX:=hnw _ (getD_mem x0 x1)
  generalize ns.getD x.toNat default=X at hX ⊢
  have hp:=hX.1.2
  refine ⟨x0,x1,?_⟩
  intro b hb
  refine ifP_split (fun q => ?_) (fun q => ?_)
  · have hb0:b=false:=by simpa using q
    subst hb0
    have hne:=of_decide_eq_false hb.symm
    refine ⟨by simp,hc2,?_⟩
    rintro y l3 p3 ⟨y0,y1,hc3⟩
    rw [cond_false]
    (repeat refine ⟨by simp,?_⟩)
    refine ifP_split (fun q => ?_) (fun q => ?_)
    · exact ⟨hc3,fun x l2 p2 h=>h⟩
    · refine ⟨hc3,?_⟩
      rintro z l4 p4 ⟨z0,z1,hc4⟩
      have z1:z<(X.1.length:Int):=by omega
      have:=hp _ (getD_mem z0 z1)
      exact ⟨z0,z1,hc4,this.1⟩
  · have hb0:b=true:=by simpa using q
    subst hb0
    refine ⟨rfl,by simp,?_⟩
    rw [cond_true]
    exact ⟨hc2,fun x l2 p2 h=>h⟩
theorem ok_draw_Codes_Some:SpecOK Tryz.prog GL 15 ct_draw_Codes_Some.spec:=Cn.okH _ Tryz.func15 (by kernel_rfl) (withSpec_ok (withSpec_ok noSpecs_ok ok_Next) ok_draw_Codes_Address) hmix an_draw_Codes_Some (hideMp (by kernel_rfl) vc_draw_Codes_Some)
end Go.RS

/- Netr: routes of drawn networks: what holds of them at any time. -/
namespace Go.RS
open Go.SX Go.Proofs
set_option maxRecDepth 100000
set_option linter.unusedVariables false
theorem nodup_len {α:Type} [DecidableEq α]:∀ {l m:List α},l.Nodup->(∀ x∈l,x∈m)->l.length<=m.length
  | [],m,_,_=>by simp
  | x::l,m,h,hs=>by
    have hx:=hs x List.mem_cons_self
    have hn:=List.nodup_cons.1 h
    have:=nodup_len (l:=l) (m:=m.erase x) hn.2 fun y hy=>(List.mem_erase_of_ne (fun e:y=x=>hn.1 (e▸hy))).2 (hs y (List.mem_cons_of_mem _ hy))
    rw [List.length_erase_of_mem hx] at this
    have hp:=List.length_pos_of_mem hx
    rw [List.length_cons];omega
theorem foldl_inv {α β:Type} (I:β->Prop) (f:β->α->β):∀ {l:List α} {b:β},I b->(∀ x∈l,∀ b,I b->I (f b x))->I (l.foldl f b)
  | [],b,h,_=>h
  | x::l,b,h,hf=>foldl_inv I f (l:=l) (hf x List.mem_cons_self b h) fun y hy=>hf y (List.mem_cons_of_mem _ hy)
theorem mem_insN {k x:Int}:∀ {l:List Int},x∈insN k l->x=k∨x∈l
  | [],h=>by simp [insN] at h;exact .inl h
  | y::r,h=>by
    rw [insN] at h
    split at h
    · rcases List.mem_cons.1 h with e|h
      · exact .inl e
      · exact .inr h
    · rcases List.mem_cons.1 h with e|h
      · exact .inr (e▸List.mem_cons_self)
      · rcases mem_insN h with e|h
        · exact .inl e
        · exact .inr (List.mem_cons_of_mem _ h)
theorem insN_pw {k:Int}:∀ {l:List Int},l.Pairwise (· < ·)->k ∉ l->(insN k l).Pairwise (· < ·)
  | [],_,_=>by rw [insN];exact List.pairwise_singleton _ _
  | y::r,h,hk=>by
    have h:=List.pairwise_cons.1 h
    rw [insN]
    split
    · rename_i hy
      refine List.pairwise_cons.2 ⟨fun z hz => ?_,List.pairwise_cons.2 h⟩
      rcases List.mem_cons.1 hz with rfl|hz
      · exact hy
      · exact Int.lt_trans hy (h.1 z hz)
    · rename_i hy
      have:k≠y:=fun e=>hk (e▸List.mem_cons_self)
      refine List.pairwise_cons.2 ⟨fun z hz => ?_,insN_pw h.2 fun e=>hk (List.mem_cons_of_mem _ e)⟩
      rcases mem_insN hz with rfl|hz
      · omega
      · exact h.1 z hz
theorem insN_ne (k:Int) (l:List Int):insN k l≠[]:=by
  intro e
  have:=insN_len k l
  rw [e] at this;simp at this
theorem mem_putL {l:List Rt} {r x:Rt} (h:x∈putL l r):x=r∨x∈l:=by
  unfold putL at h
  rcases List.mem_append.1 h with h|h
  · exact .inr (List.mem_filter.1 h).1
  · rcases List.mem_cons.1 h with e|h
    · exact .inl e
    · exact .inr (List.mem_filter.1 h).1
def lnk (ls:List Link) (i k:Int):Prop:=0<=k/\k<ls.length/\(lA (ls.getD k.toNat default)=i∨lB (ls.getD k.toNat default)=i)
structure rtOK (ls:List Link) (aa:List Int) (i:Int) (r:Rt):Prop where
  len:r.1.2=32
  mem:r.1.1∈aa
  ne:r.2.1≠[]
  pw:r.2.1.Pairwise (· < ·)
  ln:∀ k∈r.2.1,lnk ls i k
  w0:1<=r.2.2
  w1:r.2.2<=3
def tabOK (ls:List Link) (aa:List Int) (i:Int) (t:List Rt):Prop:=sortedR t∧∀ r∈t,rtOK ls aa i r
theorem tabOK_len {ls:List Link} {aa:List Int} {i:Int} {t:List Rt} (h:tabOK ls aa i t):t.length<=aa.length:=by
  have hn:(t.map fun r=>r.1.1).Nodup:=by
    refine List.Pairwise.map (R:=fun a b:Rt=>a.1.1≠b.1.1) _ (fun a b h=>h) (h.1.imp_of_mem fun {a b} ha hb k => ?_)
    have e1:=(h.2 a ha).len
    have e2:=(h.2 b hb).len
    unfold plt at k
    omega
  have:=nodup_len hn (m:=aa) fun x hx=>by
    obtain ⟨r,hr,rfl⟩:=List.mem_map.1 hx
    exact (h.2 r hr).mem
  simpa using this
theorem rtOK_len {ls:List Link} {aa:List Int} {i:Int} {r:Rt} (h:rtOK ls aa i r):r.2.1.length<=ls.length:=by
  have hn:r.2.1.Nodup:=h.pw.imp fun k=>by omega
  have:=nodup_len hn (m:=(List.range ls.length).map fun (n:Nat)=>(n:Int)) fun x hx=>by
    obtain ⟨k0,k1,_⟩:=h.ln x hx
    exact List.mem_map.2 ⟨x.toNat,List.mem_range.2 (by omega),by omega⟩
  simpa using this
theorem tabOK_route {ls:List Link} {aa:List Int} {i:Int} {t:List Rt} (h:tabOK ls aa i t) {p:Pfx} {k way:Int} (hp:p.2=32) (ha:p.1∈aa) (hk:lnk ls i k) (h0:1<=way) (h1:way<=3) :
    tabOK ls aa i (routeL t p k way):=by
  have put:∀ r:Rt,rtOK ls aa i r->tabOK ls aa i (putL t r):=fun r hr =>
    ⟨putL_sorted h.1,fun x hx=>by
      rcases mem_putL hx with rfl|hx
      · exact hr
      · exact h.2 x hx⟩
  unfold routeL
  split
  · rename_i hf
    have hx:t.getD (rFind t p) default∈t:=by
      have:=getD_mem (xs:=t) (i:=(rFind t p:Nat)) (by omega) (by omega)
      simpa using this
    have hx:=h.2 _ hx
    split
    · exact h
    · rename_i hn
      exact put _ ⟨hp,ha,insN_ne _ _,insN_pw hx.pw hn,fun y hy=>by
        rcases mem_insN hy with rfl|hy
        · exact hk
        · exact hx.ln y hy,hx.w0,hx.w1⟩
  · exact put _ ⟨hp,ha,by simp,List.pairwise_singleton _ _,fun y hy=>by rw [List.mem_singleton.1 hy];exact hk,h0,h1⟩
structure RI (ls:List Link) (aa:List Int) (ns0 ns:List Node):Prop where
  n:ns.length=ns0.length
  e:∀ i:Nat,i<ns0.length->setRoutes (ns.getD i default) []=setRoutes (ns0.getD i default) []
  t:∀ i:Nat,i<ns0.length->tabOK ls aa i (nRoutes (ns.getD i default))
theorem RI.ports {ls aa ns0 ns} (h:RI ls aa ns0 ns) {i:Nat} (hi:i<ns0.length):nPorts (ns.getD i default)=nPorts (ns0.getD i default):=by
  have:=congrArg nPorts (h.e i hi);exact this
theorem RI.host {ls aa ns0 ns} (h:RI ls aa ns0 ns) {i:Nat} (hi:i<ns0.length):nHost (ns.getD i default)=nHost (ns0.getD i default):=by
  have:=congrArg nHost (h.e i hi);exact this
theorem RI.route {ls aa ns0 ns} (h:RI ls aa ns0 ns) {a:Int} {p:Pfx} {k way:Int} (a0:0<=a) (a1:a<ns0.length) (hp:p.2=32) (ha:p.1∈aa) (hk:lnk ls a k) (h0:1<=way) (h1:way<=3) :
    RI ls aa ns0 (routeN ns a p k way):=by
  have hl:a.toNat<ns.length:=by have:=h.n;omega
  unfold routeN
  refine ⟨by rw [List.length_set];exact h.n,fun i hi => ?_,fun i hi => ?_⟩
  · by_cases e:a.toNat=i
    · subst e
      rw [getD_set hl];exact h.e _ hi
    · rw [getD_setne e];exact h.e _ hi
  · by_cases e:a.toNat=i
    · subst e
      rw [getD_set hl]
      have:=tabOK_route (h.t _ hi) (p:=p) (k:=k) (way:=way) hp ha (by rwa [show ((a.toNat:Nat):Int)=a by omega]) h0 h1
      exact this
    · rw [getD_setne e];exact h.t _ hi
theorem RI.step {ls aa ns0 ns} (h:RI ls aa ns0 ns) {d:List Int} {to:Int} {p:Pfx} {plain:Bool} {k way a b:Int} (a0:0<=a) (a1:a<ns0.length) (hp:p.2=32) (ha:p.1∈aa) (hk:lnk ls a k) (h0:1<=way) (h1:way<=3) :
    RI ls aa ns0 (stepE d to p plain k way ns a b):=by
  unfold stepE
  split
  · exact h
  · split
    · exact h
    · exact h.route a0 a1 hp ha hk h0 h1
def goodEnds (n:Nat) (ls:List Link):Prop:=∀ l∈ls,0<=l.1/\l.1<n/\0<=l.2.1/\l.2.1<n
theorem goodEnds.at' {n:Nat} {ls:List Link} (hg:goodEnds n ls) {k:Nat} (hk:k<ls.length):(0<=lA (ls.getD k default)/\lA (ls.getD k default)<n)/\0<=lB (ls.getD k default)/\lB (ls.getD k default)<n:=by
  have hx:ls.getD k default∈ls:=by
    have:=getD_mem (xs:=ls) (i:=(k:Nat)) (by omega) (by omega)
    simpa using this
  obtain ⟨q1,q2,q3,q4⟩:=hg _ hx
  exact ⟨⟨q1,q2⟩,q3,q4⟩
theorem lnkA {ls:List Link} {k:Nat} (hk:k<ls.length):lnk ls (lA (ls.getD k default)) k:=⟨by omega,by omega,.inl (by simp)⟩
theorem lnkB {ls:List Link} {k:Nat} (hk:k<ls.length):lnk ls (lB (ls.getD k default)) k:=⟨by omega,by omega,.inr (by simp)⟩
theorem RI.stepK {ls aa ns0 ns} (h:RI ls aa ns0 ns) (hg:goodEnds ns0.length ls) {d:List Int} {to:Int} {p:Pfx} {plain:Bool} {way:Int} {k:Nat} (hk:k<ls.length) (hp:p.2=32) (ha:p.1∈aa) (h0:1<=way) (h1:way<=3) :
    RI ls aa ns0 (stepK ls d to p plain way ns k):=by
  have hh:=hg.at' hk
  unfold Go.RS.stepK
  exact (h.step hh.1.1 hh.1.2 hp ha (lnkA hk) h0 h1).step hh.2.1 hh.2.2 hp ha (lnkB hk) h0 h1
theorem RI.stepKs {ls aa ns0 ns} (h:RI ls aa ns0 ns) (hg:goodEnds ns0.length ls) {d:List Int} {to:Int} {p:Pfx} {plain:Bool} {way:Int} (hp:p.2=32) (ha:p.1∈aa) (h0:1<=way) (h1:way<=3) {n:Nat} (hn:n<=ls.length) :
    RI ls aa ns0 ((List.range n).foldl (Go.RS.stepK ls d to p plain way) ns) :=
  foldl_inv _ _ h fun k hk b hb=>hb.stepK hg (by have:=List.mem_range.1 hk;omega) hp ha h0 h1
theorem RI.stepP {ls aa ns0 ns} (h:RI ls aa ns0 ns) (hg:goodEnds ns0.length ls) {d:List Int} {to:Int} {plain:Bool} {way:Int} {q:Port} (ha:q.1∈aa) (h0:1<=way) (h1:way<=3) :
    RI ls aa ns0 (stepP ls d to plain way ns q) :=
  h.stepKs (p:=(q.1,32)) hg rfl ha h0 h1 (Nat.le_refl _)
def allA (ns:List Node):List Int:=ns.flatMap fun x=>(nPorts x).map (·.1)
theorem mem_allA {ns:List Node} {i:Nat} (hi:i<ns.length) {q:Port} (hq:q∈nPorts (ns.getD i default)):q.1∈allA ns:=by
  have hx:ns.getD i default∈ns:=by
    have:=getD_mem (xs:=ns) (i:=(i:Nat)) (by omega) (by omega)
    simpa using this
  exact List.mem_flatMap.2 ⟨_,hx,List.mem_map.2 ⟨q,hq,rfl⟩⟩
theorem RI.stepPs {ls ns0 ns} (h:RI ls (allA ns0) ns0 ns) (hg:goodEnds ns0.length ls) {d:List Int} {to:Int} {plain:Bool} {way:Int} (h0:1<=way) (h1:way<=3) {l:List Port} (hl:∀ q∈l,q.1∈allA ns0) :
    RI ls (allA ns0) ns0 (l.foldl (Go.RS.stepP ls d to plain way) ns) :=
  foldl_inv _ _ h fun q hq b hb=>hb.stepP hg (hl q hq) h0 h1
theorem wayC_ok {c:Codes} (h:okB c):okB (wayC c).2/\1<=(wayC c).1/\(wayC c).1<=3:=by
  have k:=nextV_ok h 3
  have k2:=nextV_ok k.1 3
  have:=nextV_lt h (n:=3) (by omega)
  unfold wayC
  split
  · refine ⟨k2.1,?_⟩
    dsimp only
    split <;> omega
  · exact ⟨k.1,by dsimp only;omega,by dsimp only;omega⟩
theorem RI.stepT {ls ns0} {s:List Node×Codes} (h:RI ls (allA ns0) ns0 s.1/\okB s.2) (hg:goodEnds ns0.length ls) {plain:Bool} {to:Nat} (ht:to<ns0.length) :
    RI ls (allA ns0) ns0 (stepT ls plain s to).1/\okB (stepT ls plain s to).2:=by
  have w:=wayC_ok h.2
  unfold Go.RS.stepT
  refine ⟨h.1.stepPs hg w.2.1 w.2.2 fun q hq => ?_,w.1⟩
  rw [h.1.ports ht] at hq
  exact mem_allA ht hq
theorem RI.stepTs {ls ns0} {s:List Node×Codes} (h:RI ls (allA ns0) ns0 s.1/\okB s.2) (hg:goodEnds ns0.length ls) {plain:Bool} {n:Nat} (hn:n<=ns0.length) :
    RI ls (allA ns0) ns0 ((List.range n).foldl (Go.RS.stepT ls plain) s).1/\okB ((List.range n).foldl (Go.RS.stepT ls plain) s).2 :=
  foldl_inv (fun s:List Node×Codes=>RI ls (allA ns0) ns0 s.1/\okB s.2) _ h fun k hk b hb=>RI.stepT hb hg (by have:=List.mem_range.1 hk;omega)
theorem RI.start {ls:List Link} {ns0:List Node} (h:∀ x∈ns0,nRoutes x=[]):RI ls (allA ns0) ns0 ns0:=by
  refine ⟨rfl,fun _ _=>rfl,fun i hi => ?_⟩
  have hx:ns0.getD i default∈ns0:=by
    have:=getD_mem (xs:=ns0) (i:=(i:Nat)) (by omega) (by omega)
    simpa using this
  rw [h _ hx]
  exact ⟨List.Pairwise.nil,fun r hr=>by cases hr⟩
end Go.RS

/- Netg: how drawn networks grow: what holds of their nodes and links. -/
namespace Go.RS
open Go.SX Go.Proofs
set_option maxRecDepth 100000
set_option linter.unusedVariables false
def port1 (i:Int) (k:Nat) (l:Link):List Port:=(if lA l=i then [(baseA k+1,(k:Int))] else [])++(if lB l=i then [(baseA k+2,(k:Int))] else [])
def portsF (i:Int):Nat->List Link->List Port
  | _,[]=>[]
  | k,l::r=>port1 i k l++portsF i (k+1) r
theorem portsF_snoc (i:Int) (l:Link):∀ (k:Nat) (ls:List Link),portsF i k (ls++[l])=portsF i k ls++port1 i (k+ls.length) l
  | k,[]=>by simp [portsF]
  | k,x::r=>by
    rw [List.cons_append,portsF,portsF_snoc i l (k+1) r,portsF,List.append_assoc,List.length_cons,show k+1+r.length=k+(r.length+1) by omega]
theorem port1_len (i:Int) (k:Nat) (l:Link):(port1 i k l).length<=2:=by
  unfold port1
  split <;> split <;> simp
theorem portsF_len (i:Int):∀ (k:Nat) (ls:List Link),(portsF i k ls).length<=2*ls.length
  | k,[]=>by simp [portsF]
  | k,x::r=>by
    have:=portsF_len i (k+1) r
    have:=port1_len i k x
    rw [portsF,List.length_append,List.length_cons];omega
theorem portsF_none {i:Int}:∀ {k:Nat} {ls:List Link},(∀ x∈ls,lA x≠i/\lB x≠i)->portsF i k ls=[]
  | k,[],_=>rfl
  | k,x::r,h=>by
    have hx:=h x List.mem_cons_self
    rw [portsF,portsF_none fun y hy=>h y (List.mem_cons_of_mem _ hy),port1,if_neg hx.1,if_neg hx.2];rfl
theorem mem_portsF {i:Int} {q:Port}:∀ {k:Nat} {ls:List Link},q∈portsF i k ls↔∃ j,j<ls.length/\((lA (ls.getD j default)=i/\q=(baseA (k+j:Nat)+1,((k+j:Nat):Int)))∨(lB (ls.getD j default)=i/\q=(baseA (k+j:Nat)+2,((k+j:Nat):Int))))
  | k,[]=>by simp [portsF]
  | k,x::r=>by
    rw [portsF,List.mem_append,mem_portsF (k:=k+1) (ls:=r)]
    constructor
    · rintro (h|⟨j,hj,h⟩)
      · refine ⟨0,by simp,?_⟩
        unfold port1 at h
        rcases List.mem_append.1 h with h|h
        · split at h
          · rename_i e
            exact .inl ⟨e,by simpa using h⟩
          · cases h
        · split at h
          · rename_i e
            exact .inr ⟨e,by simpa using h⟩
          · cases h
      · refine ⟨j+1,by rw [List.length_cons];omega,?_⟩
        rw [List.getD_cons_succ,show k+(j+1)=k+1+j by omega];exact h
    · rintro ⟨j,hj,h⟩
      cases j with
      | zero =>
        refine .inl ?_
        rw [List.getD_cons_zero] at h
        unfold port1
        rcases h with ⟨e,h⟩|⟨e,h⟩
        · rw [if_pos e];exact List.mem_append.2 (.inl (by simpa using h))
        · rw [if_pos e];exact List.mem_append.2 (.inr (by simpa using h))
      | succ j =>
        refine .inr ⟨j,by rw [List.length_cons] at hj;omega,?_⟩
        rw [List.getD_cons_succ,show k+(j+1)=k+1+j by omega] at h;exact h
theorem getD_app_lt {α:Type} [Inhabited α] {l m:List α} {i:Nat} (h:i<l.length):(l++m).getD i default=l.getD i default:=by
  rw [List.getD_eq_getElem?_getD,List.getElem?_append_left h,List.getD_eq_getElem?_getD]
theorem getD_app_eq {α:Type} [Inhabited α] {l:List α} {x:α}:(l++[x]).getD l.length default=x:=by
  rw [List.getD_eq_getElem?_getD];simp
theorem addPort_get {ns:List Node} {x:Int} {p:Port} (x0:0<=x) {i:Nat} (hi:i<ns.length) :
    (addPort ns x p).getD i default=((ns.getD i default).1++(if x=i then [p] else []),(ns.getD i default).2):=by
  unfold addPort
  by_cases e:x=i
  · have:x.toNat=i:=by omega
    rw [this,getD_set hi,if_pos e]
  · have:x.toNat≠i:=by omega
    rw [getD_setne this,if_neg e,List.append_nil]
theorem addPort_len (ns:List Node) (x:Int) (p:Port):(addPort ns x p).length=ns.length:=by unfold addPort;exact List.length_set
structure GI (s:Scene) (nn nl:Nat):Prop where
  n:s.1.1.length=nn
  l:s.1.2.1.length=nl
  h:s.1.2.2=[]
  c:okB s.2
  g:∀ x∈s.1.2.1,(0<=lA x/\lA x<nn)/\(0<=lB x/\lB x<nn)/\lA x≠lB x/\(1<=lDelay x/\lDelay x<=20)/\lJitter x=0/\lLoss x=0/\0<=lSeed x/\lSeed x<=255
  p:∀ i:Nat,i<nn->nPorts (s.1.1.getD i default)=portsF i 0 s.1.2.1
  d:∀ i:Nat,i<nn→∃ host f sd,(s.1.1.getD i default).2=(newNode i host f sd).2/\(f=64∨f=255∨f=128)/\0<=sd/\sd<=255
theorem GI.node {s:Scene} {nn nl:Nat} (h:GI s nn nl) (host:Bool):GI (nodeS s host) (nn+1) nl:=by
  have k3:=nextV_lt h.c (n:=3) (by omega)
  have c3:=(nextV_ok h.c 3).1
  have k4:=nextV_lt c3 (n:=256) (by omega)
  have c4:=(nextV_ok c3 256).1
  refine ⟨by simp only [nodeS,List.length_append,List.length_cons,List.length_nil,h.n],h.l,h.h,c4,fun x hx => ?_,fun i hi => ?_,fun i hi => ?_⟩
  · have:=h.g x hx
    omega
  · by_cases e:i<nn
    · rw [show (nodeS s host).1.1.getD i default=s.1.1.getD i default from getD_app_lt (by rw [h.n];exact e)]
      exact h.p i e
    · have e:i=s.1.1.length:=by rw [h.n];omega
      subst e
      rw [show (nodeS s host).1.1.getD s.1.1.length default=newNode s.1.1.length host _ _ from getD_app_eq]
      refine (portsF_none fun x hx => ?_).symm
      have:=h.g x hx
      have:=h.n
      omega
  · by_cases e:i<nn
    · rw [show (nodeS s host).1.1.getD i default=s.1.1.getD i default from getD_app_lt (by rw [h.n];exact e)]
      exact h.d i e
    · have e:i=s.1.1.length:=by rw [h.n];omega
      subst e
      rw [show (nodeS s host).1.1.getD s.1.1.length default=newNode s.1.1.length host _ _ from getD_app_eq]
      refine ⟨host,_,_,rfl,?_,k4.1,by omega⟩
      rcases (show (nextV s.2 3).1=0∨(nextV s.2 3).1=1∨(nextV s.2 3).1=2 by omega) with e|e|e <;> rw [e] <;> simp
theorem GI.link {s:Scene} {nn nl:Nat} (h:GI s nn nl) {a b:Int} (a0:0<=a) (a1:a<nn) (b0:0<=b) (b1:b<nn) (ne:a≠b):GI (linkS s a b) nn (nl+1):=by
  have k3:=nextV_lt h.c (n:=20) (by omega)
  have c3:=(nextV_ok h.c 20).1
  have k4:=nextV_lt c3 (n:=256) (by omega)
  have c4:=(nextV_ok c3 256).1
  refine ⟨by simp only [linkS,addPort_len,h.n],by simp only [linkS,List.length_append,List.length_cons,List.length_nil,h.l],h.h,c4,fun x hx => ?_,fun i hi => ?_,fun i hi => ?_⟩
  · rcases List.mem_append.1 hx with hx|hx
    · exact h.g x hx
    · rw [List.mem_singleton.1 hx]
      refine ⟨⟨a0,a1⟩,⟨b0,b1⟩,ne,?_,rfl,rfl,k4.1,?_⟩
      · show 1<=1+(nextV s.2 20).1/\1+(nextV s.2 20).1<=20
        omega
      · show (nextV (nextV s.2 20).2 256).1<=255
        omega
  · have hp:=h.p i hi
    unfold linkS
    dsimp only
    rw [addPort_get b0 (by rw [addPort_len,h.n];exact hi),addPort_get a0 (by rw [h.n];exact hi),portsF_snoc,← hp,Nat.zero_add]
    simp only [nPorts,port1,lA,lB,List.append_assoc]
    rfl
  · unfold linkS
    dsimp only
    rw [addPort_get b0 (by rw [addPort_len,h.n];exact hi),addPort_get a0 (by rw [h.n];exact hi)]
    exact h.d i hi
theorem GI.codes {s:Scene} {nn nl:Nat} (h:GI s nn nl) {c:Codes} (hc:okB c):GI (s.1,c) nn nl:=⟨h.n,h.l,h.h,hc,h.g,h.p,h.d⟩
theorem GI.start {c:Codes} (hc:okB c):GI (([],[],[]),c) 0 0 :=
  ⟨rfl,rfl,rfl,hc,fun x hx=>(by cases hx),fun i hi=>(by omega),fun i hi=>(by omega)⟩
theorem GI.routes {s:Scene} {nn nl:Nat} (h:GI s nn nl):∀ x∈s.1.1,nRoutes x=[]:=fun x hx=>by
  obtain ⟨i,hi,e⟩:=List.mem_iff_getElem.1 hx
  obtain ⟨host,f,sd,hd,-⟩:=h.d i (by rw [← h.n];exact hi)
  have:s.1.1.getD i default=x:=by rw [List.getD_eq_getElem?_getD,List.getElem?_eq_getElem hi,e];rfl
  rw [this] at hd
  show x.2.2.2.2.1=[]
  rw [hd];rfl
theorem GI.plen {s:Scene} {nn nl:Nat} (h:GI s nn nl):∀ x∈s.1.1,x.1.length<=2*nl:=fun x hx=>by
  obtain ⟨i,hi,e⟩:=List.mem_iff_getElem.1 hx
  have hp:=h.p i (by rw [← h.n];exact hi)
  have:s.1.1.getD i default=x:=by rw [List.getD_eq_getElem?_getD,List.getElem?_eq_getElem hi,e];rfl
  rw [this] at hp
  have:=portsF_len i 0 s.1.2.1
  rw [← hp,h.l] at this;exact this
theorem allA_len:∀ {ns:List Node} {m:Nat},(∀ x∈ns,x.1.length<=m)->(allA ns).length<=ns.length*m
  | [],m,_=>by simp [allA]
  | x::r,m,h=>by
    have k:=allA_len (ns:=r) (m:=m) fun y hy=>h y (List.mem_cons_of_mem _ hy)
    have hx:=h x List.mem_cons_self
    unfold allA at k ⊢
    rw [List.flatMap_cons,List.length_append,List.length_map,List.length_cons,Nat.succ_mul]
    show (nPorts x).length+_<=_
    have:(nPorts x).length<=m:=hx
    omega
theorem GI.ends {s:Scene} {nn nl:Nat} (h:GI s nn nl):goodEnds s.1.1.length s.1.2.1:=fun x hx=>by
  have:=h.g x hx
  rw [h.n]
  exact ⟨this.1.1,this.1.2,this.2.1.1,this.2.1.2⟩
theorem GI.chain {s:Scene} (h:GI s 1 0):∀ k:Nat,GI ((List.range k).foldl chainS s) (k+1) k
  | 0=>h
  | k+1=>by
    rw [List.range_succ,List.foldl_append]
    exact ((GI.chain h k).node false).link (by omega) (by omega) (by omega) (by omega) (by omega)
def lineN (c:Codes):Int:=1+(nextV (nodeS (([],[],[]),c) true).2 5).1
def line0 (c:Codes):Scene:=((nodeS (([],[],[]),c) true).1,(nextV (nodeS (([],[],[]),c) true).2 5).2)
theorem line0_ok {c:Codes} (h:okB c):GI (line0 c) 1 0:=((GI.start h).node true).codes (nextV_ok ((GI.start h).node true).c 5).1
theorem lineN_ok {c:Codes} (h:okB c):1<=lineN c/\lineN c<=5:=by
  have:=nextV_lt ((GI.start h).node true).c (n:=5) (by omega)
  unfold lineN;omega
theorem lineS_eq (c:Codes):lineS c=(lineN c,linkS (nodeS ((List.range (lineN c).toNat).foldl chainS (line0 c)) true) (lineN c) (lineN c+1)):=rfl
theorem line_ok {c:Codes} (h:okB c):GI (lineS c).2 ((lineN c).toNat+2) ((lineN c).toNat+1):=by
  have:=lineN_ok h
  rw [lineS_eq]
  exact (((line0_ok h).chain _).node true).link (by omega) (by omega) (by omega) (by omega) (by omega)
theorem GI.short {s:Scene} {nn nl:Nat} (h:GI s nn nl) {n:Int} (n1:1<=n) (hn:n+2<=nn):∃ m,nl<=m/\m<=nl+1/\GI (shortS n s) nn m:=by
  have ka:=nextV_lt h.c (n:=n) (by omega)
  have ca:=(nextV_ok h.c n).1
  have kb:=nextV_lt ca (n:=n) (by omega)
  have cb:=(nextV_ok ca n).1
  unfold shortS
  dsimp only
  split
  · exact ⟨nl,by omega,by omega,h.codes cb⟩
  · rename_i e
    exact ⟨nl+1,by omega,by omega,(h.codes cb).link (by omega) (by omega) (by omega) (by omega) (by omega)⟩
theorem GI.shorts {s:Scene} {nn nl:Nat} (h:GI s nn nl) {n:Int} (n1:1<=n) (hn:n+2<=nn):∀ k:Nat,∃ m,nl<=m/\m<=nl+k/\GI ((List.range k).foldl (fun s _=>shortS n s) s) nn m
  | 0=>⟨nl,by omega,by omega,h⟩
  | k+1=>by
    obtain ⟨m,m0,m1,hm⟩:=GI.shorts h n1 hn k
    obtain ⟨m',q0,q1,hq⟩:=hm.short n1 hn
    refine ⟨m',by omega,by omega,?_⟩
    rw [List.range_succ,List.foldl_append];exact hq
def more1 (plain:Bool) (n:Int) (s:Scene) (k:Nat):Scene:=if 1<n/\plain=false then (List.range k).foldl (fun s _=>shortS n s) (s.1,(nextV s.2 4).2) else (s.1,(nextV s.2 4).2)
theorem more1_ok {s:Scene} {nn nl:Nat} (h:GI s nn nl) {plain:Bool} {n:Int} (n1:1<=n) (hn:n+2<=nn) (k:Nat):∃ m,nl<=m/\m<=nl+k/\GI (more1 plain n s k) nn m:=by
  have hc:=h.codes (nextV_ok h.c 4).1
  unfold more1
  split
  · exact hc.shorts n1 hn k
  · exact ⟨nl,by omega,by omega,hc⟩
theorem moreS_eq (plain:Bool) (n:Int) (s:Scene):moreS plain n s=(let s1:=more1 plain n s (nextV s.2 4).1.toNat
    if plain=true/\2<n then
      if (nextV s1.2 2).1=1 then linkS (s1.1,(nextV (nextV s1.2 2).2 (n-1)).2) (1+(nextV (nextV s1.2 2).2 (n-1)).1) n else (s1.1,(nextV s1.2 2).2)
    else s1):=rfl
theorem moreS_ok {s:Scene} {nn nl:Nat} (h:GI s nn nl) {plain:Bool} {n:Int} (n1:1<=n) (hn:n+2<=nn):∃ m,nl<=m/\m<=nl+4/\GI (moreS plain n s) nn m:=by
  have k4:=nextV_lt h.c (n:=4) (by omega)
  obtain ⟨m,m0,m1,hm⟩:=more1_ok h (plain:=plain) n1 hn (nextV s.2 4).1.toNat
  rw [moreS_eq]
  dsimp only
  generalize more1 plain n s (nextV s.2 4).1.toNat=t at hm ⊢
  have c2:=(nextV_ok hm.c 2).1
  have c3:=(nextV_ok c2 (n-1)).1
  split
  · rename_i e
    split
    · have k5:=nextV_lt c2 (n:=n-1) (by omega)
      exact ⟨m+1,by omega,by omega,(hm.codes c3).link (by omega) (by omega) (by omega) (by omega) (by omega)⟩
    · exact ⟨m,by omega,by omega,hm.codes c2⟩
  · exact ⟨m,by omega,by omega,hm⟩
theorem net_ok {c:Codes} (h:okB c) (plain:Bool):∃ m,2<=m/\m<=10/\GI (moreS plain (lineS c).1 (lineS c).2) ((lineN c).toNat+2) m:=by
  have hn:=lineN_ok h
  obtain ⟨m,m0,m1,hm⟩:=moreS_ok (line_ok h) (plain:=plain) (n:=lineN c) hn.1 (by omega)
  exact ⟨m,by omega,by omega,hm⟩
end Go.RS
