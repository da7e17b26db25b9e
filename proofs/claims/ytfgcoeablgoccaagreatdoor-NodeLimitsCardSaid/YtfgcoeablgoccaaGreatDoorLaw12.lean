/- Node1: what a node does with a packet: the program. -/
import Derived.Test.YtfgcoeablgoccaaGreatDoorNodek
import Derived.Test.YtfgcoeablgoccaaGreatDoorTransp
namespace Go.RS
open Go.SX Go.Proofs
set_option maxRecDepth 100000
set_option linter.unusedVariables false
abbrev oState:OT := .pair (.dat (.sl cRt)) (.pair cI (.pair (.row 3 cI) (.pair cTokens cI)))
abbrev oWork:OT := .pair cNode (.pair oState (.pair cI (.pair cI (.pair (.dat (.sl cU8)) cHeader))))
abbrev cOut:CT := .pair cI (.sl cU8)
abbrev Work:Type:=Node×NState×Int×Int×List Int×Header
abbrev HRes:Type:=NState×(Int×List Int)×Int
def hSrc (h:Header):Int:=h.2.2.2.2.2.1
def hDst (h:Header):Int:=h.2.2.2.2.2.2
def hID (h:Header):Int:=h.2.1
def hTTL (h:Header):Int:=h.2.2.1
def hProto (h:Header):Int:=h.2.2.2.1
def inP (x:Node) (link:Int):Int:=max (portL x link) 0
def adr (x:Node) (i:Int):Int:=if i<0∨(nPorts x).length<=i then 0 else ((nPorts x).getD i.toNat default).1
def wayB (s:NState) (a:Int):Bool:=lookB (sRoutes s) a&&decide (0<(lookR (sRoutes s) a).2.1.length)
def pickI (x:Node) (s:NState) (r:Rt) (k:Key):Int:=(choose r.2.2 (nSeed x) k (sBalanced s) r.2.1.length).1
def pickL (x:Node) (s:NState) (r:Rt) (k:Key):Int:=if r.2.1.length=1 then r.2.1.getD 0 default else r.2.1.getD (pickI x s r k).toNat default
def setBal (s:NState) (b:Int):NState:=(s.1,s.2.1,s.2.2.1,s.2.2.2.1,b)
def pickS (s:NState) (r:Rt):NState:=if r.2.1.length=1 then s else setBal s (IntKind.i64.wrap (sBalanced s+1))
def tokS (s:NState) (t:Int×Int):NState:=(s.1,s.2.1,s.2.2.1,t,s.2.2.2.2)
def bump (l:List Int) (i:Int):List Int:=if i<l.length then l.set i.toNat (IntKind.i64.wrap (l.getD i.toNat default+1)) else l
def sentS (s:NState) (i:Int):NState:=(s.1,IntKind.i64.wrap (s.2.1+1),bump s.2.2.1 i,s.2.2.2)
def srcA (x:Node) (i link:Int):Int:=if nSource x=2 then adr x (portL x link) else if nSource x=3 then nLoop x else if nSource x=4 then nFixed x else adr x i
def setS (w:Work) (s:NState):Work:=(w.1,s,w.2.2)
def setH (w:Work) (h:Header):Work:=(w.1,w.2.1,w.2.2.1,w.2.2.2.1,w.2.2.2.2.1,h)
def out0:Int×List Int:=(0,[])
def takeV (w:Work):(Int×Int)×Bool:=bTake (nLimit w.1) (sTokens w.2.1) w.2.2.2.1
def ansS (w:Work):NState:=sentS (tokS w.2.1 (takeV w).1) (inP w.1 w.2.2.1)
def ansRt (w:Work):Rt:=lookR (sRoutes w.2.1) (hSrc w.2.2.2.2.2)
def ansL (B:Int->Int->List Int) (w:Work):Int:=pickL w.1 (ansS w) (ansRt w) (keyB (B (adr w.1 (inP w.1 w.2.2.1)) 0))
def ansID (w:Work):Int:=idNext w.1 (tokS w.2.1 (takeV w).1) (inP w.1 w.2.2.1) w.2.2.2.1 (hID w.2.2.2.2.2) (hSrc w.2.2.2.2.2)
def ansF (B:Int->Int->List Int) (w:Work) (own:Int):Int:=if own=0 then srcA w.1 (inP w.1 w.2.2.1) (ansL B w) else own
def ansV (B:Int->Int->List Int) (E:Int->Int) (w:Work) (own:Int):HRes :=
  if own=0/\nSilent w.1=true then (w.2.1,out0,4)
  else if E 0≠0 then (w.2.1,out0,6)
  else if wayB w.2.1 (hSrc w.2.2.2.2.2)=false then (w.2.1,out0,8)
  else if (takeV w).2=false then (tokS w.2.1 (takeV w).1,out0,5)
  else (pickS (ansS w) (ansRt w),(ansL B w,B (ansF B w own) (ansID w)),2)
def wHostB (w:Work) (f i:Int):List Int:=hostB w.2.2.2.2.1 f i (nFirst w.1)
def wHostE (w:Work) (i:Int):Int:=hostE w.2.2.2.2.1 i (nFirst w.1)
def wErrB (w:Work) (kind code f i:Int):List Int:=errB w.2.2.2.2.1 f kind code i (nFirst w.1)
def wErrE (w:Work) (kind code i:Int):Int:=errE w.2.2.2.2.1 kind code i (nFirst w.1)
def recvV (w:Work):HRes :=
  if w.2.2.1 = -1∨wHostE w 0≠0 then (w.2.1,out0,1)
  else ansV (wHostB w) (wHostE w) w (if hProto w.2.2.2.2.2=17 then 0 else hDst w.2.2.2.2.2)
def fwdV (w:Work):HRes :=
  if w.2.2.1 ≠ -1/\nOpaque w.1=false/\hTTL w.2.2.2.2.2<2 then ansV (wErrB w 11 0) (wErrE w 11 0) w 0
  else if wayB w.2.1 (hDst w.2.2.2.2.2)=false then (if w.2.2.1 = -1 then (w.2.1,out0,8) else ansV (wErrB w 3 0) (wErrE w 3 0) w 0)
  else (pickS w.2.1 (lookR (sRoutes w.2.1) (hDst w.2.2.2.2.2)),(pickL w.1 w.2.1 (lookR (sRoutes w.2.1) (hDst w.2.2.2.2.2)) (keyB w.2.2.2.2.1),if w.2.2.1 ≠ -1/\nOpaque w.1=false then lowB w.2.2.2.2.1 else w.2.2.2.2.1),0)
def hdV (w:Work):HRes :=
  if decErr w.2.2.2.2.1≠0 then (w.2.1,out0,6)
  else if ownsA w.1 (hDst (decPkt w.2.2.2.2.1).1)=true then recvV (setH w (decPkt w.2.2.2.2.1).1)
  else if nHost w.1=true/\w.2.2.1 ≠ -1 then (w.2.1,out0,6)
  else fwdV (setH w (decPkt w.2.2.2.2.1).1)
def handleV (x:Node) (s:NState) (link at':Int) (b:List Int):HRes:=hdV (x,s,link,at',b,hdr0)
def okW (w:Work):Prop:=sortedR (sRoutes w.2.1)/\okL (sRoutes w.2.1)/\(w.2.2.2.2.1.length:Int)<=1000000
theorem choose_in {way seed:Int} {k:Key} {count n:Int} (h:1<=n):0<=(choose way seed k count n).1/\(choose way seed k count n).1<n:=by
  have h1:=hash_range seed k
  have h2:=hash_range seed (k.1,k.2.1,0,0,0)
  unfold choose
  split
  · exact ⟨Int.le_refl _,by show (0:Int)<n;omega⟩
  · rename_i hn
    dsimp only
    split
    · exact ⟨Int.tmod_nonneg _ h1.1,Int.tmod_lt_of_pos _ (by omega)⟩
    · split
      · exact ⟨Int.tmod_nonneg _ h2.1,Int.tmod_lt_of_pos _ (by omega)⟩
      · exact ⟨Int.tmod_nonneg _ (by omega),Int.tmod_lt_of_pos _ (by omega)⟩
theorem finV {r:HRes} {s:NState} {o:Int×List Int} {y:Int} (w:Work) (e:r=(s,o,y)):o=r.2.1/\y=r.2.2/\setS w s=setS w r.1:=by subst e;exact ⟨rfl,rfl,rfl⟩
theorem ansV_sil {B:Int->Int->List Int} {E:Int->Int} {w:Work} {own:Int} (h:own=0/\nSilent w.1=true):ansV B E w own=(w.2.1,out0,4):=by unfold ansV;rw [if_pos h]
theorem ansV_bad {B:Int->Int->List Int} {E:Int->Int} {w:Work} {own:Int} (h:¬ (own=0/\nSilent w.1=true)) (h1:E 0≠0):ansV B E w own=(w.2.1,out0,6):=by unfold ansV;rw [if_neg h,if_pos h1]
theorem ansV_rt {B:Int->Int->List Int} {E:Int->Int} {w:Work} {own:Int} (h:¬ (own=0/\nSilent w.1=true)) (h1:¬ E 0≠0) (h2:wayB w.2.1 (hSrc w.2.2.2.2.2)=false):ansV B E w own=(w.2.1,out0,8):=by
  unfold ansV;rw [if_neg h,if_neg h1,if_pos h2]
theorem ansV_lim {B:Int->Int->List Int} {E:Int->Int} {w:Work} {own:Int} (h:¬ (own=0/\nSilent w.1=true)) (h1:¬ E 0≠0) (h2:¬ wayB w.2.1 (hSrc w.2.2.2.2.2)=false) (h3:(takeV w).2=false):ansV B E w own=(tokS w.2.1 (takeV w).1,out0,5):=by
  unfold ansV;rw [if_neg h,if_neg h1,if_neg h2,if_pos h3]
theorem ansV_go {B:Int->Int->List Int} {E:Int->Int} {w:Work} {own:Int} (h:¬ (own=0/\nSilent w.1=true)) (h1:¬ E 0≠0) (h2:¬ wayB w.2.1 (hSrc w.2.2.2.2.2)=false) (h3:¬ (takeV w).2=false) :
    ansV B E w own=(pickS (ansS w) (ansRt w),(ansL B w,B (ansF B w own) (ansID w)),2):=by
  unfold ansV;rw [if_neg h,if_neg h1,if_neg h2,if_neg h3]
theorem way_ne {s:NState} {a:Int} (h:¬ wayB s a=false):(lookR (sRoutes s) a).2.1≠[]:=by
  intro e;apply h;unfold wayB;rw [e];simp
theorem ipEnc_len (p:Packet):((ipEnc p).length:Int)<=1500:=by
  unfold ipEnc
  split
  · rename_i h
    unfold ipErr at h
    split at h
    · cases h
    · split at h
      · cases h
      · rw [List.length_append,hdrB_len];omega
  · simp
theorem errB_len (b:List Int) (src kind code id ttl:Int):((errB b src kind code id ttl).length:Int)<=1500:=by
  unfold errB;split
  · exact ipEnc_len _
  · simp
theorem hostB_len (b:List Int) (src id ttl:Int):((hostB b src id ttl).length:Int)<=1500:=by
  unfold hostB;split
  · split
    · exact ipEnc_len _
    · split
      · exact errB_len ..
      · exact ipEnc_len _
  · simp
theorem wHostB_len (w:Work) (f i:Int):((wHostB w f i).length:Int)<=1500:=hostB_len ..
theorem wErrB_len (w:Work) (k c f i:Int):((wErrB w k c f i).length:Int)<=1500:=errB_len ..
theorem inP_nn (x:Node) (k:Int):0<=inP x k:=by unfold inP;omega
theorem bump_in {l:List Int} {i:Int} (h:i<l.length):bump l i=l.set i.toNat (IntKind.i64.wrap (l.getD i.toNat default+1)):=if_pos h
theorem bump_out {l:List Int} {i:Int} (h:¬ i<l.length):bump l i=l:=if_neg h
def ct_node_work_incoming:Ct:=⟨[.box 127 oWork],[.val cI],fun d=>[],fun d=>((inP d.1.1 d.1.2.2.1,()),(d.1,()))⟩
def an_node_work_incoming:PDs ct_node_work_incoming.ps->Anns:=(fun _=>{})
def Qbs3 (a:Node) (b:List Route) (c:Int) (d:List Int) (e f g h i:Int) (j:List Int) (k:Header) :=
 CT.wf cNode a/\((b.length<=maxLen/\ ∀(l:Route),l∈b->((0<=l.1.1/\l.1.1<=4294967295)/\R64 l.1.2)/\(l.2.1.length<=maxLen/\ ∀(m:Int),m∈l.2.1->R64 m)/\R64 l.2.2)/\R64 c/\(d.length<=maxLen/\ ∀(l:Int),l∈d->R64 l)/\(R64 e/\R64 f)/\R64 g)/\R64 h/\R64 i/\(j.length<=maxLen/\ ∀(l:Int),l∈j->0<=l/\l<=255)/\CT.wf cHeader k
def Qbs19 (a:Node) (b:List Route) (c:Int) (d:List Int) (e f g h i:Int) (j:List Int) (k:Header) :=
 (a,(b,c,d,(e,f),g),h,i,j,k)=(a,(b,c,d,(e,f),g),h,i,j,k)
theorem vc_node_work_incoming :
 ∀(a:Node) (b:List Route) (c:Int) (d:List Int) (e f g h i:Int) (j:List Int) (k:Header),(Qbs3 a b c d e f g h i j k)/\True->True->max (portL a h) (0:Int)=inP a h/\(Qbs19 a b c d e f g h i j k):=by
  delta Qbs3 Qbs19
  intros
  exact ⟨rfl,rfl⟩
theorem ok_node_work_incoming:SpecOK Tryz.prog GL 191 ct_node_work_incoming.spec:=Ct.okH _ Tryz.func191 (by kernel_rfl) (withSpec_ok noSpecs_ok ok_node_PortOf) hmix an_node_work_incoming (hideMp (by kernel_rfl) vc_node_work_incoming)
def ct_node_work_address:Ct:=⟨[.box 127 oWork,.val cI],[.val cU32],fun d=>[],fun d=>((adr d.1.1 d.2.1,()),(d.1,()))⟩
def an_node_work_address:PDs ct_node_work_address.ps->Anns:=(fun _=>{})
def Qbs4 (a:Node) (b:List Route) (c:Int) (d:List Int) (e f g h i:Int) (j:List Int) (k:Header) :=
 CT.wf cNode a/\((b.length<=maxLen/\ ∀(m:Route),m∈b->((0<=m.1.1/\m.1.1<=4294967295)/\R64 m.1.2)/\(m.2.1.length<=maxLen/\ ∀(n:Int),n∈m.2.1->R64 n)/\R64 m.2.2)/\R64 c/\(d.length<=maxLen/\ ∀(m:Int),m∈d->R64 m)/\(R64 e/\R64 f)/\R64 g)/\R64 h/\R64 i/\(j.length<=maxLen/\ ∀(m:Int),m∈j->0<=m/\m<=255)/\CT.wf cHeader k
def Qbs18 (m:Bool) :=
 (! m)->((! m)->(! m))/\True
theorem vc_node_work_address :
 ∀(a:Node) (b:List Route) (c:Int) (d:List Int) (e f g h i:Int) (j:List Int) (k:Header) (l:Int),(Qbs4 a b c d e f g h i j k)/\R64 l/\True->True-> ∀(m:Bool),m=decide (l<0)->(Qbs18 m)/\(Qbs18 m)/\(Qbs18 m)/\(Qbs18 m)/\(Qbs18 m)/\((! m)->((! m)->(! m))/\((! m)->(! m))/\True)/\(m=false->(! m))/\ifP (bif m then true else decide ((a.1.length:Int)<=l)) ((0:Int)=adr a l/\(Qbs19 a b c d e f g h i j k)) (0<=l/\l<(a.1.length:Int)/\(List.getD a.1 l.toNat default).1=adr a l/\(Qbs19 a b c d e f g h i j k)):=by
  delta Qbs4 Qbs18 Qbs19
  rintro d x x1 x2 x3 x4 x5 x6 x7 x8 h i - -
  (repeat (intro (b_:Bool) (hb_:b_=_);(repeat refine ⟨(by first|(simp;done)|(rw [hb_];simp;done)|(rw [hb_];simp;omega)|(rw [hb_];simp;intros;omega)|(rw [hb_];simp +contextual;done)),?_⟩);subst hb_))
  refine ifP_or (fun ho => ?_) (fun h1 h2 => ?_)
  · unfold adr
    rw [if_pos (by rcases ho with q|q <;> have:=of_decide_eq_true q <;> first|exact .inl this|exact .inr this)]
    exact ⟨rfl,rfl⟩
  · have h1:=of_decide_eq_false h1
    have h2:=of_decide_eq_false h2
    refine ⟨by omega,by omega,?_,rfl⟩
    unfold adr
    rw [if_neg (by rintro (q|q);exact h1 q;exact h2 q)]
    rfl
theorem ok_node_work_address:SpecOK Tryz.prog GL 192 ct_node_work_address.spec:=Ct.okH _ Tryz.func192 (by kernel_rfl) noSpecs_ok hmix an_node_work_address (hideMp (by kernel_rfl) vc_node_work_address)
def ct_node_work_choose:Ct:=⟨[.box 127 oWork,.agg cRt,.val (.sl cU8)],[.val cI],fun d=>[d.2.1.2.1≠[],(d.2.2.1.length:Int)<=1000000],fun d=>((pickL d.1.1 d.1.2.1 d.2.1 (keyB d.2.2.1),()),(setS d.1 (pickS d.1.2.1 d.2.1),()))⟩
def an_node_work_choose:PDs ct_node_work_choose.ps->Anns:=(fun _=>{})
theorem vc_node_work_choose :
 ∀(a:Node) (b:List Route) (c:Int) (d:List Int) (e f g h i:Int) (j:List Int) (k:Header) (l m:Int) (n:List Int) (o:Int) (p:List Int),(CT.wf cNode a/\((b.length<=maxLen/\ ∀(q:Route),q∈b->((0<=q.1.1/\q.1.1<=4294967295)/\R64 q.1.2)/\(q.2.1.length<=maxLen/\ ∀(r:Int),r∈q.2.1->R64 r)/\R64 q.2.2)/\R64 c/\(d.length<=maxLen/\ ∀(q:Int),q∈d->R64 q)/\(R64 e/\R64 f)/\R64 g)/\R64 h/\R64 i/\(j.length<=maxLen/\ ∀(q:Int),q∈j->0<=q/\q<=255)/\CT.wf cHeader k)/\(((0<=l/\l<=4294967295)/\R64 m)/\(n.length<=maxLen/\ ∀(q:Int),q∈n->R64 q)/\R64 o)/\(p.length<=maxLen/\ ∀(q:Int),q∈p->0<=q/\q<=255)/\True->n≠([]:List Int)/\(p.length:Int)<=1000000->ifP (decide ((n.length:Int)=1)) ((0:Int)<=0/\0<(n.length:Int)/\n.getD (Int.toNat (0:Int)) default=pickL a (b,c,d,(e,f),g) ((l,m),n,o) (keyB p)/\(a,(b,c,d,(e,f),g),h,i,j,k)=setS (a,(b,c,d,(e,f),g),h,i,j,k) (pickS (b,c,d,(e,f),g) ((l,m),n,o)))
 ((p.length:Int)<=1099511627776/\0<=(choose o a.2.2.2.2.2.2.2.2.2.2.2.2.2.2 (keyB p) g (n.length:Int)).1/\(choose o a.2.2.2.2.2.2.2.2.2.2.2.2.2.2 (keyB p) g (n.length:Int)).1<(n.length:Int)/\n.getD (Int.toNat (choose o a.2.2.2.2.2.2.2.2.2.2.2.2.2.2 (keyB p) g (n.length:Int)).1) default=pickL a (b,c,d,(e,f),g) ((l,m),n,o) (keyB p)/\(a,(b,c,d,(e,f),IntKind.wrap .i64 (g+(1:Int))),h,i,j,k)=setS (a,(b,c,d,(e,f),g),h,i,j,k) (pickS (b,c,d,(e,f),g) ((l,m),n,o))):=by
  rintro d x x1 x2 x3 x4 x5 x6 x7 x8 h r1 r2 nx bl b-⟨hn,hb⟩
  have hpos:1<=(nx.length:Int):=by cases nx with
    | nil=>exact absurd rfl hn
    | cons a l=>simp;omega
  refine ifP_split (fun h1 => ?_) (fun h1 => ?_)
  · have h1:=of_decide_eq_true h1
    have h1':nx.length=1:=by omega
    refine ⟨by omega,by omega,?_,?_⟩
    · unfold pickL;rw [if_pos h1'];rfl
    · unfold pickS;rw [if_pos h1'];rfl
  · have h1:=of_decide_eq_false h1
    have h1':¬ nx.length=1:=by omega
    have hc:=choose_in (way:=bl) (seed:=d.2.2.2.2.2.2.2.2.2.2.2.2.2.2) (k:=keyB b) (count:=x5) hpos
    refine ⟨by omega,hc.1,hc.2,?_,?_⟩
    · unfold pickL;rw [if_neg h1'];rfl
    · unfold pickS;rw [if_neg h1'];rfl
theorem ok_node_work_choose:SpecOK Tryz.prog GL 159 ct_node_work_choose.spec:=Ct.okH _ Tryz.func159 (by kernel_rfl) (withSpec_ok (withSpec_ok noSpecs_ok ok_probe_Key) ok_balance_Choose) hmix an_node_work_choose (hideMp (by kernel_rfl) vc_node_work_choose)
def ct_node_work_route:Ct:=⟨[.box 127 oWork,.val cU32],[.agg cRt,.val .bool],fun d=>[sortedR (sRoutes d.1.2.1),okL (sRoutes d.1.2.1)],fun d=>((lookR (sRoutes d.1.2.1) d.2.1,wayB d.1.2.1 d.2.1,()),(d.1,()))⟩
def an_node_work_route:PDs ct_node_work_route.ps->Anns:=(fun _=>{})
theorem vc_node_work_route :
 ∀(a:Node) (b:List Route) (c:Int) (d:List Int) (e f g h i:Int) (j:List Int) (k:Header) (l:Int),(Qbs4 a b c d e f g h i j k)/\(0<=l/\l<=4294967295)/\True->(sortedR (sRoutes (b,c,d,(e,f),g))/\((List.length (sRoutes (b,c,d,(e,f),g))):Int)<=134217728/\ ∀(m:Rt),m∈sRoutes (b,c,d,(e,f),g)->(m.2.1.length:Int)<=1099511627776)->sortedR b/\okL b/\ ∀(m:Bool),m=lookB b l->(m->(m->m)/\True)/\(m->(m->m)/\True)/\(m->(m->m)/\True)/\(m->m)/\lookR b l=lookR (sRoutes (b,c,d,(e,f),g)) l/\(bif m then decide (0<((List.length (lookR b l).2.1):Int)) else false)=wayB (b,c,d,(e,f),g) l/\(Qbs19 a b c d e f g h i j k):=by
  delta Qbs4 Qbs19
  rintro d x x1 x2 x3 x4 x5 x6 x7 x8 h a-⟨h1,h2⟩
  refine ⟨h1,h2,?_⟩
  (repeat (intro (b_:Bool) (hb_:b_=_);(repeat refine ⟨(by first|(simp;done)|(rw [hb_];simp;done)|(rw [hb_];simp;omega)|(rw [hb_];simp;intros;omega)|(rw [hb_];simp +contextual;done)),?_⟩);subst hb_))
  refine ⟨rfl,?_,rfl⟩
  show (bif lookB x a then decide (0<((lookR x a).2.1.length:Int)) else false)=(lookB x a&&decide (0<(lookR x a).2.1.length))
  cases lookB x a <;> simp
theorem ok_node_work_route:SpecOK Tryz.prog GL 158 ct_node_work_route.spec:=Ct.okH _ Tryz.func158 (by kernel_rfl) (withSpec_ok noSpecs_ok ok_fib_Lookup) hmix an_node_work_route (hideMp (by kernel_rfl) vc_node_work_route)
def ct_node_work_errors_1:Ct:=⟨[.val cU32,.val cI,.box 125 (.ref 127 oWork),.box 3 cI,.box 3 cI],[.own 5 cU8,.val cI],fun d=>[(d.2.2.1.2.2.2.2.1.length:Int)<=1000000],fun d=>((wErrB d.2.2.1 d.2.2.2.1 d.2.2.2.2.1 d.1 d.2.1,wErrE d.2.2.1 d.2.2.2.1 d.2.2.2.2.1 d.2.1,()),(d.2.2.1,d.2.2.2.1,d.2.2.2.2.1,()))⟩
def an_node_work_errors_1:PDs ct_node_work_errors_1.ps->Anns:=(fun _=>{})
theorem vc_node_work_errors_1 :
 ∀(a b:Int) (c:Node) (d:List Route) (e:Int) (f:List Int) (g h i j k:Int) (l:List Int) (m:Header) (n o:Int),(0<=a/\a<=4294967295)/\R64 b/\(CT.wf cNode c/\((d.length<=maxLen/\ ∀(p:Route),p∈d->((0<=p.1.1/\p.1.1<=4294967295)/\R64 p.1.2)/\(p.2.1.length<=maxLen/\ ∀(q:Int),q∈p.2.1->R64 q)/\R64 p.2.2)/\R64 e/\(f.length<=maxLen/\ ∀(p:Int),p∈f->R64 p)/\(R64 g/\R64 h)/\R64 i)/\R64 j/\R64 k/\(l.length<=maxLen/\ ∀(p:Int),p∈l->0<=p/\p<=255)/\CT.wf cHeader m)/\R64 n/\R64 o/\True->(l.length:Int)<=1000000->(l.length:Int)<=1099511627776/\errB l a n o b c.2.2.2.2.2.2.2.2.2.2.2.2.2.1=wErrB (c,(d,e,f,(g,h),i),j,k,l,m) n o a b/\errE l n o b c.2.2.2.2.2.2.2.2.2.2.2.2.2.1=wErrE (c,(d,e,f,(g,h),i),j,k,l,m) n o b/\(c,(d,e,f,(g,h),i),j,k,l,m)=(c,(d,e,f,(g,h),i),j,k,l,m)/\n=n/\o=o:=by
  rintro x x1 d y y1 y2 y3 y4 y5 y6 y7 b h k c-hb
  exact ⟨by omega,rfl,rfl,rfl,rfl,rfl⟩
theorem ok_node_work_errors_1:SpecOK Tryz.prog GL 196 ct_node_work_errors_1.spec:=Ct.okH _ Tryz.func196 (by kernel_rfl) (withSpec_ok noSpecs_ok ok_reply_Error) hmix an_node_work_errors_1 (hideMp (by kernel_rfl) vc_node_work_errors_1)
def ct_node_work_errors:Ct:=⟨[.box 127 oWork,.val cI,.val cI],[.fn 196 3,.box 125 .ali,.box 3 cI,.box 3 cI],fun d=>[],fun d=>(((),(),d.2.1,d.2.2.1,()),(d.1,()))⟩
def an_node_work_errors:PDs ct_node_work_errors.ps->Anns:=(fun _=>{})
def Qbs17 (n:Route) :=
 ((0<=n.1.1/\n.1.1<=4294967295)/\R64 n.1.2)/\(n.2.1.length<=maxLen/\ ∀(o:Int),o∈n.2.1->R64 o)/\R64 n.2.2
def Qbs9 (a:Node) (b:List Route) (c:Int) (d:List Int) (e f g h i:Int) (j:List Int) (k:Header) :=
 CT.wf cNode a/\((b.length<=maxLen/\ ∀(n:Route),n∈b->(Qbs17 n))/\R64 c/\(d.length<=maxLen/\ ∀(n:Int),n∈d->R64 n)/\(R64 e/\R64 f)/\R64 g)/\R64 h/\R64 i/\(j.length<=maxLen/\ ∀(n:Int),n∈j->0<=n/\n<=255)/\CT.wf cHeader k
theorem vc_node_work_errors :
 ∀(a:Node) (b:List Route) (c:Int) (d:List Int) (e f g h i:Int) (j:List Int) (k:Header) (l m:Int),(Qbs9 a b c d e f g h i j k)/\R64 l/\R64 m/\True->True->()=()/\()=()/\l=l/\m=m/\(Qbs19 a b c d e f g h i j k):=by
  delta Qbs9 Qbs17 Qbs19
  intros
  exact ⟨rfl,rfl,rfl,rfl,rfl⟩
theorem ok_node_work_errors:SpecOK Tryz.prog GL 157 ct_node_work_errors.spec:=Ct.okH _ Tryz.func157 (by kernel_rfl) noSpecs_ok hmix an_node_work_errors (hideMp (by kernel_rfl) vc_node_work_errors)
def ct_node_work_receive_1:Ct:=⟨[.val cU32,.val cI,.box 125 (.ref 127 oWork)],[.own 5 cU8,.val cI],fun d=>[(d.2.2.1.2.2.2.2.1.length:Int)<=1000000],fun d=>((wHostB d.2.2.1 d.1 d.2.1,wHostE d.2.2.1 d.2.1,()),(d.2.2.1,()))⟩
def an_node_work_receive_1:PDs ct_node_work_receive_1.ps->Anns:=(fun _=>{})
theorem vc_node_work_receive_1 :
 ∀(a b:Int) (c:Node) (d:List Route) (e:Int) (f:List Int) (g h i j k:Int) (l:List Int) (m:Header),(0<=a/\a<=4294967295)/\R64 b/\(CT.wf cNode c/\((d.length<=maxLen/\ ∀(n:Route),n∈d->(Qbs17 n))/\R64 e/\(f.length<=maxLen/\ ∀(n:Int),n∈f->R64 n)/\(R64 g/\R64 h)/\R64 i)/\R64 j/\R64 k/\(l.length<=maxLen/\ ∀(n:Int),n∈l->0<=n/\n<=255)/\CT.wf cHeader m)/\True->(l.length:Int)<=1000000->(l.length:Int)<=1099511627776/\hostB l a b c.2.2.2.2.2.2.2.2.2.2.2.2.2.1=wHostB (c,(d,e,f,(g,h),i),j,k,l,m) a b/\hostE l b c.2.2.2.2.2.2.2.2.2.2.2.2.2.1=wHostE (c,(d,e,f,(g,h),i),j,k,l,m) b/\(c,(d,e,f,(g,h),i),j,k,l,m)=(c,(d,e,f,(g,h),i),j,k,l,m):=by
  delta Qbs17
  rintro x x1 d y y1 y2 y3 y4 y5 y6 y7 b h-hb
  exact ⟨by omega,rfl,rfl,rfl⟩
theorem ok_node_work_receive_1:SpecOK Tryz.prog GL 154 ct_node_work_receive_1.spec:=Ct.okH _ Tryz.func154 (by kernel_rfl) (withSpec_ok noSpecs_ok ok_reply_Host) hmix an_node_work_receive_1 (hideMp (by kernel_rfl) vc_node_work_receive_1)
def ct_node_work_source:Ct:=⟨[.box 127 oWork,.val cI,.val cI],[.val cU32],fun d=>[],fun d=>((srcA d.1.1 d.2.1 d.2.2.1,()),(d.1,()))⟩
def an_node_work_source:PDs ct_node_work_source.ps->Anns:=(fun _=>{})
theorem vc_node_work_source :
 ∀(a:Node) (b:List Route) (c:Int) (d:List Int) (e f g h i:Int) (j:List Int) (k:Header) (l m:Int),(Qbs9 a b c d e f g h i j k)/\R64 l/\R64 m/\True->True->ifP (decide (a.2.2.2.2.2.1=2)) (adr a (portL a m)=srcA a l m/\(Qbs19 a b c d e f g h i j k)) (ifP (decide (a.2.2.2.2.2.1=3)) (a.2.1=srcA a l m/\(Qbs19 a b c d e f g h i j k)) (ifP (decide (a.2.2.2.2.2.1=4)) (a.2.2.2.2.2.2.1=srcA a l m/\(Qbs19 a b c d e f g h i j k)) (adr a l=srcA a l m/\(Qbs19 a b c d e f g h i j k)))):=by
  delta Qbs9 Qbs17 Qbs19
  rintro d x x1 x2 x3 x4 x5 x6 x7 x8 h i l - -
  unfold srcA nSource nLoop nFixed
  refine ifP_split (fun h1 => ?_) (fun h1 => ?_)
  · rw [if_pos (of_decide_eq_true h1)];exact ⟨rfl,rfl⟩
  rw [if_neg (of_decide_eq_false h1)]
  refine ifP_split (fun h2 => ?_) (fun h2 => ?_)
  · rw [if_pos (of_decide_eq_true h2)];exact ⟨rfl,rfl⟩
  rw [if_neg (of_decide_eq_false h2)]
  refine ifP_split (fun h3 => ?_) (fun h3 => ?_)
  · rw [if_pos (of_decide_eq_true h3)];exact ⟨rfl,rfl⟩
  rw [if_neg (of_decide_eq_false h3)]
  exact ⟨rfl,rfl⟩
theorem ok_node_work_source:SpecOK Tryz.prog GL 195 ct_node_work_source.spec:=Ct.okH _ Tryz.func195 (by kernel_rfl) (withSpec_ok (withSpec_ok noSpecs_ok ok_node_PortOf) ok_node_work_address) hmix an_node_work_source (hideMp (by kernel_rfl) vc_node_work_source)
def ct_AnsHost:Ct:=⟨[.box 127 oWork,.fn 154 1,.box 125 .ali,.val cU32],[.agg cOut,.val cI],fun d=>[okW d.1],fun d=>(((ansV (wHostB d.1) (wHostE d.1) d.1 d.2.2.2.1).2.1,(ansV (wHostB d.1) (wHostE d.1) d.1 d.2.2.2.1).2.2,()),(setS d.1 (ansV (wHostB d.1) (wHostE d.1) d.1 d.2.2.2.1).1,(),()))⟩
def an_AnsHost:PDs ct_AnsHost.ps->Anns:=(fun d=>{cuts:=(fun n=>match n with|17=>some (fun S=>{ι:=Int×(List Int)×(Int×Int),qn:=⟨fun k_=>∀ (k:Int) (l:(List Int)) (t:(Int×Int)),k_ (k,l,t),fun k_ h_ i=>h_ i.1 i.2.1 i.2.2,fun k_=>∃ (k:Int) (l:(List Int)) (t:(Int×Int)),k_ (k,l,t),fun k_ ⟨k,l,t,h_⟩=>⟨_,h_⟩⟩,inv:=fun i=>ansV (wHostB d.1) (wHostE d.1) d.1 d.2.2.2.1=(pickS (ansS d.1) (ansRt d.1),(ansL (wHostB d.1) d.1,(wHostB d.1) (ansF (wHostB d.1) d.1 d.2.2.2.1) (ansID d.1)),2)/\(ansRt d.1).2.1≠[]/\(sRoutes d.1.2.1,i.1,i.2.1,i.2.2,sBalanced d.1.2.1)=ansS d.1,keep:=[0,1,2,6,9,11],slots:=fun i=>[(8,.int .i64 (inP d.1.1 d.1.2.2.1)),(13,.int .i64 (ansID d.1))],keepN:=[112,192,560,1048577],names:=fun i=>[(1048576,.live (.cells 127 (flat cNode d.1.1++([.dsl cRt (sRoutes d.1.2.1),.int .i64 i.1,.own 524288 1]++(flat cTokens i.2.2++([.int .i64 (sBalanced d.1.2.1),.int .i64 d.1.2.2.1,.int .i64 d.1.2.2.2.1,.dsl cU8 d.1.2.2.2.2.1]++flat cHeader d.1.2.2.2.2.2)))))),(524288,.live (.row 3 cI i.2.1))]})|_=>none)})
def Qbs1 (a:Node) (b:List Route) (c:Int) (d:List Int) (e f g h i:Int) (j:List Int) (k:Header) (l:Int) :=
 ansV (wHostB (a,(b,c,d,(e,f),g),h,i,j,k)) (wHostE (a,(b,c,d,(e,f),g),h,i,j,k)) (a,(b,c,d,(e,f),g),h,i,j,k) l
def Qbs2 (b:List Route) (c:Int) (d:List Int) (e f g:Int) (k:Header) :=
 lookR (sRoutes (b,c,d,(e,f),g)) k.2.2.2.2.2.1
def Qbs6 (a:Node) (b:List Route) (c:Int) (d:List Int) (e f g h i:Int) (j:List Int) (k:Header) (l:Int) :=
 (pickS (ansS (a,(b,c,d,(e,f),g),h,i,j,k)) (ansRt (a,(b,c,d,(e,f),g),h,i,j,k)),(ansL (wHostB (a,(b,c,d,(e,f),g),h,i,j,k)) (a,(b,c,d,(e,f),g),h,i,j,k),wHostB (a,(b,c,d,(e,f),g),h,i,j,k) (ansF (wHostB (a,(b,c,d,(e,f),g),h,i,j,k)) (a,(b,c,d,(e,f),g),h,i,j,k) l) (ansID (a,(b,c,d,(e,f),g),h,i,j,k))),(2:Int))
def Qbs7 (a:Node) (e f i:Int) :=
 bTake a.2.2.2.2.2.2.2.2.2.2.1 (e,f) i
def Qbs8 (b:List Route) (c:Int) (d:List Int) (e f g:Int) (j:List Int) :=
 sortedR (sRoutes (b,c,d,(e,f),g))/\okL (sRoutes (b,c,d,(e,f),g))/\(j.length:Int)<=1000000
def Qbs10 :=
 ((0:Int),([]:List Int))
def Qbs13 (a:Node) (b:List Route) (c:Int) (d:List Int) (e f g h i:Int) (j:List Int) (k:Header) (l n:Int) (o:List Int) (p:Int×Int) :=
 ansV (wHostB (a,(b,c,d,(e,f),g),h,i,j,k)) (wHostE (a,(b,c,d,(e,f),g),h,i,j,k)) (a,(b,c,d,(e,f),g),h,i,j,k) l=(Qbs6 a b c d e f g h i j k l)/\(ansRt (a,(b,c,d,(e,f),g),h,i,j,k)).2.1≠([]:List Int)/\(sRoutes (b,c,d,(e,f),g),n,o,p,sBalanced (b,c,d,(e,f),g))=ansS (a,(b,c,d,(e,f),g),h,i,j,k)
theorem vc_AnsHost :
 ∀(a:Node) (b:List Route) (c:Int) (d:List Int) (e f g h i:Int) (j:List Int) (k:Header) (l:Int),(Qbs4 a b c d e f g h i j k)/\True/\True/\(0<=l/\l<=4294967295)/\True->(Qbs8 b c d e f g j)-> ∀(m:Bool),m=decide (l=0)->(m->(m->m)/\True)/\(m->(m->m)/\True)/\(m->(m->m)/\True)/\(m->(m->m)/\True)/\(m->m)/\ifP (bif m then a.2.2.2.2.2.2.2.2.2.2.2.1 else false) ((Qbs10)=(Qbs1 a b c d e f g h i j k l).2.1/\(4:Int)=(Qbs1 a b c d e f g h i j k l).2.2/\(a,(b,c,d,(e,f),g),h,i,j,k)=setS (a,(b,c,d,(e,f),g),h,i,j,k) (Qbs1 a b c d e f g h i j k l).1/\()=()) ((j.length:Int)<=1000000/\ifP (! decide (wHostE (a,(b,c,d,(e,f),g),h,i,j,k) (0:Int)=0)) ((Qbs10)=(Qbs1 a b c d e f g h i j k l).2.1/\(6:Int)=(Qbs1 a b c d e f g h i j k l).2.2/\(a,(b,c,d,(e,f),g),h,i,j,k)=setS (a,(b,c,d,(e,f),g),h,i,j,k) (Qbs1 a b c d e f g h i j k l).1/\()=()) (sortedR (sRoutes (b,c,d,(e,f),g))/\okL (sRoutes (b,c,d,(e,f),g))/\ifP (! wayB
 (b,c,d,(e,f),g) k.2.2.2.2.2.1) ((Qbs10)=(Qbs1 a b c d e f g h i j k l).2.1/\(8:Int)=(Qbs1 a b c d e f g h i j k l).2.2/\(a,(b,c,d,(e,f),g),h,i,j,k)=setS (a,(b,c,d,(e,f),g),h,i,j,k) (Qbs1 a b c d e f g h i j k l).1/\()=()) (ifP (! (Qbs7 a e f i).2) ((Qbs10)=(Qbs1 a b c d e f g h i j k l).2.1/\(5:Int)=(Qbs1 a b c d e f g h i j k l).2.2/\(a,(b,c,d,(Qbs7 a e f i).1,g),h,i,j,k)=setS (a,(b,c,d,(e,f),g),h,i,j,k) (Qbs1 a b c d e f g h i j k l).1/\()=()) (ifP (decide (inP a h<(d.length:Int))) (0<=inP a h/\inP a h<(d.length:Int)/\0<=inP a h/\inP a h<(d.length:Int)/\ ∃(n:Int) (o:List Int),∃(p:Int×Int),(Qbs13 a b c d e f g h i j k l n o p)/\l=l/\inP a h=inP a h/\idNext a (b,c,d,(Qbs7 a e f i).1,g) (inP a h) i k.2.1 k.2.2.2.2.2.1=ansID (a,(b,c,d,(e,f),g),h,i,j,k)/\(0:Int)=0/\(Qbs2 b c d e f g k).1.1=(Qbs2 b c d e f g k).1.1/\(Qbs2 b c d e f g k).1.2=(Qbs2 b c d e f g k).1.2/\(Qbs2 b c d e f g
 k).2.1=(Qbs2 b c d e f g k).2.1/\(Qbs2 b c d e f g k).2.2=(Qbs2 b c d e f g k).2.2/\wHostB (a,(b,c,d,(e,f),g),h,i,j,k) (adr a (inP a h)) (0:Int)=wHostB (a,(b,c,d,(e,f),g),h,i,j,k) (adr a (inP a h)) (0:Int)/\a.1=a.1/\a.2.1=a.2.1/\a.2.2.1=a.2.2.1/\a.2.2.2.1=a.2.2.2.1/\a.2.2.2.2.1=a.2.2.2.2.1/\a.2.2.2.2.2.1=a.2.2.2.2.2.1/\a.2.2.2.2.2.2.1=a.2.2.2.2.2.2.1/\a.2.2.2.2.2.2.2.1=a.2.2.2.2.2.2.2.1/\a.2.2.2.2.2.2.2.2.1=a.2.2.2.2.2.2.2.2.1/\a.2.2.2.2.2.2.2.2.2.1=a.2.2.2.2.2.2.2.2.2.1/\a.2.2.2.2.2.2.2.2.2.2.1.1=a.2.2.2.2.2.2.2.2.2.2.1.1/\a.2.2.2.2.2.2.2.2.2.2.1.2=a.2.2.2.2.2.2.2.2.2.2.1.2/\a.2.2.2.2.2.2.2.2.2.2.2.1=a.2.2.2.2.2.2.2.2.2.2.2.1/\a.2.2.2.2.2.2.2.2.2.2.2.2.1=a.2.2.2.2.2.2.2.2.2.2.2.2.1/\a.2.2.2.2.2.2.2.2.2.2.2.2.2.1=a.2.2.2.2.2.2.2.2.2.2.2.2.2.1/\a.2.2.2.2.2.2.2.2.2.2.2.2.2.2=a.2.2.2.2.2.2.2.2.2.2.2.2.2.2/\b=sRoutes (b,c,d,(e,f),g)/\IntKind.wrap .i64 (c+(1:Int))=n/\(Qbs7 a e f
 i).1.1=p.1/\(Qbs7 a e f i).1.2=p.2/\g=sBalanced (b,c,d,(e,f),g)/\h=h/\i=i/\j=j/\k.1=k.1/\k.2.1=k.2.1/\k.2.2.1=k.2.2.1/\k.2.2.2.1=k.2.2.2.1/\k.2.2.2.2.1=k.2.2.2.2.1/\k.2.2.2.2.2.1=k.2.2.2.2.2.1/\k.2.2.2.2.2.2=k.2.2.2.2.2.2/\List.set d (Int.toNat (inP a h)) (IntKind.wrap .i64 (d.getD (Int.toNat (inP a h)) default+(1:Int)))=o/\True) (∃(n:Int) (o:List Int),∃(p:Int×Int),(Qbs13 a b c d e f g h i j k l n o p)/\l=l/\inP a h=inP a h/\idNext a (b,c,d,(Qbs7 a e f i).1,g) (inP a h) i k.2.1 k.2.2.2.2.2.1=ansID (a,(b,c,d,(e,f),g),h,i,j,k)/\(0:Int)=0/\(Qbs2 b c d e f g k).1.1=(Qbs2 b c d e f g k).1.1/\(Qbs2 b c d e f g k).1.2=(Qbs2 b c d e f g k).1.2/\(Qbs2 b c d e f g k).2.1=(Qbs2 b c d e f g k).2.1/\(Qbs2 b c d e f g k).2.2=(Qbs2 b c d e f g k).2.2/\wHostB (a,(b,c,d,(e,f),g),h,i,j,k) (adr a (inP a h)) (0:Int)=wHostB (a,(b,c,d,(e,f),g),h,i,j,k) (adr a (inP a h))
 (0:Int)/\a.1=a.1/\a.2.1=a.2.1/\a.2.2.1=a.2.2.1/\a.2.2.2.1=a.2.2.2.1/\a.2.2.2.2.1=a.2.2.2.2.1/\a.2.2.2.2.2.1=a.2.2.2.2.2.1/\a.2.2.2.2.2.2.1=a.2.2.2.2.2.2.1/\a.2.2.2.2.2.2.2.1=a.2.2.2.2.2.2.2.1/\a.2.2.2.2.2.2.2.2.1=a.2.2.2.2.2.2.2.2.1/\a.2.2.2.2.2.2.2.2.2.1=a.2.2.2.2.2.2.2.2.2.1/\a.2.2.2.2.2.2.2.2.2.2.1.1=a.2.2.2.2.2.2.2.2.2.2.1.1/\a.2.2.2.2.2.2.2.2.2.2.1.2=a.2.2.2.2.2.2.2.2.2.2.1.2/\a.2.2.2.2.2.2.2.2.2.2.2.1=a.2.2.2.2.2.2.2.2.2.2.2.1/\a.2.2.2.2.2.2.2.2.2.2.2.2.1=a.2.2.2.2.2.2.2.2.2.2.2.2.1/\a.2.2.2.2.2.2.2.2.2.2.2.2.2.1=a.2.2.2.2.2.2.2.2.2.2.2.2.2.1/\a.2.2.2.2.2.2.2.2.2.2.2.2.2.2=a.2.2.2.2.2.2.2.2.2.2.2.2.2.2/\b=sRoutes (b,c,d,(e,f),g)/\IntKind.wrap .i64 (c+(1:Int))=n/\(Qbs7 a e f i).1.1=p.1/\(Qbs7 a e f i).1.2=p.2/\g=sBalanced
 (b,c,d,(e,f),g)/\h=h/\i=i/\j=j/\k.1=k.1/\k.2.1=k.2.1/\k.2.2.1=k.2.2.1/\k.2.2.2.1=k.2.2.2.1/\k.2.2.2.2.1=k.2.2.2.2.1/\k.2.2.2.2.2.1=k.2.2.2.2.2.1/\k.2.2.2.2.2.2=k.2.2.2.2.2.2/\d=o/\True)/\ ∀(n:Int) (o:List Int) (p:Int×Int),ansV (wHostB (a,(b,c,d,(e,f),g),h,i,j,k)) (wHostE (a,(b,c,d,(e,f),g),h,i,j,k)) (a,(b,c,d,(e,f),g),h,i,j,k) l=(Qbs6 a b c d e f g h i j k l)/\(ansRt (a,(b,c,d,(e,f),g),h,i,j,k)).2.1≠([]:List Int)/\(sRoutes (b,c,d,(e,f),g),n,o,p,sBalanced (b,c,d,(e,f),g))=ansS (a,(b,c,d,(e,f),g),h,i,j,k)->(Qbs2 b c d e f g k).2.1≠([]:List Int)/\((List.length (wHostB (a,(b,c,d,(e,f),g),h,i,j,k) (adr a (inP a h)) (0:Int))):Int)<=1000000/\ifP (decide (l=0)) ((j.length:Int)<=1000000/\(pickL a (b,n,o,p,g) (Qbs2 b c d e f g k) (keyB (wHostB (a,(b,c,d,(e,f),g),h,i,j,k) (adr a (inP a h)) (0:Int))),wHostB (a,pickS (b,n,o,p,g) (Qbs2 b c d e f g k),h,i,j,k) (srcA a (inP a h) (pickL a (b,n,o,p,g)
 (Qbs2 b c d e f g k) (keyB (wHostB (a,(b,c,d,(e,f),g),h,i,j,k) (adr a (inP a h)) (0:Int))))) (ansID (a,(b,c,d,(e,f),g),h,i,j,k)))=(Qbs1 a b c d e f g h i j k l).2.1/\(2:Int)=(Qbs1 a b c d e f g h i j k l).2.2/\(a,pickS (b,n,o,p,g) (Qbs2 b c d e f g k),h,i,j,k)=setS (a,(b,c,d,(e,f),g),h,i,j,k) (Qbs1 a b c d e f g h i j k l).1/\()=()) ((j.length:Int)<=1000000/\(pickL a (b,n,o,p,g) (Qbs2 b c d e f g k) (keyB (wHostB (a,(b,c,d,(e,f),g),h,i,j,k) (adr a (inP a h)) (0:Int))),wHostB (a,pickS (b,n,o,p,g) (Qbs2 b c d e f g k),h,i,j,k) l (ansID (a,(b,c,d,(e,f),g),h,i,j,k)))=(Qbs1 a b c d e f g h i j k l).2.1/\(2:Int)=(Qbs1 a b c d e f g h i j k l).2.2/\(a,pickS (b,n,o,p,g) (Qbs2 b c d e f g k),h,i,j,k)=setS (a,(b,c,d,(e,f),g),h,i,j,k) (Qbs1 a b c d e f g h i j k l).1/\()=()))))):=by
  delta Qbs1 Qbs2 Qbs4 Qbs6 Qbs7 Qbs8 Qbs10 Qbs13
  rintro d x x1 x2 x3 x4 x5 x6 x7 x8 h own-⟨hs,hl,hb⟩
  obtain ⟨w,hw⟩:∃ w:Work,w=(d,(x,x1,x2,(x3,x4),x5),x6,x7,x8,h):=⟨_,rfl⟩
  have e0:d.2.2.2.2.2.2.2.2.2.2.2.1=nSilent w.1:=by rw [hw];rfl
  have e2:wayB (x,x1,x2,(x3,x4),x5) h.2.2.2.2.2.1=wayB w.2.1 (hSrc w.2.2.2.2.2):=by rw [hw];rfl
  have e3:bTake d.2.2.2.2.2.2.2.2.2.2.1 (x3,x4) x7=takeV w:=by rw [hw];rfl
  rw [e0,e2,e3,← hw]
  have fin:=fun {s o y}=>finV (r:=ansV (wHostB w) (wHostE w) w own) (s:=s) (o:=o) (y:=y) w
  intro b hb0
  (repeat refine ⟨(by first|(simp;done)|(rw [hb0];simp;done)|(cases b <;> simp)),?_⟩)
  have hq:(bif b then nSilent w.1 else false)=true↔own=0/\nSilent w.1=true:=by rw [hb0];by_cases k:own=0 <;> simp [k]
  refine ifP_split (fun h0 => ?_) (fun h0 => ?_)
  · obtain ⟨f1,f2,f3⟩:=fin (ansV_sil (hq.1 h0))
    exact ⟨f1,f2,by rw [← f3,hw];rfl,rfl⟩
  have h0:¬ (own=0/\nSilent w.1=true):=fun k=>by rw [hq.2 k] at h0;cases h0
  refine ⟨hb,ifP_split (fun h1 => ?_) (fun h1 => ?_)⟩
  · obtain ⟨f1,f2,f3⟩:=fin (ansV_bad h0 (by simpa using h1))
    exact ⟨f1,f2,by rw [← f3,hw];rfl,rfl⟩
  have h1:¬ (wHostE w) 0≠0:=by simpa using h1
  refine ⟨hs,hl,ifP_split (fun h2 => ?_) (fun h2 => ?_)⟩
  · obtain ⟨f1,f2,f3⟩:=fin (ansV_rt h0 h1 (by simpa using h2))
    exact ⟨f1,f2,by rw [← f3,hw];rfl,rfl⟩
  have h2:¬ wayB w.2.1 (hSrc w.2.2.2.2.2)=false:=by simpa using h2
  refine ifP_split (fun h3 => ?_) (fun h3=>⟨?_,?_⟩)
  · obtain ⟨f1,f2,f3⟩:=fin (ansV_lim h0 h1 h2 (by simpa using h3))
    exact ⟨f1,f2,by rw [← f3,hw];rfl,rfl⟩
  · have h3:¬ (takeV w).2=false:=by simpa using h3
    have eg:=ansV_go (B:=wHostB w) h0 h1 h2 h3
    have hne:(ansRt w).2.1≠[]:=way_ne h2
    have hin:=inP_nn d x6
    have hID:idNext d (x,x1,x2,(takeV w).1,x5) (inP d x6) x7 h.2.1 h.2.2.2.2.2.1=ansID w:=by rw [← e3,hw];rfl
    have hS:ansS w=(x,IntKind.i64.wrap (x1+1),bump x2 (inP d x6),(takeV w).1,x5):=by rw [← e3,hw];rfl
    refine ifP_split (fun h4 => ?_) (fun h4 => ?_)
    · have h4:=of_decide_eq_true h4
      refine ⟨hin,h4,hin,h4,_,_,_,⟨eg,hne,?_⟩,rfl,rfl,hID,(by repeat' first|exact trivial|refine ⟨trivial,?_⟩|refine ⟨(by with_reducible rfl),?_⟩|refine ⟨w64 (by omega) (by omega),?_⟩|refine ⟨rfl,?_⟩)⟩
      rw [hS,bump_in h4];rfl
    · have h4:=of_decide_eq_false h4
      refine ⟨_,_,_,⟨eg,hne,?_⟩,rfl,rfl,hID,(by repeat' first|exact trivial|refine ⟨trivial,?_⟩|refine ⟨(by with_reducible rfl),?_⟩|refine ⟨w64 (by omega) (by omega),?_⟩|refine ⟨rfl,?_⟩)⟩
      rw [hS,bump_out h4];rfl
  · rintro k l t ⟨eg,hne,hS⟩
    have e4:lookR (sRoutes (x,x1,x2,(x3,x4),x5)) h.2.2.2.2.2.1=ansRt w:=by rw [hw];rfl
    have e5:(x,k,l,t,x5)=ansS w:=hS
    have e6:pickL d (ansS w) (ansRt w) (keyB ((wHostB w) (adr d (inP d x6)) 0))=ansL (wHostB w) w:=by rw [hw];rfl
    rw [e4,e5,e6]
    obtain ⟨f1,f2,f3⟩:=fin eg
    have hlen:=wHostB_len w (adr d (inP d x6)) 0
    refine ⟨hne,by omega,ifP_split (fun h4 => ?_) (fun h4 => ?_)⟩
    · have h4:=of_decide_eq_true h4
      refine ⟨hb,?_,f2,by rw [← f3,hw];rfl,rfl⟩
      rw [← f1];unfold ansF;rw [if_pos h4,hw];rfl
    · have h4:=of_decide_eq_false h4
      refine ⟨hb,?_,f2,by rw [← f3,hw];rfl,rfl⟩
      rw [← f1];unfold ansF;rw [if_neg h4,hw];rfl
theorem ok_AnsHost:SpecOK Tryz.prog GL 156 ct_AnsHost.spec:=Ct.okH _ Tryz.func156 (by kernel_rfl) (withSpec_ok (withSpec_ok (withSpec_ok (withSpec_ok (withSpec_ok (withSpec_ok (withSpec_ok (withSpec_ok noSpecs_ok ok_node_work_incoming) ok_node_work_address) ok_node_work_receive_1) ok_node_work_route) ok_bucket_Take) ok_identifier_Next) ok_node_work_choose) ok_node_work_source) hmix an_AnsHost (hideMp (by kernel_rfl) vc_AnsHost)
def ct_AnsErr:Ct:=⟨[.box 127 oWork,.fn 196 3,.box 125 .ali,.box 3 cI,.box 3 cI,.val cU32],[.agg cOut,.val cI],fun d=>[okW d.1],fun d=>(((ansV (wErrB d.1 d.2.2.2.1 d.2.2.2.2.1) (wErrE d.1 d.2.2.2.1 d.2.2.2.2.1) d.1 d.2.2.2.2.2.1).2.1,(ansV (wErrB d.1 d.2.2.2.1 d.2.2.2.2.1) (wErrE d.1 d.2.2.2.1 d.2.2.2.2.1) d.1 d.2.2.2.2.2.1).2.2,()),(setS d.1 (ansV (wErrB d.1 d.2.2.2.1 d.2.2.2.2.1) (wErrE d.1 d.2.2.2.1 d.2.2.2.2.1) d.1 d.2.2.2.2.2.1).1,(),d.2.2.2.1,d.2.2.2.2.1,()))⟩
def an_AnsErr:PDs ct_AnsErr.ps->Anns:=(fun d=>{cuts:=(fun n=>match n with|17=>some (fun S=>{ι:=Int×(List Int)×(Int×Int),qn:=⟨fun k_=>∀ (k:Int) (l:(List Int)) (t:(Int×Int)),k_ (k,l,t),fun k_ h_ i=>h_ i.1 i.2.1 i.2.2,fun k_=>∃ (k:Int) (l:(List Int)) (t:(Int×Int)),k_ (k,l,t),fun k_ ⟨k,l,t,h_⟩=>⟨_,h_⟩⟩,inv:=fun i=>ansV (wErrB d.1 d.2.2.2.1 d.2.2.2.2.1) (wErrE d.1 d.2.2.2.1 d.2.2.2.2.1) d.1 d.2.2.2.2.2.1=(pickS (ansS d.1) (ansRt d.1),(ansL (wErrB d.1 d.2.2.2.1 d.2.2.2.2.1) d.1,(wErrB d.1 d.2.2.2.1 d.2.2.2.2.1) (ansF (wErrB d.1 d.2.2.2.1 d.2.2.2.2.1) d.1 d.2.2.2.2.2.1) (ansID d.1)),2)/\(ansRt d.1).2.1≠[]/\(sRoutes d.1.2.1,i.1,i.2.1,i.2.2,sBalanced d.1.2.1)=ansS d.1,keep:=[0,1,2,6,9,11],slots:=fun i=>[(8,.int .i64 (inP d.1.1 d.1.2.2.1)),(13,.int .i64 (ansID d.1))],keepN:=[112,192,560,1048577,1048578,1048579],names:=fun i=>[(1048576,.live (.cells 127 (flat cNode d.1.1++([.dsl cRt (sRoutes d.1.2.1),.int .i64 i.1,.own 524288 1]++(flat cTokens i.2.2++([.int .i64 (sBalanced d.1.2.1),.int .i64 d.1.2.2.1,.int .i64 d.1.2.2.2.1,.dsl cU8 d.1.2.2.2.2.1]++flat cHeader d.1.2.2.2.2.2)))))),(524288,.live (.row 3 cI i.2.1))]})|_=>none)})
def Qbs0 (a:Node) (b:List Route) (c:Int) (d:List Int) (e f g h i:Int) (j:List Int) (k:Header) (l m n:Int) :=
 ansV (wErrB (a,(b,c,d,(e,f),g),h,i,j,k) l m) (wErrE (a,(b,c,d,(e,f),g),h,i,j,k) l m) (a,(b,c,d,(e,f),g),h,i,j,k) n
def Qbs5 (a:Node) (b:List Route) (c:Int) (d:List Int) (e f g h i:Int) (j:List Int) (k:Header) (l m n:Int) :=
 (pickS (ansS (a,(b,c,d,(e,f),g),h,i,j,k)) (ansRt (a,(b,c,d,(e,f),g),h,i,j,k)),(ansL (wErrB (a,(b,c,d,(e,f),g),h,i,j,k) l m) (a,(b,c,d,(e,f),g),h,i,j,k),wErrB (a,(b,c,d,(e,f),g),h,i,j,k) l m (ansF (wErrB (a,(b,c,d,(e,f),g),h,i,j,k) l m) (a,(b,c,d,(e,f),g),h,i,j,k) n) (ansID (a,(b,c,d,(e,f),g),h,i,j,k))),(2:Int))
def Qbs14 (a:Node) (b:List Route) (c:Int) (d:List Int) (e f g h i:Int) (j:List Int) (k:Header) (l m n p:Int) (q:List Int) (r:Int×Int) :=
 ansV (wErrB (a,(b,c,d,(e,f),g),h,i,j,k) l m) (wErrE (a,(b,c,d,(e,f),g),h,i,j,k) l m) (a,(b,c,d,(e,f),g),h,i,j,k) n=(Qbs5 a b c d e f g h i j k l m n)/\(ansRt (a,(b,c,d,(e,f),g),h,i,j,k)).2.1≠([]:List Int)/\(sRoutes (b,c,d,(e,f),g),p,q,r,sBalanced (b,c,d,(e,f),g))=ansS (a,(b,c,d,(e,f),g),h,i,j,k)
theorem vc_AnsErr :
 ∀(a:Node) (b:List Route) (c:Int) (d:List Int) (e f g h i:Int) (j:List Int) (k:Header) (l m n:Int),(CT.wf cNode a/\((b.length<=maxLen/\ ∀(o:Route),o∈b->((0<=o.1.1/\o.1.1<=4294967295)/\R64 o.1.2)/\(o.2.1.length<=maxLen/\ ∀(p:Int),p∈o.2.1->R64 p)/\R64 o.2.2)/\R64 c/\(d.length<=maxLen/\ ∀(o:Int),o∈d->R64 o)/\(R64 e/\R64 f)/\R64 g)/\R64 h/\R64 i/\(j.length<=maxLen/\ ∀(o:Int),o∈j->0<=o/\o<=255)/\CT.wf cHeader k)/\True/\True/\R64 l/\R64 m/\(0<=n/\n<=4294967295)/\True->(Qbs8 b c d e f g j)-> ∀(o:Bool),o=decide (n=0)->(o->(o->o)/\True)/\(o->(o->o)/\True)/\(o->(o->o)/\True)/\(o->(o->o)/\True)/\(o->o)/\ifP (bif o then a.2.2.2.2.2.2.2.2.2.2.2.1 else false) ((Qbs10)=(Qbs0 a b c d e f g h i j k l m n).2.1/\(4:Int)=(Qbs0 a b c d e f g h i j k l m n).2.2/\(a,(b,c,d,(e,f),g),h,i,j,k)=setS (a,(b,c,d,(e,f),g),h,i,j,k) (Qbs0 a b c d e f g h i j k l m n).1/\()=()/\l=l/\m=m) ((j.length:Int)<=1000000/\ifP (!
 decide (wErrE (a,(b,c,d,(e,f),g),h,i,j,k) l m (0:Int)=0)) ((Qbs10)=(Qbs0 a b c d e f g h i j k l m n).2.1/\(6:Int)=(Qbs0 a b c d e f g h i j k l m n).2.2/\(a,(b,c,d,(e,f),g),h,i,j,k)=setS (a,(b,c,d,(e,f),g),h,i,j,k) (Qbs0 a b c d e f g h i j k l m n).1/\()=()/\l=l/\m=m) (sortedR (sRoutes (b,c,d,(e,f),g))/\okL (sRoutes (b,c,d,(e,f),g))/\ifP (! wayB (b,c,d,(e,f),g) k.2.2.2.2.2.1) ((Qbs10)=(Qbs0 a b c d e f g h i j k l m n).2.1/\(8:Int)=(Qbs0 a b c d e f g h i j k l m n).2.2/\(a,(b,c,d,(e,f),g),h,i,j,k)=setS (a,(b,c,d,(e,f),g),h,i,j,k) (Qbs0 a b c d e f g h i j k l m n).1/\()=()/\l=l/\m=m) (ifP (! (Qbs7 a e f i).2) ((Qbs10)=(Qbs0 a b c d e f g h i j k l m n).2.1/\(5:Int)=(Qbs0 a b c d e f g h i j k l m n).2.2/\(a,(b,c,d,(Qbs7 a e f i).1,g),h,i,j,k)=setS (a,(b,c,d,(e,f),g),h,i,j,k) (Qbs0 a b c d e f g h i j k l m n).1/\()=()/\l=l/\m=m) (ifP (decide (inP a h<(d.length:Int))) (0<=inP a h/\inP
 a h<(d.length:Int)/\0<=inP a h/\inP a h<(d.length:Int)/\ ∃(p:Int) (q:List Int),∃(r:Int×Int),(Qbs14 a b c d e f g h i j k l m n p q r)/\n=n/\inP a h=inP a h/\idNext a (b,c,d,(Qbs7 a e f i).1,g) (inP a h) i k.2.1 k.2.2.2.2.2.1=ansID (a,(b,c,d,(e,f),g),h,i,j,k)/\(0:Int)=0/\(Qbs2 b c d e f g k).1.1=(Qbs2 b c d e f g k).1.1/\(Qbs2 b c d e f g k).1.2=(Qbs2 b c d e f g k).1.2/\(Qbs2 b c d e f g k).2.1=(Qbs2 b c d e f g k).2.1/\(Qbs2 b c d e f g k).2.2=(Qbs2 b c d e f g k).2.2/\wErrB (a,(b,c,d,(e,f),g),h,i,j,k) l m (adr a (inP a h)) (0:Int)=wErrB (a,(b,c,d,(e,f),g),h,i,j,k) l m (adr a (inP a h))
 (0:Int)/\l=l/\m=m/\a.1=a.1/\a.2.1=a.2.1/\a.2.2.1=a.2.2.1/\a.2.2.2.1=a.2.2.2.1/\a.2.2.2.2.1=a.2.2.2.2.1/\a.2.2.2.2.2.1=a.2.2.2.2.2.1/\a.2.2.2.2.2.2.1=a.2.2.2.2.2.2.1/\a.2.2.2.2.2.2.2.1=a.2.2.2.2.2.2.2.1/\a.2.2.2.2.2.2.2.2.1=a.2.2.2.2.2.2.2.2.1/\a.2.2.2.2.2.2.2.2.2.1=a.2.2.2.2.2.2.2.2.2.1/\a.2.2.2.2.2.2.2.2.2.2.1.1=a.2.2.2.2.2.2.2.2.2.2.1.1/\a.2.2.2.2.2.2.2.2.2.2.1.2=a.2.2.2.2.2.2.2.2.2.2.1.2/\a.2.2.2.2.2.2.2.2.2.2.2.1=a.2.2.2.2.2.2.2.2.2.2.2.1/\a.2.2.2.2.2.2.2.2.2.2.2.2.1=a.2.2.2.2.2.2.2.2.2.2.2.2.1/\a.2.2.2.2.2.2.2.2.2.2.2.2.2.1=a.2.2.2.2.2.2.2.2.2.2.2.2.2.1/\a.2.2.2.2.2.2.2.2.2.2.2.2.2.2=a.2.2.2.2.2.2.2.2.2.2.2.2.2.2/\b=sRoutes (b,c,d,(e,f),g)/\IntKind.wrap .i64 (c+(1:Int))=p/\(Qbs7 a e f i).1.1=r.1/\(Qbs7 a e f i).1.2=r.2/\g=sBalanced
 (b,c,d,(e,f),g)/\h=h/\i=i/\j=j/\k.1=k.1/\k.2.1=k.2.1/\k.2.2.1=k.2.2.1/\k.2.2.2.1=k.2.2.2.1/\k.2.2.2.2.1=k.2.2.2.2.1/\k.2.2.2.2.2.1=k.2.2.2.2.2.1/\k.2.2.2.2.2.2=k.2.2.2.2.2.2/\List.set d (Int.toNat (inP a h)) (IntKind.wrap .i64 (d.getD (Int.toNat (inP a h)) default+(1:Int)))=q/\True) (∃(p:Int) (q:List Int),∃(r:Int×Int),(Qbs14 a b c d e f g h i j k l m n p q r)/\n=n/\inP a h=inP a h/\idNext a (b,c,d,(Qbs7 a e f i).1,g) (inP a h) i k.2.1 k.2.2.2.2.2.1=ansID (a,(b,c,d,(e,f),g),h,i,j,k)/\(0:Int)=0/\(Qbs2 b c d e f g k).1.1=(Qbs2 b c d e f g k).1.1/\(Qbs2 b c d e f g k).1.2=(Qbs2 b c d e f g k).1.2/\(Qbs2 b c d e f g k).2.1=(Qbs2 b c d e f g k).2.1/\(Qbs2 b c d e f g k).2.2=(Qbs2 b c d e f g k).2.2/\wErrB (a,(b,c,d,(e,f),g),h,i,j,k) l m (adr a (inP a h)) (0:Int)=wErrB (a,(b,c,d,(e,f),g),h,i,j,k) l m (adr a (inP a h))
 (0:Int)/\l=l/\m=m/\a.1=a.1/\a.2.1=a.2.1/\a.2.2.1=a.2.2.1/\a.2.2.2.1=a.2.2.2.1/\a.2.2.2.2.1=a.2.2.2.2.1/\a.2.2.2.2.2.1=a.2.2.2.2.2.1/\a.2.2.2.2.2.2.1=a.2.2.2.2.2.2.1/\a.2.2.2.2.2.2.2.1=a.2.2.2.2.2.2.2.1/\a.2.2.2.2.2.2.2.2.1=a.2.2.2.2.2.2.2.2.1/\a.2.2.2.2.2.2.2.2.2.1=a.2.2.2.2.2.2.2.2.2.1/\a.2.2.2.2.2.2.2.2.2.2.1.1=a.2.2.2.2.2.2.2.2.2.2.1.1/\a.2.2.2.2.2.2.2.2.2.2.1.2=a.2.2.2.2.2.2.2.2.2.2.1.2/\a.2.2.2.2.2.2.2.2.2.2.2.1=a.2.2.2.2.2.2.2.2.2.2.2.1/\a.2.2.2.2.2.2.2.2.2.2.2.2.1=a.2.2.2.2.2.2.2.2.2.2.2.2.1/\a.2.2.2.2.2.2.2.2.2.2.2.2.2.1=a.2.2.2.2.2.2.2.2.2.2.2.2.2.1/\a.2.2.2.2.2.2.2.2.2.2.2.2.2.2=a.2.2.2.2.2.2.2.2.2.2.2.2.2.2/\b=sRoutes (b,c,d,(e,f),g)/\IntKind.wrap .i64 (c+(1:Int))=p/\(Qbs7 a e f i).1.1=r.1/\(Qbs7 a e f i).1.2=r.2/\g=sBalanced
 (b,c,d,(e,f),g)/\h=h/\i=i/\j=j/\k.1=k.1/\k.2.1=k.2.1/\k.2.2.1=k.2.2.1/\k.2.2.2.1=k.2.2.2.1/\k.2.2.2.2.1=k.2.2.2.2.1/\k.2.2.2.2.2.1=k.2.2.2.2.2.1/\k.2.2.2.2.2.2=k.2.2.2.2.2.2/\d=q/\True)/\ ∀(p:Int) (q:List Int) (r:Int×Int),ansV (wErrB (a,(b,c,d,(e,f),g),h,i,j,k) l m) (wErrE (a,(b,c,d,(e,f),g),h,i,j,k) l m) (a,(b,c,d,(e,f),g),h,i,j,k) n=(Qbs5 a b c d e f g h i j k l m n)/\(ansRt (a,(b,c,d,(e,f),g),h,i,j,k)).2.1≠([]:List Int)/\(sRoutes (b,c,d,(e,f),g),p,q,r,sBalanced (b,c,d,(e,f),g))=ansS (a,(b,c,d,(e,f),g),h,i,j,k)->(Qbs2 b c d e f g k).2.1≠([]:List Int)/\((List.length (wErrB (a,(b,c,d,(e,f),g),h,i,j,k) l m (adr a (inP a h)) (0:Int))):Int)<=1000000/\ifP (decide (n=0)) ((j.length:Int)<=1000000/\(pickL a (b,p,q,r,g) (Qbs2 b c d e f g k) (keyB (wErrB (a,(b,c,d,(e,f),g),h,i,j,k) l m (adr a (inP a h)) (0:Int))),wErrB (a,pickS (b,p,q,r,g) (Qbs2 b c d e f g k),h,i,j,k) l m (srcA a (inP a h)
 (pickL a (b,p,q,r,g) (Qbs2 b c d e f g k) (keyB (wErrB (a,(b,c,d,(e,f),g),h,i,j,k) l m (adr a (inP a h)) (0:Int))))) (ansID (a,(b,c,d,(e,f),g),h,i,j,k)))=(Qbs0 a b c d e f g h i j k l m n).2.1/\(2:Int)=(Qbs0 a b c d e f g h i j k l m n).2.2/\(a,pickS (b,p,q,r,g) (Qbs2 b c d e f g k),h,i,j,k)=setS (a,(b,c,d,(e,f),g),h,i,j,k) (Qbs0 a b c d e f g h i j k l m n).1/\()=()/\l=l/\m=m) ((j.length:Int)<=1000000/\(pickL a (b,p,q,r,g) (Qbs2 b c d e f g k) (keyB (wErrB (a,(b,c,d,(e,f),g),h,i,j,k) l m (adr a (inP a h)) (0:Int))),wErrB (a,pickS (b,p,q,r,g) (Qbs2 b c d e f g k),h,i,j,k) l m n (ansID (a,(b,c,d,(e,f),g),h,i,j,k)))=(Qbs0 a b c d e f g h i j k l m n).2.1/\(2:Int)=(Qbs0 a b c d e f g h i j k l m n).2.2/\(a,pickS (b,p,q,r,g) (Qbs2 b c d e f g k),h,i,j,k)=setS (a,(b,c,d,(e,f),g),h,i,j,k) (Qbs0 a b c d e f g h i j k l m n).1/\()=()/\l=l/\m=m))))):=by
  delta Qbs0 Qbs2 Qbs5 Qbs7 Qbs8 Qbs10 Qbs14
  rintro d x x1 x2 x3 x4 x5 x6 x7 x8 h ki co own-⟨hs,hl,hb⟩
  obtain ⟨w,hw⟩:∃ w:Work,w=(d,(x,x1,x2,(x3,x4),x5),x6,x7,x8,h):=⟨_,rfl⟩
  have e0:d.2.2.2.2.2.2.2.2.2.2.2.1=nSilent w.1:=by rw [hw];rfl
  have e2:wayB (x,x1,x2,(x3,x4),x5) h.2.2.2.2.2.1=wayB w.2.1 (hSrc w.2.2.2.2.2):=by rw [hw];rfl
  have e3:bTake d.2.2.2.2.2.2.2.2.2.2.1 (x3,x4) x7=takeV w:=by rw [hw];rfl
  rw [e0,e2,e3,← hw]
  have fin:=fun {s o y}=>finV (r:=ansV (wErrB w ki co) (wErrE w ki co) w own) (s:=s) (o:=o) (y:=y) w
  intro b hb0
  (repeat refine ⟨(by first|(simp;done)|(rw [hb0];simp;done)|(cases b <;> simp)),?_⟩)
  have hq:(bif b then nSilent w.1 else false)=true↔own=0/\nSilent w.1=true:=by rw [hb0];by_cases k:own=0 <;> simp [k]
  refine ifP_split (fun h0 => ?_) (fun h0 => ?_)
  · obtain ⟨f1,f2,f3⟩:=fin (ansV_sil (hq.1 h0))
    exact ⟨f1,f2,by rw [← f3,hw];rfl,rfl,rfl,rfl⟩
  have h0:¬ (own=0/\nSilent w.1=true):=fun k=>by rw [hq.2 k] at h0;cases h0
  refine ⟨hb,ifP_split (fun h1 => ?_) (fun h1 => ?_)⟩
  · obtain ⟨f1,f2,f3⟩:=fin (ansV_bad h0 (by simpa using h1))
    exact ⟨f1,f2,by rw [← f3,hw];rfl,rfl,rfl,rfl⟩
  have h1:¬ (wErrE w ki co) 0≠0:=by simpa using h1
  refine ⟨hs,hl,ifP_split (fun h2 => ?_) (fun h2 => ?_)⟩
  · obtain ⟨f1,f2,f3⟩:=fin (ansV_rt h0 h1 (by simpa using h2))
    exact ⟨f1,f2,by rw [← f3,hw];rfl,rfl,rfl,rfl⟩
  have h2:¬ wayB w.2.1 (hSrc w.2.2.2.2.2)=false:=by simpa using h2
  refine ifP_split (fun h3 => ?_) (fun h3=>⟨?_,?_⟩)
  · obtain ⟨f1,f2,f3⟩:=fin (ansV_lim h0 h1 h2 (by simpa using h3))
    exact ⟨f1,f2,by rw [← f3,hw];rfl,rfl,rfl,rfl⟩
  · have h3:¬ (takeV w).2=false:=by simpa using h3
    have eg:=ansV_go (B:=wErrB w ki co) h0 h1 h2 h3
    have hne:(ansRt w).2.1≠[]:=way_ne h2
    have hin:=inP_nn d x6
    have hID:idNext d (x,x1,x2,(takeV w).1,x5) (inP d x6) x7 h.2.1 h.2.2.2.2.2.1=ansID w:=by rw [← e3,hw];rfl
    have hS:ansS w=(x,IntKind.i64.wrap (x1+1),bump x2 (inP d x6),(takeV w).1,x5):=by rw [← e3,hw];rfl
    refine ifP_split (fun h4 => ?_) (fun h4 => ?_)
    · have h4:=of_decide_eq_true h4
      refine ⟨hin,h4,hin,h4,_,_,_,⟨eg,hne,?_⟩,rfl,rfl,hID,(by repeat' first|exact trivial|refine ⟨trivial,?_⟩|refine ⟨(by with_reducible rfl),?_⟩|refine ⟨w64 (by omega) (by omega),?_⟩|refine ⟨rfl,?_⟩)⟩
      rw [hS,bump_in h4];rfl
    · have h4:=of_decide_eq_false h4
      refine ⟨_,_,_,⟨eg,hne,?_⟩,rfl,rfl,hID,(by repeat' first|exact trivial|refine ⟨trivial,?_⟩|refine ⟨(by with_reducible rfl),?_⟩|refine ⟨w64 (by omega) (by omega),?_⟩|refine ⟨rfl,?_⟩)⟩
      rw [hS,bump_out h4];rfl
  · rintro k l t ⟨eg,hne,hS⟩
    have e4:lookR (sRoutes (x,x1,x2,(x3,x4),x5)) h.2.2.2.2.2.1=ansRt w:=by rw [hw];rfl
    have e5:(x,k,l,t,x5)=ansS w:=hS
    have e6:pickL d (ansS w) (ansRt w) (keyB ((wErrB w ki co) (adr d (inP d x6)) 0))=ansL (wErrB w ki co) w:=by rw [hw];rfl
    rw [e4,e5,e6]
    obtain ⟨f1,f2,f3⟩:=fin eg
    have hlen:=wErrB_len w ki co (adr d (inP d x6)) 0
    refine ⟨hne,by omega,ifP_split (fun h4 => ?_) (fun h4 => ?_)⟩
    · have h4:=of_decide_eq_true h4
      refine ⟨hb,?_,f2,by rw [← f3,hw];rfl,rfl,rfl,rfl⟩
      rw [← f1];unfold ansF;rw [if_pos h4,hw];rfl
    · have h4:=of_decide_eq_false h4
      refine ⟨hb,?_,f2,by rw [← f3,hw];rfl,rfl,rfl,rfl⟩
      rw [← f1];unfold ansF;rw [if_neg h4,hw];rfl
theorem ok_AnsErr:SpecOK Tryz.prog GL 156 ct_AnsErr.spec:=Ct.okH _ Tryz.func156 (by kernel_rfl) (withSpec_ok (withSpec_ok (withSpec_ok (withSpec_ok (withSpec_ok (withSpec_ok (withSpec_ok (withSpec_ok noSpecs_ok ok_node_work_incoming) ok_node_work_address) ok_node_work_errors_1) ok_node_work_route) ok_bucket_Take) ok_identifier_Next) ok_node_work_choose) ok_node_work_source) hmix an_AnsErr (hideMp (by kernel_rfl) vc_AnsErr)
def ct_node_work_receive:Ct:=⟨[.box 127 oWork],[.agg cOut,.val cI],fun d=>[okW d.1],fun d=>(((recvV d.1).2.1,(recvV d.1).2.2,()),(setS d.1 (recvV d.1).1,()))⟩
def an_node_work_receive:PDs ct_node_work_receive.ps->Anns:=(fun _=>{})
def Qbs15 (a:Node) (b:List Route) (c:Int) (d:List Int) (e f g h i:Int) (j:List Int) (k:Header) :=
 ansV (wHostB (a,(b,c,d,(e,f),g),h,i,j,k)) (wHostE (a,(b,c,d,(e,f),g),h,i,j,k)) (a,(b,c,d,(e,f),g),h,i,j,k) k.2.2.2.2.2.2
def Qbs16 (a:Node) (b:List Route) (c:Int) (d:List Int) (e f g h i:Int) (j:List Int) (k:Header) :=
 ansV (wHostB (a,(b,c,d,(e,f),g),h,i,j,k)) (wHostE (a,(b,c,d,(e,f),g),h,i,j,k)) (a,(b,c,d,(e,f),g),h,i,j,k) (0:Int)
theorem vc_node_work_receive :
 ∀(a:Node) (b:List Route) (c:Int) (d:List Int) (e f g h i:Int) (j:List Int) (k:Header),(Qbs3 a b c d e f g h i j k)/\True->(Qbs8 b c d e f g j)->(j.length:Int)<=1000000/\ ∀(l:Bool),l=decide (h= -1)->((! l)->((! l)->(! l))/\True)/\(l=false->(! l))/\ifP (bif l then true else ! decide (wHostE (a,(b,c,d,(e,f),g),h,i,j,k) (0:Int)=0)) ((Qbs10)=(recvV (a,(b,c,d,(e,f),g),h,i,j,k)).2.1/\(1:Int)=(recvV (a,(b,c,d,(e,f),g),h,i,j,k)).2.2/\(a,(b,c,d,(e,f),g),h,i,j,k)=setS (a,(b,c,d,(e,f),g),h,i,j,k) (recvV (a,(b,c,d,(e,f),g),h,i,j,k)).1) (ifP (decide (k.2.2.2.1=17)) (okW (a,(b,c,d,(e,f),g),h,i,j,k)/\(Qbs16 a b c d e f g h i j k).2.1=(recvV (a,(b,c,d,(e,f),g),h,i,j,k)).2.1/\(Qbs16 a b c d e f g h i j k).2.2=(recvV (a,(b,c,d,(e,f),g),h,i,j,k)).2.2/\(a,(Qbs16 a b c d e f g h i j k).1,h,i,j,k)=setS (a,(b,c,d,(e,f),g),h,i,j,k) (recvV (a,(b,c,d,(e,f),g),h,i,j,k)).1) (okW (a,(b,c,d,(e,f),g),h,i,j,k)/\(Qbs15 a
 b c d e f g h i j k).2.1=(recvV (a,(b,c,d,(e,f),g),h,i,j,k)).2.1/\(Qbs15 a b c d e f g h i j k).2.2=(recvV (a,(b,c,d,(e,f),g),h,i,j,k)).2.2/\(a,(Qbs15 a b c d e f g h i j k).1,h,i,j,k)=setS (a,(b,c,d,(e,f),g),h,i,j,k) (recvV (a,(b,c,d,(e,f),g),h,i,j,k)).1)):=by
  delta Qbs3 Qbs8 Qbs10 Qbs15 Qbs16
  rintro d x x1 x2 x3 x4 x5 x6 x7 x8 h-⟨hs,hl,hb⟩
  obtain ⟨w,hw⟩:∃ w:Work,w=(d,(x,x1,x2,(x3,x4),x5),x6,x7,x8,h):=⟨_,rfl⟩
  rw [← hw]
  have fin:=fun {s o y}=>finV (r:=recvV w) (s:=s) (o:=o) (y:=y) w
  have e0:w.2.2.1=x6:=by rw [hw]
  have e1:h=w.2.2.2.2.2:=by rw [hw]
  have okw:okW w:=by rw [hw];exact ⟨hs,hl,hb⟩
  refine ⟨hb,?_⟩
  (repeat (intro (b_:Bool) (hb_:b_=_);(repeat refine ⟨(by first|(simp;done)|(rw [hb_];simp;done)|(rw [hb_];simp;omega)|(rw [hb_];simp;intros;omega)|(rw [hb_];simp +contextual;done)),?_⟩);subst hb_))
  refine ifP_or (fun ho => ?_) (fun h1 h2 => ?_)
  · obtain ⟨f1,f2,f3⟩:=fin (s:=w.2.1) (o:=out0) (y:=1) (by unfold recvV;rw [if_pos];rcases ho with q|q;left;rw [e0];exact of_decide_eq_true q;right;simpa using q)
    exact ⟨f1,f2,by rw [← f3,hw];rfl⟩
  have hn:¬ (w.2.2.1 = -1∨wHostE w 0≠0):=by
    rintro (q|q)
    · rw [e0] at q;exact of_decide_eq_false h1 q
    · apply q;simpa using h2
  have er:recvV w=ansV (wHostB w) (wHostE w) w (if h.2.2.2.1=17 then 0 else h.2.2.2.2.2.2):=by unfold recvV;rw [if_neg hn,e1];rfl
  rw [er]
  refine ifP_split (fun h3 => ?_) (fun h3 => ?_)
  · rw [if_pos (of_decide_eq_true h3)]
    exact ⟨okw,rfl,rfl,by rw [hw];rfl⟩
  · rw [if_neg (of_decide_eq_false h3)]
    exact ⟨okw,rfl,rfl,by rw [hw];rfl⟩
theorem ok_node_work_receive:SpecOK Tryz.prog GL 106 ct_node_work_receive.spec:=Ct.okH _ Tryz.func106 (by kernel_rfl) (withSpec_ok (withSpec_ok noSpecs_ok ok_node_work_receive_1) ok_AnsHost) hmix an_node_work_receive (hideMp (by kernel_rfl) vc_node_work_receive)
def ct_node_work_forward:Ct:=⟨[.box 127 oWork],[.agg cOut,.val cI],fun d=>[okW d.1],fun d=>(((fwdV d.1).2.1,(fwdV d.1).2.2,()),(setS d.1 (fwdV d.1).1,()))⟩
def an_node_work_forward:PDs ct_node_work_forward.ps->Anns:=(fun _=>{})
def Qbs11 (a:Node) (b:List Route) (c:Int) (d:List Int) (e f g h i:Int) (j:List Int) (k:Header) :=
 ansV (wErrB (a,(b,c,d,(e,f),g),h,i,j,k) (11:Int) (0:Int)) (wErrE (a,(b,c,d,(e,f),g),h,i,j,k) (11:Int) (0:Int)) (a,(b,c,d,(e,f),g),h,i,j,k) (0:Int)
def Qbs12 (a:Node) (b:List Route) (c:Int) (d:List Int) (e f g h i:Int) (j:List Int) (k:Header) :=
 ansV (wErrB (a,(b,c,d,(e,f),g),h,i,j,k) (3:Int) (0:Int)) (wErrE (a,(b,c,d,(e,f),g),h,i,j,k) (3:Int) (0:Int)) (a,(b,c,d,(e,f),g),h,i,j,k) (0:Int)
def Qbs20 (a:Node) (b:List Route) (c:Int) (d:List Int) (e f g h i:Int) (j:List Int) (k:Header) :=
 (0:Int)=(fwdV (a,(b,c,d,(e,f),g),h,i,j,k)).2.2/\(a,pickS (b,c,d,(e,f),g) (lookR (sRoutes (b,c,d,(e,f),g)) k.2.2.2.2.2.2),h,i,j,k)=setS (a,(b,c,d,(e,f),g),h,i,j,k) (fwdV (a,(b,c,d,(e,f),g),h,i,j,k)).1
theorem vc_node_work_forward :
 ∀(a:Node) (b:List Route) (c:Int) (d:List Int) (e f g h i:Int) (j:List Int) (k:Header),(Qbs3 a b c d e f g h i j k)/\True->(Qbs8 b c d e f g j)-> ∀(l:Bool),l= ! decide (h= -1)->(l->(l->l)/\True)/\(l->(l->l)/\True)/\(l->(l->l)/\True)/\(l->(l->l)/\True)/\(l->(l->l)/\True)/\(l->l)/\ ∀(m:Bool),(m=bif l then ! a.2.2.2.2.2.2.2.2.2.2.2.2.1 else false)->(m->(m->m)/\True)/\(m->(m->m)/\True)/\(m->(m->m)/\True)/\(m->(m->m)/\True)/\(m->(m->m)/\True)/\(m->m)/\ifP (bif m then decide (k.2.2.1<2) else false) (okW (a,(b,c,d,(e,f),g),h,i,j,k)/\(Qbs11 a b c d e f g h i j k).2.1=(fwdV (a,(b,c,d,(e,f),g),h,i,j,k)).2.1/\(Qbs11 a b c d e f g h i j k).2.2=(fwdV (a,(b,c,d,(e,f),g),h,i,j,k)).2.2/\(a,(Qbs11 a b c d e f g h i j k).1,h,i,j,k)=setS (a,(b,c,d,(e,f),g),h,i,j,k) (fwdV (a,(b,c,d,(e,f),g),h,i,j,k)).1) (sortedR (sRoutes (b,c,d,(e,f),g))/\okL (sRoutes (b,c,d,(e,f),g))/\ ∀(n:Bool),n= ! wayB (b,c,d,(e,f),g)
 k.2.2.2.2.2.2->(n->n)/\ifP (bif n then decide (h= -1) else false) ((Qbs10)=(fwdV (a,(b,c,d,(e,f),g),h,i,j,k)).2.1/\(8:Int)=(fwdV (a,(b,c,d,(e,f),g),h,i,j,k)).2.2/\(a,(b,c,d,(e,f),g),h,i,j,k)=setS (a,(b,c,d,(e,f),g),h,i,j,k) (fwdV (a,(b,c,d,(e,f),g),h,i,j,k)).1) (ifP (! wayB (b,c,d,(e,f),g) k.2.2.2.2.2.2) (okW (a,(b,c,d,(e,f),g),h,i,j,k)/\(Qbs12 a b c d e f g h i j k).2.1=(fwdV (a,(b,c,d,(e,f),g),h,i,j,k)).2.1/\(Qbs12 a b c d e f g h i j k).2.2=(fwdV (a,(b,c,d,(e,f),g),h,i,j,k)).2.2/\(a,(Qbs12 a b c d e f g h i j k).1,h,i,j,k)=setS (a,(b,c,d,(e,f),g),h,i,j,k) (fwdV (a,(b,c,d,(e,f),g),h,i,j,k)).1) ((lookR (sRoutes (b,c,d,(e,f),g)) k.2.2.2.2.2.2).2.1≠([]:List Int)/\(j.length:Int)<=1000000/\j=j/\j=j/\(j.length:Int)<=1099511627776/\ ∀(o:Bool),o= ! decide (h= -1)->(o->(o->o)/\True)/\(o->(o->o)/\True)/\(o->(o->o)/\True)/\(o->(o->o)/\True)/\(o->(o->o)/\True)/\(o->o)/\ifP (bif o then !
 a.2.2.2.2.2.2.2.2.2.2.2.2.1 else false) ((j.length:Int)<=1099511627776/\(pickL a (b,c,d,(e,f),g) (lookR (sRoutes (b,c,d,(e,f),g)) k.2.2.2.2.2.2) (keyB j),lowB j)=(fwdV (a,(b,c,d,(e,f),g),h,i,j,k)).2.1/\(Qbs20 a b c d e f g h i j k)) ((pickL a (b,c,d,(e,f),g) (lookR (sRoutes (b,c,d,(e,f),g)) k.2.2.2.2.2.2) (keyB j),j)=(fwdV (a,(b,c,d,(e,f),g),h,i,j,k)).2.1/\(Qbs20 a b c d e f g h i j k))))):=by
  delta Qbs3 Qbs8 Qbs10 Qbs11 Qbs12 Qbs20
  rintro d x x1 x2 x3 x4 x5 x6 x7 x8 h-⟨hs,hl,hb⟩
  obtain ⟨w,hw⟩:∃ w:Work,w=(d,(x,x1,x2,(x3,x4),x5),x6,x7,x8,h):=⟨_,rfl⟩
  have e0:d.2.2.2.2.2.2.2.2.2.2.2.2.1=nOpaque w.1:=by rw [hw];rfl
  have e2:wayB (x,x1,x2,(x3,x4),x5) h.2.2.2.2.2.2=wayB w.2.1 (hDst w.2.2.2.2.2):=by rw [hw];rfl
  have e3:x6=w.2.2.1:=by rw [hw]
  have e4:h.2.2.1=hTTL w.2.2.2.2.2:=by rw [hw];rfl
  have e5:lookR (sRoutes (x,x1,x2,(x3,x4),x5)) h.2.2.2.2.2.2=lookR (sRoutes w.2.1) (hDst w.2.2.2.2.2):=by rw [hw];rfl
  have okw:okW w:=by rw [hw];exact ⟨hs,hl,hb⟩
  have fin:=fun {s o y}=>finV (r:=fwdV w) (s:=s) (o:=o) (y:=y) w
  rw [← hw,e0,e2,e4,e5]
  intro b hb0
  (repeat refine ⟨(by first|(simp;done)|(rw [hb0];simp;done)|(cases b <;> simp)),?_⟩)
  intro b1 hb1
  (repeat refine ⟨(by first|(simp;done)|(rw [hb1];simp;done)|(cases b1 <;> simp)|(cases b <;> cases b1 <;> simp)),?_⟩)
  have h1b:b1=true↔w.2.2.1 ≠ -1/\nOpaque w.1=false:=by rw [hb1,hb0,e3];by_cases k:w.2.2.1 = -1 <;> cases nOpaque w.1 <;> simp [k]
  have hq:(bif b1 then decide (hTTL w.2.2.2.2.2<2) else false)=true↔w.2.2.1 ≠ -1/\nOpaque w.1=false/\hTTL w.2.2.2.2.2<2:=by
    rw [← and_assoc,← h1b];cases b1 <;> simp
  refine ifP_split (fun k1 => ?_) (fun k1 => ?_)
  · have e:fwdV w=ansV (wErrB w 11 0) (wErrE w 11 0) w 0:=by unfold fwdV;rw [if_pos (hq.1 k1)]
    rw [e]
    exact ⟨okw,rfl,rfl,by rw [hw];rfl⟩
  have k1:¬ (w.2.2.1 ≠ -1/\nOpaque w.1=false/\hTTL w.2.2.2.2.2<2):=fun k=>by rw [hq.2 k] at k1;cases k1
  refine ⟨hs,hl,?_⟩
  intro c hc
  (repeat refine ⟨(by first|(simp;done)|(rw [hc];simp;done)|(cases c <;> simp)),?_⟩)
  refine ifP_split (fun k2 => ?_) (fun k2 => ?_)
  · have q:wayB w.2.1 (hDst w.2.2.2.2.2)=false/\w.2.2.1 = -1:=by
      rw [hc,e3] at k2
      cases hh:wayB w.2.1 (hDst w.2.2.2.2.2) with
      | true=>rw [hh] at k2;simp at k2
      | false=>rw [hh] at k2;exact ⟨rfl,by simpa using k2⟩
    obtain ⟨f1,f2,f3⟩:=fin (s:=w.2.1) (o:=out0) (y:=8) (by unfold fwdV;rw [if_neg k1,if_pos q.1,if_pos q.2])
    exact ⟨f1,f2,by rw [← f3,hw];rfl⟩
  refine ifP_split (fun k3 => ?_) (fun k3 => ?_)
  · have k3:wayB w.2.1 (hDst w.2.2.2.2.2)=false:=by simpa using k3
    have q:¬ w.2.2.1 = -1:=fun q=>by rw [hc,k3,e3,q] at k2;simp at k2
    have e:fwdV w=ansV (wErrB w 3 0) (wErrE w 3 0) w 0:=by unfold fwdV;rw [if_neg k1,if_pos k3,if_neg q]
    rw [e]
    exact ⟨okw,rfl,rfl,by rw [hw];rfl⟩
  have k3:¬ wayB w.2.1 (hDst w.2.2.2.2.2)=false:=by simpa using k3
  refine ⟨way_ne k3,hb,?_⟩
  clear h1b hq
  (repeat refine ⟨(by first|(with_reducible rfl)|trivial|omega),?_⟩)
  intro b' hb0'
  (repeat refine ⟨(by first|(simp;done)|(rw [hb0'];simp;done)|(cases b' <;> simp)),?_⟩)
  have hq:(bif b' then !nOpaque w.1 else false)=true↔w.2.2.1 ≠ -1/\nOpaque w.1=false:=by rw [hb0',e3];by_cases k:w.2.2.1 = -1 <;> cases nOpaque w.1 <;> simp [k]
  have e:fwdV w=(pickS w.2.1 (lookR (sRoutes w.2.1) (hDst w.2.2.2.2.2)),(pickL w.1 w.2.1 (lookR (sRoutes w.2.1) (hDst w.2.2.2.2.2)) (keyB w.2.2.2.2.1),if w.2.2.1 ≠ -1/\nOpaque w.1=false then lowB w.2.2.2.2.1 else w.2.2.2.2.1),0):=by unfold fwdV;rw [if_neg k1,if_neg k3]
  obtain ⟨f1,f2,f3⟩:=fin e
  refine ifP_split (fun k4 => ?_) (fun k4 => ?_)
  · refine ⟨by omega,?_,f2,by rw [← f3,hw];rfl⟩
    rw [← f1,if_pos (hq.1 k4),hw]
  · refine ⟨?_,f2,by rw [← f3,hw];rfl⟩
    rw [← f1,if_neg (fun k=>by rw [hq.2 k] at k4;cases k4),hw]
theorem ok_node_work_forward:SpecOK Tryz.prog GL 107 ct_node_work_forward.spec:=Ct.okH _ Tryz.func107 (by kernel_rfl) (withSpec_ok (withSpec_ok (withSpec_ok (withSpec_ok (withSpec_ok (withSpec_ok noSpecs_ok ok_node_work_errors) ok_AnsErr) ok_node_work_route) ok_node_work_choose) ok_ipv4_Lower) ok_slices_Clone_b979) hmix an_node_work_forward (hideMp (by kernel_rfl) vc_node_work_forward)
def ct_node_work_handle:Ct:=⟨[.box 127 oWork],[.agg cOut,.val cI],fun d=>[okW d.1],fun d=>(((hdV d.1).2.1,(hdV d.1).2.2,()),((d.1.1,(hdV d.1).1,d.1.2.2.1,d.1.2.2.2.1,d.1.2.2.2.2.1,(decPkt d.1.2.2.2.2.1).1),()))⟩
def an_node_work_handle:PDs ct_node_work_handle.ps->Anns:=(fun _=>{})
theorem vc_node_work_handle :
 ∀(a:Node) (b:List Route) (c:Int) (d:List Int) (e f g h i:Int) (j:List Int) (k:Header),(Qbs3 a b c d e f g h i j k)/\True->(Qbs8 b c d e f g j)->(j.length:Int)<=1099511627776/\ifP (! decide (decErr j=0)) ((Qbs10)=(hdV (a,(b,c,d,(e,f),g),h,i,j,k)).2.1/\(6:Int)=(hdV (a,(b,c,d,(e,f),g),h,i,j,k)).2.2/\(a,(b,c,d,(e,f),g),h,i,j,(decPkt j).1)=(a,(hdV (a,(b,c,d,(e,f),g),h,i,j,k)).1,h,i,j,(decPkt j).1)) (ifP (ownsA a (decPkt j).1.2.2.2.2.2.2) (okW (a,(b,c,d,(e,f),g),h,i,j,(decPkt j).1)/\(recvV (a,(b,c,d,(e,f),g),h,i,j,(decPkt j).1)).2.1=(hdV (a,(b,c,d,(e,f),g),h,i,j,k)).2.1/\(recvV (a,(b,c,d,(e,f),g),h,i,j,(decPkt j).1)).2.2=(hdV (a,(b,c,d,(e,f),g),h,i,j,k)).2.2/\(a,(recvV (a,(b,c,d,(e,f),g),h,i,j,(decPkt j).1)).1,h,i,j,(decPkt j).1)=(a,(hdV (a,(b,c,d,(e,f),g),h,i,j,k)).1,h,i,j,(decPkt j).1))
 (∀(l:Bool),l=a.2.2.2.1->(l->(l->l)/\True)/\(l->(l->l)/\True)/\(l->(l->l)/\True)/\(l->(l->l)/\True)/\(l->l)/\ifP (bif l then ! decide (h= -1) else false) ((Qbs10)=(hdV (a,(b,c,d,(e,f),g),h,i,j,k)).2.1/\(6:Int)=(hdV (a,(b,c,d,(e,f),g),h,i,j,k)).2.2/\(a,(b,c,d,(e,f),g),h,i,j,(decPkt j).1)=(a,(hdV (a,(b,c,d,(e,f),g),h,i,j,k)).1,h,i,j,(decPkt j).1)) (okW (a,(b,c,d,(e,f),g),h,i,j,(decPkt j).1)/\(fwdV (a,(b,c,d,(e,f),g),h,i,j,(decPkt j).1)).2.1=(hdV (a,(b,c,d,(e,f),g),h,i,j,k)).2.1/\(fwdV (a,(b,c,d,(e,f),g),h,i,j,(decPkt j).1)).2.2=(hdV (a,(b,c,d,(e,f),g),h,i,j,k)).2.2/\(a,(fwdV (a,(b,c,d,(e,f),g),h,i,j,(decPkt j).1)).1,h,i,j,(decPkt j).1)=(a,(hdV (a,(b,c,d,(e,f),g),h,i,j,k)).1,h,i,j,(decPkt j).1)))):=by
  delta Qbs3 Qbs8 Qbs10
  rintro d x x1 x2 x3 x4 x5 x6 x7 x8 h-⟨hs,hl,hb⟩
  refine ⟨by omega,ifP_split (fun h1 => ?_) (fun h1 => ?_)⟩
  · have e:hdV (d,(x,x1,x2,(x3,x4),x5),x6,x7,x8,h)=((x,x1,x2,(x3,x4),x5),out0,6):=by unfold hdV;rw [if_pos (by simpa using h1)]
    rw [e];exact ⟨rfl,rfl,rfl⟩
  have h1:¬ decErr x8≠0:=by simpa using h1
  refine ifP_split (fun h2 => ?_) (fun h2 => ?_)
  · have e:hdV (d,(x,x1,x2,(x3,x4),x5),x6,x7,x8,h)=recvV (d,(x,x1,x2,(x3,x4),x5),x6,x7,x8,(decPkt x8).1):=by unfold hdV;rw [if_neg h1];exact if_pos h2
    rw [e];exact ⟨⟨hs,hl,hb⟩,rfl,rfl,rfl⟩
  have h2:¬ ownsA d (hDst (decPkt x8).1)=true:=by show ¬ ownsA d (decPkt x8).1.2.2.2.2.2.2=true;rw [h2];simp
  intro b hb0
  (repeat refine ⟨(by first|(simp;done)|(rw [hb0];simp;done)|(cases b <;> simp)),?_⟩)
  have hq:(bif b then !decide (x6 = -1) else false)=true↔nHost d=true/\x6 ≠ -1:=by rw [hb0];show (bif d.2.2.2.1 then _ else _)=true↔d.2.2.2.1=true/\_;cases d.2.2.2.1 <;> simp
  refine ifP_split (fun h3 => ?_) (fun h3 => ?_)
  · have e:hdV (d,(x,x1,x2,(x3,x4),x5),x6,x7,x8,h)=((x,x1,x2,(x3,x4),x5),out0,6):=by unfold hdV;rw [if_neg h1,if_neg h2];exact if_pos (hq.1 h3)
    rw [e];exact ⟨rfl,rfl,rfl⟩
  · have e:hdV (d,(x,x1,x2,(x3,x4),x5),x6,x7,x8,h)=fwdV (d,(x,x1,x2,(x3,x4),x5),x6,x7,x8,(decPkt x8).1):=by unfold hdV;rw [if_neg h1,if_neg h2];exact if_neg (fun k=>by rw [hq.2 k] at h3;cases h3)
    rw [e];exact ⟨⟨hs,hl,hb⟩,rfl,rfl,rfl⟩
theorem ok_node_work_handle:SpecOK Tryz.prog GL 67 ct_node_work_handle.spec:=Ct.okH _ Tryz.func67 (by kernel_rfl) (withSpec_ok (withSpec_ok (withSpec_ok (withSpec_ok noSpecs_ok ok_ipv4_Decode) ok_node_Owns) ok_node_work_receive) ok_node_work_forward) hmix an_node_work_handle (hideMp (by kernel_rfl) vc_node_work_handle)
def ct_CloneRtN:Ct:=⟨[.val (.sl cRt)],[.own 87 cRt],fun d=>[(d.1.length:Int)<=134217728],fun d=>((d.1,()),())⟩
def an_CloneRtN:PDs ct_CloneRtN.ps->Anns:=(fun _=>{})
theorem vc_CloneRtN :
 ∀(a:List Route),(a.length<=maxLen/\ ∀(b:Route),b∈a->((0<=b.1.1/\b.1.1<=4294967295)/\R64 b.1.2)/\(b.2.1.length<=maxLen/\ ∀(c:Int),c∈b.2.1->R64 c)/\R64 b.2.2)/\True->(a.length:Int)<=134217728-> ∀(b:Bool),(b=true->a.length=(0:Nat))->ifP b (([]:List Route)=a) (((0:Nat)+a.length)*(48:Nat)<=(140737488355328:Nat)/\a=a):=by
  rintro x ⟨⟨hl,-⟩,-⟩ h b hb
  refine ifP_split (fun h1 => ?_) (fun h1=>⟨by omega,by simp⟩)
  have:=hb h1
  exact (List.eq_nil_of_length_eq_zero this).symm
theorem ok_CloneRtN:SpecOK Tryz.prog GL 105 ct_CloneRtN.spec:=Ct.okH _ Tryz.func105 (by kernel_rfl) noSpecs_ok hmix an_CloneRtN (hideMp (by kernel_rfl) vc_CloneRtN)
end Go.RS

/- Netd: networks as the laws draw them: exact. -/
namespace Go.RS
open Go.SX Go.Proofs
set_option maxRecDepth 100000
set_option linter.unusedVariables false
abbrev Link:Type:=Int×Int×Int×Int×Int×Int
abbrev Change:Type:=Int×Int×Bool×Rt
abbrev Net:Type:=List Node×List Link×List Change
abbrev Codes:Type:=List Int×Int
abbrev Port:Type:=Int×Int
def lA (l:Link):Int:=l.1
def lB (l:Link):Int:=l.2.1
def lDelay (l:Link):Int:=l.2.2.1
def lJitter (l:Link):Int:=l.2.2.2.1
def lLoss (l:Link):Int:=l.2.2.2.2.1
def lSeed (l:Link):Int:=l.2.2.2.2.2
theorem getD_setne {α:Type} [Inhabited α] {l:List α} {i j:Nat} {a:α} (h:i≠j):(l.set i a).getD j default=l.getD j default:=by
  rw [List.getD_eq_getElem?_getD,List.getD_eq_getElem?_getD,List.getElem?_set_ne h]
def codeAt (c:Codes):Int:=c.1.getD c.2.toNat default
def next1 (c:Codes) (n:Int):Int×Codes:=if (c.1.length:Int)<=c.2∨n<1 then (0,c) else ((codeAt c).tmod n,(c.1,c.2+1))
def nextV (c:Codes) (n:Int):Int×Codes :=
  if (c.1.length:Int)<=c.2∨n<1 then (0,c)
  else if 256<n then ((256*codeAt c+(next1 (c.1,c.2+1) 256).1).tmod n,(next1 (c.1,c.2+1) 256).2)
  else ((codeAt c).tmod n,(c.1,c.2+1))
structure okB (c:Codes):Prop where
  at':okC c
  b:∀ x∈c.1,0<=x/\x<=255
theorem okB.code {c:Codes} (h:okB c) (hb:¬ (c.1.length:Int)<=c.2):0<=codeAt c/\codeAt c<=255:=h.b _ (getD_mem h.at'.1 (by omega))
theorem next1_ok {c:Codes} (h:okB c) (n:Int):okB (next1 c n).2/\0<=(next1 c n).1/\((next1 c n).1<n∨(next1 c n).1=0):=by
  unfold next1
  split
  · exact ⟨h,by simp,.inr rfl⟩
  · rename_i hb
    have hc:=h.code (by omega)
    have ha:=h.at'
    exact ⟨⟨⟨by have:=ha.1;show 0<=c.2+1;omega,by show c.2+1<=(c.1.length:Int);omega⟩,h.b⟩,tmod_lo hc.1,.inl (tmod_hi hc.1 (by omega))⟩
theorem nextV_ok {c:Codes} (h:okB c) (n:Int):okB (nextV c n).2/\0<=(nextV c n).1/\((nextV c n).1<n∨(nextV c n).1=0):=by
  unfold nextV
  split
  · exact ⟨h,by simp,.inr rfl⟩
  · rename_i hb
    have hc:=h.code (by omega)
    have ha:=h.at'
    have h1:okB (c.1,c.2+1):=⟨⟨by have:=ha.1;show 0<=c.2+1;omega,by show c.2+1<=(c.1.length:Int);omega⟩,h.b⟩
    split
    · have k:=next1_ok h1 256
      exact ⟨k.1,tmod_lo (by omega),.inl (tmod_hi (by omega) (by omega))⟩
    · exact ⟨h1,tmod_lo hc.1,.inl (tmod_hi hc.1 (by omega))⟩
theorem nextV_lt {c:Codes} (h:okB c) {n:Int} (hn:0<n):0<=(nextV c n).1/\(nextV c n).1<n:=by
  have:=nextV_ok h n;omega
def newNode (i:Int) (host:Bool) (f sd:Int):Node:=([],0,1+i/3,host,[],1,0,0,0,0,(0,0),false,false,f,sd)
abbrev Scene:Type:=Net×Codes
def nodeS (s:Scene) (host:Bool):Scene :=
  ((s.1.1++[newNode s.1.1.length host (([64,255,128]:List Int).getD (nextV s.2 3).1.toNat default) (nextV (nextV s.2 3).2 256).1],s.1.2),(nextV (nextV s.2 3).2 256).2)
def addPort (ns:List Node) (x:Int) (p:Port):List Node:=ns.set x.toNat ((ns.getD x.toNat default).1++[p],(ns.getD x.toNat default).2)
def baseA (l:Int):Int:=167837696+4*l
def linkS (s:Scene) (a b:Int):Scene :=
  ((addPort (addPort s.1.1 a (baseA s.1.2.1.length+1,s.1.2.1.length)) b (baseA s.1.2.1.length+2,s.1.2.1.length),
    s.1.2.1++[(a,b,1+(nextV s.2 20).1,0,0,(nextV (nextV s.2 20).2 256).1)],s.1.2.2),(nextV (nextV s.2 20).2 256).2)
def insN (k:Int):List Int->List Int
  | []=>[k]
  | x::r=>if k<x then k::x::r else x::insN k r
theorem insN_len (k:Int):∀ l:List Int,(insN k l).length=l.length+1
  | []=>rfl
  | x::r=>by rw [insN];split <;> simp [insN_len k r]
def rFind (l:List Rt) (p:Pfx):Nat:=l.findIdx fun r=>decide (r.1=p)
def setRoutes (x:Node) (l:List Rt):Node:=(x.1,x.2.1,x.2.2.1,x.2.2.2.1,l,x.2.2.2.2.2)
def routeL (l:List Rt) (p:Pfx) (k way:Int):List Rt :=
  if rFind l p<l.length then
    if k∈(l.getD (rFind l p) default).2.1 then l else putL l (p,insN k (l.getD (rFind l p) default).2.1,(l.getD (rFind l p) default).2.2)
  else putL l (p,[k],way)
def routeN (ns:List Node) (n:Int) (p:Pfx) (k way:Int):List Node:=ns.set n.toNat (setRoutes (ns.getD n.toNat default) (routeL (nRoutes (ns.getD n.toNat default)) p k way))
def relax (d:List Int) (l:Link):List Int :=
  (d.set (lA l).toNat (min (d.getD (lA l).toNat default) (d.getD (lB l).toNat default+1))).set (lB l).toNat (min (d.getD (lB l).toNat default) (d.getD (lA l).toNat default+1))
def distL (nn:Nat) (ls:List Link) (to:Int):List Int:=(List.range nn).foldl (fun d _=>ls.foldl relax d) ((List.replicate nn (1000:Int)).set to.toNat 0)
def stepE (d:List Int) (to:Int) (p:Pfx) (plain:Bool) (k way:Int) (ns:List Node) (a b:Int):List Node :=
  if d.getD a.toNat default≠d.getD b.toNat default+1∨(b≠to/\nHost (ns.getD b.toNat default)=true) then ns
  else if plain=true/\hasL (nRoutes (ns.getD a.toNat default)) p=true then ns else routeN ns a p k way
def stepK (ls:List Link) (d:List Int) (to:Int) (p:Pfx) (plain:Bool) (way:Int) (ns:List Node) (k:Nat):List Node :=
  stepE d to p plain k way (stepE d to p plain k way ns (lA (ls.getD k default)) (lB (ls.getD k default))) (lB (ls.getD k default)) (lA (ls.getD k default))
def stepP (ls:List Link) (d:List Int) (to:Int) (plain:Bool) (way:Int) (ns:List Node) (q:Port):List Node :=
  (List.range ls.length).foldl (stepK ls d to (q.1,32) plain way) ns
def wayC (c:Codes):Int×Codes:=if 1+(nextV c 3).1=3 then (if 0<(nextV (nextV c 3).2 3).1 then 1 else 3,(nextV (nextV c 3).2 3).2) else (1+(nextV c 3).1,(nextV c 3).2)
def stepT (ls:List Link) (plain:Bool) (s:List Node×Codes) (to:Nat):List Node×Codes :=
  ((nPorts (s.1.getD to default)).foldl (stepP ls (distL s.1.length ls to) to plain (wayC s.2).1) s.1,(wayC s.2).2)
def routesS (s:Scene) (plain:Bool):Scene :=
  let r:=(List.range s.1.1.length).foldl (stepT s.1.2.1 plain) (s.1.1,s.2)
  ((r.1,s.1.2),r.2)
def odSilent (x:Node):Node:=(x.1,x.2.1,x.2.2.1,x.2.2.2.1,x.2.2.2.2.1,x.2.2.2.2.2.1,x.2.2.2.2.2.2.1,x.2.2.2.2.2.2.2.1,x.2.2.2.2.2.2.2.2.1,x.2.2.2.2.2.2.2.2.2.1,x.2.2.2.2.2.2.2.2.2.2.1,true,x.2.2.2.2.2.2.2.2.2.2.2.2)
def odLimit (x:Node) (b:Int×Int):Node:=(x.1,x.2.1,x.2.2.1,x.2.2.2.1,x.2.2.2.2.1,x.2.2.2.2.2.1,x.2.2.2.2.2.2.1,x.2.2.2.2.2.2.2.1,x.2.2.2.2.2.2.2.2.1,x.2.2.2.2.2.2.2.2.2.1,b,x.2.2.2.2.2.2.2.2.2.2.2)
def odOpaque (x:Node) (b:Bool):Node:=(x.1,x.2.1,x.2.2.1,x.2.2.2.1,x.2.2.2.2.1,x.2.2.2.2.2.1,x.2.2.2.2.2.2.1,x.2.2.2.2.2.2.2.1,x.2.2.2.2.2.2.2.2.1,x.2.2.2.2.2.2.2.2.2.1,x.2.2.2.2.2.2.2.2.2.2.1,x.2.2.2.2.2.2.2.2.2.2.2.1,b,x.2.2.2.2.2.2.2.2.2.2.2.2.2)
def odSource (x:Node) (s:Int):Node:=(x.1,x.2.1,x.2.2.1,x.2.2.2.1,x.2.2.2.2.1,s,x.2.2.2.2.2.2)
def odLoop (x:Node) (a s:Int):Node:=(x.1,a,x.2.2.1,x.2.2.2.1,x.2.2.2.2.1,s,x.2.2.2.2.2.2)
def odFixed (x:Node) (a s:Int):Node:=(x.1,x.2.1,x.2.2.1,x.2.2.2.1,x.2.2.2.2.1,s,a,x.2.2.2.2.2.2.2)
def odWay (x:Node) (i:Int) (c:Codes):Node×Codes :=
  let a:=nextV c 10
  if a.1=1 then (odSilent x,a.2)
  else if a.1=2 then (odLimit x (1+(nextV a.2 3).1,1+(nextV (nextV a.2 3).2 200).1),(nextV (nextV a.2 3).2 200).2)
  else if a.1=3 then (odOpaque x (!nHost x&&decide (i%2=1)),a.2)
  else if a.1=4 then (odSource x 2,a.2)
  else if a.1=5 then (odLoop x (167903232+i) 3,a.2)
  else if a.1=6 then (odFixed x (167837696+(nextV a.2 40).1) 4,(nextV a.2 40).2)
  else (x,a.2)
def odChange (ns:List Node) (s:List Change×Int×Codes):List Change×Int×Codes :=
  let a:=nextV s.2.2 60
  let at':=s.2.1+a.1
  let w:=nextV a.2 ns.length
  let x:=ns.getD w.1.toNat default
  if (nRoutes x).length=0 then (s.1,at',w.2)
  else
    let r:=nextV w.2 (nRoutes x).length
    let p:=nextV r.2 (nPorts x).length
    let z:=nextV p.2 4
    let rt:=(nRoutes x).getD r.1.toNat default
    (s.1++[(at',w.1,false,(rt.1,if z.1=3 then [] else [((nPorts x).getD p.1.toNat default).2],rt.2.2))],at',z.2)
end Go.RS

/- Topo: networks: their errors and their parts. -/
namespace Go.RS
open Go.SX Go.Proofs
set_option maxRecDepth 100000
set_option linter.unusedVariables false
def adrs (x:Node):List Int:=pAddrs x++(if nLoop x=0 then [] else [nLoop x])
def otherV (ls:List Link) (k x:Int):Int:=if k<0∨(ls.length:Int)<=k then -1 else if x=lA (ls.getD k.toNat default) then lB (ls.getD k.toNat default) else if x=lB (ls.getD k.toNat default) then lA (ls.getD k.toNat default) else -1
def deafL (ns:List Node) (l:Link):Bool:=nOpaque (ns.getD (lA l).toNat default)&&nOpaque (ns.getD (lB l).toNat default)
def loose (n:Net) (k:Nat):Bool:=decide (portL (n.1.getD (lA (n.2.1.getD k default)).toNat default) k<0)||decide (portL (n.1.getD (lB (n.2.1.getD k default)).toNat default) k<0)
end Go.RS

/- Topod: what the errors of networks, their parts and their routes at a time are: plain. -/
namespace Go.RS
open Go.SX Go.Proofs
set_option maxRecDepth 100000
set_option linter.unusedVariables false
theorem chk_is {links:List Int}:∀ {l:List Rt} {q:Option Pfx},chk links q l=0->sortedR l/\(∀ p,q=some p→∀ r∈l,plt p r.1)∧∀ r∈l,pValid r.1=true/\rightR r links
  | [],q,_=>⟨List.Pairwise.nil,fun _ _ r hr=>(by cases hr),fun r hr=>(by cases hr)⟩
  | r::l,q,h=>by
    rw [chk] at h
    split at h
    · cases h
    rename_i h1
    split at h
    · cases h
    rename_i h2
    split at h
    · cases h
    rename_i h3
    obtain ⟨i1,i2,i3⟩:=chk_is h
    have hv:pValid r.1=true:=by cases hh:pValid r.1 <;> simp_all
    have hp:∀ p,q=some p->plt p r.1:=fun p hp=>by
      subst hp
      rw [Option.any_some] at h2
      have:¬ (0<=pcmp p r.1):=by simpa using h2
      exact pcmp_neg.1 (by omega)
    refine ⟨List.pairwise_cons.2 ⟨i2 _ rfl,i1⟩,fun p e z hz => ?_,fun z hz => ?_⟩
    · rcases List.mem_cons.1 hz with rfl|hz
      · exact hp p e
      · exact plt_trans (hp p e) (i2 _ rfl z hz)
    · rcases List.mem_cons.1 hz with rfl|hz
      · exact ⟨hv,Classical.byContradiction h3⟩
      · exact i3 z hz
theorem check_is {l:List Rt} {links:List Int} (h:check l links=0):sortedR l/\l.length<=64∧∀ r∈l,pValid r.1=true/\rightR r links:=by
  unfold check at h
  split at h
  · cases h
  · rename_i hl
    have k:=chk_is h
    exact ⟨k.1,by omega,k.2.2⟩
theorem check_okL {l:List Rt} {links:List Int} (h:check l links=0):sortedR l/\okL l:=by
  obtain ⟨h1,h2,h3⟩:=check_is h
  exact ⟨h1,by omega,fun r hr=>by have:=(h3 r hr).2.1.1;omega⟩
def hAt (c:Change):Int:=c.1
def hWho (c:Change):Int:=c.2.1
def hRem (c:Change):Bool:=c.2.2.1
def hRoute (c:Change):Rt:=c.2.2.2
def chV (l:List Rt) (c:Change):List Rt:=if hRem c=true then removeL l (hRoute c).1 else putL l (hRoute c)
theorem getD_memN {α:Type} [Inhabited α] {xs:List α} {i:Nat} (h:i<xs.length):xs.getD i default∈xs:=by
  have:=getD_mem (xs:=xs) (i:=(i:Nat)) (by omega) (by omega)
  simpa using this
def stepC (who at':Int) (l:List Rt) (c:Change):List Rt:=if hWho c=who/\hAt c<=at' then chV l c else l
def routesK (n:Net) (who at':Int) (k:Int):List Rt:=(n.2.2.take k.toNat).foldl (stepC who at') (nRoutes (n.1.getD who.toNat default))
def routesV (n:Net) (who at':Int):List Rt:=if who<0∨(n.1.length:Int)<=who then [] else routesK n who at' n.2.2.length
structure okTb (m:Nat) (l:List Rt):Prop where
  s:sortedR l
  n:l.length<=m
  x:∀ r∈l,(r.2.1.length:Int)<=1099511627776
theorem okTb.okL {m:Nat} {l:List Rt} (h:okTb m l) (hm:m<=100000):okL l:=⟨by have:=h.n;omega,h.x⟩
end Go.RS

/- Node2: a node's state; what a node does, in the program and in the reference. -/
namespace Go.RS
open Go.SX Go.Proofs
set_option maxRecDepth 100000
set_option linter.unusedVariables false
def startV (x:Node):NState:=(nRoutes x,0,List.replicate (nPorts x).length 0,bFull (nLimit x) 0,0)
def okTk (b t:Int×Int):Prop:=(0<=t.2/\t.2<=1125899906842624)/\(b=(0,0)->t.1=0)/\(b≠(0,0)->0<=t.1/\t.1<=b.1*b.2)
structure StOK (x:Node) (s:NState) (K:Int):Prop where
  srt:sortedR (sRoutes s)
  okl:okL (sRoutes s)
  rt:∀ r∈sRoutes s,rightR r (pLinks x)
  ps:(sPortSent s).length=(nPorts x).length
  tk:okTk (nLimit x) (sTokens s)
  cn:0<=sSent s/\sSent s<=K
  cp:∀ y∈sPortSent s,0<=y/\y<=K
theorem bCheck_prod {b:Int×Int} (h:bCheck b=0):b=(0,0)∨(1<=b.1/\b.1<=65536/\1<=b.2/\b.2<=1073741824/\b.2<=b.1*b.2/\b.1*b.2<=70368744177664):=by
  unfold bCheck at h
  split at h
  · rename_i hh
    rcases hh with hh|⟨h1,h2,h3,h4⟩
    · exact .inl hh
    · refine .inr ⟨h1,h2,h3,h4,?_,?_⟩
      · have:=Int.mul_le_mul_of_nonneg_right (a:=1) (b:=b.1) (c:=b.2) h1 (by omega);omega
      · have:=Int.mul_le_mul (a:=b.1) (b:=b.2) (c:=65536) (d:=1073741824) h2 h4 (by omega) (by omega);omega
  · cases h
theorem bFull_w {b:Int×Int} (h:bCheck b=0) (x:Int):bFull b x=(b.1*b.2,x):=by
  rcases bCheck_prod h with rfl|hh
  · rfl
  · unfold bFull w;rw [w64 (by omega) (by omega)]
structure NodeOK (x:Node):Prop where
  n1:1<=(nPorts x).length
  n32:(nPorts x).length<=32
  id:idCheck x=0
  bk:bCheck (nLimit x)=0
  rt:check (nRoutes x) (pLinks x)=0
  loop:¬ loopBad x
  ports:∀ i,i<(nPorts x).length->portBad x i=0
  form:¬ formBad x
theorem nodeV_ok {x:Node} (h:nodeV x=0):NodeOK x:=by
  unfold nodeV at h
  split at h
  · cases h
  rename_i a1
  split at h
  · rename_i k;exact absurd h k
  rename_i a2
  split at h
  · cases h
  rename_i a3
  split at h
  · cases h
  rename_i a4
  split at h
  · rename_i k;exact absurd h k
  rename_i a5
  split at h
  · rename_i k;exact absurd h k
  rename_i a6
  refine ⟨?_,by omega,by simpa using a5,by simpa using a6,h,a3,first_zero (by simpa using a2),a4⟩
  by_cases k:(nPorts x).length=0
  · exact absurd (.inr (.inr (.inr (.inr (.inr (.inr k)))))) a4
  · omega
theorem bump_ok {l:List Int} {K i:Int} (h:∀ y∈l,0<=y/\y<=K) (hK:0<=K/\K<=2199023255552) (h0:0<=i):(bump l i).length=l.length∧∀ y∈bump l i,0<=y/\y<=K+1:=by
  unfold bump
  split
  · rename_i hi
    refine ⟨List.length_set,fun y hy => ?_⟩
    rcases List.mem_or_eq_of_mem_set hy with hy|rfl
    · have:=h y hy;omega
    · have:=h _ (getD_mem h0 hi)
      rw [w64 (by omega) (by omega)];omega
  · exact ⟨rfl,fun y hy=>by have:=h y hy;omega⟩
theorem StOK.more {x:Node} {s:NState} {K K':Int} (h:StOK x s K) (hk:K<=K'):StOK x s K' :=
  ⟨h.srt,h.okl,h.rt,h.ps,h.tk,by have:=h.cn;omega,fun y hy=>by have:=h.cp y hy;omega⟩
theorem StOK.bal {x:Node} {s:NState} {K:Int} (h:StOK x s K) (b:Int):StOK x (setBal s b) K:=⟨h.srt,h.okl,h.rt,h.ps,h.tk,h.cn,h.cp⟩
theorem StOK.pick {x:Node} {s:NState} {K:Int} (h:StOK x s K) (r:Rt):StOK x (pickS s r) K:=by
  unfold pickS;split
  · exact h
  · exact h.bal _
theorem StOK.sent {x:Node} {s:NState} {K i:Int} (h:StOK x s K) (hK:0<=K/\K<=2199023255552) (h0:0<=i):StOK x (sentS s i) (K+1):=by
  obtain ⟨b1,b2⟩:=bump_ok h.cp hK h0
  refine ⟨h.srt,h.okl,h.rt,b1.trans h.ps,h.tk,?_,b2⟩
  have:=h.cn
  show 0<=IntKind.i64.wrap (sSent s+1)/\IntKind.i64.wrap (sSent s+1)<=K+1
  rw [w64 (by omega) (by omega)];omega
theorem start_ok {x:Node} (hx:NodeOK x):StOK x (startV x) 0:=by
  obtain ⟨h1,h2⟩:=check_okL hx.rt
  obtain ⟨-,-,h3⟩:=check_is hx.rt
  refine ⟨h1,h2,fun r hr=>(h3 r hr).2,List.length_replicate,?_,⟨Int.le_refl _,Int.le_refl _⟩,fun y hy=>by rw [List.eq_of_mem_replicate hy];exact ⟨Int.le_refl _,Int.le_refl _⟩⟩
  show okTk (nLimit x) (bFull (nLimit x) 0)
  rw [bFull_w hx.bk]
  refine ⟨⟨by simp,by simp⟩,fun k=>by rw [k];rfl,fun k => ?_⟩
  have:=(bCheck_prod hx.bk).resolve_left k
  exact ⟨by show 0<=_*_;omega,Int.le_refl _⟩
def ct_node_routes:Ct:=⟨[.val (.sl cRt)],[.own 87 cRt],fun d=>[okL d.1],fun d=>((d.1,()),())⟩
def an_node_routes:PDs ct_node_routes.ps->Anns:=(fun d=>{loops:=(fun n=>match n with|3=>some (fun S=>{ι:=Int,μ:=fun i=>(d.1.length-i).toNat,inv:=fun i=>0<=i/\i<=d.1.length,keep:=[3,8,9],slots:=fun i=>[(10,.int .i64 i)],keepN:=[128],names:=fun i=>[]})|_=>none)})
theorem vc_node_routes :
 ∀(a:List Route),(a.length<=maxLen/\ ∀(b:Route),b∈a->((0<=b.1.1/\b.1.1<=4294967295)/\R64 b.1.2)/\(b.2.1.length<=maxLen/\ ∀(c:Int),c∈b.2.1->R64 c)/\R64 b.2.2)/\True->((a.length:Int)<=134217728/\ ∀(b:Rt),b∈a->(b.2.1.length:Int)<=1099511627776)->(a.length:Int)<=134217728/\(∃(b:Int),(0<=b/\b<=(a.length:Int))/\(a.length:Int)=(a.length:Int)/\(0:Int)=b/\a=a/\True)/\ ∀(b:Int),0<=b/\b<=(a.length:Int)->ifP (decide (b<(a.length:Int))) (0<=b/\b<(a.length:Int)/\((List.length (a.getD b.toNat default).2.1):Int)<=1099511627776/\0<=b/\b<(a.length:Int)/\ ∃(c:Int),(0<=c/\c<=(a.length:Int))/\Int.toNat ((a.length:Int) -c)<Int.toNat ((a.length:Int) -b)/\(a.length:Int)=(a.length:Int)/\IntKind.wrap .i64 (b+(1:Int))=c/\List.set a b.toNat (a.getD b.toNat default)=a/\True) (a=a):=by
  rintro l ⟨⟨hl,-⟩,-⟩ ⟨h1,h2⟩
  simp only [maxLen] at hl
  refine ⟨h1,⟨0,⟨by omega,by omega⟩,(by repeat' first|exact trivial|refine ⟨trivial,?_⟩|refine ⟨(by with_reducible rfl),?_⟩|refine ⟨w64 (by omega) (by omega),?_⟩|refine ⟨rfl,?_⟩)⟩,?_⟩
  rintro j ⟨j0,j1⟩
  refine ifP_split (fun hj => ?_) (fun hj => ?_)
  · have hj:=of_decide_eq_true hj
    refine ⟨j0,hj,h2 _ (getD_mem j0 hj),j0,hj,j+1,⟨by omega,by omega⟩,by omega,?_⟩
    (repeat first|refine ⟨trivial,?_⟩|refine ⟨(by with_reducible rfl),?_⟩|refine ⟨w64 (by omega) (by omega),?_⟩)
    exact ⟨set_getD j0 hj,trivial⟩
  · rfl
theorem ok_node_routes:SpecOK Tryz.prog GL 63 ct_node_routes.spec:=Ct.okH _ Tryz.func63 (by kernel_rfl) (withSpec_ok (withSpec_ok noSpecs_ok ok_CloneRtN) ok_slices_Clone_263e) hmix an_node_routes (hideMp (by kernel_rfl) vc_node_routes)
def ct_node_Start:Ct:=⟨[.agg cNode],[.agg cState],fun d=>[okL (nRoutes d.1),((nPorts d.1).length:Int)<=1000000],fun d=>((startV d.1,()),())⟩
def an_node_Start:PDs ct_node_Start.ps->Anns:=(fun _=>{})
theorem vc_node_Start :
 ∀(a:Node),CT.wf cNode a/\True->okL (nRoutes a)/\((List.length (nPorts a)):Int)<=1000000->0<=(a.1.length:Int)/\(a.1.length:Int)<=(a.1.length:Int)/\(↑(8:Nat):Int)*(a.1.length:Int)<=281474976710656/\okL a.2.2.2.2.1/\(a.2.2.2.2.1,(0:Int),List.replicate (Int.toNat (a.1.length:Int)) (0:Int),(w (a.2.2.2.2.2.2.2.2.2.2.1.1*a.2.2.2.2.2.2.2.2.2.2.1.2),(0:Int)),(0:Int))=startV a:=by
  rintro d-⟨h,hl⟩
  have hl:(d.1.length:Int)<=1000000:=hl
  exact ⟨by omega,by omega,by omega,h,rfl⟩
theorem ok_node_Start:SpecOK Tryz.prog GL 21 ct_node_Start.spec:=Ct.okH _ Tryz.func21 (by kernel_rfl) (withSpec_ok (withSpec_ok noSpecs_ok ok_bucket_Full) ok_node_routes) hmix an_node_Start (hideMp (by kernel_rfl) vc_node_Start)
def ct_node_Handle:Ct:=⟨[.agg cNode,.agg cState,.val cI,.val cI,.val (.sl cU8)],[.agg cState,.agg cOut,.val cI],fun d=>[sortedR (sRoutes d.2.1),okL (sRoutes d.2.1),((sPortSent d.2.1).length:Int)<=1000000,(d.2.2.2.2.1.length:Int)<=1000000],fun d=>(((handleV d.1 d.2.1 d.2.2.1 d.2.2.2.1 d.2.2.2.2.1).1,(handleV d.1 d.2.1 d.2.2.1 d.2.2.2.1 d.2.2.2.2.1).2.1,(handleV d.1 d.2.1 d.2.2.1 d.2.2.2.1 d.2.2.2.2.1).2.2,()),())⟩
def an_node_Handle:PDs ct_node_Handle.ps->Anns:=(fun _=>{})
def Qbw0 (a:Node) (b:List Route) (c:Int) (d:List Int) (e f g h i:Int) (j:List Int) :=
 (a,(b,c,d,(e,f),g),h,i,j,(0:Int),(0:Int),(0:Int),(0:Int),false,(0:Int),(0:Int))
theorem vc_node_Handle :
 ∀(a:Node) (b:List Route) (c:Int) (d:List Int) (e f g h i:Int) (j:List Int),CT.wf cNode a/\((b.length<=maxLen/\ ∀(k:Route),k∈b->((0<=k.1.1/\k.1.1<=4294967295)/\R64 k.1.2)/\(k.2.1.length<=maxLen/\ ∀(l:Int),l∈k.2.1->R64 l)/\R64 k.2.2)/\R64 c/\(d.length<=maxLen/\ ∀(k:Int),k∈d->R64 k)/\(R64 e/\R64 f)/\R64 g)/\R64 h/\R64 i/\(j.length<=maxLen/\ ∀(k:Int),k∈j->0<=k/\k<=255)/\True->sortedR (sRoutes (b,c,d,(e,f),g))/\okL (sRoutes (b,c,d,(e,f),g))/\((List.length (sPortSent (b,c,d,(e,f),g))):Int)<=1000000/\(j.length:Int)<=1000000->(d.length:Int)<=1099511627776/\okL b/\okW (Qbw0 a b c d e f g h i j)/\(hdV (Qbw0 a b c d e f g h i j)).1=(handleV a (b,c,d,(e,f),g) h i j).1/\(hdV (Qbw0 a b c d e f g h i j)).2.1=(handleV a (b,c,d,(e,f),g) h i j).2.1/\(hdV (Qbw0 a b c d e f g h i j)).2.2=(handleV a (b,c,d,(e,f),g) h i j).2.2:=by
  delta Qbw0
  rintro d x x1 x2 x3 x4 x5 x6 x7 x8-⟨hs,hl,hp,hb⟩
  have e2:sPortSent (x,x1,x2,(x3,x4),x5)=x2:=rfl
  rw [e2] at hp
  exact ⟨by omega,hl,⟨hs,hl,hb⟩,rfl,rfl,rfl⟩
theorem ok_node_Handle:SpecOK Tryz.prog GL 24 ct_node_Handle.spec:=Ct.okH _ Tryz.func24 (by kernel_rfl) (withSpec_ok (withSpec_ok (withSpec_ok noSpecs_ok ok_slices_Clone_263e) ok_node_routes) ok_node_work_handle) hmix an_node_Handle (hideMp (by kernel_rfl) vc_node_Handle)
def ct_ref12_Most:Ct:=⟨[.agg cBucket,.val cI],[.val cI],fun d=>[d.1.1≠0,1<=d.1.2],fun d=>((bMost d.1 d.2.1,()),())⟩
def an_ref12_Most:PDs ct_ref12_Most.ps->Anns:=(fun _=>{})
theorem vc_ref12_Most :
 ∀(a b c:Int),(R64 a/\R64 b)/\R64 c/\True->a≠(0:Int)/\1<=b-> ∀(d:Bool),d=decide (a=0)->((! d)->((! d)->(! d))/\True)/\(d=false->(! d))/\ifP (bif d then true else decide (c<0)) ((-1:Int)=bMost (a,b) c) (b≠(0:Int)/\IntKind.wrap .i64 (a+IntKind.wrap .i64 (Int.tdiv c b))=bMost (a,b) c):=by
  rintro a b n-⟨h1,h2⟩
  (repeat (intro (b_:Bool) (hb_:b_=_);(repeat refine ⟨(by first|(simp;done)|(rw [hb_];simp;done)|(rw [hb_];simp;omega)|(rw [hb_];simp;intros;omega)|(rw [hb_];simp +contextual;done)),?_⟩);subst hb_))
  have hb:¬ ((a,b):Int×Int)=(0,0):=fun k=>h1 (congrArg Prod.fst k)
  refine ifP_or (fun ho => ?_) (fun k1 k2 => ?_)
  · have hn:n<0:=by rcases ho with q|q;exact absurd (of_decide_eq_true q) h1;exact of_decide_eq_true q
    unfold bMost;rw [if_pos (.inr (.inl hn))]
  · have k2:=of_decide_eq_false k2
    refine ⟨by omega,?_⟩
    unfold bMost;rw [if_neg (by rintro (q|q|q);exact hb q;exact k2 q;have:b<1:=q;omega)]
theorem ok_ref12_Most:SpecOK Tryz.prog GL 32 ct_ref12_Most.spec:=Ct.okH _ Tryz.func32 (by kernel_rfl) noSpecs_ok hmix an_ref12_Most (hideMp (by kernel_rfl) vc_ref12_Most)
theorem pickS_eq (s:NState) (r:Rt):pickS s r=(s.1,s.2.1,s.2.2.1,s.2.2.2.1,sBalanced (pickS s r)):=by unfold pickS;split <;> rfl
end Go.RS

/- Law08: the laws of answers. -/
namespace Go.RS
open Go.SX Go.Proofs
set_option maxRecDepth 100000
set_option linter.unusedVariables false
structure Good (p:Probe):Prop where
  ok:probeErr p=0
  s:u32 p.1
  d:u32 p.2.1
theorem Good.len {p:Probe} (g:Good p):((p.2.2.1≠6/\(build p).length=30)∨(p.2.2.1=6/\(build p).length=40)):=by
  rw [build_eq g.ok,List.length_append,hdrB_len]
  rcases con_len g.ok with h|h
  · exact .inl ⟨h.1,by rw [h.2]⟩
  · exact .inr ⟨h.1,by rw [h.2]⟩
structure IsAns (p:Probe) (a:Ans) (x:List Int):Prop where
  no:¬ ansOK x
  rd:readA x=(noT p 0,a)
  re:readAE x=0
  len:x.length<=1500
theorem Good.t1 {p:Probe} (g:Good p) (t:Int) (h:1<=t/\t<=255):probeErr (noT p t)=0:=by
  obtain ⟨h1,h2,h3,-⟩:=probe_ok.1 g.ok
  exact probe_ok.2 ⟨h1,h2,h3,h⟩
def answered (p:Probe) (x:List Int):Prop:=(¬ usable p.1->x=[])/\(usable p.1→∃ a:Ans,0<a.2.1/\IsAns p a x)
end Go.RS

/- Drawsome: an address of a network, drawn. -/
namespace Go.RS
open Go.SX Go.Proofs
set_option maxRecDepth 100000
set_option linter.unusedVariables false
end Go.RS

/- Netr: routes of drawn networks: what holds of them at any time. -/
namespace Go.RS
open Go.SX Go.Proofs
set_option maxRecDepth 100000
set_option linter.unusedVariables false
theorem nodup_len {α:Type} [DecidableEq α]:∀ {l m:List α},l.Nodup->(∀ x∈l,x∈m)->l.length<=m.length
  | [],m,_,_=>by simp
  | x::l,m,h,hs=>by
    have hx:=hs x List.mem_cons_self
    have hn:=List.nodup_cons.1 h
    have:=nodup_len (l:=l) (m:=m.erase x) hn.2 fun y hy=>(List.mem_erase_of_ne (fun e:y=x=>hn.1 (e▸hy))).2 (hs y (List.mem_cons_of_mem _ hy))
    rw [List.length_erase_of_mem hx] at this
    have hp:=List.length_pos_of_mem hx
    rw [List.length_cons];omega
theorem foldl_inv {α β:Type} (I:β->Prop) (f:β->α->β):∀ {l:List α} {b:β},I b->(∀ x∈l,∀ b,I b->I (f b x))->I (l.foldl f b)
  | [],b,h,_=>h
  | x::l,b,h,hf=>foldl_inv I f (l:=l) (hf x List.mem_cons_self b h) fun y hy=>hf y (List.mem_cons_of_mem _ hy)
theorem mem_insN {k x:Int}:∀ {l:List Int},x∈insN k l->x=k∨x∈l
  | [],h=>by simp [insN] at h;exact .inl h
  | y::r,h=>by
    rw [insN] at h
    split at h
    · rcases List.mem_cons.1 h with e|h
      · exact .inl e
      · exact .inr h
    · rcases List.mem_cons.1 h with e|h
      · exact .inr (e▸List.mem_cons_self)
      · rcases mem_insN h with e|h
        · exact .inl e
        · exact .inr (List.mem_cons_of_mem _ h)
theorem insN_pw {k:Int}:∀ {l:List Int},l.Pairwise (· < ·)->k ∉ l->(insN k l).Pairwise (· < ·)
  | [],_,_=>by rw [insN];exact List.pairwise_singleton _ _
  | y::r,h,hk=>by
    have h:=List.pairwise_cons.1 h
    rw [insN]
    split
    · rename_i hy
      refine List.pairwise_cons.2 ⟨fun z hz => ?_,List.pairwise_cons.2 h⟩
      rcases List.mem_cons.1 hz with rfl|hz
      · exact hy
      · exact Int.lt_trans hy (h.1 z hz)
    · rename_i hy
      have:k≠y:=fun e=>hk (e▸List.mem_cons_self)
      refine List.pairwise_cons.2 ⟨fun z hz => ?_,insN_pw h.2 fun e=>hk (List.mem_cons_of_mem _ e)⟩
      rcases mem_insN hz with rfl|hz
      · omega
      · exact h.1 z hz
theorem insN_ne (k:Int) (l:List Int):insN k l≠[]:=by
  intro e
  have:=insN_len k l
  rw [e] at this;simp at this
theorem mem_putL {l:List Rt} {r x:Rt} (h:x∈putL l r):x=r∨x∈l:=by
  unfold putL at h
  rcases List.mem_append.1 h with h|h
  · exact .inr (List.mem_filter.1 h).1
  · rcases List.mem_cons.1 h with e|h
    · exact .inl e
    · exact .inr (List.mem_filter.1 h).1
def lnk (ls:List Link) (i k:Int):Prop:=0<=k/\k<ls.length/\(lA (ls.getD k.toNat default)=i∨lB (ls.getD k.toNat default)=i)
structure rtOK (ls:List Link) (aa:List Int) (i:Int) (r:Rt):Prop where
  len:r.1.2=32
  mem:r.1.1∈aa
  ne:r.2.1≠[]
  pw:r.2.1.Pairwise (· < ·)
  ln:∀ k∈r.2.1,lnk ls i k
  w0:1<=r.2.2
  w1:r.2.2<=3
def tabOK (ls:List Link) (aa:List Int) (i:Int) (t:List Rt):Prop:=sortedR t∧∀ r∈t,rtOK ls aa i r
theorem tabOK_len {ls:List Link} {aa:List Int} {i:Int} {t:List Rt} (h:tabOK ls aa i t):t.length<=aa.length:=by
  have hn:(t.map fun r=>r.1.1).Nodup:=by
    refine List.Pairwise.map (R:=fun a b:Rt=>a.1.1≠b.1.1) _ (fun a b h=>h) (h.1.imp_of_mem fun {a b} ha hb k => ?_)
    have e1:=(h.2 a ha).len
    have e2:=(h.2 b hb).len
    unfold plt at k
    omega
  have:=nodup_len hn (m:=aa) fun x hx=>by
    obtain ⟨r,hr,rfl⟩:=List.mem_map.1 hx
    exact (h.2 r hr).mem
  simpa using this
theorem rtOK_len {ls:List Link} {aa:List Int} {i:Int} {r:Rt} (h:rtOK ls aa i r):r.2.1.length<=ls.length:=by
  have hn:r.2.1.Nodup:=h.pw.imp fun k=>by omega
  have:=nodup_len hn (m:=(List.range ls.length).map fun (n:Nat)=>(n:Int)) fun x hx=>by
    obtain ⟨k0,k1,_⟩:=h.ln x hx
    exact List.mem_map.2 ⟨x.toNat,List.mem_range.2 (by omega),by omega⟩
  simpa using this
theorem tabOK_route {ls:List Link} {aa:List Int} {i:Int} {t:List Rt} (h:tabOK ls aa i t) {p:Pfx} {k way:Int} (hp:p.2=32) (ha:p.1∈aa) (hk:lnk ls i k) (h0:1<=way) (h1:way<=3) :
    tabOK ls aa i (routeL t p k way):=by
  have put:∀ r:Rt,rtOK ls aa i r->tabOK ls aa i (putL t r):=fun r hr =>
    ⟨putL_sorted h.1,fun x hx=>by
      rcases mem_putL hx with rfl|hx
      · exact hr
      · exact h.2 x hx⟩
  unfold routeL
  split
  · rename_i hf
    have hx:t.getD (rFind t p) default∈t:=by
      have:=getD_mem (xs:=t) (i:=(rFind t p:Nat)) (by omega) (by omega)
      simpa using this
    have hx:=h.2 _ hx
    split
    · exact h
    · rename_i hn
      exact put _ ⟨hp,ha,insN_ne _ _,insN_pw hx.pw hn,fun y hy=>by
        rcases mem_insN hy with rfl|hy
        · exact hk
        · exact hx.ln y hy,hx.w0,hx.w1⟩
  · exact put _ ⟨hp,ha,by simp,List.pairwise_singleton _ _,fun y hy=>by rw [List.mem_singleton.1 hy];exact hk,h0,h1⟩
structure RI (ls:List Link) (aa:List Int) (ns0 ns:List Node):Prop where
  n:ns.length=ns0.length
  e:∀ i:Nat,i<ns0.length->setRoutes (ns.getD i default) []=setRoutes (ns0.getD i default) []
  t:∀ i:Nat,i<ns0.length->tabOK ls aa i (nRoutes (ns.getD i default))
theorem RI.ports {ls aa ns0 ns} (h:RI ls aa ns0 ns) {i:Nat} (hi:i<ns0.length):nPorts (ns.getD i default)=nPorts (ns0.getD i default):=by
  have:=congrArg nPorts (h.e i hi);exact this
theorem RI.host {ls aa ns0 ns} (h:RI ls aa ns0 ns) {i:Nat} (hi:i<ns0.length):nHost (ns.getD i default)=nHost (ns0.getD i default):=by
  have:=congrArg nHost (h.e i hi);exact this
theorem RI.route {ls aa ns0 ns} (h:RI ls aa ns0 ns) {a:Int} {p:Pfx} {k way:Int} (a0:0<=a) (a1:a<ns0.length) (hp:p.2=32) (ha:p.1∈aa) (hk:lnk ls a k) (h0:1<=way) (h1:way<=3) :
    RI ls aa ns0 (routeN ns a p k way):=by
  have hl:a.toNat<ns.length:=by have:=h.n;omega
  unfold routeN
  refine ⟨by rw [List.length_set];exact h.n,fun i hi => ?_,fun i hi => ?_⟩
  · by_cases e:a.toNat=i
    · subst e
      rw [getD_set hl];exact h.e _ hi
    · rw [getD_setne e];exact h.e _ hi
  · by_cases e:a.toNat=i
    · subst e
      rw [getD_set hl]
      have:=tabOK_route (h.t _ hi) (p:=p) (k:=k) (way:=way) hp ha (by rwa [show ((a.toNat:Nat):Int)=a by omega]) h0 h1
      exact this
    · rw [getD_setne e];exact h.t _ hi
theorem RI.step {ls aa ns0 ns} (h:RI ls aa ns0 ns) {d:List Int} {to:Int} {p:Pfx} {plain:Bool} {k way a b:Int} (a0:0<=a) (a1:a<ns0.length) (hp:p.2=32) (ha:p.1∈aa) (hk:lnk ls a k) (h0:1<=way) (h1:way<=3) :
    RI ls aa ns0 (stepE d to p plain k way ns a b):=by
  unfold stepE
  split
  · exact h
  · split
    · exact h
    · exact h.route a0 a1 hp ha hk h0 h1
def goodEnds (n:Nat) (ls:List Link):Prop:=∀ l∈ls,0<=l.1/\l.1<n/\0<=l.2.1/\l.2.1<n
theorem goodEnds.at' {n:Nat} {ls:List Link} (hg:goodEnds n ls) {k:Nat} (hk:k<ls.length):(0<=lA (ls.getD k default)/\lA (ls.getD k default)<n)/\0<=lB (ls.getD k default)/\lB (ls.getD k default)<n:=by
  have hx:ls.getD k default∈ls:=by
    have:=getD_mem (xs:=ls) (i:=(k:Nat)) (by omega) (by omega)
    simpa using this
  obtain ⟨q1,q2,q3,q4⟩:=hg _ hx
  exact ⟨⟨q1,q2⟩,q3,q4⟩
theorem lnkA {ls:List Link} {k:Nat} (hk:k<ls.length):lnk ls (lA (ls.getD k default)) k:=⟨by omega,by omega,.inl (by simp)⟩
theorem lnkB {ls:List Link} {k:Nat} (hk:k<ls.length):lnk ls (lB (ls.getD k default)) k:=⟨by omega,by omega,.inr (by simp)⟩
theorem RI.stepK {ls aa ns0 ns} (h:RI ls aa ns0 ns) (hg:goodEnds ns0.length ls) {d:List Int} {to:Int} {p:Pfx} {plain:Bool} {way:Int} {k:Nat} (hk:k<ls.length) (hp:p.2=32) (ha:p.1∈aa) (h0:1<=way) (h1:way<=3) :
    RI ls aa ns0 (stepK ls d to p plain way ns k):=by
  have hh:=hg.at' hk
  unfold Go.RS.stepK
  exact (h.step hh.1.1 hh.1.2 hp ha (lnkA hk) h0 h1).step hh.2.1 hh.2.2 hp ha (lnkB hk) h0 h1
theorem RI.stepKs {ls aa ns0 ns} (h:RI ls aa ns0 ns) (hg:goodEnds ns0.length ls) {d:List Int} {to:Int} {p:Pfx} {plain:Bool} {way:Int} (hp:p.2=32) (ha:p.1∈aa) (h0:1<=way) (h1:way<=3) {n:Nat} (hn:n<=ls.length) :
    RI ls aa ns0 ((List.range n).foldl (Go.RS.stepK ls d to p plain way) ns) :=
  foldl_inv _ _ h fun k hk b hb=>hb.stepK hg (by have:=List.mem_range.1 hk;omega) hp ha h0 h1
theorem RI.stepP {ls aa ns0 ns} (h:RI ls aa ns0 ns) (hg:goodEnds ns0.length ls) {d:List Int} {to:Int} {plain:Bool} {way:Int} {q:Port} (ha:q.1∈aa) (h0:1<=way) (h1:way<=3) :
    RI ls aa ns0 (stepP ls d to plain way ns q) :=
  h.stepKs (p:=(q.1,32)) hg rfl ha h0 h1 (Nat.le_refl _)
def allA (ns:List Node):List Int:=ns.flatMap fun x=>(nPorts x).map (·.1)
theorem mem_allA {ns:List Node} {i:Nat} (hi:i<ns.length) {q:Port} (hq:q∈nPorts (ns.getD i default)):q.1∈allA ns:=by
  have hx:ns.getD i default∈ns:=by
    have:=getD_mem (xs:=ns) (i:=(i:Nat)) (by omega) (by omega)
    simpa using this
  exact List.mem_flatMap.2 ⟨_,hx,List.mem_map.2 ⟨q,hq,rfl⟩⟩
theorem RI.stepPs {ls ns0 ns} (h:RI ls (allA ns0) ns0 ns) (hg:goodEnds ns0.length ls) {d:List Int} {to:Int} {plain:Bool} {way:Int} (h0:1<=way) (h1:way<=3) {l:List Port} (hl:∀ q∈l,q.1∈allA ns0) :
    RI ls (allA ns0) ns0 (l.foldl (Go.RS.stepP ls d to plain way) ns) :=
  foldl_inv _ _ h fun q hq b hb=>hb.stepP hg (hl q hq) h0 h1
theorem wayC_ok {c:Codes} (h:okB c):okB (wayC c).2/\1<=(wayC c).1/\(wayC c).1<=3:=by
  have k:=nextV_ok h 3
  have k2:=nextV_ok k.1 3
  have:=nextV_lt h (n:=3) (by omega)
  unfold wayC
  split
  · refine ⟨k2.1,?_⟩
    dsimp only
    split <;> omega
  · exact ⟨k.1,by dsimp only;omega,by dsimp only;omega⟩
theorem RI.stepT {ls ns0} {s:List Node×Codes} (h:RI ls (allA ns0) ns0 s.1/\okB s.2) (hg:goodEnds ns0.length ls) {plain:Bool} {to:Nat} (ht:to<ns0.length) :
    RI ls (allA ns0) ns0 (stepT ls plain s to).1/\okB (stepT ls plain s to).2:=by
  have w:=wayC_ok h.2
  unfold Go.RS.stepT
  refine ⟨h.1.stepPs hg w.2.1 w.2.2 fun q hq => ?_,w.1⟩
  rw [h.1.ports ht] at hq
  exact mem_allA ht hq
theorem RI.stepTs {ls ns0} {s:List Node×Codes} (h:RI ls (allA ns0) ns0 s.1/\okB s.2) (hg:goodEnds ns0.length ls) {plain:Bool} {n:Nat} (hn:n<=ns0.length) :
    RI ls (allA ns0) ns0 ((List.range n).foldl (Go.RS.stepT ls plain) s).1/\okB ((List.range n).foldl (Go.RS.stepT ls plain) s).2 :=
  foldl_inv (fun s:List Node×Codes=>RI ls (allA ns0) ns0 s.1/\okB s.2) _ h fun k hk b hb=>RI.stepT hb hg (by have:=List.mem_range.1 hk;omega)
theorem RI.start {ls:List Link} {ns0:List Node} (h:∀ x∈ns0,nRoutes x=[]):RI ls (allA ns0) ns0 ns0:=by
  refine ⟨rfl,fun _ _=>rfl,fun i hi => ?_⟩
  have hx:ns0.getD i default∈ns0:=by
    have:=getD_mem (xs:=ns0) (i:=(i:Nat)) (by omega) (by omega)
    simpa using this
  rw [h _ hx]
  exact ⟨List.Pairwise.nil,fun r hr=>by cases hr⟩
end Go.RS

/- Netg: how drawn networks grow: what holds of their nodes and links. -/
namespace Go.RS
open Go.SX Go.Proofs
set_option maxRecDepth 100000
set_option linter.unusedVariables false
def port1 (i:Int) (k:Nat) (l:Link):List Port:=(if lA l=i then [(baseA k+1,(k:Int))] else [])++(if lB l=i then [(baseA k+2,(k:Int))] else [])
def portsF (i:Int):Nat->List Link->List Port
  | _,[]=>[]
  | k,l::r=>port1 i k l++portsF i (k+1) r
theorem portsF_snoc (i:Int) (l:Link):∀ (k:Nat) (ls:List Link),portsF i k (ls++[l])=portsF i k ls++port1 i (k+ls.length) l
  | k,[]=>by simp [portsF]
  | k,x::r=>by
    rw [List.cons_append,portsF,portsF_snoc i l (k+1) r,portsF,List.append_assoc,List.length_cons,show k+1+r.length=k+(r.length+1) by omega]
theorem port1_len (i:Int) (k:Nat) (l:Link):(port1 i k l).length<=2:=by
  unfold port1
  split <;> split <;> simp
theorem portsF_len (i:Int):∀ (k:Nat) (ls:List Link),(portsF i k ls).length<=2*ls.length
  | k,[]=>by simp [portsF]
  | k,x::r=>by
    have:=portsF_len i (k+1) r
    have:=port1_len i k x
    rw [portsF,List.length_append,List.length_cons];omega
theorem portsF_none {i:Int}:∀ {k:Nat} {ls:List Link},(∀ x∈ls,lA x≠i/\lB x≠i)->portsF i k ls=[]
  | k,[],_=>rfl
  | k,x::r,h=>by
    have hx:=h x List.mem_cons_self
    rw [portsF,portsF_none fun y hy=>h y (List.mem_cons_of_mem _ hy),port1,if_neg hx.1,if_neg hx.2];rfl
theorem mem_portsF {i:Int} {q:Port}:∀ {k:Nat} {ls:List Link},q∈portsF i k ls↔∃ j,j<ls.length/\((lA (ls.getD j default)=i/\q=(baseA (k+j:Nat)+1,((k+j:Nat):Int)))∨(lB (ls.getD j default)=i/\q=(baseA (k+j:Nat)+2,((k+j:Nat):Int))))
  | k,[]=>by simp [portsF]
  | k,x::r=>by
    rw [portsF,List.mem_append,mem_portsF (k:=k+1) (ls:=r)]
    constructor
    · rintro (h|⟨j,hj,h⟩)
      · refine ⟨0,by simp,?_⟩
        unfold port1 at h
        rcases List.mem_append.1 h with h|h
        · split at h
          · rename_i e
            exact .inl ⟨e,by simpa using h⟩
          · cases h
        · split at h
          · rename_i e
            exact .inr ⟨e,by simpa using h⟩
          · cases h
      · refine ⟨j+1,by rw [List.length_cons];omega,?_⟩
        rw [List.getD_cons_succ,show k+(j+1)=k+1+j by omega];exact h
    · rintro ⟨j,hj,h⟩
      cases j with
      | zero =>
        refine .inl ?_
        rw [List.getD_cons_zero] at h
        unfold port1
        rcases h with ⟨e,h⟩|⟨e,h⟩
        · rw [if_pos e];exact List.mem_append.2 (.inl (by simpa using h))
        · rw [if_pos e];exact List.mem_append.2 (.inr (by simpa using h))
      | succ j =>
        refine .inr ⟨j,by rw [List.length_cons] at hj;omega,?_⟩
        rw [List.getD_cons_succ,show k+(j+1)=k+1+j by omega] at h;exact h
theorem getD_app_lt {α:Type} [Inhabited α] {l m:List α} {i:Nat} (h:i<l.length):(l++m).getD i default=l.getD i default:=by
  rw [List.getD_eq_getElem?_getD,List.getElem?_append_left h,List.getD_eq_getElem?_getD]
theorem getD_app_eq {α:Type} [Inhabited α] {l:List α} {x:α}:(l++[x]).getD l.length default=x:=by
  rw [List.getD_eq_getElem?_getD];simp
theorem addPort_get {ns:List Node} {x:Int} {p:Port} (x0:0<=x) {i:Nat} (hi:i<ns.length) :
    (addPort ns x p).getD i default=((ns.getD i default).1++(if x=i then [p] else []),(ns.getD i default).2):=by
  unfold addPort
  by_cases e:x=i
  · have:x.toNat=i:=by omega
    rw [this,getD_set hi,if_pos e]
  · have:x.toNat≠i:=by omega
    rw [getD_setne this,if_neg e,List.append_nil]
theorem addPort_len (ns:List Node) (x:Int) (p:Port):(addPort ns x p).length=ns.length:=by unfold addPort;exact List.length_set
structure GI (s:Scene) (nn nl:Nat):Prop where
  n:s.1.1.length=nn
  l:s.1.2.1.length=nl
  h:s.1.2.2=[]
  c:okB s.2
  g:∀ x∈s.1.2.1,(0<=lA x/\lA x<nn)/\(0<=lB x/\lB x<nn)/\lA x≠lB x/\(1<=lDelay x/\lDelay x<=20)/\lJitter x=0/\lLoss x=0/\0<=lSeed x/\lSeed x<=255
  p:∀ i:Nat,i<nn->nPorts (s.1.1.getD i default)=portsF i 0 s.1.2.1
  d:∀ i:Nat,i<nn→∃ host f sd,(s.1.1.getD i default).2=(newNode i host f sd).2/\(f=64∨f=255∨f=128)/\0<=sd/\sd<=255
theorem GI.node {s:Scene} {nn nl:Nat} (h:GI s nn nl) (host:Bool):GI (nodeS s host) (nn+1) nl:=by
  have k3:=nextV_lt h.c (n:=3) (by omega)
  have c3:=(nextV_ok h.c 3).1
  have k4:=nextV_lt c3 (n:=256) (by omega)
  have c4:=(nextV_ok c3 256).1
  refine ⟨by simp only [nodeS,List.length_append,List.length_cons,List.length_nil,h.n],h.l,h.h,c4,fun x hx => ?_,fun i hi => ?_,fun i hi => ?_⟩
  · have:=h.g x hx
    omega
  · by_cases e:i<nn
    · rw [show (nodeS s host).1.1.getD i default=s.1.1.getD i default from getD_app_lt (by rw [h.n];exact e)]
      exact h.p i e
    · have e:i=s.1.1.length:=by rw [h.n];omega
      subst e
      rw [show (nodeS s host).1.1.getD s.1.1.length default=newNode s.1.1.length host _ _ from getD_app_eq]
      refine (portsF_none fun x hx => ?_).symm
      have:=h.g x hx
      have:=h.n
      omega
  · by_cases e:i<nn
    · rw [show (nodeS s host).1.1.getD i default=s.1.1.getD i default from getD_app_lt (by rw [h.n];exact e)]
      exact h.d i e
    · have e:i=s.1.1.length:=by rw [h.n];omega
      subst e
      rw [show (nodeS s host).1.1.getD s.1.1.length default=newNode s.1.1.length host _ _ from getD_app_eq]
      refine ⟨host,_,_,rfl,?_,k4.1,by omega⟩
      rcases (show (nextV s.2 3).1=0∨(nextV s.2 3).1=1∨(nextV s.2 3).1=2 by omega) with e|e|e <;> rw [e] <;> simp
theorem GI.link {s:Scene} {nn nl:Nat} (h:GI s nn nl) {a b:Int} (a0:0<=a) (a1:a<nn) (b0:0<=b) (b1:b<nn) (ne:a≠b):GI (linkS s a b) nn (nl+1):=by
  have k3:=nextV_lt h.c (n:=20) (by omega)
  have c3:=(nextV_ok h.c 20).1
  have k4:=nextV_lt c3 (n:=256) (by omega)
  have c4:=(nextV_ok c3 256).1
  refine ⟨by simp only [linkS,addPort_len,h.n],by simp only [linkS,List.length_append,List.length_cons,List.length_nil,h.l],h.h,c4,fun x hx => ?_,fun i hi => ?_,fun i hi => ?_⟩
  · rcases List.mem_append.1 hx with hx|hx
    · exact h.g x hx
    · rw [List.mem_singleton.1 hx]
      refine ⟨⟨a0,a1⟩,⟨b0,b1⟩,ne,?_,rfl,rfl,k4.1,?_⟩
      · show 1<=1+(nextV s.2 20).1/\1+(nextV s.2 20).1<=20
        omega
      · show (nextV (nextV s.2 20).2 256).1<=255
        omega
  · have hp:=h.p i hi
    unfold linkS
    dsimp only
    rw [addPort_get b0 (by rw [addPort_len,h.n];exact hi),addPort_get a0 (by rw [h.n];exact hi),portsF_snoc,← hp,Nat.zero_add]
    simp only [nPorts,port1,lA,lB,List.append_assoc]
    rfl
  · unfold linkS
    dsimp only
    rw [addPort_get b0 (by rw [addPort_len,h.n];exact hi),addPort_get a0 (by rw [h.n];exact hi)]
    exact h.d i hi
theorem GI.start {c:Codes} (hc:okB c):GI (([],[],[]),c) 0 0 :=
  ⟨rfl,rfl,rfl,hc,fun x hx=>(by cases hx),fun i hi=>(by omega),fun i hi=>(by omega)⟩
theorem GI.routes {s:Scene} {nn nl:Nat} (h:GI s nn nl):∀ x∈s.1.1,nRoutes x=[]:=fun x hx=>by
  obtain ⟨i,hi,e⟩:=List.mem_iff_getElem.1 hx
  obtain ⟨host,f,sd,hd,-⟩:=h.d i (by rw [← h.n];exact hi)
  have:s.1.1.getD i default=x:=by rw [List.getD_eq_getElem?_getD,List.getElem?_eq_getElem hi,e];rfl
  rw [this] at hd
  show x.2.2.2.2.1=[]
  rw [hd];rfl
theorem GI.plen {s:Scene} {nn nl:Nat} (h:GI s nn nl):∀ x∈s.1.1,x.1.length<=2*nl:=fun x hx=>by
  obtain ⟨i,hi,e⟩:=List.mem_iff_getElem.1 hx
  have hp:=h.p i (by rw [← h.n];exact hi)
  have:s.1.1.getD i default=x:=by rw [List.getD_eq_getElem?_getD,List.getElem?_eq_getElem hi,e];rfl
  rw [this] at hp
  have:=portsF_len i 0 s.1.2.1
  rw [← hp,h.l] at this;exact this
theorem GI.ends {s:Scene} {nn nl:Nat} (h:GI s nn nl):goodEnds s.1.1.length s.1.2.1:=fun x hx=>by
  have:=h.g x hx
  rw [h.n]
  exact ⟨this.1.1,this.1.2,this.2.1.1,this.2.1.2⟩
end Go.RS

/- Netdraw: the program text that draws networks does what Netd says. -/
namespace Go.RS
open Go.SX Go.Proofs
set_option maxRecDepth 100000
set_option linter.unusedVariables false
def smallS (s:Scene):Prop:=okC s.2/\(s.1.1.length:Int)<=1000/\(s.1.2.1.length:Int)<=1000/\(s.1.2.2.length:Int)<=1000∧∀ x∈s.1.1,(x.1.length:Int)<=1000
def inN (ns:List Node) (a:Int):Prop:=0<=a/\a<ns.length
theorem RI.pre {ls:List Link} {ns0 ns:List Node} (h:RI ls (allA ns0) ns0 ns) (ha:((allA ns0).length:Int)<=100000) (hl:(ls.length:Int)<=1000) {u:Int} (u0:0<=u) (u1:u<ns0.length) :
    inN ns u/\sortedR (nRoutes (ns.getD u.toNat default))/\okL (nRoutes (ns.getD u.toNat default))∧∀ r∈nRoutes (ns.getD u.toNat default),(r.2.1.length:Int)<=1000:=by
  have t:=h.t u.toNat (by omega)
  have tl:=tabOK_len t
  have rl:∀ r∈nRoutes (ns.getD u.toNat default),(r.2.1.length:Int)<=1000:=fun r hr=>by have:=rtOK_len (t.2 r hr);omega
  refine ⟨⟨u0,by rw [h.n];exact u1⟩,t.1,⟨by omega,fun r hr => ?_⟩,rl⟩
  have:=rl r hr;omega
structure AG (ns0 ns:List Node):Prop where
  n:ns.length=ns0.length
  e:∀ i:Nat,i<ns0.length->nPorts (ns.getD i default)=nPorts (ns0.getD i default)/\nRoutes (ns.getD i default)=nRoutes (ns0.getD i default)
theorem AG.set {ns0 ns:List Node} (h:AG ns0 ns) {i:Nat} (hi:i<ns0.length) {x:Node} (hx:nPorts x=nPorts (ns.getD i default)/\nRoutes x=nRoutes (ns.getD i default)):AG ns0 (ns.set i x):=by
  refine ⟨by rw [List.length_set];exact h.n,fun j hj => ?_⟩
  by_cases e:i=j
  · subst e
    rw [getD_set (by rw [h.n];exact hi)]
    exact ⟨hx.1.trans (h.e _ hj).1,hx.2.trans (h.e _ hj).2⟩
  · rw [getD_setne e];exact h.e _ hj
theorem goodEnds.set {n:Nat} {ls:List Link} (h:goodEnds n ls) {x:Link} (hx:0<=x.1/\x.1<n/\0<=x.2.1/\x.2.1<n) (i:Nat):goodEnds n (ls.set i x):=fun y hy=>by
  rcases List.mem_or_eq_of_mem_set hy with hy|rfl
  · exact h y hy
  · exact hx
theorem GI.small {s:Scene} {nn nl:Nat} (h:GI s nn nl) (hn:nn<=100) (hl:nl<=100):smallS s :=
  ⟨h.c.at',by rw [h.n];omega,by rw [h.l];omega,by rw [h.h];decide,fun x hx=>by have:=h.plen x hx;omega⟩
theorem GI.inN {s:Scene} {nn nl:Nat} (h:GI s nn nl) {a:Int} (h0:0<=a) (h1:a<nn):inN s.1.1 a:=⟨h0,by rw [h.n];exact h1⟩
structure RS (s:Scene) (nn nl:Nat) (r:Scene):Prop where
  g:GI s nn nl
  i:RI s.1.2.1 (allA s.1.1) s.1.1 r.1.1
  c:okB r.2
  l:r.1.2=s.1.2
theorem GI.rs {s:Scene} {nn nl:Nat} (h:GI s nn nl) (plain:Bool):RS s nn nl (routesS s plain):=by
  have:=RI.stepTs (ns0:=s.1.1) (ls:=s.1.2.1) (s:=(s.1.1,s.2)) ⟨RI.start h.routes,h.c⟩ h.ends (plain:=plain) (Nat.le_refl _)
  exact ⟨h,this.1,this.2,rfl⟩
theorem RS.ports {s r:Scene} {nn nl:Nat} (h:RS s nn nl r) {i:Nat} (hi:i<nn):nPorts (r.1.1.getD i default)=portsF i 0 s.1.2.1 :=
  (h.i.ports (by rw [h.g.n];exact hi)).trans (h.g.p i hi)
theorem RS.mem {s r:Scene} {nn nl:Nat} (h:RS s nn nl r) {x:Node} (hx:x∈r.1.1):∃ i,i<nn/\r.1.1.getD i default=x:=by
  obtain ⟨i,hi,e⟩:=List.mem_iff_getElem.1 hx
  exact ⟨i,by have:=h.i.n;have:=h.g.n;omega,by rw [List.getD_eq_getElem?_getD,List.getElem?_eq_getElem hi,e];rfl⟩
theorem RS.tab {s r:Scene} {nn nl:Nat} (h:RS s nn nl r) {i:Nat} (hi:i<nn):tabOK s.1.2.1 (allA s.1.1) i (nRoutes (r.1.1.getD i default)):=h.i.t i (by rw [h.g.n];exact hi)
end Go.RS

/- Drawn: what holds of drawn networks: their nodes, links, routes and changes. -/
namespace Go.RS
open Go.SX Go.Proofs
set_option maxRecDepth 100000
set_option linter.unusedVariables false
structure NP (i:Int) (x:Node):Prop where
  own:nOwner x=1+i/3
  loop:nLoop x=0∨nLoop x=167903232+i
  src:(nSource x=1∨nSource x=2)∨(nSource x=3/\nLoop x=167903232+i)∨(nSource x=4/\167837696<=nFixed x)
  fix:nFixed x=0∨(167837696<=nFixed x/\nFixed x<167837736)
  id:(0<=nID x/\nID x<=5)/\(0<=nBase x/\nBase x<=65535)/\0<=nSpeed x/\nSpeed x<=1000000
  lim:nLimit x=(0,0)∨(1<=(nLimit x).1/\(nLimit x).1<=3/\1<=(nLimit x).2/\(nLimit x).2<=200)
  first:nFirst x=64∨nFirst x=255∨nFirst x=128
  seed:0<=nSeed x/\nSeed x<=255
theorem NP.new {i:Int} {host:Bool} {f sd:Int} (hf:f=64∨f=255∨f=128) (h0:0<=sd) (h1:sd<=255):NP i (newNode i host f sd) :=
  ⟨rfl,.inl rfl,.inl (.inl rfl),.inl rfl,⟨⟨by show (0:Int)<=0;decide,by show (0:Int)<=5;decide⟩,⟨by show (0:Int)<=0;decide,by show (0:Int)<=65535;decide⟩,by show (0:Int)<=0;decide,by show (0:Int)<=1000000;decide⟩,.inl rfl,hf,h0,h1⟩
theorem NP.same {i:Int} {x y:Node} (h:NP i x) (e:x.2=y.2):NP i y:=by
  obtain ⟨p,x⟩:=x
  obtain ⟨q,y⟩:=y
  cases e
  exact ⟨h.own,h.loop,h.src,h.fix,h.id,h.lim,h.first,h.seed⟩
theorem NP.routes {i:Int} {x y:Node} (h:NP i x) (e:setRoutes x []=setRoutes y []):NP i y:=by
  have k:NP i (setRoutes x []):=⟨h.own,h.loop,h.src,h.fix,h.id,h.lim,h.first,h.seed⟩
  rw [e] at k
  exact ⟨k.own,k.loop,k.src,k.fix,k.id,k.lim,k.first,k.seed⟩
theorem NP.way {i:Int} {x:Node} (h:NP i x) {c:Codes} (hc:okB c):NP i (odWay x i c).1:=by
  have a:=nextV_lt hc (n:=10) (by omega)
  have ca:=(nextV_ok hc 10).1
  have b:=nextV_lt ca (n:=3) (by omega)
  have cb:=(nextV_ok ca 3).1
  have e:=nextV_lt cb (n:=200) (by omega)
  have f:=nextV_lt ca (n:=40) (by omega)
  unfold odWay
  dsimp only
  split
  · exact ⟨h.own,h.loop,h.src,h.fix,h.id,h.lim,h.first,h.seed⟩
  split
  · refine ⟨h.own,h.loop,h.src,h.fix,h.id,.inr ?_,h.first,h.seed⟩
    show 1<=1+_/\1+_<=(3:Int)/\1<=1+_/\1+_<=(200:Int)
    omega
  split
  · exact ⟨h.own,h.loop,h.src,h.fix,h.id,h.lim,h.first,h.seed⟩
  split
  · exact ⟨h.own,h.loop,.inl (.inr rfl),h.fix,h.id,h.lim,h.first,h.seed⟩
  split
  · exact ⟨h.own,.inr rfl,.inr (.inl ⟨rfl,rfl⟩),h.fix,h.id,h.lim,h.first,h.seed⟩
  split
  · refine ⟨h.own,h.loop,.inr (.inr ⟨rfl,?_⟩),.inr ⟨?_,?_⟩,h.id,h.lim,h.first,h.seed⟩
    · show 167837696<=167837696+_
      omega
    · show 167837696<=167837696+_
      omega
    · show 167837696+_<167837736
      omega
  · exact h
theorem NP.opq {i:Int} {x:Node} (h:NP i x) (b:Bool):NP i (odOpaque x b):=⟨h.own,h.loop,h.src,h.fix,h.id,h.lim,h.first,h.seed⟩
def allNP (ns:List Node):Prop:=∀ i:Nat,i<ns.length->NP i (ns.getD i default)
theorem allNP.set {ns:List Node} (h:allNP ns) {i:Nat} {x:Node} (hx:i<ns.length->NP i x):allNP (ns.set i x):=fun j hj=>by
  rw [List.length_set] at hj
  by_cases e:i=j
  · subst e;rw [getD_set hj];exact hx hj
  · rw [getD_setne e];exact h j hj
structure LK (l0 l:Link):Prop where
  a:lA l=lA l0
  b:lB l=lB l0
  d:lDelay l=lDelay l0
  s:lSeed l=lSeed l0
  j:0<=lJitter l/\lJitter l<=9
  o:0<=lLoss l/\lLoss l<=65536
structure allLK (ls0 ls:List Link):Prop where
  n:ls.length=ls0.length
  k:∀ i:Nat,i<ls0.length->LK (ls0.getD i default) (ls.getD i default)
theorem allLK.set {ls0 ls:List Link} (h:allLK ls0 ls) {i:Nat} {x:Link} (hx:i<ls0.length->LK (ls0.getD i default) x):allLK ls0 (ls.set i x):=by
  refine ⟨by rw [List.length_set];exact h.n,fun j hj => ?_⟩
  by_cases e:i=j
  · subst e;rw [getD_set (by rw [h.n];exact hj)];exact hx hj
  · rw [getD_setne e];exact h.k j hj
theorem allLK.mem {ls0 ls:List Link} (h:allLK ls0 ls) {l:Link} (hl:l∈ls):∃ l0∈ls0,LK l0 l:=by
  obtain ⟨i,hi,e⟩:=List.mem_iff_getElem.1 hl
  have:=h.k i (by rw [← h.n];exact hi)
  rw [List.getD_eq_getElem?_getD (l:=ls),List.getElem?_eq_getElem hi,e] at this
  exact ⟨_,getD_memN (by rw [← h.n];exact hi),this⟩
theorem allLK.lnk {ls0 ls:List Link} (h:allLK ls0 ls) {i k:Int} (hk:lnk ls0 i k):lnk ls i k:=by
  obtain ⟨k0,k1,k2⟩:=hk
  have e:=h.k k.toNat (by omega)
  exact ⟨k0,by rw [h.n];exact k1,by rw [e.a,e.b];exact k2⟩
theorem portsF_congr (i:Int):∀ (k:Nat) (ls ls':List Link),ls'.length=ls.length->(∀ j:Nat,j<ls.length->lA (ls'.getD j default)=lA (ls.getD j default)/\lB (ls'.getD j default)=lB (ls.getD j default))->portsF i k ls'=portsF i k ls
  | k,[],[],_,_=>rfl
  | k,x::r,[],h,_=>by cases h
  | k,[],x::r,h,_=>by cases h
  | k,x::r,y::t,h,e=>by
    have e0:=e 0 (by simp)
    rw [List.getD_cons_zero,List.getD_cons_zero] at e0
    rw [portsF,portsF,port1,port1,e0.1,e0.2,portsF_congr i (k+1) r t (by simpa using h) fun j hj=>by
      have:=e (j+1) (by simp;omega)
      rw [List.getD_cons_succ,List.getD_cons_succ] at this;exact this]
theorem allLK.portsF {ls0 ls:List Link} (h:allLK ls0 ls) (i:Int) (k:Nat):portsF i k ls=Go.RS.portsF i k ls0 :=
  portsF_congr i k ls0 ls h.n fun j hj=>⟨(h.k j hj).a,(h.k j hj).b⟩
theorem tabOK.lk {ls0 ls:List Link} (h:allLK ls0 ls) {aa:List Int} {i:Int} {t:List Rt} (k:tabOK ls0 aa i t):tabOK ls aa i t :=
  ⟨k.1,fun r hr=>by
    have q:=k.2 r hr
    exact ⟨q.len,q.mem,q.ne,q.pw,fun x hx=>h.lnk (q.ln x hx),q.w0,q.w1⟩⟩
structure CH (ns:List Node) (c:Change):Prop where
  at':0<=hAt c/\hAt c<=180
  w:0<=hWho c/\hWho c<ns.length
  r:hRem c=false
  p:∃ r∈nRoutes (ns.getD (hWho c).toNat default),(hRoute c).1=r.1/\(hRoute c).2.2=r.2.2
  x:(hRoute c).2.1=[]∨∃ q∈nPorts (ns.getD (hWho c).toNat default),(hRoute c).2.1=[q.2]
def aaF:List Int:=(List.range 10).flatMap fun (k:Nat)=>[baseA k+1,baseA k+2]
theorem mem_aaF {a:Int} {k:Nat} (hk:k<10) (h:a=baseA k+1∨a=baseA k+2):a∈aaF:=by
  refine List.mem_flatMap.2 ⟨k,List.mem_range.2 hk,?_⟩
  rcases h with h|h <;> rw [h] <;> simp
theorem tabOK.sub {ls:List Link} {aa bb:List Int} {i:Int} {t:List Rt} (h:tabOK ls aa i t) (hs:∀ a∈aa,a∈bb):tabOK ls bb i t :=
  ⟨h.1,fun r hr=>by
    have q:=h.2 r hr
    exact ⟨q.len,hs _ q.mem,q.ne,q.pw,q.ln,q.w0,q.w1⟩⟩
structure DN (n:Net):Prop where
  n3:3<=n.1.length
  n7:n.1.length<=7
  l2:2<=n.2.1.length
  l10:n.2.1.length<=10
  h3:n.2.2.length<=3
  g:∀ x∈n.2.1,(0<=lA x/\lA x<n.1.length)/\(0<=lB x/\lB x<n.1.length)/\lA x≠lB x/\(1<=lDelay x/\lDelay x<=20)/\(0<=lJitter x/\lJitter x<=9)/\(0<=lLoss x/\lLoss x<=65536)/\0<=lSeed x/\lSeed x<=255
  p:∀ i:Nat,i<n.1.length->nPorts (n.1.getD i default)=portsF i 0 n.2.1
  d:allNP n.1
  t:∀ i:Nat,i<n.1.length->tabOK n.2.1 aaF i (nRoutes (n.1.getD i default))
  o:∀ x∈n.2.1,deafL n.1 x=false
  c:∀ x∈n.2.2,CH n.1 x
  s:n.2.2.Pairwise fun a b=>hAt a<=hAt b
structure OCI (ns:List Node) (m:Nat) (x:List Change×Int×Codes):Prop where
  c:okB x.2.2
  a:0<=x.2.1/\x.2.1<=60*m
  n:x.1.length<=m
  h:∀ y∈x.1,CH ns y/\hAt y<=x.2.1
  s:x.1.Pairwise fun a b=>hAt a<=hAt b
theorem OCI.next {ns:List Node} {m:Nat} {x:List Change×Int×Codes} (h:OCI ns m x) (hm:m<3) (h0:0<ns.length) (hp:∀ x∈ns,nRoutes x≠[]->0<(nPorts x).length):OCI ns (m+1) (odChange ns x):=by
  have a:=nextV_lt h.c (n:=60) (by omega)
  have k1:=(nextV_ok h.c 60).1
  have w:=nextV_lt k1 (n:=(ns.length:Int)) (by omega)
  have k2:=(nextV_ok k1 (ns.length:Int)).1
  have ha:=h.a
  have hn:=h.n
  unfold odChange
  dsimp only
  have hX:=getD_mem (xs:=ns) w.1 w.2
  generalize eX:ns.getD (nextV (nextV x.2.2 60).2 (ns.length:Int)).1.toNat default=X at hX ⊢
  split
  · refine ⟨k2,?_,?_,fun y hy=>⟨(h.h y hy).1,?_⟩,h.s⟩
    · show 0<=x.2.1+_/\x.2.1+_<=60*((m+1:Nat):Int)
      omega
    · show x.1.length<=m+1
      omega
    · have:=(h.h y hy).2
      show hAt y<=x.2.1+_
      omega
  · rename_i hr
    have hr':nRoutes X≠[]:=fun e=>hr (by rw [e];rfl)
    have q3:=nextV_lt k2 (n:=((nRoutes X).length:Int)) (by omega)
    have b3:=(nextV_ok k2 ((nRoutes X).length:Int)).1
    have hpp:=hp X hX hr'
    have q4:=nextV_lt b3 (n:=((nPorts X).length:Int)) (by omega)
    have b4:=(nextV_ok b3 ((nPorts X).length:Int)).1
    have b5:=(nextV_ok b4 4).1
    refine ⟨b5,?_,?_,fun y hy => ?_,?_⟩
    · show 0<=x.2.1+_/\x.2.1+_<=60*((m+1:Nat):Int)
      omega
    · show (x.1++[_]).length<=m+1
      rw [List.length_append,List.length_singleton];omega
    · rcases List.mem_append.1 hy with hy|hy
      · refine ⟨(h.h y hy).1,?_⟩
        have:=(h.h y hy).2
        show hAt y<=x.2.1+_
        omega
      · rw [List.mem_singleton.1 hy]
        refine ⟨⟨?_,w,rfl,?_,?_⟩,Int.le_refl _⟩
        · show 0<=x.2.1+_/\x.2.1+_<=180
          omega
        · refine ⟨(nRoutes X).getD (nextV (nextV (nextV x.2.2 60).2 (ns.length:Int)).2 ((nRoutes X).length:Int)).1.toNat default,?_,rfl,rfl⟩
          show _∈nRoutes (ns.getD (nextV (nextV x.2.2 60).2 (ns.length:Int)).1.toNat default)
          rw [eX]
          exact getD_mem q3.1 q3.2
        · by_cases hz:(nextV (nextV (nextV (nextV (nextV x.2.2 60).2 (ns.length:Int)).2 ((nRoutes X).length:Int)).2 ((nPorts X).length:Int)).2 4).1=3
          · exact .inl (if_pos hz)
          · refine .inr ⟨(nPorts X).getD (nextV (nextV (nextV (nextV x.2.2 60).2 (ns.length:Int)).2 ((nRoutes X).length:Int)).2 ((nPorts X).length:Int)).1.toNat default,?_,if_neg hz⟩
            show _∈nPorts (ns.getD (nextV (nextV x.2.2 60).2 (ns.length:Int)).1.toNat default)
            rw [eX]
            exact getD_mem q4.1 q4.2
    · refine List.pairwise_append.2 ⟨h.s,List.pairwise_singleton _ _,fun y hy z hz => ?_⟩
      have:=(h.h y hy).2
      rw [List.mem_singleton.1 hz]
      show hAt y<=x.2.1+_
      omega
theorem getD_of_mem {α:Type} [Inhabited α] {l:List α} {x:α} (h:x∈l):∃ i:Nat,i<l.length/\l.getD i default=x:=by
  obtain ⟨i,hi,e⟩:=List.mem_iff_getElem.1 h
  exact ⟨i,hi,by rw [List.getD_eq_getElem?_getD,List.getElem?_eq_getElem hi,e];rfl⟩
theorem RS.np {s r:Scene} {nn nl:Nat} (h:RS s nn nl r):allNP r.1.1:=fun i hi=>by
  have hi':i<nn:=by have:=h.i.n;have:=h.g.n;omega
  obtain ⟨host,f,sd,hd,hf,h0,h1⟩:=h.g.d i hi'
  have e:=h.i.e i (by rw [h.g.n];exact hi')
  exact NP.routes (NP.same (NP.new (host:=host) hf h0 h1) hd.symm) e.symm
theorem RS.opq {s r:Scene} {nn nl:Nat} (h:RS s nn nl r) {i:Nat} (hi:i<nn):nOpaque (r.1.1.getD i default)=false:=by
  obtain ⟨host,f,sd,hd,-⟩:=h.g.d i hi
  have e:=congrArg nOpaque (h.i.e i (by rw [h.g.n];exact hi))
  have e2:nOpaque (s.1.1.getD i default)=nOpaque (newNode i host f sd):=congrArg (fun z=>nOpaque (([]:List (Int×Int)),z)) hd
  exact e.trans e2
theorem RS.adr {s r:Scene} {nn nl:Nat} (h:RS s nn nl r) (hl:nl<=10):∀ a∈allA s.1.1,a∈aaF:=fun a ha=>by
  unfold allA at ha
  obtain ⟨x,hx,ha⟩:=List.mem_flatMap.1 ha
  obtain ⟨q,hq,rfl⟩:=List.mem_map.1 ha
  obtain ⟨i,hi,rfl⟩:=getD_of_mem hx
  rw [h.g.p i (by rw [← h.g.n];exact hi)] at hq
  obtain ⟨j,hj,e⟩:=mem_portsF.1 hq
  rw [h.g.l] at hj
  rw [Nat.zero_add] at e
  rcases e with ⟨-,rfl⟩|⟨-,rfl⟩
  · exact mem_aaF (k:=j) (by omega) (.inl rfl)
  · exact mem_aaF (k:=j) (by omega) (.inr rfl)
theorem RS.links {s r:Scene} {nn nl:Nat} (h:RS s nn nl r):r.1.2.1=s.1.2.1:=congrArg Prod.fst h.l
theorem RS.lk {s r:Scene} {nn nl:Nat} (h:RS s nn nl r):allLK r.1.2.1 r.1.2.1:=⟨rfl,fun i hi=>by
  rw [h.links] at hi ⊢
  have:=h.g.g _ (getD_memN hi)
  exact ⟨rfl,rfl,rfl,rfl,by omega,by omega⟩⟩
theorem RS.dn {s r:Scene} {nn nl:Nat} (h:RS s nn nl r) (n3:3<=nn) (n7:nn<=7) (l2:2<=nl) (l10:nl<=10):DN r.1:=by
  have rn:r.1.1.length=nn:=h.i.n.trans h.g.n
  have rl:=h.links
  have rh:r.1.2.2=[]:=(congrArg Prod.snd h.l).trans h.g.h
  refine ⟨by omega,by omega,by rw [rl,h.g.l];exact l2,by rw [rl,h.g.l];exact l10,by rw [rh];exact Nat.zero_le _,fun x hx => ?_,fun i hi => ?_,h.np,fun i hi => ?_,fun x hx => ?_,fun x hx => ?_,?_⟩
  · rw [rl] at hx
    have:=h.g.g x hx
    rw [rn];omega
  · rw [rl];exact h.ports (by omega)
  · rw [rl];exact (h.tab (by omega)).sub (h.adr l10)
  · rw [rl] at hx
    have g:=h.g.g x hx
    unfold deafL
    rw [h.opq (i:=(lA x).toNat) (by omega)];rfl
  · rw [rh] at hx;cases hx
  · rw [rh];exact List.Pairwise.nil
end Go.RS

/- Drawn2: drawn networks have no error; who has an address; routes. -/
namespace Go.RS
open Go.SX Go.Proofs
set_option maxRecDepth 100000
set_option linter.unusedVariables false
theorem DN.port {n:Net} (h:DN n) {i:Nat} (hi:i<n.1.length) {q:Port}:q∈nPorts (n.1.getD i default)↔∃ j:Nat,j<n.2.1.length/\((lA (n.2.1.getD j default)=i/\q=(baseA j+1,(j:Int)))∨(lB (n.2.1.getD j default)=i/\q=(baseA j+2,(j:Int)))):=by
  rw [h.p i hi,mem_portsF];simp only [Nat.zero_add]
theorem DN.links {n:Net} (h:DN n) {i:Nat} (hi:i<n.1.length) {k:Int}:k∈pLinks (n.1.getD i default)↔lnk n.2.1 i k:=by
  unfold pLinks lnk
  rw [List.mem_map]
  constructor
  · rintro ⟨q,hq,rfl⟩
    obtain ⟨j,hj,e⟩:=(h.port hi).1 hq
    rcases e with ⟨e,rfl⟩|⟨e,rfl⟩
    · exact ⟨by dsimp only;omega,by dsimp only;omega,.inl (by simpa using e)⟩
    · exact ⟨by dsimp only;omega,by dsimp only;omega,.inr (by simpa using e)⟩
  · rintro ⟨k0,k1,e⟩
    have ek:((k.toNat:Nat):Int)=k:=by omega
    rcases e with e|e
    · exact ⟨_,(h.port hi).2 ⟨k.toNat,by omega,.inl ⟨e,rfl⟩⟩,ek⟩
    · exact ⟨_,(h.port hi).2 ⟨k.toNat,by omega,.inr ⟨e,rfl⟩⟩,ek⟩
theorem DN.uniq {n:Net} (h:DN n) {i j:Nat} (hi:i<n.1.length) (hj:j<n.1.length) {q p:Port} (hq:q∈nPorts (n.1.getD i default)) (hp:p∈nPorts (n.1.getD j default)) (e:q.1=p.1):i=j/\q.2=p.2:=by
  obtain ⟨a,ha,ea⟩:=(h.port hi).1 hq
  obtain ⟨b,hb,eb⟩:=(h.port hj).1 hp
  unfold baseA at ea eb
  rcases ea with ⟨ea,rfl⟩|⟨ea,rfl⟩ <;> rcases eb with ⟨eb,rfl⟩|⟨eb,rfl⟩ <;> dsimp only at e ⊢
  · have:a=b:=by omega
    subst this;omega
  · omega
  · omega
  · have:a=b:=by omega
    subst this;omega
theorem DN.padr {n:Net} (h:DN n) {i:Nat} (hi:i<n.1.length) {a:Int} (ha:a∈pAddrs (n.1.getD i default)):167837697<=a/\a<=167837734:=by
  obtain ⟨q,hq,rfl⟩:=List.mem_map.1 ha
  obtain ⟨b,hb,eb⟩:=(h.port hi).1 hq
  have:=h.l10
  unfold baseA at eb
  rcases eb with ⟨eb,rfl⟩|⟨eb,rfl⟩ <;> dsimp only <;> omega
theorem DN.loop {n:Net} (h:DN n) {i:Nat} (hi:i<n.1.length):nLoop (n.1.getD i default)=0∨nLoop (n.1.getD i default)=167903232+i:=(h.d i hi).loop
theorem mem_adrs {x:Node} {a:Int}:a∈adrs x↔a∈pAddrs x∨(nLoop x≠0/\a=nLoop x):=by
  unfold adrs
  rw [List.mem_append]
  by_cases e:nLoop x=0
  · rw [if_pos e];simp [e]
  · rw [if_neg e];simp [e]
theorem DN.apart {n:Net} (h:DN n) {i j:Nat} (hi:i<n.1.length) (hj:j<n.1.length) {a:Int} (ha:a∈adrs (n.1.getD i default)) (hb:a∈adrs (n.1.getD j default)):i=j:=by
  rw [mem_adrs] at ha hb
  have li:=h.loop hi
  have lj:=h.loop hj
  rcases ha with ha|ha <;> rcases hb with hb|hb
  · obtain ⟨q,hq,e⟩:=List.mem_map.1 ha
    obtain ⟨p,hp,e2⟩:=List.mem_map.1 hb
    exact (h.uniq hi hj hq hp (e.trans e2.symm)).1
  · have:=h.padr hi ha;omega
  · have:=h.padr hj hb;omega
  · omega
theorem other_a {ls:List Link} {k:Int} (k0:0<=k) (k1:k<ls.length):otherV ls k (lA (ls.getD k.toNat default))=lB (ls.getD k.toNat default):=by
  unfold otherV;rw [if_neg (by omega),if_pos rfl]
theorem other_b {ls:List Link} {k:Int} (k0:0<=k) (k1:k<ls.length) (hn:lA (ls.getD k.toNat default)≠lB (ls.getD k.toNat default)):otherV ls k (lB (ls.getD k.toNat default))=lA (ls.getD k.toNat default):=by
  unfold otherV;rw [if_neg (by omega),if_neg (fun e=>hn e.symm),if_pos rfl]
theorem mem_chV {l:List Rt} {c:Change} {r:Rt} (h:r∈chV l c):r=hRoute c∨r∈l:=by
  unfold chV at h
  split at h
  · exact .inr (List.mem_filter.1 h).1
  · rcases putL_mem.1 h with h|h
    · exact .inl h
    · exact .inr h.1
theorem routes_all {n:Net} {who at':Int} (w0:0<=who) (w1:who<n.1.length) {P:Rt->Prop} (h0:∀ r∈nRoutes (n.1.getD who.toNat default),P r) (hc:∀ c∈n.2.2,hWho c=who->P (hRoute c)):∀ r∈routesV n who at',P r:=by
  unfold routesV routesK
  rw [if_neg (by omega)]
  have e:∀ (l:List Change) (t:List Rt),(∀ c∈l,hWho c=who->P (hRoute c))->(∀ r∈t,P r)→∀ r∈l.foldl (stepC who at') t,P r:=by
    intro l
    induction l with
    | nil=>intro t _ h;exact h
    | cons c l ih =>
      intro t hl ht
      rw [List.foldl_cons]
      refine ih _ (fun x hx=>hl x (List.mem_cons_of_mem _ hx)) fun r hr => ?_
      unfold stepC at hr
      split at hr
      · rename_i q
        rcases mem_chV hr with rfl|hr
        · exact hl c List.mem_cons_self q.1
        · exact ht r hr
      · exact ht r hr
  exact e _ _ (fun c hc'=>hc c (List.mem_of_mem_take hc')) h0
theorem DN.next {n:Net} (h:DN n) {who at':Int} (w0:0<=who) (w1:who<n.1.length):∀ r∈routesV n who at',∀ k∈r.2.1,lnk n.2.1 who k:=by
  have ew:((who.toNat:Nat):Int)=who:=by omega
  refine routes_all w0 w1 (fun r hr k hk => ?_) (fun c hc hw k hk => ?_)
  · have:=((h.t who.toNat (by omega)).2 r hr).ln k hk
    rw [ew] at this;exact this
  · have q:=(h.c c hc).x
    rw [hw] at q
    rcases q with e|⟨q,hq,e⟩
    · rw [e] at hk;cases hk
    · rw [e] at hk
      rw [List.mem_singleton.1 hk]
      have:=(h.links (i:=who.toNat) (by omega)).1 (List.mem_map.2 ⟨q,hq,rfl⟩)
      rw [ew] at this;exact this
theorem DN.other {n:Net} (h:DN n) {who k:Int} (hk:lnk n.2.1 who k):0<=otherV n.2.1 k who/\otherV n.2.1 k who<n.1.length:=by
  obtain ⟨k0,k1,e⟩:=hk
  have g:=h.g _ (getD_mem k0 k1)
  rcases e with e|e
  · rw [← e,other_a k0 k1];exact g.2.1
  · rw [← e,other_b k0 k1 g.2.2.1];exact g.1
end Go.RS

/- Drawn3: each node of a drawn network has a port. -/
namespace Go.RS
open Go.SX Go.Proofs
set_option maxRecDepth 100000
set_option linter.unusedVariables false
def tch (ls:List Link) (i:Int):Prop:=∃ l∈ls,lA l=i∨lB l=i
theorem tch.app {ls:List Link} {i:Int} (h:tch ls i) (m:List Link):tch (ls++m) i:=by
  obtain ⟨l,hl,e⟩:=h
  exact ⟨l,List.mem_append_left _ hl,e⟩
theorem tch.link {s:Scene} {i:Int} (h:tch s.1.2.1 i) (a b:Int):tch (linkS s a b).1.2.1 i:=h.app _
end Go.RS

/- Law12: the laws of buckets. -/
namespace Go.RS
open Go.SX Go.Proofs
set_option maxRecDepth 100000
set_option linter.unusedVariables false
theorem okB_cap {b:Int×Int} (h:okBk b) (hb:b≠(0,0)):1<=b.1/\1<=b.2/\b.2<=1000/\b.2<=b.1*b.2/\b.1*b.2<=4000:=by
  obtain ⟨x,y⟩:=b
  rcases h with h|⟨h1,h2,h3,h4⟩
  · exact absurd h hb
  · simp only at h1 h2 h3 h4 ⊢
    have:x=1∨x=2∨x=3∨x=4:=by omega
    rcases this with rfl|rfl|rfl|rfl <;> omega
theorem bFull_in {b:Int×Int} (h:okBk b) (x:Int):bFull b x=(b.1*b.2,x):=by
  by_cases hb:b=(0,0)
  · subst hb;simp [bFull,w];decide
  · have:=okB_cap h hb
    unfold bFull w;rw [w64 (by omega) (by omega)]
theorem bTake_in {b t:Int×Int} {x:Int} (h:okBk b) (hb:b≠(0,0)) (h1:0<=t.1) (h2:t.1<=100000) (h3:0<=t.2) (h4:t.2<=x) (h5:x<=100000) :
    bTake b t x=if min (t.1+(x-t.2)) (b.1*b.2)<b.2 then ((min (t.1+(x-t.2)) (b.1*b.2),x),false) else ((min (t.1+(x-t.2)) (b.1*b.2)-b.2,x),true):=by
  have hc:=okB_cap h hb
  have hm:max x t.2=x:=by omega
  have e:bCredit b t x=min (t.1+(x-t.2)) (b.1*b.2):=by
    unfold bCredit w
    rw [w64 (n:=x-t.2) (by omega) (by omega),w64 (by omega) (by omega),w64 (by omega) (by omega)]
  unfold bTake w
  rw [if_neg hb,hm,e]
  split
  · rfl
  · rw [w64 (by omega) (by omega)]
def uOK (b:Int×Int) (us:List Int):Prop:=us.length<=39/\(∀ x∈us,0<=x/\x<=8000)/\us.Pairwise (· ≤ ·) ∧
  (b≠(0,0)→∀ i k (_:i<=k) (hk:k<us.length),((k:Int)-i+1)*b.2<=b.1*b.2+(us[k]-us[i]))
theorem uOK_push {b:Int×Int} {us:List Int} {x c T:Int} (hu:uOK b us) (h39:us.length<39) (hx:0<=x/\x<=8000) (hT:∀ y∈us,y<=T) (hTx:T<=x) (hb:1<=b.2/\b.2<=b.1*b.2)
    (hc0:b.2<=min (c+(x-T)) (b.1*b.2)) (hi:∀ i (h:i<us.length),c+((us.length:Int)-i)*b.2<=b.1*b.2+(T-us[i])) :
    uOK b (us++[x])∧∀ i (h:i<(us++[x]).length),(min (c+(x-T)) (b.1*b.2)-b.2)+(((us++[x]).length:Int)-i)*b.2<=b.1*b.2+(x-(us++[x])[i]):=by
  obtain ⟨u1,u2,u3,u4⟩:=hu
  have hlen:(us++[x]).length=us.length+1:=by simp
  refine ⟨⟨by omega,?_,?_,?_⟩,?_⟩
  · intro y hy
    rcases List.mem_append.1 hy with hy|hy
    · exact u2 y hy
    · simp at hy;omega
  · rw [List.pairwise_append]
    exact ⟨u3,by simp,fun y hy z hz=>by simp at hz;have:=hT y hy;omega⟩
  · intro hne i k hik hk
    rw [hlen] at hk
    by_cases hku:k<us.length
    · rw [List.getElem_append_left hku,List.getElem_append_left (by omega)]
      exact u4 hne i k hik hku
    · have hk:k=us.length:=by omega
      subst hk
      by_cases hiu:i<us.length
      · have:=hi i hiu
        simp only [List.getElem_append_left hiu,List.getElem_concat_length]
        have e:((us.length:Int)-i+1)*b.2=((us.length:Int)-i)*b.2+b.2:=by rw [Int.add_mul];omega
        rw [e];omega
      · have:i=us.length:=by omega
        subst this
        have e:((us.length:Int)-us.length+1)*b.2=b.2:=by rw [Int.sub_self,Int.zero_add,Int.one_mul]
        rw [e];omega
  · intro i h
    rw [hlen] at h ⊢
    have e:(((us.length+1:Nat):Int)-i)*b.2=((us.length:Int)-i)*b.2+b.2:=by
      have:((us.length+1:Nat):Int)-i=((us.length:Int)-i)+1:=by omega
      rw [this,Int.add_mul];omega
    rw [e]
    by_cases hiu:i<us.length
    · have:=hi i hiu
      simp only [List.getElem_append_left hiu]
      omega
    · have:i=us.length:=by omega
      subst this
      simp only [List.getElem_concat_length]
      rw [Int.sub_self,Int.zero_mul];omega
theorem most_ok {b:Int×Int} {us:List Int} (hb:okBk b) (hb1:0<b.1) (hu:uOK b us) {j k:Int} (h0:0<=j) (h1:j<=k) (h2:k<us.length) :
    k-j+1<=bMost b (w (us.getD k.toNat default-us.getD j.toNat default)):=by
  obtain ⟨u1,u2,u3,u4⟩:=hu
  have hb0:b≠(0,0):=by rintro rfl;simp at hb1
  have hcap:=okB_cap hb hb0
  have hk:k.toNat<us.length:=by omega
  have hj:j.toNat<us.length:=by omega
  have hw:=u4 hb0 j.toNat k.toNat (by omega) hk
  have m1:=u2 _ (List.getElem_mem hk)
  have m2:=u2 _ (List.getElem_mem hj)
  have hle:us[j.toNat]<=us[k.toNat]:=by
    by_cases e:j.toNat=k.toNat
    · simp only [e];omega
    · exact List.pairwise_iff_getElem.1 u3 _ _ hj hk (by omega)
  rw [List.getD_eq_getElem?_getD,List.getElem?_eq_getElem hk,Option.getD_some,List.getD_eq_getElem?_getD,List.getElem?_eq_getElem hj,Option.getD_some]
  rw [show ((k.toNat:Int)-(j.toNat:Int)+1)=k-j+1 from by omega] at hw
  generalize us[k.toNat]=x at *
  generalize us[j.toNat]=y at *
  have hww:w (x-y)=x-y:=w64 (by omega) (by omega)
  rw [hww]
  unfold bMost
  rw [if_neg (by simp only [not_or];exact ⟨hb0,by omega,by omega⟩)]
  have hdiv:(x-y).tdiv b.2=(x-y)/b.2:=Int.tdiv_eq_ediv_of_nonneg (by omega)
  rw [hdiv]
  have q1:0<=(x-y)/b.2:=Int.ediv_nonneg (by omega) (by omega)
  have q2:(x-y)/b.2<=x-y:=Int.ediv_le_self _ (by omega)
  have hb4:b.1<=4:=by
    rcases hb with h|h
    · exact absurd h hb0
    · exact h.2.1
  have hw2:w ((x-y)/b.2)=(x-y)/b.2:=w64 (by omega) (by omega)
  rw [hw2]
  have hw3:w (b.1+(x-y)/b.2)=b.1+(x-y)/b.2:=w64 (by omega) (by omega)
  rw [hw3]
  have:k-j+1-b.1<=(x-y)/b.2:=by
    rw [Int.le_ediv_iff_mul_le (by omega),Int.sub_mul];omega
  omega
end Go.RS
