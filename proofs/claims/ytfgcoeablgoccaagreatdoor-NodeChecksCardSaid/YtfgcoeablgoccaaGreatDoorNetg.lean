/- Node1: what a node does with a packet: the program. -/
import Derived.Test.YtfgcoeablgoccaaGreatDoorNodek
import Derived.Test.YtfgcoeablgoccaaGreatDoorWire
import Derived.Test.YtfgcoeablgoccaaGreatDoorReply
namespace Go.RS
open Go.SX Go.Proofs
set_option maxRecDepth 100000
set_option linter.unusedVariables false
abbrev oState:OT := .pair (.dat (.sl cRt)) (.pair cI (.pair (.row 3 cI) (.pair cTokens cI)))
abbrev oWork:OT := .pair cNode (.pair oState (.pair cI (.pair cI (.pair (.dat (.sl cU8)) cHeader))))
abbrev cOut:CT := .pair cI (.sl cU8)
abbrev Work:Type:=Node×NState×Int×Int×List Int×Header
abbrev HRes:Type:=NState×(Int×List Int)×Int
def hSrc (h:Header):Int:=h.2.2.2.2.2.1
def hDst (h:Header):Int:=h.2.2.2.2.2.2
def hID (h:Header):Int:=h.2.1
def hTTL (h:Header):Int:=h.2.2.1
def hProto (h:Header):Int:=h.2.2.2.1
def inP (x:Node) (link:Int):Int:=max (portL x link) 0
def adr (x:Node) (i:Int):Int:=if i<0∨(nPorts x).length<=i then 0 else ((nPorts x).getD i.toNat default).1
def wayB (s:NState) (a:Int):Bool:=lookB (sRoutes s) a&&decide (0<(lookR (sRoutes s) a).2.1.length)
def pickI (x:Node) (s:NState) (r:Rt) (k:Key):Int:=(choose r.2.2 (nSeed x) k (sBalanced s) r.2.1.length).1
def pickL (x:Node) (s:NState) (r:Rt) (k:Key):Int:=if r.2.1.length=1 then r.2.1.getD 0 default else r.2.1.getD (pickI x s r k).toNat default
def setBal (s:NState) (b:Int):NState:=(s.1,s.2.1,s.2.2.1,s.2.2.2.1,b)
def pickS (s:NState) (r:Rt):NState:=if r.2.1.length=1 then s else setBal s (IntKind.i64.wrap (sBalanced s+1))
def tokS (s:NState) (t:Int×Int):NState:=(s.1,s.2.1,s.2.2.1,t,s.2.2.2.2)
def bump (l:List Int) (i:Int):List Int:=if i<l.length then l.set i.toNat (IntKind.i64.wrap (l.getD i.toNat default+1)) else l
def sentS (s:NState) (i:Int):NState:=(s.1,IntKind.i64.wrap (s.2.1+1),bump s.2.2.1 i,s.2.2.2)
def srcA (x:Node) (i link:Int):Int:=if nSource x=2 then adr x (portL x link) else if nSource x=3 then nLoop x else if nSource x=4 then nFixed x else adr x i
def setS (w:Work) (s:NState):Work:=(w.1,s,w.2.2)
def setH (w:Work) (h:Header):Work:=(w.1,w.2.1,w.2.2.1,w.2.2.2.1,w.2.2.2.2.1,h)
def out0:Int×List Int:=(0,[])
def takeV (w:Work):(Int×Int)×Bool:=bTake (nLimit w.1) (sTokens w.2.1) w.2.2.2.1
def ansS (w:Work):NState:=sentS (tokS w.2.1 (takeV w).1) (inP w.1 w.2.2.1)
def ansRt (w:Work):Rt:=lookR (sRoutes w.2.1) (hSrc w.2.2.2.2.2)
def ansL (B:Int->Int->List Int) (w:Work):Int:=pickL w.1 (ansS w) (ansRt w) (keyB (B (adr w.1 (inP w.1 w.2.2.1)) 0))
def ansID (w:Work):Int:=idNext w.1 (tokS w.2.1 (takeV w).1) (inP w.1 w.2.2.1) w.2.2.2.1 (hID w.2.2.2.2.2) (hSrc w.2.2.2.2.2)
def ansF (B:Int->Int->List Int) (w:Work) (own:Int):Int:=if own=0 then srcA w.1 (inP w.1 w.2.2.1) (ansL B w) else own
def ansV (B:Int->Int->List Int) (E:Int->Int) (w:Work) (own:Int):HRes :=
  if own=0/\nSilent w.1=true then (w.2.1,out0,4)
  else if E 0≠0 then (w.2.1,out0,6)
  else if wayB w.2.1 (hSrc w.2.2.2.2.2)=false then (w.2.1,out0,8)
  else if (takeV w).2=false then (tokS w.2.1 (takeV w).1,out0,5)
  else (pickS (ansS w) (ansRt w),(ansL B w,B (ansF B w own) (ansID w)),2)
def wHostB (w:Work) (f i:Int):List Int:=hostB w.2.2.2.2.1 f i (nFirst w.1)
def wHostE (w:Work) (i:Int):Int:=hostE w.2.2.2.2.1 i (nFirst w.1)
def wErrB (w:Work) (kind code f i:Int):List Int:=errB w.2.2.2.2.1 f kind code i (nFirst w.1)
def wErrE (w:Work) (kind code i:Int):Int:=errE w.2.2.2.2.1 kind code i (nFirst w.1)
def recvV (w:Work):HRes :=
  if w.2.2.1 = -1∨wHostE w 0≠0 then (w.2.1,out0,1)
  else ansV (wHostB w) (wHostE w) w (if hProto w.2.2.2.2.2=17 then 0 else hDst w.2.2.2.2.2)
def fwdV (w:Work):HRes :=
  if w.2.2.1 ≠ -1/\nOpaque w.1=false/\hTTL w.2.2.2.2.2<2 then ansV (wErrB w 11 0) (wErrE w 11 0) w 0
  else if wayB w.2.1 (hDst w.2.2.2.2.2)=false then (if w.2.2.1 = -1 then (w.2.1,out0,8) else ansV (wErrB w 3 0) (wErrE w 3 0) w 0)
  else (pickS w.2.1 (lookR (sRoutes w.2.1) (hDst w.2.2.2.2.2)),(pickL w.1 w.2.1 (lookR (sRoutes w.2.1) (hDst w.2.2.2.2.2)) (keyB w.2.2.2.2.1),if w.2.2.1 ≠ -1/\nOpaque w.1=false then lowB w.2.2.2.2.1 else w.2.2.2.2.1),0)
def hdV (w:Work):HRes :=
  if decErr w.2.2.2.2.1≠0 then (w.2.1,out0,6)
  else if ownsA w.1 (hDst (decPkt w.2.2.2.2.1).1)=true then recvV (setH w (decPkt w.2.2.2.2.1).1)
  else if nHost w.1=true/\w.2.2.1 ≠ -1 then (w.2.1,out0,6)
  else fwdV (setH w (decPkt w.2.2.2.2.1).1)
def handleV (x:Node) (s:NState) (link at':Int) (b:List Int):HRes:=hdV (x,s,link,at',b,hdr0)
def okW (w:Work):Prop:=sortedR (sRoutes w.2.1)/\okL (sRoutes w.2.1)/\(w.2.2.2.2.1.length:Int)<=1000000
theorem choose_in {way seed:Int} {k:Key} {count n:Int} (h:1<=n):0<=(choose way seed k count n).1/\(choose way seed k count n).1<n:=by
  have h1:=hash_range seed k
  have h2:=hash_range seed (k.1,k.2.1,0,0,0)
  unfold choose
  split
  · exact ⟨Int.le_refl _,by show (0:Int)<n;omega⟩
  · rename_i hn
    dsimp only
    split
    · exact ⟨Int.tmod_nonneg _ h1.1,Int.tmod_lt_of_pos _ (by omega)⟩
    · split
      · exact ⟨Int.tmod_nonneg _ h2.1,Int.tmod_lt_of_pos _ (by omega)⟩
      · exact ⟨Int.tmod_nonneg _ (by omega),Int.tmod_lt_of_pos _ (by omega)⟩
theorem finV {r:HRes} {s:NState} {o:Int×List Int} {y:Int} (w:Work) (e:r=(s,o,y)):o=r.2.1/\y=r.2.2/\setS w s=setS w r.1:=by subst e;exact ⟨rfl,rfl,rfl⟩
theorem ansV_sil {B:Int->Int->List Int} {E:Int->Int} {w:Work} {own:Int} (h:own=0/\nSilent w.1=true):ansV B E w own=(w.2.1,out0,4):=by unfold ansV;rw [if_pos h]
theorem ansV_bad {B:Int->Int->List Int} {E:Int->Int} {w:Work} {own:Int} (h:¬ (own=0/\nSilent w.1=true)) (h1:E 0≠0):ansV B E w own=(w.2.1,out0,6):=by unfold ansV;rw [if_neg h,if_pos h1]
theorem ansV_rt {B:Int->Int->List Int} {E:Int->Int} {w:Work} {own:Int} (h:¬ (own=0/\nSilent w.1=true)) (h1:¬ E 0≠0) (h2:wayB w.2.1 (hSrc w.2.2.2.2.2)=false):ansV B E w own=(w.2.1,out0,8):=by
  unfold ansV;rw [if_neg h,if_neg h1,if_pos h2]
theorem ansV_lim {B:Int->Int->List Int} {E:Int->Int} {w:Work} {own:Int} (h:¬ (own=0/\nSilent w.1=true)) (h1:¬ E 0≠0) (h2:¬ wayB w.2.1 (hSrc w.2.2.2.2.2)=false) (h3:(takeV w).2=false):ansV B E w own=(tokS w.2.1 (takeV w).1,out0,5):=by
  unfold ansV;rw [if_neg h,if_neg h1,if_neg h2,if_pos h3]
theorem ansV_go {B:Int->Int->List Int} {E:Int->Int} {w:Work} {own:Int} (h:¬ (own=0/\nSilent w.1=true)) (h1:¬ E 0≠0) (h2:¬ wayB w.2.1 (hSrc w.2.2.2.2.2)=false) (h3:¬ (takeV w).2=false) :
    ansV B E w own=(pickS (ansS w) (ansRt w),(ansL B w,B (ansF B w own) (ansID w)),2):=by
  unfold ansV;rw [if_neg h,if_neg h1,if_neg h2,if_neg h3]
theorem way_ne {s:NState} {a:Int} (h:¬ wayB s a=false):(lookR (sRoutes s) a).2.1≠[]:=by
  intro e;apply h;unfold wayB;rw [e];simp
theorem ipEnc_len (p:Packet):((ipEnc p).length:Int)<=1500:=by
  unfold ipEnc
  split
  · rename_i h
    unfold ipErr at h
    split at h
    · cases h
    · split at h
      · cases h
      · rw [List.length_append,hdrB_len];omega
  · simp
theorem errB_len (b:List Int) (src kind code id ttl:Int):((errB b src kind code id ttl).length:Int)<=1500:=by
  unfold errB;split
  · exact ipEnc_len _
  · simp
theorem hostB_len (b:List Int) (src id ttl:Int):((hostB b src id ttl).length:Int)<=1500:=by
  unfold hostB;split
  · split
    · exact ipEnc_len _
    · split
      · exact errB_len ..
      · exact ipEnc_len _
  · simp
theorem wHostB_len (w:Work) (f i:Int):((wHostB w f i).length:Int)<=1500:=hostB_len ..
theorem wErrB_len (w:Work) (k c f i:Int):((wErrB w k c f i).length:Int)<=1500:=errB_len ..
theorem inP_nn (x:Node) (k:Int):0<=inP x k:=by unfold inP;omega
theorem bump_in {l:List Int} {i:Int} (h:i<l.length):bump l i=l.set i.toNat (IntKind.i64.wrap (l.getD i.toNat default+1)):=if_pos h
theorem bump_out {l:List Int} {i:Int} (h:¬ i<l.length):bump l i=l:=if_neg h
def ct_node_work_incoming:Ct:=⟨[.box 127 oWork],[.val cI],fun d=>[],fun d=>((inP d.1.1 d.1.2.2.1,()),(d.1,()))⟩
def an_node_work_incoming:PDs ct_node_work_incoming.ps->Anns:=(fun _=>{})
def Qbt3 (a:Node) (b:List Route) (c:Int) (d:List Int) (e f g h i:Int) (j:List Int) (k:Header) :=
 CT.wf cNode a/\((b.length<=maxLen/\ ∀(l:Route),l∈b->((0<=l.1.1/\l.1.1<=4294967295)/\R64 l.1.2)/\(l.2.1.length<=maxLen/\ ∀(m:Int),m∈l.2.1->R64 m)/\R64 l.2.2)/\R64 c/\(d.length<=maxLen/\ ∀(l:Int),l∈d->R64 l)/\(R64 e/\R64 f)/\R64 g)/\R64 h/\R64 i/\(j.length<=maxLen/\ ∀(l:Int),l∈j->0<=l/\l<=255)/\CT.wf cHeader k
def Qbt19 (a:Node) (b:List Route) (c:Int) (d:List Int) (e f g h i:Int) (j:List Int) (k:Header) :=
 (a,(b,c,d,(e,f),g),h,i,j,k)=(a,(b,c,d,(e,f),g),h,i,j,k)
theorem vc_node_work_incoming :
 ∀(a:Node) (b:List Route) (c:Int) (d:List Int) (e f g h i:Int) (j:List Int) (k:Header),(Qbt3 a b c d e f g h i j k)/\True->True->max (portL a h) (0:Int)=inP a h/\(Qbt19 a b c d e f g h i j k):=by
  delta Qbt3 Qbt19
  intros
  exact ⟨rfl,rfl⟩
theorem ok_node_work_incoming:SpecOK Tryz.prog GL 191 ct_node_work_incoming.spec:=Ct.okH _ Tryz.func191 (by kernel_rfl) (withSpec_ok noSpecs_ok ok_node_PortOf) hmix an_node_work_incoming (hideMp (by kernel_rfl) vc_node_work_incoming)
def ct_node_work_address:Ct:=⟨[.box 127 oWork,.val cI],[.val cU32],fun d=>[],fun d=>((adr d.1.1 d.2.1,()),(d.1,()))⟩
def an_node_work_address:PDs ct_node_work_address.ps->Anns:=(fun _=>{})
def Qbt4 (a:Node) (b:List Route) (c:Int) (d:List Int) (e f g h i:Int) (j:List Int) (k:Header) :=
 CT.wf cNode a/\((b.length<=maxLen/\ ∀(m:Route),m∈b->((0<=m.1.1/\m.1.1<=4294967295)/\R64 m.1.2)/\(m.2.1.length<=maxLen/\ ∀(n:Int),n∈m.2.1->R64 n)/\R64 m.2.2)/\R64 c/\(d.length<=maxLen/\ ∀(m:Int),m∈d->R64 m)/\(R64 e/\R64 f)/\R64 g)/\R64 h/\R64 i/\(j.length<=maxLen/\ ∀(m:Int),m∈j->0<=m/\m<=255)/\CT.wf cHeader k
def Qbt18 (m:Bool) :=
 (! m)->((! m)->(! m))/\True
theorem vc_node_work_address :
 ∀(a:Node) (b:List Route) (c:Int) (d:List Int) (e f g h i:Int) (j:List Int) (k:Header) (l:Int),(Qbt4 a b c d e f g h i j k)/\R64 l/\True->True-> ∀(m:Bool),m=decide (l<0)->(Qbt18 m)/\(Qbt18 m)/\(Qbt18 m)/\(Qbt18 m)/\(Qbt18 m)/\((! m)->((! m)->(! m))/\((! m)->(! m))/\True)/\(m=false->(! m))/\ifP (bif m then true else decide ((a.1.length:Int)<=l)) ((0:Int)=adr a l/\(Qbt19 a b c d e f g h i j k)) (0<=l/\l<(a.1.length:Int)/\(List.getD a.1 l.toNat default).1=adr a l/\(Qbt19 a b c d e f g h i j k)):=by
  delta Qbt4 Qbt18 Qbt19
  rintro d x x1 x2 x3 x4 x5 x6 x7 x8 h i - -
  (repeat (intro (b_:Bool) (hb_:b_=_);(repeat refine ⟨(by first|(simp;done)|(rw [hb_];simp;done)|(rw [hb_];simp;omega)|(rw [hb_];simp;intros;omega)|(rw [hb_];simp +contextual;done)),?_⟩);subst hb_))
  refine ifP_or (fun ho => ?_) (fun h1 h2 => ?_)
  · unfold adr
    rw [if_pos (by rcases ho with q|q <;> have:=of_decide_eq_true q <;> first|exact .inl this|exact .inr this)]
    exact ⟨rfl,rfl⟩
  · have h1:=of_decide_eq_false h1
    have h2:=of_decide_eq_false h2
    refine ⟨by omega,by omega,?_,rfl⟩
    unfold adr
    rw [if_neg (by rintro (q|q);exact h1 q;exact h2 q)]
    rfl
theorem ok_node_work_address:SpecOK Tryz.prog GL 192 ct_node_work_address.spec:=Ct.okH _ Tryz.func192 (by kernel_rfl) noSpecs_ok hmix an_node_work_address (hideMp (by kernel_rfl) vc_node_work_address)
def ct_node_work_choose:Ct:=⟨[.box 127 oWork,.agg cRt,.val (.sl cU8)],[.val cI],fun d=>[d.2.1.2.1≠[],(d.2.2.1.length:Int)<=1000000],fun d=>((pickL d.1.1 d.1.2.1 d.2.1 (keyB d.2.2.1),()),(setS d.1 (pickS d.1.2.1 d.2.1),()))⟩
def an_node_work_choose:PDs ct_node_work_choose.ps->Anns:=(fun _=>{})
theorem vc_node_work_choose :
 ∀(a:Node) (b:List Route) (c:Int) (d:List Int) (e f g h i:Int) (j:List Int) (k:Header) (l m:Int) (n:List Int) (o:Int) (p:List Int),(CT.wf cNode a/\((b.length<=maxLen/\ ∀(q:Route),q∈b->((0<=q.1.1/\q.1.1<=4294967295)/\R64 q.1.2)/\(q.2.1.length<=maxLen/\ ∀(r:Int),r∈q.2.1->R64 r)/\R64 q.2.2)/\R64 c/\(d.length<=maxLen/\ ∀(q:Int),q∈d->R64 q)/\(R64 e/\R64 f)/\R64 g)/\R64 h/\R64 i/\(j.length<=maxLen/\ ∀(q:Int),q∈j->0<=q/\q<=255)/\CT.wf cHeader k)/\(((0<=l/\l<=4294967295)/\R64 m)/\(n.length<=maxLen/\ ∀(q:Int),q∈n->R64 q)/\R64 o)/\(p.length<=maxLen/\ ∀(q:Int),q∈p->0<=q/\q<=255)/\True->n≠([]:List Int)/\(p.length:Int)<=1000000->ifP (decide ((n.length:Int)=1)) ((0:Int)<=0/\0<(n.length:Int)/\n.getD (Int.toNat (0:Int)) default=pickL a (b,c,d,(e,f),g) ((l,m),n,o) (keyB p)/\(a,(b,c,d,(e,f),g),h,i,j,k)=setS (a,(b,c,d,(e,f),g),h,i,j,k) (pickS (b,c,d,(e,f),g) ((l,m),n,o)))
 ((p.length:Int)<=1099511627776/\0<=(choose o a.2.2.2.2.2.2.2.2.2.2.2.2.2.2 (keyB p) g (n.length:Int)).1/\(choose o a.2.2.2.2.2.2.2.2.2.2.2.2.2.2 (keyB p) g (n.length:Int)).1<(n.length:Int)/\n.getD (Int.toNat (choose o a.2.2.2.2.2.2.2.2.2.2.2.2.2.2 (keyB p) g (n.length:Int)).1) default=pickL a (b,c,d,(e,f),g) ((l,m),n,o) (keyB p)/\(a,(b,c,d,(e,f),IntKind.wrap .i64 (g+(1:Int))),h,i,j,k)=setS (a,(b,c,d,(e,f),g),h,i,j,k) (pickS (b,c,d,(e,f),g) ((l,m),n,o))):=by
  rintro d x x1 x2 x3 x4 x5 x6 x7 x8 h r1 r2 nx bl b-⟨hn,hb⟩
  have hpos:1<=(nx.length:Int):=by cases nx with
    | nil=>exact absurd rfl hn
    | cons a l=>simp;omega
  refine ifP_split (fun h1 => ?_) (fun h1 => ?_)
  · have h1:=of_decide_eq_true h1
    have h1':nx.length=1:=by omega
    refine ⟨by omega,by omega,?_,?_⟩
    · unfold pickL;rw [if_pos h1'];rfl
    · unfold pickS;rw [if_pos h1'];rfl
  · have h1:=of_decide_eq_false h1
    have h1':¬ nx.length=1:=by omega
    have hc:=choose_in (way:=bl) (seed:=d.2.2.2.2.2.2.2.2.2.2.2.2.2.2) (k:=keyB b) (count:=x5) hpos
    refine ⟨by omega,hc.1,hc.2,?_,?_⟩
    · unfold pickL;rw [if_neg h1'];rfl
    · unfold pickS;rw [if_neg h1'];rfl
theorem ok_node_work_choose:SpecOK Tryz.prog GL 159 ct_node_work_choose.spec:=Ct.okH _ Tryz.func159 (by kernel_rfl) (withSpec_ok (withSpec_ok noSpecs_ok ok_probe_Key) ok_balance_Choose) hmix an_node_work_choose (hideMp (by kernel_rfl) vc_node_work_choose)
def ct_node_work_route:Ct:=⟨[.box 127 oWork,.val cU32],[.agg cRt,.val .bool],fun d=>[sortedR (sRoutes d.1.2.1),okL (sRoutes d.1.2.1)],fun d=>((lookR (sRoutes d.1.2.1) d.2.1,wayB d.1.2.1 d.2.1,()),(d.1,()))⟩
def an_node_work_route:PDs ct_node_work_route.ps->Anns:=(fun _=>{})
theorem vc_node_work_route :
 ∀(a:Node) (b:List Route) (c:Int) (d:List Int) (e f g h i:Int) (j:List Int) (k:Header) (l:Int),(Qbt4 a b c d e f g h i j k)/\(0<=l/\l<=4294967295)/\True->(sortedR (sRoutes (b,c,d,(e,f),g))/\((List.length (sRoutes (b,c,d,(e,f),g))):Int)<=134217728/\ ∀(m:Rt),m∈sRoutes (b,c,d,(e,f),g)->(m.2.1.length:Int)<=1099511627776)->sortedR b/\okL b/\ ∀(m:Bool),m=lookB b l->(m->(m->m)/\True)/\(m->(m->m)/\True)/\(m->(m->m)/\True)/\(m->m)/\lookR b l=lookR (sRoutes (b,c,d,(e,f),g)) l/\(bif m then decide (0<((List.length (lookR b l).2.1):Int)) else false)=wayB (b,c,d,(e,f),g) l/\(Qbt19 a b c d e f g h i j k):=by
  delta Qbt4 Qbt19
  rintro d x x1 x2 x3 x4 x5 x6 x7 x8 h a-⟨h1,h2⟩
  refine ⟨h1,h2,?_⟩
  (repeat (intro (b_:Bool) (hb_:b_=_);(repeat refine ⟨(by first|(simp;done)|(rw [hb_];simp;done)|(rw [hb_];simp;omega)|(rw [hb_];simp;intros;omega)|(rw [hb_];simp +contextual;done)),?_⟩);subst hb_))
  refine ⟨rfl,?_,rfl⟩
  show (bif lookB x a then decide (0<((lookR x a).2.1.length:Int)) else false)=(lookB x a&&decide (0<(lookR x a).2.1.length))
  cases lookB x a <;> simp
theorem ok_node_work_route:SpecOK Tryz.prog GL 158 ct_node_work_route.spec:=Ct.okH _ Tryz.func158 (by kernel_rfl) (withSpec_ok noSpecs_ok ok_fib_Lookup) hmix an_node_work_route (hideMp (by kernel_rfl) vc_node_work_route)
def ct_node_work_errors_1:Ct:=⟨[.val cU32,.val cI,.box 125 (.ref 127 oWork),.box 3 cI,.box 3 cI],[.own 5 cU8,.val cI],fun d=>[(d.2.2.1.2.2.2.2.1.length:Int)<=1000000],fun d=>((wErrB d.2.2.1 d.2.2.2.1 d.2.2.2.2.1 d.1 d.2.1,wErrE d.2.2.1 d.2.2.2.1 d.2.2.2.2.1 d.2.1,()),(d.2.2.1,d.2.2.2.1,d.2.2.2.2.1,()))⟩
def an_node_work_errors_1:PDs ct_node_work_errors_1.ps->Anns:=(fun _=>{})
theorem vc_node_work_errors_1 :
 ∀(a b:Int) (c:Node) (d:List Route) (e:Int) (f:List Int) (g h i j k:Int) (l:List Int) (m:Header) (n o:Int),(0<=a/\a<=4294967295)/\R64 b/\(CT.wf cNode c/\((d.length<=maxLen/\ ∀(p:Route),p∈d->((0<=p.1.1/\p.1.1<=4294967295)/\R64 p.1.2)/\(p.2.1.length<=maxLen/\ ∀(q:Int),q∈p.2.1->R64 q)/\R64 p.2.2)/\R64 e/\(f.length<=maxLen/\ ∀(p:Int),p∈f->R64 p)/\(R64 g/\R64 h)/\R64 i)/\R64 j/\R64 k/\(l.length<=maxLen/\ ∀(p:Int),p∈l->0<=p/\p<=255)/\CT.wf cHeader m)/\R64 n/\R64 o/\True->(l.length:Int)<=1000000->(l.length:Int)<=1099511627776/\errB l a n o b c.2.2.2.2.2.2.2.2.2.2.2.2.2.1=wErrB (c,(d,e,f,(g,h),i),j,k,l,m) n o a b/\errE l n o b c.2.2.2.2.2.2.2.2.2.2.2.2.2.1=wErrE (c,(d,e,f,(g,h),i),j,k,l,m) n o b/\(c,(d,e,f,(g,h),i),j,k,l,m)=(c,(d,e,f,(g,h),i),j,k,l,m)/\n=n/\o=o:=by
  rintro x x1 d y y1 y2 y3 y4 y5 y6 y7 b h k c-hb
  exact ⟨by omega,rfl,rfl,rfl,rfl,rfl⟩
theorem ok_node_work_errors_1:SpecOK Tryz.prog GL 196 ct_node_work_errors_1.spec:=Ct.okH _ Tryz.func196 (by kernel_rfl) (withSpec_ok noSpecs_ok ok_reply_Error) hmix an_node_work_errors_1 (hideMp (by kernel_rfl) vc_node_work_errors_1)
def ct_node_work_errors:Ct:=⟨[.box 127 oWork,.val cI,.val cI],[.fn 196 3,.box 125 .ali,.box 3 cI,.box 3 cI],fun d=>[],fun d=>(((),(),d.2.1,d.2.2.1,()),(d.1,()))⟩
def an_node_work_errors:PDs ct_node_work_errors.ps->Anns:=(fun _=>{})
def Qbt17 (n:Route) :=
 ((0<=n.1.1/\n.1.1<=4294967295)/\R64 n.1.2)/\(n.2.1.length<=maxLen/\ ∀(o:Int),o∈n.2.1->R64 o)/\R64 n.2.2
def Qbt9 (a:Node) (b:List Route) (c:Int) (d:List Int) (e f g h i:Int) (j:List Int) (k:Header) :=
 CT.wf cNode a/\((b.length<=maxLen/\ ∀(n:Route),n∈b->(Qbt17 n))/\R64 c/\(d.length<=maxLen/\ ∀(n:Int),n∈d->R64 n)/\(R64 e/\R64 f)/\R64 g)/\R64 h/\R64 i/\(j.length<=maxLen/\ ∀(n:Int),n∈j->0<=n/\n<=255)/\CT.wf cHeader k
theorem vc_node_work_errors :
 ∀(a:Node) (b:List Route) (c:Int) (d:List Int) (e f g h i:Int) (j:List Int) (k:Header) (l m:Int),(Qbt9 a b c d e f g h i j k)/\R64 l/\R64 m/\True->True->()=()/\()=()/\l=l/\m=m/\(Qbt19 a b c d e f g h i j k):=by
  delta Qbt9 Qbt17 Qbt19
  intros
  exact ⟨rfl,rfl,rfl,rfl,rfl⟩
theorem ok_node_work_errors:SpecOK Tryz.prog GL 157 ct_node_work_errors.spec:=Ct.okH _ Tryz.func157 (by kernel_rfl) noSpecs_ok hmix an_node_work_errors (hideMp (by kernel_rfl) vc_node_work_errors)
def ct_node_work_receive_1:Ct:=⟨[.val cU32,.val cI,.box 125 (.ref 127 oWork)],[.own 5 cU8,.val cI],fun d=>[(d.2.2.1.2.2.2.2.1.length:Int)<=1000000],fun d=>((wHostB d.2.2.1 d.1 d.2.1,wHostE d.2.2.1 d.2.1,()),(d.2.2.1,()))⟩
def an_node_work_receive_1:PDs ct_node_work_receive_1.ps->Anns:=(fun _=>{})
theorem vc_node_work_receive_1 :
 ∀(a b:Int) (c:Node) (d:List Route) (e:Int) (f:List Int) (g h i j k:Int) (l:List Int) (m:Header),(0<=a/\a<=4294967295)/\R64 b/\(CT.wf cNode c/\((d.length<=maxLen/\ ∀(n:Route),n∈d->(Qbt17 n))/\R64 e/\(f.length<=maxLen/\ ∀(n:Int),n∈f->R64 n)/\(R64 g/\R64 h)/\R64 i)/\R64 j/\R64 k/\(l.length<=maxLen/\ ∀(n:Int),n∈l->0<=n/\n<=255)/\CT.wf cHeader m)/\True->(l.length:Int)<=1000000->(l.length:Int)<=1099511627776/\hostB l a b c.2.2.2.2.2.2.2.2.2.2.2.2.2.1=wHostB (c,(d,e,f,(g,h),i),j,k,l,m) a b/\hostE l b c.2.2.2.2.2.2.2.2.2.2.2.2.2.1=wHostE (c,(d,e,f,(g,h),i),j,k,l,m) b/\(c,(d,e,f,(g,h),i),j,k,l,m)=(c,(d,e,f,(g,h),i),j,k,l,m):=by
  delta Qbt17
  rintro x x1 d y y1 y2 y3 y4 y5 y6 y7 b h-hb
  exact ⟨by omega,rfl,rfl,rfl⟩
theorem ok_node_work_receive_1:SpecOK Tryz.prog GL 154 ct_node_work_receive_1.spec:=Ct.okH _ Tryz.func154 (by kernel_rfl) (withSpec_ok noSpecs_ok ok_reply_Host) hmix an_node_work_receive_1 (hideMp (by kernel_rfl) vc_node_work_receive_1)
def ct_node_work_source:Ct:=⟨[.box 127 oWork,.val cI,.val cI],[.val cU32],fun d=>[],fun d=>((srcA d.1.1 d.2.1 d.2.2.1,()),(d.1,()))⟩
def an_node_work_source:PDs ct_node_work_source.ps->Anns:=(fun _=>{})
theorem vc_node_work_source :
 ∀(a:Node) (b:List Route) (c:Int) (d:List Int) (e f g h i:Int) (j:List Int) (k:Header) (l m:Int),(Qbt9 a b c d e f g h i j k)/\R64 l/\R64 m/\True->True->ifP (decide (a.2.2.2.2.2.1=2)) (adr a (portL a m)=srcA a l m/\(Qbt19 a b c d e f g h i j k)) (ifP (decide (a.2.2.2.2.2.1=3)) (a.2.1=srcA a l m/\(Qbt19 a b c d e f g h i j k)) (ifP (decide (a.2.2.2.2.2.1=4)) (a.2.2.2.2.2.2.1=srcA a l m/\(Qbt19 a b c d e f g h i j k)) (adr a l=srcA a l m/\(Qbt19 a b c d e f g h i j k)))):=by
  delta Qbt9 Qbt17 Qbt19
  rintro d x x1 x2 x3 x4 x5 x6 x7 x8 h i l - -
  unfold srcA nSource nLoop nFixed
  refine ifP_split (fun h1 => ?_) (fun h1 => ?_)
  · rw [if_pos (of_decide_eq_true h1)];exact ⟨rfl,rfl⟩
  rw [if_neg (of_decide_eq_false h1)]
  refine ifP_split (fun h2 => ?_) (fun h2 => ?_)
  · rw [if_pos (of_decide_eq_true h2)];exact ⟨rfl,rfl⟩
  rw [if_neg (of_decide_eq_false h2)]
  refine ifP_split (fun h3 => ?_) (fun h3 => ?_)
  · rw [if_pos (of_decide_eq_true h3)];exact ⟨rfl,rfl⟩
  rw [if_neg (of_decide_eq_false h3)]
  exact ⟨rfl,rfl⟩
theorem ok_node_work_source:SpecOK Tryz.prog GL 195 ct_node_work_source.spec:=Ct.okH _ Tryz.func195 (by kernel_rfl) (withSpec_ok (withSpec_ok noSpecs_ok ok_node_PortOf) ok_node_work_address) hmix an_node_work_source (hideMp (by kernel_rfl) vc_node_work_source)
def ct_AnsHost:Ct:=⟨[.box 127 oWork,.fn 154 1,.box 125 .ali,.val cU32],[.agg cOut,.val cI],fun d=>[okW d.1],fun d=>(((ansV (wHostB d.1) (wHostE d.1) d.1 d.2.2.2.1).2.1,(ansV (wHostB d.1) (wHostE d.1) d.1 d.2.2.2.1).2.2,()),(setS d.1 (ansV (wHostB d.1) (wHostE d.1) d.1 d.2.2.2.1).1,(),()))⟩
def an_AnsHost:PDs ct_AnsHost.ps->Anns:=(fun d=>{cuts:=(fun n=>match n with|17=>some (fun S=>{ι:=Int×(List Int)×(Int×Int),qn:=⟨fun k_=>∀ (k:Int) (l:(List Int)) (t:(Int×Int)),k_ (k,l,t),fun k_ h_ i=>h_ i.1 i.2.1 i.2.2,fun k_=>∃ (k:Int) (l:(List Int)) (t:(Int×Int)),k_ (k,l,t),fun k_ ⟨k,l,t,h_⟩=>⟨_,h_⟩⟩,inv:=fun i=>ansV (wHostB d.1) (wHostE d.1) d.1 d.2.2.2.1=(pickS (ansS d.1) (ansRt d.1),(ansL (wHostB d.1) d.1,(wHostB d.1) (ansF (wHostB d.1) d.1 d.2.2.2.1) (ansID d.1)),2)/\(ansRt d.1).2.1≠[]/\(sRoutes d.1.2.1,i.1,i.2.1,i.2.2,sBalanced d.1.2.1)=ansS d.1,keep:=[0,1,2,6,9,11],slots:=fun i=>[(8,.int .i64 (inP d.1.1 d.1.2.2.1)),(13,.int .i64 (ansID d.1))],keepN:=[112,192,560,1048577],names:=fun i=>[(1048576,.live (.cells 127 (flat cNode d.1.1++([.dsl cRt (sRoutes d.1.2.1),.int .i64 i.1,.own 524288 1]++(flat cTokens i.2.2++([.int .i64 (sBalanced d.1.2.1),.int .i64 d.1.2.2.1,.int .i64 d.1.2.2.2.1,.dsl cU8 d.1.2.2.2.2.1]++flat cHeader d.1.2.2.2.2.2)))))),(524288,.live (.row 3 cI i.2.1))]})|_=>none)})
def Qbt1 (a:Node) (b:List Route) (c:Int) (d:List Int) (e f g h i:Int) (j:List Int) (k:Header) (l:Int) :=
 ansV (wHostB (a,(b,c,d,(e,f),g),h,i,j,k)) (wHostE (a,(b,c,d,(e,f),g),h,i,j,k)) (a,(b,c,d,(e,f),g),h,i,j,k) l
def Qbt2 (b:List Route) (c:Int) (d:List Int) (e f g:Int) (k:Header) :=
 lookR (sRoutes (b,c,d,(e,f),g)) k.2.2.2.2.2.1
def Qbt6 (a:Node) (b:List Route) (c:Int) (d:List Int) (e f g h i:Int) (j:List Int) (k:Header) (l:Int) :=
 (pickS (ansS (a,(b,c,d,(e,f),g),h,i,j,k)) (ansRt (a,(b,c,d,(e,f),g),h,i,j,k)),(ansL (wHostB (a,(b,c,d,(e,f),g),h,i,j,k)) (a,(b,c,d,(e,f),g),h,i,j,k),wHostB (a,(b,c,d,(e,f),g),h,i,j,k) (ansF (wHostB (a,(b,c,d,(e,f),g),h,i,j,k)) (a,(b,c,d,(e,f),g),h,i,j,k) l) (ansID (a,(b,c,d,(e,f),g),h,i,j,k))),(2:Int))
def Qbt7 (a:Node) (e f i:Int) :=
 bTake a.2.2.2.2.2.2.2.2.2.2.1 (e,f) i
def Qbt8 (b:List Route) (c:Int) (d:List Int) (e f g:Int) (j:List Int) :=
 sortedR (sRoutes (b,c,d,(e,f),g))/\okL (sRoutes (b,c,d,(e,f),g))/\(j.length:Int)<=1000000
def Qbt10 :=
 ((0:Int),([]:List Int))
def Qbt13 (a:Node) (b:List Route) (c:Int) (d:List Int) (e f g h i:Int) (j:List Int) (k:Header) (l n:Int) (o:List Int) (p:Int×Int) :=
 ansV (wHostB (a,(b,c,d,(e,f),g),h,i,j,k)) (wHostE (a,(b,c,d,(e,f),g),h,i,j,k)) (a,(b,c,d,(e,f),g),h,i,j,k) l=(Qbt6 a b c d e f g h i j k l)/\(ansRt (a,(b,c,d,(e,f),g),h,i,j,k)).2.1≠([]:List Int)/\(sRoutes (b,c,d,(e,f),g),n,o,p,sBalanced (b,c,d,(e,f),g))=ansS (a,(b,c,d,(e,f),g),h,i,j,k)
theorem vc_AnsHost :
 ∀(a:Node) (b:List Route) (c:Int) (d:List Int) (e f g h i:Int) (j:List Int) (k:Header) (l:Int),(Qbt4 a b c d e f g h i j k)/\True/\True/\(0<=l/\l<=4294967295)/\True->(Qbt8 b c d e f g j)-> ∀(m:Bool),m=decide (l=0)->(m->(m->m)/\True)/\(m->(m->m)/\True)/\(m->(m->m)/\True)/\(m->(m->m)/\True)/\(m->m)/\ifP (bif m then a.2.2.2.2.2.2.2.2.2.2.2.1 else false) ((Qbt10)=(Qbt1 a b c d e f g h i j k l).2.1/\(4:Int)=(Qbt1 a b c d e f g h i j k l).2.2/\(a,(b,c,d,(e,f),g),h,i,j,k)=setS (a,(b,c,d,(e,f),g),h,i,j,k) (Qbt1 a b c d e f g h i j k l).1/\()=()) ((j.length:Int)<=1000000/\ifP (! decide (wHostE (a,(b,c,d,(e,f),g),h,i,j,k) (0:Int)=0)) ((Qbt10)=(Qbt1 a b c d e f g h i j k l).2.1/\(6:Int)=(Qbt1 a b c d e f g h i j k l).2.2/\(a,(b,c,d,(e,f),g),h,i,j,k)=setS (a,(b,c,d,(e,f),g),h,i,j,k) (Qbt1 a b c d e f g h i j k l).1/\()=()) (sortedR (sRoutes (b,c,d,(e,f),g))/\okL (sRoutes (b,c,d,(e,f),g))/\ifP (! wayB
 (b,c,d,(e,f),g) k.2.2.2.2.2.1) ((Qbt10)=(Qbt1 a b c d e f g h i j k l).2.1/\(8:Int)=(Qbt1 a b c d e f g h i j k l).2.2/\(a,(b,c,d,(e,f),g),h,i,j,k)=setS (a,(b,c,d,(e,f),g),h,i,j,k) (Qbt1 a b c d e f g h i j k l).1/\()=()) (ifP (! (Qbt7 a e f i).2) ((Qbt10)=(Qbt1 a b c d e f g h i j k l).2.1/\(5:Int)=(Qbt1 a b c d e f g h i j k l).2.2/\(a,(b,c,d,(Qbt7 a e f i).1,g),h,i,j,k)=setS (a,(b,c,d,(e,f),g),h,i,j,k) (Qbt1 a b c d e f g h i j k l).1/\()=()) (ifP (decide (inP a h<(d.length:Int))) (0<=inP a h/\inP a h<(d.length:Int)/\0<=inP a h/\inP a h<(d.length:Int)/\ ∃(n:Int) (o:List Int),∃(p:Int×Int),(Qbt13 a b c d e f g h i j k l n o p)/\l=l/\inP a h=inP a h/\idNext a (b,c,d,(Qbt7 a e f i).1,g) (inP a h) i k.2.1 k.2.2.2.2.2.1=ansID (a,(b,c,d,(e,f),g),h,i,j,k)/\(0:Int)=0/\(Qbt2 b c d e f g k).1.1=(Qbt2 b c d e f g k).1.1/\(Qbt2 b c d e f g k).1.2=(Qbt2 b c d e f g k).1.2/\(Qbt2 b c d e f g
 k).2.1=(Qbt2 b c d e f g k).2.1/\(Qbt2 b c d e f g k).2.2=(Qbt2 b c d e f g k).2.2/\wHostB (a,(b,c,d,(e,f),g),h,i,j,k) (adr a (inP a h)) (0:Int)=wHostB (a,(b,c,d,(e,f),g),h,i,j,k) (adr a (inP a h)) (0:Int)/\a.1=a.1/\a.2.1=a.2.1/\a.2.2.1=a.2.2.1/\a.2.2.2.1=a.2.2.2.1/\a.2.2.2.2.1=a.2.2.2.2.1/\a.2.2.2.2.2.1=a.2.2.2.2.2.1/\a.2.2.2.2.2.2.1=a.2.2.2.2.2.2.1/\a.2.2.2.2.2.2.2.1=a.2.2.2.2.2.2.2.1/\a.2.2.2.2.2.2.2.2.1=a.2.2.2.2.2.2.2.2.1/\a.2.2.2.2.2.2.2.2.2.1=a.2.2.2.2.2.2.2.2.2.1/\a.2.2.2.2.2.2.2.2.2.2.1.1=a.2.2.2.2.2.2.2.2.2.2.1.1/\a.2.2.2.2.2.2.2.2.2.2.1.2=a.2.2.2.2.2.2.2.2.2.2.1.2/\a.2.2.2.2.2.2.2.2.2.2.2.1=a.2.2.2.2.2.2.2.2.2.2.2.1/\a.2.2.2.2.2.2.2.2.2.2.2.2.1=a.2.2.2.2.2.2.2.2.2.2.2.2.1/\a.2.2.2.2.2.2.2.2.2.2.2.2.2.1=a.2.2.2.2.2.2.2.2.2.2.2.2.2.1/\a.2.2.2.2.2.2.2.2.2.2.2.2.2.2=a.2.2.2.2.2.2.2.2.2.2.2.2.2.2/\b=sRoutes (b,c,d,(e,f),g)/\IntKind.wrap .i64 (c+(1:Int))=n/\(Qbt7 a e f
 i).1.1=p.1/\(Qbt7 a e f i).1.2=p.2/\g=sBalanced (b,c,d,(e,f),g)/\h=h/\i=i/\j=j/\k.1=k.1/\k.2.1=k.2.1/\k.2.2.1=k.2.2.1/\k.2.2.2.1=k.2.2.2.1/\k.2.2.2.2.1=k.2.2.2.2.1/\k.2.2.2.2.2.1=k.2.2.2.2.2.1/\k.2.2.2.2.2.2=k.2.2.2.2.2.2/\List.set d (Int.toNat (inP a h)) (IntKind.wrap .i64 (d.getD (Int.toNat (inP a h)) default+(1:Int)))=o/\True) (∃(n:Int) (o:List Int),∃(p:Int×Int),(Qbt13 a b c d e f g h i j k l n o p)/\l=l/\inP a h=inP a h/\idNext a (b,c,d,(Qbt7 a e f i).1,g) (inP a h) i k.2.1 k.2.2.2.2.2.1=ansID (a,(b,c,d,(e,f),g),h,i,j,k)/\(0:Int)=0/\(Qbt2 b c d e f g k).1.1=(Qbt2 b c d e f g k).1.1/\(Qbt2 b c d e f g k).1.2=(Qbt2 b c d e f g k).1.2/\(Qbt2 b c d e f g k).2.1=(Qbt2 b c d e f g k).2.1/\(Qbt2 b c d e f g k).2.2=(Qbt2 b c d e f g k).2.2/\wHostB (a,(b,c,d,(e,f),g),h,i,j,k) (adr a (inP a h)) (0:Int)=wHostB (a,(b,c,d,(e,f),g),h,i,j,k) (adr a (inP a h))
 (0:Int)/\a.1=a.1/\a.2.1=a.2.1/\a.2.2.1=a.2.2.1/\a.2.2.2.1=a.2.2.2.1/\a.2.2.2.2.1=a.2.2.2.2.1/\a.2.2.2.2.2.1=a.2.2.2.2.2.1/\a.2.2.2.2.2.2.1=a.2.2.2.2.2.2.1/\a.2.2.2.2.2.2.2.1=a.2.2.2.2.2.2.2.1/\a.2.2.2.2.2.2.2.2.1=a.2.2.2.2.2.2.2.2.1/\a.2.2.2.2.2.2.2.2.2.1=a.2.2.2.2.2.2.2.2.2.1/\a.2.2.2.2.2.2.2.2.2.2.1.1=a.2.2.2.2.2.2.2.2.2.2.1.1/\a.2.2.2.2.2.2.2.2.2.2.1.2=a.2.2.2.2.2.2.2.2.2.2.1.2/\a.2.2.2.2.2.2.2.2.2.2.2.1=a.2.2.2.2.2.2.2.2.2.2.2.1/\a.2.2.2.2.2.2.2.2.2.2.2.2.1=a.2.2.2.2.2.2.2.2.2.2.2.2.1/\a.2.2.2.2.2.2.2.2.2.2.2.2.2.1=a.2.2.2.2.2.2.2.2.2.2.2.2.2.1/\a.2.2.2.2.2.2.2.2.2.2.2.2.2.2=a.2.2.2.2.2.2.2.2.2.2.2.2.2.2/\b=sRoutes (b,c,d,(e,f),g)/\IntKind.wrap .i64 (c+(1:Int))=n/\(Qbt7 a e f i).1.1=p.1/\(Qbt7 a e f i).1.2=p.2/\g=sBalanced
 (b,c,d,(e,f),g)/\h=h/\i=i/\j=j/\k.1=k.1/\k.2.1=k.2.1/\k.2.2.1=k.2.2.1/\k.2.2.2.1=k.2.2.2.1/\k.2.2.2.2.1=k.2.2.2.2.1/\k.2.2.2.2.2.1=k.2.2.2.2.2.1/\k.2.2.2.2.2.2=k.2.2.2.2.2.2/\d=o/\True)/\ ∀(n:Int) (o:List Int) (p:Int×Int),ansV (wHostB (a,(b,c,d,(e,f),g),h,i,j,k)) (wHostE (a,(b,c,d,(e,f),g),h,i,j,k)) (a,(b,c,d,(e,f),g),h,i,j,k) l=(Qbt6 a b c d e f g h i j k l)/\(ansRt (a,(b,c,d,(e,f),g),h,i,j,k)).2.1≠([]:List Int)/\(sRoutes (b,c,d,(e,f),g),n,o,p,sBalanced (b,c,d,(e,f),g))=ansS (a,(b,c,d,(e,f),g),h,i,j,k)->(Qbt2 b c d e f g k).2.1≠([]:List Int)/\((List.length (wHostB (a,(b,c,d,(e,f),g),h,i,j,k) (adr a (inP a h)) (0:Int))):Int)<=1000000/\ifP (decide (l=0)) ((j.length:Int)<=1000000/\(pickL a (b,n,o,p,g) (Qbt2 b c d e f g k) (keyB (wHostB (a,(b,c,d,(e,f),g),h,i,j,k) (adr a (inP a h)) (0:Int))),wHostB (a,pickS (b,n,o,p,g) (Qbt2 b c d e f g k),h,i,j,k) (srcA a (inP a h) (pickL a (b,n,o,p,g)
 (Qbt2 b c d e f g k) (keyB (wHostB (a,(b,c,d,(e,f),g),h,i,j,k) (adr a (inP a h)) (0:Int))))) (ansID (a,(b,c,d,(e,f),g),h,i,j,k)))=(Qbt1 a b c d e f g h i j k l).2.1/\(2:Int)=(Qbt1 a b c d e f g h i j k l).2.2/\(a,pickS (b,n,o,p,g) (Qbt2 b c d e f g k),h,i,j,k)=setS (a,(b,c,d,(e,f),g),h,i,j,k) (Qbt1 a b c d e f g h i j k l).1/\()=()) ((j.length:Int)<=1000000/\(pickL a (b,n,o,p,g) (Qbt2 b c d e f g k) (keyB (wHostB (a,(b,c,d,(e,f),g),h,i,j,k) (adr a (inP a h)) (0:Int))),wHostB (a,pickS (b,n,o,p,g) (Qbt2 b c d e f g k),h,i,j,k) l (ansID (a,(b,c,d,(e,f),g),h,i,j,k)))=(Qbt1 a b c d e f g h i j k l).2.1/\(2:Int)=(Qbt1 a b c d e f g h i j k l).2.2/\(a,pickS (b,n,o,p,g) (Qbt2 b c d e f g k),h,i,j,k)=setS (a,(b,c,d,(e,f),g),h,i,j,k) (Qbt1 a b c d e f g h i j k l).1/\()=()))))):=by
  delta Qbt1 Qbt2 Qbt4 Qbt6 Qbt7 Qbt8 Qbt10 Qbt13
  rintro d x x1 x2 x3 x4 x5 x6 x7 x8 h own-⟨hs,hl,hb⟩
  obtain ⟨w,hw⟩:∃ w:Work,w=(d,(x,x1,x2,(x3,x4),x5),x6,x7,x8,h):=⟨_,rfl⟩
  have e0:d.2.2.2.2.2.2.2.2.2.2.2.1=nSilent w.1:=by rw [hw];rfl
  have e2:wayB (x,x1,x2,(x3,x4),x5) h.2.2.2.2.2.1=wayB w.2.1 (hSrc w.2.2.2.2.2):=by rw [hw];rfl
  have e3:bTake d.2.2.2.2.2.2.2.2.2.2.1 (x3,x4) x7=takeV w:=by rw [hw];rfl
  rw [e0,e2,e3,← hw]
  have fin:=fun {s o y}=>finV (r:=ansV (wHostB w) (wHostE w) w own) (s:=s) (o:=o) (y:=y) w
  intro b hb0
  (repeat refine ⟨(by first|(simp;done)|(rw [hb0];simp;done)|(cases b <;> simp)),?_⟩)
  have hq:(bif b then nSilent w.1 else false)=true↔own=0/\nSilent w.1=true:=by rw [hb0];by_cases k:own=0 <;> simp [k]
  refine ifP_split (fun h0 => ?_) (fun h0 => ?_)
  · obtain ⟨f1,f2,f3⟩:=fin (ansV_sil (hq.1 h0))
    exact ⟨f1,f2,by rw [← f3,hw];rfl,rfl⟩
  have h0:¬ (own=0/\nSilent w.1=true):=fun k=>by rw [hq.2 k] at h0;cases h0
  refine ⟨hb,ifP_split (fun h1 => ?_) (fun h1 => ?_)⟩
  · obtain ⟨f1,f2,f3⟩:=fin (ansV_bad h0 (by simpa using h1))
    exact ⟨f1,f2,by rw [← f3,hw];rfl,rfl⟩
  have h1:¬ (wHostE w) 0≠0:=by simpa using h1
  refine ⟨hs,hl,ifP_split (fun h2 => ?_) (fun h2 => ?_)⟩
  · obtain ⟨f1,f2,f3⟩:=fin (ansV_rt h0 h1 (by simpa using h2))
    exact ⟨f1,f2,by rw [← f3,hw];rfl,rfl⟩
  have h2:¬ wayB w.2.1 (hSrc w.2.2.2.2.2)=false:=by simpa using h2
  refine ifP_split (fun h3 => ?_) (fun h3=>⟨?_,?_⟩)
  · obtain ⟨f1,f2,f3⟩:=fin (ansV_lim h0 h1 h2 (by simpa using h3))
    exact ⟨f1,f2,by rw [← f3,hw];rfl,rfl⟩
  · have h3:¬ (takeV w).2=false:=by simpa using h3
    have eg:=ansV_go (B:=wHostB w) h0 h1 h2 h3
    have hne:(ansRt w).2.1≠[]:=way_ne h2
    have hin:=inP_nn d x6
    have hID:idNext d (x,x1,x2,(takeV w).1,x5) (inP d x6) x7 h.2.1 h.2.2.2.2.2.1=ansID w:=by rw [← e3,hw];rfl
    have hS:ansS w=(x,IntKind.i64.wrap (x1+1),bump x2 (inP d x6),(takeV w).1,x5):=by rw [← e3,hw];rfl
    refine ifP_split (fun h4 => ?_) (fun h4 => ?_)
    · have h4:=of_decide_eq_true h4
      refine ⟨hin,h4,hin,h4,_,_,_,⟨eg,hne,?_⟩,rfl,rfl,hID,(by repeat' first|exact trivial|refine ⟨trivial,?_⟩|refine ⟨(by with_reducible rfl),?_⟩|refine ⟨w64 (by omega) (by omega),?_⟩|refine ⟨rfl,?_⟩)⟩
      rw [hS,bump_in h4];rfl
    · have h4:=of_decide_eq_false h4
      refine ⟨_,_,_,⟨eg,hne,?_⟩,rfl,rfl,hID,(by repeat' first|exact trivial|refine ⟨trivial,?_⟩|refine ⟨(by with_reducible rfl),?_⟩|refine ⟨w64 (by omega) (by omega),?_⟩|refine ⟨rfl,?_⟩)⟩
      rw [hS,bump_out h4];rfl
  · rintro k l t ⟨eg,hne,hS⟩
    have e4:lookR (sRoutes (x,x1,x2,(x3,x4),x5)) h.2.2.2.2.2.1=ansRt w:=by rw [hw];rfl
    have e5:(x,k,l,t,x5)=ansS w:=hS
    have e6:pickL d (ansS w) (ansRt w) (keyB ((wHostB w) (adr d (inP d x6)) 0))=ansL (wHostB w) w:=by rw [hw];rfl
    rw [e4,e5,e6]
    obtain ⟨f1,f2,f3⟩:=fin eg
    have hlen:=wHostB_len w (adr d (inP d x6)) 0
    refine ⟨hne,by omega,ifP_split (fun h4 => ?_) (fun h4 => ?_)⟩
    · have h4:=of_decide_eq_true h4
      refine ⟨hb,?_,f2,by rw [← f3,hw];rfl,rfl⟩
      rw [← f1];unfold ansF;rw [if_pos h4,hw];rfl
    · have h4:=of_decide_eq_false h4
      refine ⟨hb,?_,f2,by rw [← f3,hw];rfl,rfl⟩
      rw [← f1];unfold ansF;rw [if_neg h4,hw];rfl
theorem ok_AnsHost:SpecOK Tryz.prog GL 156 ct_AnsHost.spec:=Ct.okH _ Tryz.func156 (by kernel_rfl) (withSpec_ok (withSpec_ok (withSpec_ok (withSpec_ok (withSpec_ok (withSpec_ok (withSpec_ok (withSpec_ok noSpecs_ok ok_node_work_incoming) ok_node_work_address) ok_node_work_receive_1) ok_node_work_route) ok_bucket_Take) ok_identifier_Next) ok_node_work_choose) ok_node_work_source) hmix an_AnsHost (hideMp (by kernel_rfl) vc_AnsHost)
def ct_AnsErr:Ct:=⟨[.box 127 oWork,.fn 196 3,.box 125 .ali,.box 3 cI,.box 3 cI,.val cU32],[.agg cOut,.val cI],fun d=>[okW d.1],fun d=>(((ansV (wErrB d.1 d.2.2.2.1 d.2.2.2.2.1) (wErrE d.1 d.2.2.2.1 d.2.2.2.2.1) d.1 d.2.2.2.2.2.1).2.1,(ansV (wErrB d.1 d.2.2.2.1 d.2.2.2.2.1) (wErrE d.1 d.2.2.2.1 d.2.2.2.2.1) d.1 d.2.2.2.2.2.1).2.2,()),(setS d.1 (ansV (wErrB d.1 d.2.2.2.1 d.2.2.2.2.1) (wErrE d.1 d.2.2.2.1 d.2.2.2.2.1) d.1 d.2.2.2.2.2.1).1,(),d.2.2.2.1,d.2.2.2.2.1,()))⟩
def an_AnsErr:PDs ct_AnsErr.ps->Anns:=(fun d=>{cuts:=(fun n=>match n with|17=>some (fun S=>{ι:=Int×(List Int)×(Int×Int),qn:=⟨fun k_=>∀ (k:Int) (l:(List Int)) (t:(Int×Int)),k_ (k,l,t),fun k_ h_ i=>h_ i.1 i.2.1 i.2.2,fun k_=>∃ (k:Int) (l:(List Int)) (t:(Int×Int)),k_ (k,l,t),fun k_ ⟨k,l,t,h_⟩=>⟨_,h_⟩⟩,inv:=fun i=>ansV (wErrB d.1 d.2.2.2.1 d.2.2.2.2.1) (wErrE d.1 d.2.2.2.1 d.2.2.2.2.1) d.1 d.2.2.2.2.2.1=(pickS (ansS d.1) (ansRt d.1),(ansL (wErrB d.1 d.2.2.2.1 d.2.2.2.2.1) d.1,(wErrB d.1 d.2.2.2.1 d.2.2.2.2.1) (ansF (wErrB d.1 d.2.2.2.1 d.2.2.2.2.1) d.1 d.2.2.2.2.2.1) (ansID d.1)),2)/\(ansRt d.1).2.1≠[]/\(sRoutes d.1.2.1,i.1,i.2.1,i.2.2,sBalanced d.1.2.1)=ansS d.1,keep:=[0,1,2,6,9,11],slots:=fun i=>[(8,.int .i64 (inP d.1.1 d.1.2.2.1)),(13,.int .i64 (ansID d.1))],keepN:=[112,192,560,1048577,1048578,1048579],names:=fun i=>[(1048576,.live (.cells 127 (flat cNode d.1.1++([.dsl cRt (sRoutes d.1.2.1),.int .i64 i.1,.own 524288 1]++(flat cTokens i.2.2++([.int .i64 (sBalanced d.1.2.1),.int .i64 d.1.2.2.1,.int .i64 d.1.2.2.2.1,.dsl cU8 d.1.2.2.2.2.1]++flat cHeader d.1.2.2.2.2.2)))))),(524288,.live (.row 3 cI i.2.1))]})|_=>none)})
def Qbt0 (a:Node) (b:List Route) (c:Int) (d:List Int) (e f g h i:Int) (j:List Int) (k:Header) (l m n:Int) :=
 ansV (wErrB (a,(b,c,d,(e,f),g),h,i,j,k) l m) (wErrE (a,(b,c,d,(e,f),g),h,i,j,k) l m) (a,(b,c,d,(e,f),g),h,i,j,k) n
def Qbt5 (a:Node) (b:List Route) (c:Int) (d:List Int) (e f g h i:Int) (j:List Int) (k:Header) (l m n:Int) :=
 (pickS (ansS (a,(b,c,d,(e,f),g),h,i,j,k)) (ansRt (a,(b,c,d,(e,f),g),h,i,j,k)),(ansL (wErrB (a,(b,c,d,(e,f),g),h,i,j,k) l m) (a,(b,c,d,(e,f),g),h,i,j,k),wErrB (a,(b,c,d,(e,f),g),h,i,j,k) l m (ansF (wErrB (a,(b,c,d,(e,f),g),h,i,j,k) l m) (a,(b,c,d,(e,f),g),h,i,j,k) n) (ansID (a,(b,c,d,(e,f),g),h,i,j,k))),(2:Int))
def Qbt14 (a:Node) (b:List Route) (c:Int) (d:List Int) (e f g h i:Int) (j:List Int) (k:Header) (l m n p:Int) (q:List Int) (r:Int×Int) :=
 ansV (wErrB (a,(b,c,d,(e,f),g),h,i,j,k) l m) (wErrE (a,(b,c,d,(e,f),g),h,i,j,k) l m) (a,(b,c,d,(e,f),g),h,i,j,k) n=(Qbt5 a b c d e f g h i j k l m n)/\(ansRt (a,(b,c,d,(e,f),g),h,i,j,k)).2.1≠([]:List Int)/\(sRoutes (b,c,d,(e,f),g),p,q,r,sBalanced (b,c,d,(e,f),g))=ansS (a,(b,c,d,(e,f),g),h,i,j,k)
theorem vc_AnsErr :
 ∀(a:Node) (b:List Route) (c:Int) (d:List Int) (e f g h i:Int) (j:List Int) (k:Header) (l m n:Int),(CT.wf cNode a/\((b.length<=maxLen/\ ∀(o:Route),o∈b->((0<=o.1.1/\o.1.1<=4294967295)/\R64 o.1.2)/\(o.2.1.length<=maxLen/\ ∀(p:Int),p∈o.2.1->R64 p)/\R64 o.2.2)/\R64 c/\(d.length<=maxLen/\ ∀(o:Int),o∈d->R64 o)/\(R64 e/\R64 f)/\R64 g)/\R64 h/\R64 i/\(j.length<=maxLen/\ ∀(o:Int),o∈j->0<=o/\o<=255)/\CT.wf cHeader k)/\True/\True/\R64 l/\R64 m/\(0<=n/\n<=4294967295)/\True->(Qbt8 b c d e f g j)-> ∀(o:Bool),o=decide (n=0)->(o->(o->o)/\True)/\(o->(o->o)/\True)/\(o->(o->o)/\True)/\(o->(o->o)/\True)/\(o->o)/\ifP (bif o then a.2.2.2.2.2.2.2.2.2.2.2.1 else false) ((Qbt10)=(Qbt0 a b c d e f g h i j k l m n).2.1/\(4:Int)=(Qbt0 a b c d e f g h i j k l m n).2.2/\(a,(b,c,d,(e,f),g),h,i,j,k)=setS (a,(b,c,d,(e,f),g),h,i,j,k) (Qbt0 a b c d e f g h i j k l m n).1/\()=()/\l=l/\m=m) ((j.length:Int)<=1000000/\ifP (!
 decide (wErrE (a,(b,c,d,(e,f),g),h,i,j,k) l m (0:Int)=0)) ((Qbt10)=(Qbt0 a b c d e f g h i j k l m n).2.1/\(6:Int)=(Qbt0 a b c d e f g h i j k l m n).2.2/\(a,(b,c,d,(e,f),g),h,i,j,k)=setS (a,(b,c,d,(e,f),g),h,i,j,k) (Qbt0 a b c d e f g h i j k l m n).1/\()=()/\l=l/\m=m) (sortedR (sRoutes (b,c,d,(e,f),g))/\okL (sRoutes (b,c,d,(e,f),g))/\ifP (! wayB (b,c,d,(e,f),g) k.2.2.2.2.2.1) ((Qbt10)=(Qbt0 a b c d e f g h i j k l m n).2.1/\(8:Int)=(Qbt0 a b c d e f g h i j k l m n).2.2/\(a,(b,c,d,(e,f),g),h,i,j,k)=setS (a,(b,c,d,(e,f),g),h,i,j,k) (Qbt0 a b c d e f g h i j k l m n).1/\()=()/\l=l/\m=m) (ifP (! (Qbt7 a e f i).2) ((Qbt10)=(Qbt0 a b c d e f g h i j k l m n).2.1/\(5:Int)=(Qbt0 a b c d e f g h i j k l m n).2.2/\(a,(b,c,d,(Qbt7 a e f i).1,g),h,i,j,k)=setS (a,(b,c,d,(e,f),g),h,i,j,k) (Qbt0 a b c d e f g h i j k l m n).1/\()=()/\l=l/\m=m) (ifP (decide (inP a h<(d.length:Int))) (0<=inP a h/\inP
 a h<(d.length:Int)/\0<=inP a h/\inP a h<(d.length:Int)/\ ∃(p:Int) (q:List Int),∃(r:Int×Int),(Qbt14 a b c d e f g h i j k l m n p q r)/\n=n/\inP a h=inP a h/\idNext a (b,c,d,(Qbt7 a e f i).1,g) (inP a h) i k.2.1 k.2.2.2.2.2.1=ansID (a,(b,c,d,(e,f),g),h,i,j,k)/\(0:Int)=0/\(Qbt2 b c d e f g k).1.1=(Qbt2 b c d e f g k).1.1/\(Qbt2 b c d e f g k).1.2=(Qbt2 b c d e f g k).1.2/\(Qbt2 b c d e f g k).2.1=(Qbt2 b c d e f g k).2.1/\(Qbt2 b c d e f g k).2.2=(Qbt2 b c d e f g k).2.2/\wErrB (a,(b,c,d,(e,f),g),h,i,j,k) l m (adr a (inP a h)) (0:Int)=wErrB (a,(b,c,d,(e,f),g),h,i,j,k) l m (adr a (inP a h))
 (0:Int)/\l=l/\m=m/\a.1=a.1/\a.2.1=a.2.1/\a.2.2.1=a.2.2.1/\a.2.2.2.1=a.2.2.2.1/\a.2.2.2.2.1=a.2.2.2.2.1/\a.2.2.2.2.2.1=a.2.2.2.2.2.1/\a.2.2.2.2.2.2.1=a.2.2.2.2.2.2.1/\a.2.2.2.2.2.2.2.1=a.2.2.2.2.2.2.2.1/\a.2.2.2.2.2.2.2.2.1=a.2.2.2.2.2.2.2.2.1/\a.2.2.2.2.2.2.2.2.2.1=a.2.2.2.2.2.2.2.2.2.1/\a.2.2.2.2.2.2.2.2.2.2.1.1=a.2.2.2.2.2.2.2.2.2.2.1.1/\a.2.2.2.2.2.2.2.2.2.2.1.2=a.2.2.2.2.2.2.2.2.2.2.1.2/\a.2.2.2.2.2.2.2.2.2.2.2.1=a.2.2.2.2.2.2.2.2.2.2.2.1/\a.2.2.2.2.2.2.2.2.2.2.2.2.1=a.2.2.2.2.2.2.2.2.2.2.2.2.1/\a.2.2.2.2.2.2.2.2.2.2.2.2.2.1=a.2.2.2.2.2.2.2.2.2.2.2.2.2.1/\a.2.2.2.2.2.2.2.2.2.2.2.2.2.2=a.2.2.2.2.2.2.2.2.2.2.2.2.2.2/\b=sRoutes (b,c,d,(e,f),g)/\IntKind.wrap .i64 (c+(1:Int))=p/\(Qbt7 a e f i).1.1=r.1/\(Qbt7 a e f i).1.2=r.2/\g=sBalanced
 (b,c,d,(e,f),g)/\h=h/\i=i/\j=j/\k.1=k.1/\k.2.1=k.2.1/\k.2.2.1=k.2.2.1/\k.2.2.2.1=k.2.2.2.1/\k.2.2.2.2.1=k.2.2.2.2.1/\k.2.2.2.2.2.1=k.2.2.2.2.2.1/\k.2.2.2.2.2.2=k.2.2.2.2.2.2/\List.set d (Int.toNat (inP a h)) (IntKind.wrap .i64 (d.getD (Int.toNat (inP a h)) default+(1:Int)))=q/\True) (∃(p:Int) (q:List Int),∃(r:Int×Int),(Qbt14 a b c d e f g h i j k l m n p q r)/\n=n/\inP a h=inP a h/\idNext a (b,c,d,(Qbt7 a e f i).1,g) (inP a h) i k.2.1 k.2.2.2.2.2.1=ansID (a,(b,c,d,(e,f),g),h,i,j,k)/\(0:Int)=0/\(Qbt2 b c d e f g k).1.1=(Qbt2 b c d e f g k).1.1/\(Qbt2 b c d e f g k).1.2=(Qbt2 b c d e f g k).1.2/\(Qbt2 b c d e f g k).2.1=(Qbt2 b c d e f g k).2.1/\(Qbt2 b c d e f g k).2.2=(Qbt2 b c d e f g k).2.2/\wErrB (a,(b,c,d,(e,f),g),h,i,j,k) l m (adr a (inP a h)) (0:Int)=wErrB (a,(b,c,d,(e,f),g),h,i,j,k) l m (adr a (inP a h))
 (0:Int)/\l=l/\m=m/\a.1=a.1/\a.2.1=a.2.1/\a.2.2.1=a.2.2.1/\a.2.2.2.1=a.2.2.2.1/\a.2.2.2.2.1=a.2.2.2.2.1/\a.2.2.2.2.2.1=a.2.2.2.2.2.1/\a.2.2.2.2.2.2.1=a.2.2.2.2.2.2.1/\a.2.2.2.2.2.2.2.1=a.2.2.2.2.2.2.2.1/\a.2.2.2.2.2.2.2.2.1=a.2.2.2.2.2.2.2.2.1/\a.2.2.2.2.2.2.2.2.2.1=a.2.2.2.2.2.2.2.2.2.1/\a.2.2.2.2.2.2.2.2.2.2.1.1=a.2.2.2.2.2.2.2.2.2.2.1.1/\a.2.2.2.2.2.2.2.2.2.2.1.2=a.2.2.2.2.2.2.2.2.2.2.1.2/\a.2.2.2.2.2.2.2.2.2.2.2.1=a.2.2.2.2.2.2.2.2.2.2.2.1/\a.2.2.2.2.2.2.2.2.2.2.2.2.1=a.2.2.2.2.2.2.2.2.2.2.2.2.1/\a.2.2.2.2.2.2.2.2.2.2.2.2.2.1=a.2.2.2.2.2.2.2.2.2.2.2.2.2.1/\a.2.2.2.2.2.2.2.2.2.2.2.2.2.2=a.2.2.2.2.2.2.2.2.2.2.2.2.2.2/\b=sRoutes (b,c,d,(e,f),g)/\IntKind.wrap .i64 (c+(1:Int))=p/\(Qbt7 a e f i).1.1=r.1/\(Qbt7 a e f i).1.2=r.2/\g=sBalanced
 (b,c,d,(e,f),g)/\h=h/\i=i/\j=j/\k.1=k.1/\k.2.1=k.2.1/\k.2.2.1=k.2.2.1/\k.2.2.2.1=k.2.2.2.1/\k.2.2.2.2.1=k.2.2.2.2.1/\k.2.2.2.2.2.1=k.2.2.2.2.2.1/\k.2.2.2.2.2.2=k.2.2.2.2.2.2/\d=q/\True)/\ ∀(p:Int) (q:List Int) (r:Int×Int),ansV (wErrB (a,(b,c,d,(e,f),g),h,i,j,k) l m) (wErrE (a,(b,c,d,(e,f),g),h,i,j,k) l m) (a,(b,c,d,(e,f),g),h,i,j,k) n=(Qbt5 a b c d e f g h i j k l m n)/\(ansRt (a,(b,c,d,(e,f),g),h,i,j,k)).2.1≠([]:List Int)/\(sRoutes (b,c,d,(e,f),g),p,q,r,sBalanced (b,c,d,(e,f),g))=ansS (a,(b,c,d,(e,f),g),h,i,j,k)->(Qbt2 b c d e f g k).2.1≠([]:List Int)/\((List.length (wErrB (a,(b,c,d,(e,f),g),h,i,j,k) l m (adr a (inP a h)) (0:Int))):Int)<=1000000/\ifP (decide (n=0)) ((j.length:Int)<=1000000/\(pickL a (b,p,q,r,g) (Qbt2 b c d e f g k) (keyB (wErrB (a,(b,c,d,(e,f),g),h,i,j,k) l m (adr a (inP a h)) (0:Int))),wErrB (a,pickS (b,p,q,r,g) (Qbt2 b c d e f g k),h,i,j,k) l m (srcA a (inP a h)
 (pickL a (b,p,q,r,g) (Qbt2 b c d e f g k) (keyB (wErrB (a,(b,c,d,(e,f),g),h,i,j,k) l m (adr a (inP a h)) (0:Int))))) (ansID (a,(b,c,d,(e,f),g),h,i,j,k)))=(Qbt0 a b c d e f g h i j k l m n).2.1/\(2:Int)=(Qbt0 a b c d e f g h i j k l m n).2.2/\(a,pickS (b,p,q,r,g) (Qbt2 b c d e f g k),h,i,j,k)=setS (a,(b,c,d,(e,f),g),h,i,j,k) (Qbt0 a b c d e f g h i j k l m n).1/\()=()/\l=l/\m=m) ((j.length:Int)<=1000000/\(pickL a (b,p,q,r,g) (Qbt2 b c d e f g k) (keyB (wErrB (a,(b,c,d,(e,f),g),h,i,j,k) l m (adr a (inP a h)) (0:Int))),wErrB (a,pickS (b,p,q,r,g) (Qbt2 b c d e f g k),h,i,j,k) l m n (ansID (a,(b,c,d,(e,f),g),h,i,j,k)))=(Qbt0 a b c d e f g h i j k l m n).2.1/\(2:Int)=(Qbt0 a b c d e f g h i j k l m n).2.2/\(a,pickS (b,p,q,r,g) (Qbt2 b c d e f g k),h,i,j,k)=setS (a,(b,c,d,(e,f),g),h,i,j,k) (Qbt0 a b c d e f g h i j k l m n).1/\()=()/\l=l/\m=m))))):=by
  delta Qbt0 Qbt2 Qbt5 Qbt7 Qbt8 Qbt10 Qbt14
  rintro d x x1 x2 x3 x4 x5 x6 x7 x8 h ki co own-⟨hs,hl,hb⟩
  obtain ⟨w,hw⟩:∃ w:Work,w=(d,(x,x1,x2,(x3,x4),x5),x6,x7,x8,h):=⟨_,rfl⟩
  have e0:d.2.2.2.2.2.2.2.2.2.2.2.1=nSilent w.1:=by rw [hw];rfl
  have e2:wayB (x,x1,x2,(x3,x4),x5) h.2.2.2.2.2.1=wayB w.2.1 (hSrc w.2.2.2.2.2):=by rw [hw];rfl
  have e3:bTake d.2.2.2.2.2.2.2.2.2.2.1 (x3,x4) x7=takeV w:=by rw [hw];rfl
  rw [e0,e2,e3,← hw]
  have fin:=fun {s o y}=>finV (r:=ansV (wErrB w ki co) (wErrE w ki co) w own) (s:=s) (o:=o) (y:=y) w
  intro b hb0
  (repeat refine ⟨(by first|(simp;done)|(rw [hb0];simp;done)|(cases b <;> simp)),?_⟩)
  have hq:(bif b then nSilent w.1 else false)=true↔own=0/\nSilent w.1=true:=by rw [hb0];by_cases k:own=0 <;> simp [k]
  refine ifP_split (fun h0 => ?_) (fun h0 => ?_)
  · obtain ⟨f1,f2,f3⟩:=fin (ansV_sil (hq.1 h0))
    exact ⟨f1,f2,by rw [← f3,hw];rfl,rfl,rfl,rfl⟩
  have h0:¬ (own=0/\nSilent w.1=true):=fun k=>by rw [hq.2 k] at h0;cases h0
  refine ⟨hb,ifP_split (fun h1 => ?_) (fun h1 => ?_)⟩
  · obtain ⟨f1,f2,f3⟩:=fin (ansV_bad h0 (by simpa using h1))
    exact ⟨f1,f2,by rw [← f3,hw];rfl,rfl,rfl,rfl⟩
  have h1:¬ (wErrE w ki co) 0≠0:=by simpa using h1
  refine ⟨hs,hl,ifP_split (fun h2 => ?_) (fun h2 => ?_)⟩
  · obtain ⟨f1,f2,f3⟩:=fin (ansV_rt h0 h1 (by simpa using h2))
    exact ⟨f1,f2,by rw [← f3,hw];rfl,rfl,rfl,rfl⟩
  have h2:¬ wayB w.2.1 (hSrc w.2.2.2.2.2)=false:=by simpa using h2
  refine ifP_split (fun h3 => ?_) (fun h3=>⟨?_,?_⟩)
  · obtain ⟨f1,f2,f3⟩:=fin (ansV_lim h0 h1 h2 (by simpa using h3))
    exact ⟨f1,f2,by rw [← f3,hw];rfl,rfl,rfl,rfl⟩
  · have h3:¬ (takeV w).2=false:=by simpa using h3
    have eg:=ansV_go (B:=wErrB w ki co) h0 h1 h2 h3
    have hne:(ansRt w).2.1≠[]:=way_ne h2
    have hin:=inP_nn d x6
    have hID:idNext d (x,x1,x2,(takeV w).1,x5) (inP d x6) x7 h.2.1 h.2.2.2.2.2.1=ansID w:=by rw [← e3,hw];rfl
    have hS:ansS w=(x,IntKind.i64.wrap (x1+1),bump x2 (inP d x6),(takeV w).1,x5):=by rw [← e3,hw];rfl
    refine ifP_split (fun h4 => ?_) (fun h4 => ?_)
    · have h4:=of_decide_eq_true h4
      refine ⟨hin,h4,hin,h4,_,_,_,⟨eg,hne,?_⟩,rfl,rfl,hID,(by repeat' first|exact trivial|refine ⟨trivial,?_⟩|refine ⟨(by with_reducible rfl),?_⟩|refine ⟨w64 (by omega) (by omega),?_⟩|refine ⟨rfl,?_⟩)⟩
      rw [hS,bump_in h4];rfl
    · have h4:=of_decide_eq_false h4
      refine ⟨_,_,_,⟨eg,hne,?_⟩,rfl,rfl,hID,(by repeat' first|exact trivial|refine ⟨trivial,?_⟩|refine ⟨(by with_reducible rfl),?_⟩|refine ⟨w64 (by omega) (by omega),?_⟩|refine ⟨rfl,?_⟩)⟩
      rw [hS,bump_out h4];rfl
  · rintro k l t ⟨eg,hne,hS⟩
    have e4:lookR (sRoutes (x,x1,x2,(x3,x4),x5)) h.2.2.2.2.2.1=ansRt w:=by rw [hw];rfl
    have e5:(x,k,l,t,x5)=ansS w:=hS
    have e6:pickL d (ansS w) (ansRt w) (keyB ((wErrB w ki co) (adr d (inP d x6)) 0))=ansL (wErrB w ki co) w:=by rw [hw];rfl
    rw [e4,e5,e6]
    obtain ⟨f1,f2,f3⟩:=fin eg
    have hlen:=wErrB_len w ki co (adr d (inP d x6)) 0
    refine ⟨hne,by omega,ifP_split (fun h4 => ?_) (fun h4 => ?_)⟩
    · have h4:=of_decide_eq_true h4
      refine ⟨hb,?_,f2,by rw [← f3,hw];rfl,rfl,rfl,rfl⟩
      rw [← f1];unfold ansF;rw [if_pos h4,hw];rfl
    · have h4:=of_decide_eq_false h4
      refine ⟨hb,?_,f2,by rw [← f3,hw];rfl,rfl,rfl,rfl⟩
      rw [← f1];unfold ansF;rw [if_neg h4,hw];rfl
theorem ok_AnsErr:SpecOK Tryz.prog GL 156 ct_AnsErr.spec:=Ct.okH _ Tryz.func156 (by kernel_rfl) (withSpec_ok (withSpec_ok (withSpec_ok (withSpec_ok (withSpec_ok (withSpec_ok (withSpec_ok (withSpec_ok noSpecs_ok ok_node_work_incoming) ok_node_work_address) ok_node_work_errors_1) ok_node_work_route) ok_bucket_Take) ok_identifier_Next) ok_node_work_choose) ok_node_work_source) hmix an_AnsErr (hideMp (by kernel_rfl) vc_AnsErr)
def ct_node_work_receive:Ct:=⟨[.box 127 oWork],[.agg cOut,.val cI],fun d=>[okW d.1],fun d=>(((recvV d.1).2.1,(recvV d.1).2.2,()),(setS d.1 (recvV d.1).1,()))⟩
def an_node_work_receive:PDs ct_node_work_receive.ps->Anns:=(fun _=>{})
def Qbt15 (a:Node) (b:List Route) (c:Int) (d:List Int) (e f g h i:Int) (j:List Int) (k:Header) :=
 ansV (wHostB (a,(b,c,d,(e,f),g),h,i,j,k)) (wHostE (a,(b,c,d,(e,f),g),h,i,j,k)) (a,(b,c,d,(e,f),g),h,i,j,k) k.2.2.2.2.2.2
def Qbt16 (a:Node) (b:List Route) (c:Int) (d:List Int) (e f g h i:Int) (j:List Int) (k:Header) :=
 ansV (wHostB (a,(b,c,d,(e,f),g),h,i,j,k)) (wHostE (a,(b,c,d,(e,f),g),h,i,j,k)) (a,(b,c,d,(e,f),g),h,i,j,k) (0:Int)
theorem vc_node_work_receive :
 ∀(a:Node) (b:List Route) (c:Int) (d:List Int) (e f g h i:Int) (j:List Int) (k:Header),(Qbt3 a b c d e f g h i j k)/\True->(Qbt8 b c d e f g j)->(j.length:Int)<=1000000/\ ∀(l:Bool),l=decide (h= -1)->((! l)->((! l)->(! l))/\True)/\(l=false->(! l))/\ifP (bif l then true else ! decide (wHostE (a,(b,c,d,(e,f),g),h,i,j,k) (0:Int)=0)) ((Qbt10)=(recvV (a,(b,c,d,(e,f),g),h,i,j,k)).2.1/\(1:Int)=(recvV (a,(b,c,d,(e,f),g),h,i,j,k)).2.2/\(a,(b,c,d,(e,f),g),h,i,j,k)=setS (a,(b,c,d,(e,f),g),h,i,j,k) (recvV (a,(b,c,d,(e,f),g),h,i,j,k)).1) (ifP (decide (k.2.2.2.1=17)) (okW (a,(b,c,d,(e,f),g),h,i,j,k)/\(Qbt16 a b c d e f g h i j k).2.1=(recvV (a,(b,c,d,(e,f),g),h,i,j,k)).2.1/\(Qbt16 a b c d e f g h i j k).2.2=(recvV (a,(b,c,d,(e,f),g),h,i,j,k)).2.2/\(a,(Qbt16 a b c d e f g h i j k).1,h,i,j,k)=setS (a,(b,c,d,(e,f),g),h,i,j,k) (recvV (a,(b,c,d,(e,f),g),h,i,j,k)).1) (okW (a,(b,c,d,(e,f),g),h,i,j,k)/\(Qbt15 a
 b c d e f g h i j k).2.1=(recvV (a,(b,c,d,(e,f),g),h,i,j,k)).2.1/\(Qbt15 a b c d e f g h i j k).2.2=(recvV (a,(b,c,d,(e,f),g),h,i,j,k)).2.2/\(a,(Qbt15 a b c d e f g h i j k).1,h,i,j,k)=setS (a,(b,c,d,(e,f),g),h,i,j,k) (recvV (a,(b,c,d,(e,f),g),h,i,j,k)).1)):=by
  delta Qbt3 Qbt8 Qbt10 Qbt15 Qbt16
  rintro d x x1 x2 x3 x4 x5 x6 x7 x8 h-⟨hs,hl,hb⟩
  obtain ⟨w,hw⟩:∃ w:Work,w=(d,(x,x1,x2,(x3,x4),x5),x6,x7,x8,h):=⟨_,rfl⟩
  rw [← hw]
  have fin:=fun {s o y}=>finV (r:=recvV w) (s:=s) (o:=o) (y:=y) w
  have e0:w.2.2.1=x6:=by rw [hw]
  have e1:h=w.2.2.2.2.2:=by rw [hw]
  have okw:okW w:=by rw [hw];exact ⟨hs,hl,hb⟩
  refine ⟨hb,?_⟩
  (repeat (intro (b_:Bool) (hb_:b_=_);(repeat refine ⟨(by first|(simp;done)|(rw [hb_];simp;done)|(rw [hb_];simp;omega)|(rw [hb_];simp;intros;omega)|(rw [hb_];simp +contextual;done)),?_⟩);subst hb_))
  refine ifP_or (fun ho => ?_) (fun h1 h2 => ?_)
  · obtain ⟨f1,f2,f3⟩:=fin (s:=w.2.1) (o:=out0) (y:=1) (by unfold recvV;rw [if_pos];rcases ho with q|q;left;rw [e0];exact of_decide_eq_true q;right;simpa using q)
    exact ⟨f1,f2,by rw [← f3,hw];rfl⟩
  have hn:¬ (w.2.2.1 = -1∨wHostE w 0≠0):=by
    rintro (q|q)
    · rw [e0] at q;exact of_decide_eq_false h1 q
    · apply q;simpa using h2
  have er:recvV w=ansV (wHostB w) (wHostE w) w (if h.2.2.2.1=17 then 0 else h.2.2.2.2.2.2):=by unfold recvV;rw [if_neg hn,e1];rfl
  rw [er]
  refine ifP_split (fun h3 => ?_) (fun h3 => ?_)
  · rw [if_pos (of_decide_eq_true h3)]
    exact ⟨okw,rfl,rfl,by rw [hw];rfl⟩
  · rw [if_neg (of_decide_eq_false h3)]
    exact ⟨okw,rfl,rfl,by rw [hw];rfl⟩
theorem ok_node_work_receive:SpecOK Tryz.prog GL 106 ct_node_work_receive.spec:=Ct.okH _ Tryz.func106 (by kernel_rfl) (withSpec_ok (withSpec_ok noSpecs_ok ok_node_work_receive_1) ok_AnsHost) hmix an_node_work_receive (hideMp (by kernel_rfl) vc_node_work_receive)
def ct_node_work_forward:Ct:=⟨[.box 127 oWork],[.agg cOut,.val cI],fun d=>[okW d.1],fun d=>(((fwdV d.1).2.1,(fwdV d.1).2.2,()),(setS d.1 (fwdV d.1).1,()))⟩
def an_node_work_forward:PDs ct_node_work_forward.ps->Anns:=(fun _=>{})
def Qbt11 (a:Node) (b:List Route) (c:Int) (d:List Int) (e f g h i:Int) (j:List Int) (k:Header) :=
 ansV (wErrB (a,(b,c,d,(e,f),g),h,i,j,k) (11:Int) (0:Int)) (wErrE (a,(b,c,d,(e,f),g),h,i,j,k) (11:Int) (0:Int)) (a,(b,c,d,(e,f),g),h,i,j,k) (0:Int)
def Qbt12 (a:Node) (b:List Route) (c:Int) (d:List Int) (e f g h i:Int) (j:List Int) (k:Header) :=
 ansV (wErrB (a,(b,c,d,(e,f),g),h,i,j,k) (3:Int) (0:Int)) (wErrE (a,(b,c,d,(e,f),g),h,i,j,k) (3:Int) (0:Int)) (a,(b,c,d,(e,f),g),h,i,j,k) (0:Int)
def Qbt20 (a:Node) (b:List Route) (c:Int) (d:List Int) (e f g h i:Int) (j:List Int) (k:Header) :=
 (0:Int)=(fwdV (a,(b,c,d,(e,f),g),h,i,j,k)).2.2/\(a,pickS (b,c,d,(e,f),g) (lookR (sRoutes (b,c,d,(e,f),g)) k.2.2.2.2.2.2),h,i,j,k)=setS (a,(b,c,d,(e,f),g),h,i,j,k) (fwdV (a,(b,c,d,(e,f),g),h,i,j,k)).1
theorem vc_node_work_forward :
 ∀(a:Node) (b:List Route) (c:Int) (d:List Int) (e f g h i:Int) (j:List Int) (k:Header),(Qbt3 a b c d e f g h i j k)/\True->(Qbt8 b c d e f g j)-> ∀(l:Bool),l= ! decide (h= -1)->(l->(l->l)/\True)/\(l->(l->l)/\True)/\(l->(l->l)/\True)/\(l->(l->l)/\True)/\(l->(l->l)/\True)/\(l->l)/\ ∀(m:Bool),(m=bif l then ! a.2.2.2.2.2.2.2.2.2.2.2.2.1 else false)->(m->(m->m)/\True)/\(m->(m->m)/\True)/\(m->(m->m)/\True)/\(m->(m->m)/\True)/\(m->(m->m)/\True)/\(m->m)/\ifP (bif m then decide (k.2.2.1<2) else false) (okW (a,(b,c,d,(e,f),g),h,i,j,k)/\(Qbt11 a b c d e f g h i j k).2.1=(fwdV (a,(b,c,d,(e,f),g),h,i,j,k)).2.1/\(Qbt11 a b c d e f g h i j k).2.2=(fwdV (a,(b,c,d,(e,f),g),h,i,j,k)).2.2/\(a,(Qbt11 a b c d e f g h i j k).1,h,i,j,k)=setS (a,(b,c,d,(e,f),g),h,i,j,k) (fwdV (a,(b,c,d,(e,f),g),h,i,j,k)).1) (sortedR (sRoutes (b,c,d,(e,f),g))/\okL (sRoutes (b,c,d,(e,f),g))/\ ∀(n:Bool),n= ! wayB (b,c,d,(e,f),g)
 k.2.2.2.2.2.2->(n->n)/\ifP (bif n then decide (h= -1) else false) ((Qbt10)=(fwdV (a,(b,c,d,(e,f),g),h,i,j,k)).2.1/\(8:Int)=(fwdV (a,(b,c,d,(e,f),g),h,i,j,k)).2.2/\(a,(b,c,d,(e,f),g),h,i,j,k)=setS (a,(b,c,d,(e,f),g),h,i,j,k) (fwdV (a,(b,c,d,(e,f),g),h,i,j,k)).1) (ifP (! wayB (b,c,d,(e,f),g) k.2.2.2.2.2.2) (okW (a,(b,c,d,(e,f),g),h,i,j,k)/\(Qbt12 a b c d e f g h i j k).2.1=(fwdV (a,(b,c,d,(e,f),g),h,i,j,k)).2.1/\(Qbt12 a b c d e f g h i j k).2.2=(fwdV (a,(b,c,d,(e,f),g),h,i,j,k)).2.2/\(a,(Qbt12 a b c d e f g h i j k).1,h,i,j,k)=setS (a,(b,c,d,(e,f),g),h,i,j,k) (fwdV (a,(b,c,d,(e,f),g),h,i,j,k)).1) ((lookR (sRoutes (b,c,d,(e,f),g)) k.2.2.2.2.2.2).2.1≠([]:List Int)/\(j.length:Int)<=1000000/\j=j/\j=j/\(j.length:Int)<=1099511627776/\ ∀(o:Bool),o= ! decide (h= -1)->(o->(o->o)/\True)/\(o->(o->o)/\True)/\(o->(o->o)/\True)/\(o->(o->o)/\True)/\(o->(o->o)/\True)/\(o->o)/\ifP (bif o then !
 a.2.2.2.2.2.2.2.2.2.2.2.2.1 else false) ((j.length:Int)<=1099511627776/\(pickL a (b,c,d,(e,f),g) (lookR (sRoutes (b,c,d,(e,f),g)) k.2.2.2.2.2.2) (keyB j),lowB j)=(fwdV (a,(b,c,d,(e,f),g),h,i,j,k)).2.1/\(Qbt20 a b c d e f g h i j k)) ((pickL a (b,c,d,(e,f),g) (lookR (sRoutes (b,c,d,(e,f),g)) k.2.2.2.2.2.2) (keyB j),j)=(fwdV (a,(b,c,d,(e,f),g),h,i,j,k)).2.1/\(Qbt20 a b c d e f g h i j k))))):=by
  delta Qbt3 Qbt8 Qbt10 Qbt11 Qbt12 Qbt20
  rintro d x x1 x2 x3 x4 x5 x6 x7 x8 h-⟨hs,hl,hb⟩
  obtain ⟨w,hw⟩:∃ w:Work,w=(d,(x,x1,x2,(x3,x4),x5),x6,x7,x8,h):=⟨_,rfl⟩
  have e0:d.2.2.2.2.2.2.2.2.2.2.2.2.1=nOpaque w.1:=by rw [hw];rfl
  have e2:wayB (x,x1,x2,(x3,x4),x5) h.2.2.2.2.2.2=wayB w.2.1 (hDst w.2.2.2.2.2):=by rw [hw];rfl
  have e3:x6=w.2.2.1:=by rw [hw]
  have e4:h.2.2.1=hTTL w.2.2.2.2.2:=by rw [hw];rfl
  have e5:lookR (sRoutes (x,x1,x2,(x3,x4),x5)) h.2.2.2.2.2.2=lookR (sRoutes w.2.1) (hDst w.2.2.2.2.2):=by rw [hw];rfl
  have okw:okW w:=by rw [hw];exact ⟨hs,hl,hb⟩
  have fin:=fun {s o y}=>finV (r:=fwdV w) (s:=s) (o:=o) (y:=y) w
  rw [← hw,e0,e2,e4,e5]
  intro b hb0
  (repeat refine ⟨(by first|(simp;done)|(rw [hb0];simp;done)|(cases b <;> simp)),?_⟩)
  intro b1 hb1
  (repeat refine ⟨(by first|(simp;done)|(rw [hb1];simp;done)|(cases b1 <;> simp)|(cases b <;> cases b1 <;> simp)),?_⟩)
  have h1b:b1=true↔w.2.2.1 ≠ -1/\nOpaque w.1=false:=by rw [hb1,hb0,e3];by_cases k:w.2.2.1 = -1 <;> cases nOpaque w.1 <;> simp [k]
  have hq:(bif b1 then decide (hTTL w.2.2.2.2.2<2) else false)=true↔w.2.2.1 ≠ -1/\nOpaque w.1=false/\hTTL w.2.2.2.2.2<2:=by
    rw [← and_assoc,← h1b];cases b1 <;> simp
  refine ifP_split (fun k1 => ?_) (fun k1 => ?_)
  · have e:fwdV w=ansV (wErrB w 11 0) (wErrE w 11 0) w 0:=by unfold fwdV;rw [if_pos (hq.1 k1)]
    rw [e]
    exact ⟨okw,rfl,rfl,by rw [hw];rfl⟩
  have k1:¬ (w.2.2.1 ≠ -1/\nOpaque w.1=false/\hTTL w.2.2.2.2.2<2):=fun k=>by rw [hq.2 k] at k1;cases k1
  refine ⟨hs,hl,?_⟩
  intro c hc
  (repeat refine ⟨(by first|(simp;done)|(rw [hc];simp;done)|(cases c <;> simp)),?_⟩)
  refine ifP_split (fun k2 => ?_) (fun k2 => ?_)
  · have q:wayB w.2.1 (hDst w.2.2.2.2.2)=false/\w.2.2.1 = -1:=by
      rw [hc,e3] at k2
      cases hh:wayB w.2.1 (hDst w.2.2.2.2.2) with
      | true=>rw [hh] at k2;simp at k2
      | false=>rw [hh] at k2;exact ⟨rfl,by simpa using k2⟩
    obtain ⟨f1,f2,f3⟩:=fin (s:=w.2.1) (o:=out0) (y:=8) (by unfold fwdV;rw [if_neg k1,if_pos q.1,if_pos q.2])
    exact ⟨f1,f2,by rw [← f3,hw];rfl⟩
  refine ifP_split (fun k3 => ?_) (fun k3 => ?_)
  · have k3:wayB w.2.1 (hDst w.2.2.2.2.2)=false:=by simpa using k3
    have q:¬ w.2.2.1 = -1:=fun q=>by rw [hc,k3,e3,q] at k2;simp at k2
    have e:fwdV w=ansV (wErrB w 3 0) (wErrE w 3 0) w 0:=by unfold fwdV;rw [if_neg k1,if_pos k3,if_neg q]
    rw [e]
    exact ⟨okw,rfl,rfl,by rw [hw];rfl⟩
  have k3:¬ wayB w.2.1 (hDst w.2.2.2.2.2)=false:=by simpa using k3
  refine ⟨way_ne k3,hb,?_⟩
  clear h1b hq
  (repeat refine ⟨(by first|(with_reducible rfl)|trivial|omega),?_⟩)
  intro b' hb0'
  (repeat refine ⟨(by first|(simp;done)|(rw [hb0'];simp;done)|(cases b' <;> simp)),?_⟩)
  have hq:(bif b' then !nOpaque w.1 else false)=true↔w.2.2.1 ≠ -1/\nOpaque w.1=false:=by rw [hb0',e3];by_cases k:w.2.2.1 = -1 <;> cases nOpaque w.1 <;> simp [k]
  have e:fwdV w=(pickS w.2.1 (lookR (sRoutes w.2.1) (hDst w.2.2.2.2.2)),(pickL w.1 w.2.1 (lookR (sRoutes w.2.1) (hDst w.2.2.2.2.2)) (keyB w.2.2.2.2.1),if w.2.2.1 ≠ -1/\nOpaque w.1=false then lowB w.2.2.2.2.1 else w.2.2.2.2.1),0):=by unfold fwdV;rw [if_neg k1,if_neg k3]
  obtain ⟨f1,f2,f3⟩:=fin e
  refine ifP_split (fun k4 => ?_) (fun k4 => ?_)
  · refine ⟨by omega,?_,f2,by rw [← f3,hw];rfl⟩
    rw [← f1,if_pos (hq.1 k4),hw]
  · refine ⟨?_,f2,by rw [← f3,hw];rfl⟩
    rw [← f1,if_neg (fun k=>by rw [hq.2 k] at k4;cases k4),hw]
theorem ok_node_work_forward:SpecOK Tryz.prog GL 107 ct_node_work_forward.spec:=Ct.okH _ Tryz.func107 (by kernel_rfl) (withSpec_ok (withSpec_ok (withSpec_ok (withSpec_ok (withSpec_ok (withSpec_ok noSpecs_ok ok_node_work_errors) ok_AnsErr) ok_node_work_route) ok_node_work_choose) ok_ipv4_Lower) ok_slices_Clone_b979) hmix an_node_work_forward (hideMp (by kernel_rfl) vc_node_work_forward)
def ct_node_work_handle:Ct:=⟨[.box 127 oWork],[.agg cOut,.val cI],fun d=>[okW d.1],fun d=>(((hdV d.1).2.1,(hdV d.1).2.2,()),((d.1.1,(hdV d.1).1,d.1.2.2.1,d.1.2.2.2.1,d.1.2.2.2.2.1,(decPkt d.1.2.2.2.2.1).1),()))⟩
def an_node_work_handle:PDs ct_node_work_handle.ps->Anns:=(fun _=>{})
theorem vc_node_work_handle :
 ∀(a:Node) (b:List Route) (c:Int) (d:List Int) (e f g h i:Int) (j:List Int) (k:Header),(Qbt3 a b c d e f g h i j k)/\True->(Qbt8 b c d e f g j)->(j.length:Int)<=1099511627776/\ifP (! decide (decErr j=0)) ((Qbt10)=(hdV (a,(b,c,d,(e,f),g),h,i,j,k)).2.1/\(6:Int)=(hdV (a,(b,c,d,(e,f),g),h,i,j,k)).2.2/\(a,(b,c,d,(e,f),g),h,i,j,(decPkt j).1)=(a,(hdV (a,(b,c,d,(e,f),g),h,i,j,k)).1,h,i,j,(decPkt j).1)) (ifP (ownsA a (decPkt j).1.2.2.2.2.2.2) (okW (a,(b,c,d,(e,f),g),h,i,j,(decPkt j).1)/\(recvV (a,(b,c,d,(e,f),g),h,i,j,(decPkt j).1)).2.1=(hdV (a,(b,c,d,(e,f),g),h,i,j,k)).2.1/\(recvV (a,(b,c,d,(e,f),g),h,i,j,(decPkt j).1)).2.2=(hdV (a,(b,c,d,(e,f),g),h,i,j,k)).2.2/\(a,(recvV (a,(b,c,d,(e,f),g),h,i,j,(decPkt j).1)).1,h,i,j,(decPkt j).1)=(a,(hdV (a,(b,c,d,(e,f),g),h,i,j,k)).1,h,i,j,(decPkt j).1))
 (∀(l:Bool),l=a.2.2.2.1->(l->(l->l)/\True)/\(l->(l->l)/\True)/\(l->(l->l)/\True)/\(l->(l->l)/\True)/\(l->l)/\ifP (bif l then ! decide (h= -1) else false) ((Qbt10)=(hdV (a,(b,c,d,(e,f),g),h,i,j,k)).2.1/\(6:Int)=(hdV (a,(b,c,d,(e,f),g),h,i,j,k)).2.2/\(a,(b,c,d,(e,f),g),h,i,j,(decPkt j).1)=(a,(hdV (a,(b,c,d,(e,f),g),h,i,j,k)).1,h,i,j,(decPkt j).1)) (okW (a,(b,c,d,(e,f),g),h,i,j,(decPkt j).1)/\(fwdV (a,(b,c,d,(e,f),g),h,i,j,(decPkt j).1)).2.1=(hdV (a,(b,c,d,(e,f),g),h,i,j,k)).2.1/\(fwdV (a,(b,c,d,(e,f),g),h,i,j,(decPkt j).1)).2.2=(hdV (a,(b,c,d,(e,f),g),h,i,j,k)).2.2/\(a,(fwdV (a,(b,c,d,(e,f),g),h,i,j,(decPkt j).1)).1,h,i,j,(decPkt j).1)=(a,(hdV (a,(b,c,d,(e,f),g),h,i,j,k)).1,h,i,j,(decPkt j).1)))):=by
  delta Qbt3 Qbt8 Qbt10
  rintro d x x1 x2 x3 x4 x5 x6 x7 x8 h-⟨hs,hl,hb⟩
  refine ⟨by omega,ifP_split (fun h1 => ?_) (fun h1 => ?_)⟩
  · have e:hdV (d,(x,x1,x2,(x3,x4),x5),x6,x7,x8,h)=((x,x1,x2,(x3,x4),x5),out0,6):=by unfold hdV;rw [if_pos (by simpa using h1)]
    rw [e];exact ⟨rfl,rfl,rfl⟩
  have h1:¬ decErr x8≠0:=by simpa using h1
  refine ifP_split (fun h2 => ?_) (fun h2 => ?_)
  · have e:hdV (d,(x,x1,x2,(x3,x4),x5),x6,x7,x8,h)=recvV (d,(x,x1,x2,(x3,x4),x5),x6,x7,x8,(decPkt x8).1):=by unfold hdV;rw [if_neg h1];exact if_pos h2
    rw [e];exact ⟨⟨hs,hl,hb⟩,rfl,rfl,rfl⟩
  have h2:¬ ownsA d (hDst (decPkt x8).1)=true:=by show ¬ ownsA d (decPkt x8).1.2.2.2.2.2.2=true;rw [h2];simp
  intro b hb0
  (repeat refine ⟨(by first|(simp;done)|(rw [hb0];simp;done)|(cases b <;> simp)),?_⟩)
  have hq:(bif b then !decide (x6 = -1) else false)=true↔nHost d=true/\x6 ≠ -1:=by rw [hb0];show (bif d.2.2.2.1 then _ else _)=true↔d.2.2.2.1=true/\_;cases d.2.2.2.1 <;> simp
  refine ifP_split (fun h3 => ?_) (fun h3 => ?_)
  · have e:hdV (d,(x,x1,x2,(x3,x4),x5),x6,x7,x8,h)=((x,x1,x2,(x3,x4),x5),out0,6):=by unfold hdV;rw [if_neg h1,if_neg h2];exact if_pos (hq.1 h3)
    rw [e];exact ⟨rfl,rfl,rfl⟩
  · have e:hdV (d,(x,x1,x2,(x3,x4),x5),x6,x7,x8,h)=fwdV (d,(x,x1,x2,(x3,x4),x5),x6,x7,x8,(decPkt x8).1):=by unfold hdV;rw [if_neg h1,if_neg h2];exact if_neg (fun k=>by rw [hq.2 k] at h3;cases h3)
    rw [e];exact ⟨⟨hs,hl,hb⟩,rfl,rfl,rfl⟩
theorem ok_node_work_handle:SpecOK Tryz.prog GL 67 ct_node_work_handle.spec:=Ct.okH _ Tryz.func67 (by kernel_rfl) (withSpec_ok (withSpec_ok (withSpec_ok (withSpec_ok noSpecs_ok ok_ipv4_Decode) ok_node_Owns) ok_node_work_receive) ok_node_work_forward) hmix an_node_work_handle (hideMp (by kernel_rfl) vc_node_work_handle)
def ct_CloneRtN:Ct:=⟨[.val (.sl cRt)],[.own 87 cRt],fun d=>[(d.1.length:Int)<=134217728],fun d=>((d.1,()),())⟩
def an_CloneRtN:PDs ct_CloneRtN.ps->Anns:=(fun _=>{})
theorem vc_CloneRtN :
 ∀(a:List Route),(a.length<=maxLen/\ ∀(b:Route),b∈a->((0<=b.1.1/\b.1.1<=4294967295)/\R64 b.1.2)/\(b.2.1.length<=maxLen/\ ∀(c:Int),c∈b.2.1->R64 c)/\R64 b.2.2)/\True->(a.length:Int)<=134217728-> ∀(b:Bool),(b=true->a.length=(0:Nat))->ifP b (([]:List Route)=a) (((0:Nat)+a.length)*(48:Nat)<=(140737488355328:Nat)/\a=a):=by
  rintro x ⟨⟨hl,-⟩,-⟩ h b hb
  refine ifP_split (fun h1 => ?_) (fun h1=>⟨by omega,by simp⟩)
  have:=hb h1
  exact (List.eq_nil_of_length_eq_zero this).symm
theorem ok_CloneRtN:SpecOK Tryz.prog GL 105 ct_CloneRtN.spec:=Ct.okH _ Tryz.func105 (by kernel_rfl) noSpecs_ok hmix an_CloneRtN (hideMp (by kernel_rfl) vc_CloneRtN)
end Go.RS

/- Netd: networks as the laws draw them: exact. -/
namespace Go.RS
open Go.SX Go.Proofs
set_option maxRecDepth 100000
set_option linter.unusedVariables false
abbrev cLink:CT := .pair cI (.pair cI (.pair cI (.pair cI (.pair cI cI))))
abbrev cChange:CT := .pair cI (.pair cI (.pair .bool cRt))
abbrev cNet:CT := .pair (.sl cNode) (.pair (.sl cLink) (.sl cChange))
abbrev Link:Type:=Int×Int×Int×Int×Int×Int
abbrev Change:Type:=Int×Int×Bool×Rt
abbrev Net:Type:=List Node×List Link×List Change
abbrev Codes:Type:=List Int×Int
abbrev Port:Type:=Int×Int
def lA (l:Link):Int:=l.1
def lB (l:Link):Int:=l.2.1
def lDelay (l:Link):Int:=l.2.2.1
def lJitter (l:Link):Int:=l.2.2.2.1
def lLoss (l:Link):Int:=l.2.2.2.2.1
def lSeed (l:Link):Int:=l.2.2.2.2.2
theorem getD_setne {α:Type} [Inhabited α] {l:List α} {i j:Nat} {a:α} (h:i≠j):(l.set i a).getD j default=l.getD j default:=by
  rw [List.getD_eq_getElem?_getD,List.getD_eq_getElem?_getD,List.getElem?_set_ne h]
def codeAt (c:Codes):Int:=c.1.getD c.2.toNat default
def next1 (c:Codes) (n:Int):Int×Codes:=if (c.1.length:Int)<=c.2∨n<1 then (0,c) else ((codeAt c).tmod n,(c.1,c.2+1))
def nextV (c:Codes) (n:Int):Int×Codes :=
  if (c.1.length:Int)<=c.2∨n<1 then (0,c)
  else if 256<n then ((256*codeAt c+(next1 (c.1,c.2+1) 256).1).tmod n,(next1 (c.1,c.2+1) 256).2)
  else ((codeAt c).tmod n,(c.1,c.2+1))
structure okB (c:Codes):Prop where
  at':okC c
  b:∀ x∈c.1,0<=x/\x<=255
theorem okB.code {c:Codes} (h:okB c) (hb:¬ (c.1.length:Int)<=c.2):0<=codeAt c/\codeAt c<=255:=h.b _ (getD_mem h.at'.1 (by omega))
theorem next1_ok {c:Codes} (h:okB c) (n:Int):okB (next1 c n).2/\0<=(next1 c n).1/\((next1 c n).1<n∨(next1 c n).1=0):=by
  unfold next1
  split
  · exact ⟨h,by simp,.inr rfl⟩
  · rename_i hb
    have hc:=h.code (by omega)
    have ha:=h.at'
    exact ⟨⟨⟨by have:=ha.1;show 0<=c.2+1;omega,by show c.2+1<=(c.1.length:Int);omega⟩,h.b⟩,tmod_lo hc.1,.inl (tmod_hi hc.1 (by omega))⟩
theorem nextV_ok {c:Codes} (h:okB c) (n:Int):okB (nextV c n).2/\0<=(nextV c n).1/\((nextV c n).1<n∨(nextV c n).1=0):=by
  unfold nextV
  split
  · exact ⟨h,by simp,.inr rfl⟩
  · rename_i hb
    have hc:=h.code (by omega)
    have ha:=h.at'
    have h1:okB (c.1,c.2+1):=⟨⟨by have:=ha.1;show 0<=c.2+1;omega,by show c.2+1<=(c.1.length:Int);omega⟩,h.b⟩
    split
    · have k:=next1_ok h1 256
      exact ⟨k.1,tmod_lo (by omega),.inl (tmod_hi (by omega) (by omega))⟩
    · exact ⟨h1,tmod_lo hc.1,.inl (tmod_hi hc.1 (by omega))⟩
theorem nextV_lt {c:Codes} (h:okB c) {n:Int} (hn:0<n):0<=(nextV c n).1/\(nextV c n).1<n:=by
  have:=nextV_ok h n;omega
def newNode (i:Int) (host:Bool) (f sd:Int):Node:=([],0,1+i/3,host,[],1,0,0,0,0,(0,0),false,false,f,sd)
abbrev Scene:Type:=Net×Codes
def nodeS (s:Scene) (host:Bool):Scene :=
  ((s.1.1++[newNode s.1.1.length host (([64,255,128]:List Int).getD (nextV s.2 3).1.toNat default) (nextV (nextV s.2 3).2 256).1],s.1.2),(nextV (nextV s.2 3).2 256).2)
def addPort (ns:List Node) (x:Int) (p:Port):List Node:=ns.set x.toNat ((ns.getD x.toNat default).1++[p],(ns.getD x.toNat default).2)
def baseA (l:Int):Int:=167837696+4*l
def linkS (s:Scene) (a b:Int):Scene :=
  ((addPort (addPort s.1.1 a (baseA s.1.2.1.length+1,s.1.2.1.length)) b (baseA s.1.2.1.length+2,s.1.2.1.length),
    s.1.2.1++[(a,b,1+(nextV s.2 20).1,0,0,(nextV (nextV s.2 20).2 256).1)],s.1.2.2),(nextV (nextV s.2 20).2 256).2)
def insN (k:Int):List Int->List Int
  | []=>[k]
  | x::r=>if k<x then k::x::r else x::insN k r
theorem insN_none {k:Int}:∀ {l:List Int},(∀ x∈l,¬ k<x)->insN k l=l++[k]
  | [],_=>rfl
  | x::r,h=>by rw [insN,if_neg (h x List.mem_cons_self),insN_none fun y hy=>h y (List.mem_cons_of_mem _ hy)];rfl
theorem insN_some {k:Int} {m:List Int}:∀ {l:List Int},(∃ x∈l,k<x)->insN k (l++m)=insN k l++m
  | [],h=>by obtain ⟨x,hx,-⟩:=h;cases hx
  | y::r,h=>by
    rw [List.cons_append,insN,insN]
    by_cases hy:k<y
    · rw [if_pos hy,if_pos hy];rfl
    · rw [if_neg hy,if_neg hy,insN_some (l:=r)];rfl
      obtain ⟨x,hx,hk⟩:=h
      rcases List.mem_cons.1 hx with rfl|hx
      · exact absurd hk hy
      · exact ⟨x,hx,hk⟩
theorem insN_new {k x:Int}:∀ {l:List Int},(∀ y∈l,¬ k<y)->k<x->insN k (l++[x])=l++[k]++[x]
  | [],_,h=>by rw [List.nil_append,insN,if_pos h];rfl
  | y::r,h,hk=>by rw [List.cons_append,insN,if_neg (h y List.mem_cons_self),insN_new (fun z hz=>h z (List.mem_cons_of_mem _ hz)) hk];rfl
theorem insN_len (k:Int):∀ l:List Int,(insN k l).length=l.length+1
  | []=>rfl
  | x::r=>by rw [insN];split <;> simp [insN_len k r]
def rFind (l:List Rt) (p:Pfx):Nat:=l.findIdx fun r=>decide (r.1=p)
def setRoutes (x:Node) (l:List Rt):Node:=(x.1,x.2.1,x.2.2.1,x.2.2.2.1,l,x.2.2.2.2.2)
def routeL (l:List Rt) (p:Pfx) (k way:Int):List Rt :=
  if rFind l p<l.length then
    if k∈(l.getD (rFind l p) default).2.1 then l else putL l (p,insN k (l.getD (rFind l p) default).2.1,(l.getD (rFind l p) default).2.2)
  else putL l (p,[k],way)
def routeN (ns:List Node) (n:Int) (p:Pfx) (k way:Int):List Node:=ns.set n.toNat (setRoutes (ns.getD n.toNat default) (routeL (nRoutes (ns.getD n.toNat default)) p k way))
def relax (d:List Int) (l:Link):List Int :=
  (d.set (lA l).toNat (min (d.getD (lA l).toNat default) (d.getD (lB l).toNat default+1))).set (lB l).toNat (min (d.getD (lB l).toNat default) (d.getD (lA l).toNat default+1))
def distL (nn:Nat) (ls:List Link) (to:Int):List Int:=(List.range nn).foldl (fun d _=>ls.foldl relax d) ((List.replicate nn (1000:Int)).set to.toNat 0)
def stepE (d:List Int) (to:Int) (p:Pfx) (plain:Bool) (k way:Int) (ns:List Node) (a b:Int):List Node :=
  if d.getD a.toNat default≠d.getD b.toNat default+1∨(b≠to/\nHost (ns.getD b.toNat default)=true) then ns
  else if plain=true/\hasL (nRoutes (ns.getD a.toNat default)) p=true then ns else routeN ns a p k way
def stepK (ls:List Link) (d:List Int) (to:Int) (p:Pfx) (plain:Bool) (way:Int) (ns:List Node) (k:Nat):List Node :=
  stepE d to p plain k way (stepE d to p plain k way ns (lA (ls.getD k default)) (lB (ls.getD k default))) (lB (ls.getD k default)) (lA (ls.getD k default))
def stepP (ls:List Link) (d:List Int) (to:Int) (plain:Bool) (way:Int) (ns:List Node) (q:Port):List Node :=
  (List.range ls.length).foldl (stepK ls d to (q.1,32) plain way) ns
def wayC (c:Codes):Int×Codes:=if 1+(nextV c 3).1=3 then (if 0<(nextV (nextV c 3).2 3).1 then 1 else 3,(nextV (nextV c 3).2 3).2) else (1+(nextV c 3).1,(nextV c 3).2)
def stepT (ls:List Link) (plain:Bool) (s:List Node×Codes) (to:Nat):List Node×Codes :=
  ((nPorts (s.1.getD to default)).foldl (stepP ls (distL s.1.length ls to) to plain (wayC s.2).1) s.1,(wayC s.2).2)
def routesS (s:Scene) (plain:Bool):Scene :=
  let r:=(List.range s.1.1.length).foldl (stepT s.1.2.1 plain) (s.1.1,s.2)
  ((r.1,s.1.2),r.2)
def odSilent (x:Node):Node:=(x.1,x.2.1,x.2.2.1,x.2.2.2.1,x.2.2.2.2.1,x.2.2.2.2.2.1,x.2.2.2.2.2.2.1,x.2.2.2.2.2.2.2.1,x.2.2.2.2.2.2.2.2.1,x.2.2.2.2.2.2.2.2.2.1,x.2.2.2.2.2.2.2.2.2.2.1,true,x.2.2.2.2.2.2.2.2.2.2.2.2)
def odLimit (x:Node) (b:Int×Int):Node:=(x.1,x.2.1,x.2.2.1,x.2.2.2.1,x.2.2.2.2.1,x.2.2.2.2.2.1,x.2.2.2.2.2.2.1,x.2.2.2.2.2.2.2.1,x.2.2.2.2.2.2.2.2.1,x.2.2.2.2.2.2.2.2.2.1,b,x.2.2.2.2.2.2.2.2.2.2.2)
def odOpaque (x:Node) (b:Bool):Node:=(x.1,x.2.1,x.2.2.1,x.2.2.2.1,x.2.2.2.2.1,x.2.2.2.2.2.1,x.2.2.2.2.2.2.1,x.2.2.2.2.2.2.2.1,x.2.2.2.2.2.2.2.2.1,x.2.2.2.2.2.2.2.2.2.1,x.2.2.2.2.2.2.2.2.2.2.1,x.2.2.2.2.2.2.2.2.2.2.2.1,b,x.2.2.2.2.2.2.2.2.2.2.2.2.2)
def odSource (x:Node) (s:Int):Node:=(x.1,x.2.1,x.2.2.1,x.2.2.2.1,x.2.2.2.2.1,s,x.2.2.2.2.2.2)
def odLoop (x:Node) (a s:Int):Node:=(x.1,a,x.2.2.1,x.2.2.2.1,x.2.2.2.2.1,s,x.2.2.2.2.2.2)
def odFixed (x:Node) (a s:Int):Node:=(x.1,x.2.1,x.2.2.1,x.2.2.2.1,x.2.2.2.2.1,s,a,x.2.2.2.2.2.2.2)
def odIds (x:Node) (i b s:Int):Node:=(x.1,x.2.1,x.2.2.1,x.2.2.2.1,x.2.2.2.2.1,x.2.2.2.2.2.1,x.2.2.2.2.2.2.1,i,b,s,x.2.2.2.2.2.2.2.2.2.2)
def odWay (x:Node) (i:Int) (c:Codes):Node×Codes :=
  let a:=nextV c 10
  if a.1=1 then (odSilent x,a.2)
  else if a.1=2 then (odLimit x (1+(nextV a.2 3).1,1+(nextV (nextV a.2 3).2 200).1),(nextV (nextV a.2 3).2 200).2)
  else if a.1=3 then (odOpaque x (!nHost x&&decide (i%2=1)),a.2)
  else if a.1=4 then (odSource x 2,a.2)
  else if a.1=5 then (odLoop x (167903232+i) 3,a.2)
  else if a.1=6 then (odFixed x (167837696+(nextV a.2 40).1) 4,(nextV a.2 40).2)
  else (x,a.2)
def odNode (x:Node) (i:Int) (c:Codes):Node×Codes :=
  let y:=odWay x i c
  (odIds y.1 (nextV y.2 6).1 (nextV (nextV y.2 6).2 65536).1 (nextV (nextV (nextV y.2 6).2 65536).2 1000).1,(nextV (nextV (nextV y.2 6).2 65536).2 1000).2)
def odNodes (s:List Node×Codes) (i:Nat):List Node×Codes:=(s.1.set i (odNode (s.1.getD i default) i s.2).1,(odNode (s.1.getD i default) i s.2).2)
def odLink (l:Link) (c:Codes):Link×Codes :=
  let a:=nextV c 6
  if a.1=1 then ((l.1,l.2.1,l.2.2.1,(nextV a.2 10).1,l.2.2.2.2),(nextV a.2 10).2)
  else if a.1=2 then ((l.1,l.2.1,l.2.2.1,l.2.2.2.1,([65536,20000,3]:List Int).getD (nextV a.2 3).1.toNat default,l.2.2.2.2.2),(nextV a.2 3).2)
  else (l,a.2)
def odClear (ns:List Node) (l:Link):List Node :=
  if nOpaque (ns.getD (lA l).toNat default)=true/\nOpaque (ns.getD (lB l).toNat default)=true then ns.set (lB l).toNat (odOpaque (ns.getD (lB l).toNat default) false) else ns
def odLinks (s:(List Node×List Link)×Codes) (i:Nat):(List Node×List Link)×Codes :=
  let r:=odLink (s.1.2.getD i default) s.2
  ((odClear s.1.1 r.1,s.1.2.set i r.1),r.2)
def odChange (ns:List Node) (s:List Change×Int×Codes):List Change×Int×Codes :=
  let a:=nextV s.2.2 60
  let at':=s.2.1+a.1
  let w:=nextV a.2 ns.length
  let x:=ns.getD w.1.toNat default
  if (nRoutes x).length=0 then (s.1,at',w.2)
  else
    let r:=nextV w.2 (nRoutes x).length
    let p:=nextV r.2 (nPorts x).length
    let z:=nextV p.2 4
    let rt:=(nRoutes x).getD r.1.toNat default
    (s.1++[(at',w.1,false,(rt.1,if z.1=3 then [] else [((nPorts x).getD p.1.toNat default).2],rt.2.2))],at',z.2)
def oddS (s:Scene):Scene :=
  let n:=(List.range s.1.1.length).foldl odNodes (s.1.1,s.2)
  let l:=(List.range s.1.2.1.length).foldl odLinks ((n.1,s.1.2.1),n.2)
  let k:=nextV l.2 4
  let h:=(List.range k.1.toNat).foldl (fun s _=>odChange l.1.1 s) ([],0,k.2)
  ((l.1.1,l.1.2,h.1),h.2.2)
def chainS (s:Scene) (k:Nat):Scene:=linkS (nodeS s false) k (k+1)
def shortS (n:Int) (s:Scene):Scene :=
  let a:=nextV s.2 n
  let b:=nextV a.2 n
  if a.1=b.1 then (s.1,b.2) else linkS (s.1,b.2) (1+a.1) (1+b.1)
def lineS (c:Codes):Int×Scene :=
  let a:=nodeS (([],[],[]),c) true
  let m:=nextV a.2 5
  let s:=(List.range (1+m.1).toNat).foldl chainS (a.1,m.2)
  (1+m.1,linkS (nodeS s true) (1+m.1) (1+m.1+1))
def moreS (plain:Bool) (n:Int) (s:Scene):Scene :=
  let k:=nextV s.2 4
  let s1:=if 1<n/\plain=false then (List.range k.1.toNat).foldl (fun s _=>shortS n s) (s.1,k.2) else (s.1,k.2)
  if plain=true/\2<n then
    if (nextV s1.2 2).1=1 then linkS (s1.1,(nextV (nextV s1.2 2).2 (n-1)).2) (1+(nextV (nextV s1.2 2).2 (n-1)).1) n else (s1.1,(nextV s1.2 2).2)
  else s1
def netS (plain:Bool) (c:Codes):Scene :=
  let s:=routesS (moreS plain (lineS c).1 (lineS c).2) plain
  if plain then s else oddS s
def netV (plain:Bool) (c:Codes):Net:=(netS plain c).1
def netC (plain:Bool) (c:Codes):Codes:=(netS plain c).2
end Go.RS

/- Topo: networks: their errors and their parts. -/
namespace Go.RS
open Go.SX Go.Proofs
set_option maxRecDepth 100000
set_option linter.unusedVariables false
def adrs (x:Node):List Int:=pAddrs x++(if nLoop x=0 then [] else [nLoop x])
def otherV (ls:List Link) (k x:Int):Int:=if k<0∨(ls.length:Int)<=k then -1 else if x=lA (ls.getD k.toNat default) then lB (ls.getD k.toNat default) else if x=lB (ls.getD k.toNat default) then lA (ls.getD k.toNat default) else -1
def deafL (ns:List Node) (l:Link):Bool:=nOpaque (ns.getD (lA l).toNat default)&&nOpaque (ns.getD (lB l).toNat default)
def loose (n:Net) (k:Nat):Bool:=decide (portL (n.1.getD (lA (n.2.1.getD k default)).toNat default) k<0)||decide (portL (n.1.getD (lB (n.2.1.getD k default)).toNat default) k<0)
end Go.RS

/- Topod: what the errors of networks, their parts and their routes at a time are: plain. -/
namespace Go.RS
open Go.SX Go.Proofs
set_option maxRecDepth 100000
set_option linter.unusedVariables false
theorem chk_is {links:List Int}:∀ {l:List Rt} {q:Option Pfx},chk links q l=0->sortedR l/\(∀ p,q=some p→∀ r∈l,plt p r.1)∧∀ r∈l,pValid r.1=true/\rightR r links
  | [],q,_=>⟨List.Pairwise.nil,fun _ _ r hr=>(by cases hr),fun r hr=>(by cases hr)⟩
  | r::l,q,h=>by
    rw [chk] at h
    split at h
    · cases h
    rename_i h1
    split at h
    · cases h
    rename_i h2
    split at h
    · cases h
    rename_i h3
    obtain ⟨i1,i2,i3⟩:=chk_is h
    have hv:pValid r.1=true:=by cases hh:pValid r.1 <;> simp_all
    have hp:∀ p,q=some p->plt p r.1:=fun p hp=>by
      subst hp
      rw [Option.any_some] at h2
      have:¬ (0<=pcmp p r.1):=by simpa using h2
      exact pcmp_neg.1 (by omega)
    refine ⟨List.pairwise_cons.2 ⟨i2 _ rfl,i1⟩,fun p e z hz => ?_,fun z hz => ?_⟩
    · rcases List.mem_cons.1 hz with rfl|hz
      · exact hp p e
      · exact plt_trans (hp p e) (i2 _ rfl z hz)
    · rcases List.mem_cons.1 hz with rfl|hz
      · exact ⟨hv,Classical.byContradiction h3⟩
      · exact i3 z hz
theorem check_is {l:List Rt} {links:List Int} (h:check l links=0):sortedR l/\l.length<=64∧∀ r∈l,pValid r.1=true/\rightR r links:=by
  unfold check at h
  split at h
  · cases h
  · rename_i hl
    have k:=chk_is h
    exact ⟨k.1,by omega,k.2.2⟩
theorem check_okL {l:List Rt} {links:List Int} (h:check l links=0):sortedR l/\okL l:=by
  obtain ⟨h1,h2,h3⟩:=check_is h
  exact ⟨h1,by omega,fun r hr=>by have:=(h3 r hr).2.1.1;omega⟩
def hAt (c:Change):Int:=c.1
def hWho (c:Change):Int:=c.2.1
def hRem (c:Change):Bool:=c.2.2.1
def hRoute (c:Change):Rt:=c.2.2.2
def chV (l:List Rt) (c:Change):List Rt:=if hRem c=true then removeL l (hRoute c).1 else putL l (hRoute c)
theorem getD_memN {α:Type} [Inhabited α] {xs:List α} {i:Nat} (h:i<xs.length):xs.getD i default∈xs:=by
  have:=getD_mem (xs:=xs) (i:=(i:Nat)) (by omega) (by omega)
  simpa using this
def stepC (who at':Int) (l:List Rt) (c:Change):List Rt:=if hWho c=who/\hAt c<=at' then chV l c else l
def routesK (n:Net) (who at':Int) (k:Int):List Rt:=(n.2.2.take k.toNat).foldl (stepC who at') (nRoutes (n.1.getD who.toNat default))
def routesV (n:Net) (who at':Int):List Rt:=if who<0∨(n.1.length:Int)<=who then [] else routesK n who at' n.2.2.length
structure okTb (m:Nat) (l:List Rt):Prop where
  s:sortedR l
  n:l.length<=m
  x:∀ r∈l,(r.2.1.length:Int)<=1099511627776
theorem okTb.okL {m:Nat} {l:List Rt} (h:okTb m l) (hm:m<=100000):okL l:=⟨by have:=h.n;omega,h.x⟩
end Go.RS

/- Node2: a node's state; what a node does, in the program and in the reference. -/
namespace Go.RS
open Go.SX Go.Proofs
set_option maxRecDepth 100000
set_option linter.unusedVariables false
def startV (x:Node):NState:=(nRoutes x,0,List.replicate (nPorts x).length 0,bFull (nLimit x) 0,0)
def okTk (b t:Int×Int):Prop:=(0<=t.2/\t.2<=1125899906842624)/\(b=(0,0)->t.1=0)/\(b≠(0,0)->0<=t.1/\t.1<=b.1*b.2)
structure StOK (x:Node) (s:NState) (K:Int):Prop where
  srt:sortedR (sRoutes s)
  okl:okL (sRoutes s)
  rt:∀ r∈sRoutes s,rightR r (pLinks x)
  ps:(sPortSent s).length=(nPorts x).length
  tk:okTk (nLimit x) (sTokens s)
  cn:0<=sSent s/\sSent s<=K
  cp:∀ y∈sPortSent s,0<=y/\y<=K
theorem bCheck_prod {b:Int×Int} (h:bCheck b=0):b=(0,0)∨(1<=b.1/\b.1<=65536/\1<=b.2/\b.2<=1073741824/\b.2<=b.1*b.2/\b.1*b.2<=70368744177664):=by
  unfold bCheck at h
  split at h
  · rename_i hh
    rcases hh with hh|⟨h1,h2,h3,h4⟩
    · exact .inl hh
    · refine .inr ⟨h1,h2,h3,h4,?_,?_⟩
      · have:=Int.mul_le_mul_of_nonneg_right (a:=1) (b:=b.1) (c:=b.2) h1 (by omega);omega
      · have:=Int.mul_le_mul (a:=b.1) (b:=b.2) (c:=65536) (d:=1073741824) h2 h4 (by omega) (by omega);omega
  · cases h
theorem bFull_w {b:Int×Int} (h:bCheck b=0) (x:Int):bFull b x=(b.1*b.2,x):=by
  rcases bCheck_prod h with rfl|hh
  · rfl
  · unfold bFull w;rw [w64 (by omega) (by omega)]
structure NodeOK (x:Node):Prop where
  n1:1<=(nPorts x).length
  n32:(nPorts x).length<=32
  id:idCheck x=0
  bk:bCheck (nLimit x)=0
  rt:check (nRoutes x) (pLinks x)=0
  loop:¬ loopBad x
  ports:∀ i,i<(nPorts x).length->portBad x i=0
  form:¬ formBad x
theorem nodeV_ok {x:Node} (h:nodeV x=0):NodeOK x:=by
  unfold nodeV at h
  split at h
  · cases h
  rename_i a1
  split at h
  · rename_i k;exact absurd h k
  rename_i a2
  split at h
  · cases h
  rename_i a3
  split at h
  · cases h
  rename_i a4
  split at h
  · rename_i k;exact absurd h k
  rename_i a5
  split at h
  · rename_i k;exact absurd h k
  rename_i a6
  refine ⟨?_,by omega,by simpa using a5,by simpa using a6,h,a3,first_zero (by simpa using a2),a4⟩
  by_cases k:(nPorts x).length=0
  · exact absurd (.inr (.inr (.inr (.inr (.inr (.inr k)))))) a4
  · omega
theorem bump_ok {l:List Int} {K i:Int} (h:∀ y∈l,0<=y/\y<=K) (hK:0<=K/\K<=2199023255552) (h0:0<=i):(bump l i).length=l.length∧∀ y∈bump l i,0<=y/\y<=K+1:=by
  unfold bump
  split
  · rename_i hi
    refine ⟨List.length_set,fun y hy => ?_⟩
    rcases List.mem_or_eq_of_mem_set hy with hy|rfl
    · have:=h y hy;omega
    · have:=h _ (getD_mem h0 hi)
      rw [w64 (by omega) (by omega)];omega
  · exact ⟨rfl,fun y hy=>by have:=h y hy;omega⟩
theorem StOK.more {x:Node} {s:NState} {K K':Int} (h:StOK x s K) (hk:K<=K'):StOK x s K' :=
  ⟨h.srt,h.okl,h.rt,h.ps,h.tk,by have:=h.cn;omega,fun y hy=>by have:=h.cp y hy;omega⟩
theorem StOK.bal {x:Node} {s:NState} {K:Int} (h:StOK x s K) (b:Int):StOK x (setBal s b) K:=⟨h.srt,h.okl,h.rt,h.ps,h.tk,h.cn,h.cp⟩
theorem StOK.pick {x:Node} {s:NState} {K:Int} (h:StOK x s K) (r:Rt):StOK x (pickS s r) K:=by
  unfold pickS;split
  · exact h
  · exact h.bal _
theorem StOK.sent {x:Node} {s:NState} {K i:Int} (h:StOK x s K) (hK:0<=K/\K<=2199023255552) (h0:0<=i):StOK x (sentS s i) (K+1):=by
  obtain ⟨b1,b2⟩:=bump_ok h.cp hK h0
  refine ⟨h.srt,h.okl,h.rt,b1.trans h.ps,h.tk,?_,b2⟩
  have:=h.cn
  show 0<=IntKind.i64.wrap (sSent s+1)/\IntKind.i64.wrap (sSent s+1)<=K+1
  rw [w64 (by omega) (by omega)];omega
theorem start_ok {x:Node} (hx:NodeOK x):StOK x (startV x) 0:=by
  obtain ⟨h1,h2⟩:=check_okL hx.rt
  obtain ⟨-,-,h3⟩:=check_is hx.rt
  refine ⟨h1,h2,fun r hr=>(h3 r hr).2,List.length_replicate,?_,⟨Int.le_refl _,Int.le_refl _⟩,fun y hy=>by rw [List.eq_of_mem_replicate hy];exact ⟨Int.le_refl _,Int.le_refl _⟩⟩
  show okTk (nLimit x) (bFull (nLimit x) 0)
  rw [bFull_w hx.bk]
  refine ⟨⟨by simp,by simp⟩,fun k=>by rw [k];rfl,fun k => ?_⟩
  have:=(bCheck_prod hx.bk).resolve_left k
  exact ⟨by show 0<=_*_;omega,Int.le_refl _⟩
def ct_node_routes:Ct:=⟨[.val (.sl cRt)],[.own 87 cRt],fun d=>[okL d.1],fun d=>((d.1,()),())⟩
def an_node_routes:PDs ct_node_routes.ps->Anns:=(fun d=>{loops:=(fun n=>match n with|3=>some (fun S=>{ι:=Int,μ:=fun i=>(d.1.length-i).toNat,inv:=fun i=>0<=i/\i<=d.1.length,keep:=[3,8,9],slots:=fun i=>[(10,.int .i64 i)],keepN:=[128],names:=fun i=>[]})|_=>none)})
def Qbx1 (a:List Route) :=
 a.length<=maxLen/\ ∀(b:Route),b∈a->((0<=b.1.1/\b.1.1<=4294967295)/\R64 b.1.2)/\(b.2.1.length<=maxLen/\ ∀(c:Int),c∈b.2.1->R64 c)/\R64 b.2.2
def Qbx2 (a:List Route) :=
 (a.length:Int)
theorem vc_node_routes :
 ∀(a:List Route),(Qbx1 a)/\True->((Qbx2 a)<=134217728/\ ∀(b:Rt),b∈a->(b.2.1.length:Int)<=1099511627776)->(Qbx2 a)<=134217728/\(∃(b:Int),(0<=b/\b<=(Qbx2 a))/\(Qbx2 a)=(Qbx2 a)/\(0:Int)=b/\a=a/\True)/\ ∀(b:Int),0<=b/\b<=(Qbx2 a)->ifP (decide (b<(Qbx2 a))) (0<=b/\b<(Qbx2 a)/\((List.length (a.getD b.toNat default).2.1):Int)<=1099511627776/\0<=b/\b<(Qbx2 a)/\ ∃(c:Int),(0<=c/\c<=(Qbx2 a))/\Int.toNat ((Qbx2 a) -c)<Int.toNat ((Qbx2 a) -b)/\(Qbx2 a)=(Qbx2 a)/\IntKind.wrap .i64 (b+(1:Int))=c/\List.set a b.toNat (a.getD b.toNat default)=a/\True) (a=a):=by
  delta Qbx1 Qbx2
  rintro l ⟨⟨hl,-⟩,-⟩ ⟨h1,h2⟩
  simp only [maxLen] at hl
  refine ⟨h1,⟨0,⟨by omega,by omega⟩,(by repeat' first|exact trivial|refine ⟨trivial,?_⟩|refine ⟨(by with_reducible rfl),?_⟩|refine ⟨w64 (by omega) (by omega),?_⟩|refine ⟨rfl,?_⟩)⟩,?_⟩
  rintro j ⟨j0,j1⟩
  refine ifP_split (fun hj => ?_) (fun hj => ?_)
  · have hj:=of_decide_eq_true hj
    refine ⟨j0,hj,h2 _ (getD_mem j0 hj),j0,hj,j+1,⟨by omega,by omega⟩,by omega,?_⟩
    (repeat first|refine ⟨trivial,?_⟩|refine ⟨(by with_reducible rfl),?_⟩|refine ⟨w64 (by omega) (by omega),?_⟩)
    exact ⟨set_getD j0 hj,trivial⟩
  · rfl
theorem ok_node_routes:SpecOK Tryz.prog GL 63 ct_node_routes.spec:=Ct.okH _ Tryz.func63 (by kernel_rfl) (withSpec_ok (withSpec_ok noSpecs_ok ok_CloneRtN) ok_slices_Clone_263e) hmix an_node_routes (hideMp (by kernel_rfl) vc_node_routes)
def ct_node_Start:Ct:=⟨[.agg cNode],[.agg cState],fun d=>[okL (nRoutes d.1),((nPorts d.1).length:Int)<=1000000],fun d=>((startV d.1,()),())⟩
def an_node_Start:PDs ct_node_Start.ps->Anns:=(fun _=>{})
def Qbx0 (a:Node) :=
 (a.2.2.2.2.1,(0:Int),List.replicate (Int.toNat (a.1.length:Int)) (0:Int),(w (a.2.2.2.2.2.2.2.2.2.2.1.1*a.2.2.2.2.2.2.2.2.2.2.1.2),(0:Int)),(0:Int))=startV a
theorem vc_node_Start :
 ∀(a:Node),CT.wf cNode a/\True->okL (nRoutes a)/\((List.length (nPorts a)):Int)<=1000000->0<=(a.1.length:Int)/\(a.1.length:Int)<=(a.1.length:Int)/\(↑(8:Nat):Int)*(a.1.length:Int)<=281474976710656/\okL a.2.2.2.2.1/\(Qbx0 a):=by
  delta Qbx0
  rintro d-⟨h,hl⟩
  have hl:(d.1.length:Int)<=1000000:=hl
  exact ⟨by omega,by omega,by omega,h,rfl⟩
theorem ok_node_Start:SpecOK Tryz.prog GL 21 ct_node_Start.spec:=Ct.okH _ Tryz.func21 (by kernel_rfl) (withSpec_ok (withSpec_ok noSpecs_ok ok_bucket_Full) ok_node_routes) hmix an_node_Start (hideMp (by kernel_rfl) vc_node_Start)
def ct_node_Handle:Ct:=⟨[.agg cNode,.agg cState,.val cI,.val cI,.val (.sl cU8)],[.agg cState,.agg cOut,.val cI],fun d=>[sortedR (sRoutes d.2.1),okL (sRoutes d.2.1),((sPortSent d.2.1).length:Int)<=1000000,(d.2.2.2.2.1.length:Int)<=1000000],fun d=>(((handleV d.1 d.2.1 d.2.2.1 d.2.2.2.1 d.2.2.2.2.1).1,(handleV d.1 d.2.1 d.2.2.1 d.2.2.2.1 d.2.2.2.2.1).2.1,(handleV d.1 d.2.1 d.2.2.1 d.2.2.2.1 d.2.2.2.2.1).2.2,()),())⟩
def an_node_Handle:PDs ct_node_Handle.ps->Anns:=(fun _=>{})
def Qbx4 (a:Node) (b:List Route) (c:Int) (d:List Int) (e f g h i:Int) (j:List Int) :=
 (a,(b,c,d,(e,f),g),h,i,j,(0:Int),(0:Int),(0:Int),(0:Int),false,(0:Int),(0:Int))
theorem vc_node_Handle :
 ∀(a:Node) (b:List Route) (c:Int) (d:List Int) (e f g h i:Int) (j:List Int),CT.wf cNode a/\((b.length<=maxLen/\ ∀(k:Route),k∈b->((0<=k.1.1/\k.1.1<=4294967295)/\R64 k.1.2)/\(k.2.1.length<=maxLen/\ ∀(l:Int),l∈k.2.1->R64 l)/\R64 k.2.2)/\R64 c/\(d.length<=maxLen/\ ∀(k:Int),k∈d->R64 k)/\(R64 e/\R64 f)/\R64 g)/\R64 h/\R64 i/\(j.length<=maxLen/\ ∀(k:Int),k∈j->0<=k/\k<=255)/\True->sortedR (sRoutes (b,c,d,(e,f),g))/\okL (sRoutes (b,c,d,(e,f),g))/\((List.length (sPortSent (b,c,d,(e,f),g))):Int)<=1000000/\(j.length:Int)<=1000000->(d.length:Int)<=1099511627776/\okL b/\okW (Qbx4 a b c d e f g h i j)/\(hdV (Qbx4 a b c d e f g h i j)).1=(handleV a (b,c,d,(e,f),g) h i j).1/\(hdV (Qbx4 a b c d e f g h i j)).2.1=(handleV a (b,c,d,(e,f),g) h i j).2.1/\(hdV (Qbx4 a b c d e f g h i j)).2.2=(handleV a (b,c,d,(e,f),g) h i j).2.2:=by
  delta Qbx4
  rintro d x x1 x2 x3 x4 x5 x6 x7 x8-⟨hs,hl,hp,hb⟩
  have e2:sPortSent (x,x1,x2,(x3,x4),x5)=x2:=rfl
  rw [e2] at hp
  exact ⟨by omega,hl,⟨hs,hl,hb⟩,rfl,rfl,rfl⟩
theorem ok_node_Handle:SpecOK Tryz.prog GL 24 ct_node_Handle.spec:=Ct.okH _ Tryz.func24 (by kernel_rfl) (withSpec_ok (withSpec_ok (withSpec_ok noSpecs_ok ok_slices_Clone_263e) ok_node_routes) ok_node_work_handle) hmix an_node_Handle (hideMp (by kernel_rfl) vc_node_Handle)
def ct_ref12_Full:Ct:=⟨[.agg cBucket,.val cI],[.agg cTokens],fun _=>[],fun d=>((bFull d.1 d.2.1,()),())⟩
def an_ref12_Full:PDs ct_ref12_Full.ps->Anns:=(fun _=>{})
theorem vc_ref12_Full :
 ∀(a b c:Int),(R64 a/\R64 b)/\R64 c/\True->True->(IntKind.wrap .i64 (a*b),c)=bFull (a,b) c:=by
  intros;rfl
theorem ok_ref12_Full:SpecOK Tryz.prog GL 64 ct_ref12_Full.spec:=Ct.okH _ Tryz.func64 (by kernel_rfl) noSpecs_ok hmix an_ref12_Full (hideMp (by kernel_rfl) vc_ref12_Full)
def ct_ref09_Copy:Ct:=⟨[.val (.sl cRt)],[.own 87 cRt],fun d=>[okL d.1],fun d=>((d.1,()),())⟩
def an_ref09_Copy:PDs ct_ref09_Copy.ps->Anns:=(fun d=>{loops:=(fun n=>match n with|3=>some (fun S=>{ι:=Int×(List Rt),qn:=⟨fun k_=>∀ (j:Int) (l:(List Rt)),k_ (j,l),fun k_ h_ i=>h_ i.1 i.2,fun k_=>∃ (j:Int) (l:(List Rt)),k_ (j,l),fun k_ ⟨j,l,h_⟩=>⟨_,h_⟩⟩,μ:=fun i=>(d.1.length-i.1).toNat,inv:=fun i=>0<=i.1/\i.1<=d.1.length/\i.2=d.1.take i.1.toNat,keep:=[0],slots:=fun i=>[(3,.own 524288 4),(4,.int .i64 i.1)],names:=fun i=>[(524288,.live (.row 87 cRt i.2))]})|_=>none)})
theorem vc_ref09_Copy :
 ∀(a:List Route),(Qbx1 a)/\True->((Qbx2 a)<=134217728/\ ∀(b:Rt),b∈a->(b.2.1.length:Int)<=1099511627776)->(∃(b:Int) (c:List Rt),(0<=b/\b<=(Qbx2 a)/\c=List.take b.toNat a)/\a=a/\(0:Int)=b/\c=([]:List Route)/\True)/\ ∀(b:Int) (c:List Rt),0<=b/\b<=(Qbx2 a)/\c=List.take b.toNat a->ifP (decide (b<(Qbx2 a))) (0<=b/\b<(Qbx2 a)/\((List.length (a.getD b.toNat default).2.1):Int)<=1099511627776/\(c.length+List.length [a.getD b.toNat default])*(48:Nat)<=(140737488355328:Nat)/\ ∃(d:Int) (e:List Rt),(0<=d/\d<=(Qbx2 a)/\e=List.take d.toNat a)/\Int.toNat ((Qbx2 a) -d)<Int.toNat ((Qbx2 a) -b)/\a=a/\IntKind.wrap .i64 (b+(1:Int))=d/\c++[a.getD b.toNat default]=e/\True) (c=a):=by
  delta Qbx1 Qbx2
  rintro l ⟨⟨hl,-⟩,-⟩ ⟨h1,h2⟩
  simp only [maxLen] at hl
  refine ⟨⟨0,[],⟨by omega,by omega,rfl⟩,(by repeat' first|exact trivial|refine ⟨trivial,?_⟩|refine ⟨(by with_reducible rfl),?_⟩|refine ⟨w64 (by omega) (by omega),?_⟩|refine ⟨rfl,?_⟩)⟩,?_⟩
  rintro j m ⟨j0,j1,rfl⟩
  refine ifP_split (fun hj => ?_) (fun hj => ?_)
  · have hj:=of_decide_eq_true hj
    refine ⟨j0,hj,h2 _ (getD_mem j0 hj),by simp only [List.length_take,List.length_cons,List.length_nil];omega,j+1,_,⟨by omega,by omega,rfl⟩,by omega,?_⟩
    (repeat first|refine ⟨trivial,?_⟩|refine ⟨(by with_reducible rfl),?_⟩|refine ⟨w64 (by omega) (by omega),?_⟩)
    exact ⟨(take_step j0 hj).symm,trivial⟩
  · have hj:=of_decide_eq_false hj
    rw [List.take_of_length_le (by omega)]
theorem ok_ref09_Copy:SpecOK Tryz.prog GL 46 ct_ref09_Copy.spec:=Ct.okH _ Tryz.func46 (by kernel_rfl) (withSpec_ok noSpecs_ok ok_ref09_copied) hmix an_ref09_Copy (hideMp (by kernel_rfl) vc_ref09_Copy)
def ct_ref13_Start:Ct:=⟨[.agg cNode],[.agg cState],fun d=>[okL (nRoutes d.1),((nPorts d.1).length:Int)<=1000000],fun d=>((startV d.1,()),())⟩
def an_ref13_Start:PDs ct_ref13_Start.ps->Anns:=(fun _=>{})
theorem vc_ref13_Start :
 ∀(a:Node),CT.wf cNode a/\True->okL (nRoutes a)/\((List.length (nPorts a)):Int)<=1000000->okL a.2.2.2.2.1/\0<=(a.1.length:Int)/\(a.1.length:Int)<=(a.1.length:Int)/\(↑(8:Nat):Int)*(a.1.length:Int)<=281474976710656/\(Qbx0 a):=by
  delta Qbx0
  rintro d-⟨h,hl⟩
  have hl:(d.1.length:Int)<=1000000:=hl
  exact ⟨h,by omega,by omega,by omega,rfl⟩
theorem ok_ref13_Start:SpecOK Tryz.prog GL 22 ct_ref13_Start.spec:=Ct.okH _ Tryz.func22 (by kernel_rfl) (withSpec_ok (withSpec_ok noSpecs_ok ok_ref12_Full) ok_ref09_Copy) hmix an_ref13_Start (hideMp (by kernel_rfl) vc_ref13_Start)
def ct_ref13_SameInts:Ct:=⟨[.val (.sl cI),.val (.sl cI)],[.val .bool],fun d=>[],fun d=>((decide (d.1=d.2.1),()),())⟩
def an_ref13_SameInts:PDs ct_ref13_SameInts.ps->Anns:=(fun d=>{loops:=(fun n=>match n with|4=>some (fun S=>{ι:=Int,μ:=fun i=>(d.1.length-i).toNat,inv:=fun i=>0<=i/\i<=d.1.length/\d.1.take i.toNat=d.2.1.take i.toNat,keep:=[0,1],slots:=fun i=>[(5,.int .i64 i)],names:=fun i=>[]})|_=>none)})
theorem vc_ref13_SameInts :
 ∀(a b:List Int),(a.length<=maxLen/\ ∀(c:Int),c∈a->R64 c)/\(b.length<=maxLen/\ ∀(c:Int),c∈b->R64 c)/\True->True->ifP (! decide ((a.length:Int)=(b.length:Int))) (false=decide (a=b)) ((∃(c:Int),(0<=c/\c<=(a.length:Int)/\List.take c.toNat a=List.take c.toNat b)/\a=a/\b=b/\(0:Int)=c/\True)/\ ∀(c:Int),0<=c/\c<=(a.length:Int)/\List.take c.toNat a=List.take c.toNat b->ifP (decide (c<(a.length:Int))) (0<=c/\c<(a.length:Int)/\0<=c/\c<(b.length:Int)/\ifP (! decide (a.getD c.toNat default=b.getD c.toNat default)) (false=decide (a=b)) (∃(d:Int),(0<=d/\d<=(a.length:Int)/\List.take d.toNat a=List.take d.toNat b)/\Int.toNat ((a.length:Int) -d)<Int.toNat ((a.length:Int) -c)/\a=a/\b=b/\IntKind.wrap .i64 (c+(1:Int))=d/\True)) (true=decide (a=b))):=by
  rintro x y ⟨⟨hl,-⟩,⟨hm,-⟩,-⟩ -
  simp only [maxLen] at hl hm
  refine ifP_split (fun h => ?_) (fun h => ?_)
  · have h:=nd_t h
    symm;apply decide_eq_false
    rintro rfl;exact h rfl
  have h:=nd_f h
  refine ⟨⟨0,⟨by omega,by omega,by simp⟩,(by repeat' first|exact trivial|refine ⟨trivial,?_⟩|refine ⟨(by with_reducible rfl),?_⟩|refine ⟨w64 (by omega) (by omega),?_⟩|refine ⟨rfl,?_⟩)⟩,?_⟩
  rintro j ⟨j0,j1,hj⟩
  refine ifP_split (fun hk => ?_) (fun hk => ?_)
  · have hk:=of_decide_eq_true hk
    refine ⟨j0,hk,j0,by omega,ifP_split (fun q => ?_) (fun q => ?_)⟩
    · have q:=nd_t q
      symm;apply decide_eq_false
      rintro rfl;exact q rfl
    · exact ⟨j+1,⟨by omega,by omega,take_same j0 hk (by omega) hj (nd_f q)⟩,by omega,(by repeat' first|exact trivial|refine ⟨trivial,?_⟩|refine ⟨(by with_reducible rfl),?_⟩|refine ⟨w64 (by omega) (by omega),?_⟩|refine ⟨rfl,?_⟩)⟩
  · have hk:=of_decide_eq_false hk
    rw [List.take_of_length_le (by omega),List.take_of_length_le (by omega)] at hj
    rw [hj];simp
theorem ok_ref13_SameInts:SpecOK Tryz.prog GL 60 ct_ref13_SameInts.spec:=Ct.okH _ Tryz.func60 (by kernel_rfl) noSpecs_ok hmix an_ref13_SameInts (hideMp (by kernel_rfl) vc_ref13_SameInts)
def ct_ref13_SameState:Ct:=⟨[.agg cState,.agg cState],[.val .bool],fun d=>[],fun d=>((decide (d.1=d.2.1),()),())⟩
def an_ref13_SameState:PDs ct_ref13_SameState.ps->Anns:=(fun _=>{})
def Qbx3 (m:Route) :=
 ((0<=m.1.1/\m.1.1<=4294967295)/\R64 m.1.2)/\(m.2.1.length<=maxLen/\ ∀(n:Int),n∈m.2.1->R64 n)/\R64 m.2.2
theorem vc_ref13_SameState :
 ∀(a:List Route) (b:Int) (c:List Int) (d e f:Int) (g:List Route) (h:Int) (i:List Int) (j k l:Int),((a.length<=maxLen/\ ∀(m:Route),m∈a->(Qbx3 m))/\R64 b/\(c.length<=maxLen/\ ∀(m:Int),m∈c->R64 m)/\(R64 d/\R64 e)/\R64 f)/\((g.length<=maxLen/\ ∀(m:Route),m∈g->(Qbx3 m))/\R64 h/\(i.length<=maxLen/\ ∀(m:Int),m∈i->R64 m)/\(R64 j/\R64 k)/\R64 l)/\True->True-> ∀(m:Bool),m=decide (b=h)->(m->(m->m)/\True)/\(m->(m->m)/\True)/\(m->(m->m)/\(m->m)/\True)/\(m->m)/\ ∀(n:Bool),(n=bif m then decide (d=j)&&(decide (e=k)&&true) else false)->(n->(n->n)/\True)/\(n->(n->n)/\True)/\(n->(n->n)/\(n->n)/\True)/\(n->n)/\ ∀(o:Bool),(o=bif n then decide (f=l) else false)->(o->(o->o)/\True)/\(o->(o->o)/\True)/\(o->(o->o)/\(o->o)/\True)/\(o->o)/\ ∀(p:Bool),(p=bif o then decide (c=i) else false)->(p->(p->p)/\True)/\(p->(p->p)/\True)/\(p->(p->p)/\(p->p)/\True)/\(p->p)/\(bif p then decide (a=g) else false)=decide
 ((a,b,c,(d,e),f)=(g,h,i,(j,k),l)):=by
  delta Qbx3
  rintro x x1 x2 x3 x4 x5 y y1 y2 y3 y4 y5 - -
  (repeat (intro (b_:Bool) (hb_:b_=_);(repeat refine ⟨(by first|(simp;done)|(rw [hb_];simp;done)|(rw [hb_];simp;omega)|(rw [hb_];simp;intros;omega)|(rw [hb_];simp +contextual;done)),?_⟩);subst hb_))
  rw [Bool.eq_iff_iff]
  simp only [Bool.cond_eq_ite,Bool.if_false_right,Bool.and_eq_true,decide_eq_true_eq,Bool.and_true,Prod.mk.injEq]
  constructor
  · rintro ⟨⟨⟨⟨h1,h2,h3⟩,h4⟩,h5⟩,h6⟩;exact ⟨h6,h1,h5,⟨h2,h3⟩,h4⟩
  · rintro ⟨h6,h1,h5,⟨h2,h3⟩,h4⟩;exact ⟨⟨⟨⟨h1,h2,h3⟩,h4⟩,h5⟩,h6⟩
theorem ok_ref13_SameState:SpecOK Tryz.prog GL 20 ct_ref13_SameState.spec:=Ct.okH _ Tryz.func20 (by kernel_rfl) (withSpec_ok (withSpec_ok noSpecs_ok ok_ref13_SameInts) ok_ref09_Same) hmix an_ref13_SameState (hideMp (by kernel_rfl) vc_ref13_SameState)
end Go.RS

/- Law08: the laws of answers. -/
namespace Go.RS
open Go.SX Go.Proofs
set_option maxRecDepth 100000
set_option linter.unusedVariables false
structure Good (p:Probe):Prop where
  ok:probeErr p=0
  s:u32 p.1
  d:u32 p.2.1
theorem Good.len {p:Probe} (g:Good p):((p.2.2.1≠6/\(build p).length=30)∨(p.2.2.1=6/\(build p).length=40)):=by
  rw [build_eq g.ok,List.length_append,hdrB_len]
  rcases con_len g.ok with h|h
  · exact .inl ⟨h.1,by rw [h.2]⟩
  · exact .inr ⟨h.1,by rw [h.2]⟩
structure IsAns (p:Probe) (a:Ans) (x:List Int):Prop where
  no:¬ ansOK x
  rd:readA x=(noT p 0,a)
  re:readAE x=0
  len:x.length<=1500
theorem Good.t1 {p:Probe} (g:Good p) (t:Int) (h:1<=t/\t<=255):probeErr (noT p t)=0:=by
  obtain ⟨h1,h2,h3,-⟩:=probe_ok.1 g.ok
  exact probe_ok.2 ⟨h1,h2,h3,h⟩
def answered (p:Probe) (x:List Int):Prop:=(¬ usable p.1->x=[])/\(usable p.1→∃ a:Ans,0<a.2.1/\IsAns p a x)
end Go.RS

/- Drawsome: an address of a network, drawn. -/
namespace Go.RS
open Go.SX Go.Proofs
set_option maxRecDepth 100000
set_option linter.unusedVariables false
def ct_draw_Codes_Some:Cn:=⟨[.box 96 cCodes,.agg cNet],[.val cU32],fun d=>[okC d.1],fun d y=>okC y.2.1/\0<=y.1.1/\y.1.1<=4294967295,fun d h=>⟨((0,()),(d.1,())),h.1,by simp,by simp⟩⟩
def an_draw_Codes_Some:PDs ct_draw_Codes_Some.ps->Anns:=(fun _=>{})
def Qbz0 (c:List Node) (f:Int) :=
 ((List.length (c.getD f.toNat default).1):Int)
theorem vc_draw_Codes_Some :
 ∀(a:List Int) (b:Int) (c:List Node) (d:List Link) (e:List Change),((a.length<=maxLen/\ ∀(f:Int),f∈a->0<=f/\f<=255)/\R64 b)/\((c.length<=maxLen/\ ∀(f:Node),f∈c->CT.wf cNode f)/\(d.length<=maxLen/\ ∀(f:Link),f∈d->CT.wf cLink f)/\e.length<=maxLen/\ ∀(f:Change),f∈e->CT.wf cChange f)/\True->0<=b/\b<=(a.length:Int)->ifP (decide ((c.length:Int)=0)) (okC (a,b)/\ ∀(f:Int) (g:List Int) (h:Int),okC (g,h)/\0<=f/\f<=4294967295->okC (g,h)/\0<=f/\f<=4294967295) (okC (a,b)/\ ∀(f:Int) (g:List Int) (h:Int),0<=f/\(f<(c.length:Int)∨f=0)/\okC (g,h)->0<=f/\f<(c.length:Int)/\ ∀(i:Bool),i=decide ((Qbz0 c f)=0)->ifP (! i) (((! i)->(! i))/\okC (g,h)/\ ∀(j:Int) (k:List Int) (l:Int),0<=j/\(j<12∨j=0)/\okC (k,l)->(i=false->(! i))/\ifP (bif i then true else decide (j=11)) (okC (k,l)/\ ∀(m:Int) (n:List Int) (o:Int),okC (n,o)/\0<=m/\m<=4294967295->okC (n,o)/\0<=m/\m<=4294967295) (okC (k,l)/\ ∀(m:Int) (n:List Int)
 (o:Int),0<=m/\(m<(Qbz0 c f)∨m=0)/\okC (n,o)->0<=m/\m<(Qbz0 c f)/\okC (n,o)/\0<=(List.getD (c.getD f.toNat default).1 m.toNat default).1/\(List.getD (c.getD f.toNat default).1 m.toNat default).1<=4294967295)) ((! i)=false/\(i=false->false=true)/\ifP (bif i then true else false) (okC (g,h)/\ ∀(j:Int) (k:List Int) (l:Int),okC (k,l)/\0<=j/\j<=4294967295->okC (k,l)/\0<=j/\j<=4294967295) (okC (g,h)/\ ∀(j:Int) (k:List Int) (l:Int),0<=j/\(j<(Qbz0 c f)∨j=0)/\okC (k,l)->0<=j/\j<(Qbz0 c f)/\okC (k,l)/\0<=(List.getD (c.getD f.toNat default).1 j.toNat default).1/\(List.getD (c.getD f.toNat default).1 j.toNat default).1<=4294967295))):=by
  delta Qbz0
  rintro l p ns ls hs ⟨-,⟨⟨hnl,hnw⟩,-⟩,-⟩ hc
  refine ifP_split (fun h => ?_) (fun h => ?_)
  · exact ⟨hc,fun x l2 p2 h=>h⟩
  have h:=of_decide_eq_false h
  refine ⟨hc,?_⟩
  rintro x l2 p2 ⟨x0,x1,hc2⟩
  have x1:x<(ns.length:Int):=by omega
  have hX:=hnw _ (getD_mem x0 x1)
  generalize ns.getD x.toNat default=X at hX ⊢
  have hp:=hX.1.2
  refine ⟨x0,x1,?_⟩
  intro b hb
  refine ifP_split (fun q => ?_) (fun q => ?_)
  · have hb0:b=false:=by simpa using q
    subst hb0
    have hne:=of_decide_eq_false hb.symm
    refine ⟨by simp,hc2,?_⟩
    rintro y l3 p3 ⟨y0,y1,hc3⟩
    rw [cond_false]
    (repeat refine ⟨by simp,?_⟩)
    refine ifP_split (fun q => ?_) (fun q => ?_)
    · exact ⟨hc3,fun x l2 p2 h=>h⟩
    · refine ⟨hc3,?_⟩
      rintro z l4 p4 ⟨z0,z1,hc4⟩
      have z1:z<(X.1.length:Int):=by omega
      have:=hp _ (getD_mem z0 z1)
      exact ⟨z0,z1,hc4,this.1⟩
  · have hb0:b=true:=by simpa using q
    subst hb0
    refine ⟨rfl,by simp,?_⟩
    rw [cond_true]
    exact ⟨hc2,fun x l2 p2 h=>h⟩
theorem ok_draw_Codes_Some:SpecOK Tryz.prog GL 15 ct_draw_Codes_Some.spec:=Cn.okH _ Tryz.func15 (by kernel_rfl) (withSpec_ok (withSpec_ok noSpecs_ok ok_Next) ok_draw_Codes_Address) hmix an_draw_Codes_Some (hideMp (by kernel_rfl) vc_draw_Codes_Some)
end Go.RS

/- Netr: routes of drawn networks: what holds of them at any time. -/
namespace Go.RS
open Go.SX Go.Proofs
set_option maxRecDepth 100000
set_option linter.unusedVariables false
theorem nodup_len {α:Type} [DecidableEq α]:∀ {l m:List α},l.Nodup->(∀ x∈l,x∈m)->l.length<=m.length
  | [],m,_,_=>by simp
  | x::l,m,h,hs=>by
    have hx:=hs x List.mem_cons_self
    have hn:=List.nodup_cons.1 h
    have:=nodup_len (l:=l) (m:=m.erase x) hn.2 fun y hy=>(List.mem_erase_of_ne (fun e:y=x=>hn.1 (e▸hy))).2 (hs y (List.mem_cons_of_mem _ hy))
    rw [List.length_erase_of_mem hx] at this
    have hp:=List.length_pos_of_mem hx
    rw [List.length_cons];omega
theorem foldl_inv {α β:Type} (I:β->Prop) (f:β->α->β):∀ {l:List α} {b:β},I b->(∀ x∈l,∀ b,I b->I (f b x))->I (l.foldl f b)
  | [],b,h,_=>h
  | x::l,b,h,hf=>foldl_inv I f (l:=l) (hf x List.mem_cons_self b h) fun y hy=>hf y (List.mem_cons_of_mem _ hy)
theorem mem_insN {k x:Int}:∀ {l:List Int},x∈insN k l->x=k∨x∈l
  | [],h=>by simp [insN] at h;exact .inl h
  | y::r,h=>by
    rw [insN] at h
    split at h
    · rcases List.mem_cons.1 h with e|h
      · exact .inl e
      · exact .inr h
    · rcases List.mem_cons.1 h with e|h
      · exact .inr (e▸List.mem_cons_self)
      · rcases mem_insN h with e|h
        · exact .inl e
        · exact .inr (List.mem_cons_of_mem _ h)
theorem insN_pw {k:Int}:∀ {l:List Int},l.Pairwise (· < ·)->k ∉ l->(insN k l).Pairwise (· < ·)
  | [],_,_=>by rw [insN];exact List.pairwise_singleton _ _
  | y::r,h,hk=>by
    have h:=List.pairwise_cons.1 h
    rw [insN]
    split
    · rename_i hy
      refine List.pairwise_cons.2 ⟨fun z hz => ?_,List.pairwise_cons.2 h⟩
      rcases List.mem_cons.1 hz with rfl|hz
      · exact hy
      · exact Int.lt_trans hy (h.1 z hz)
    · rename_i hy
      have:k≠y:=fun e=>hk (e▸List.mem_cons_self)
      refine List.pairwise_cons.2 ⟨fun z hz => ?_,insN_pw h.2 fun e=>hk (List.mem_cons_of_mem _ e)⟩
      rcases mem_insN hz with rfl|hz
      · omega
      · exact h.1 z hz
theorem insN_ne (k:Int) (l:List Int):insN k l≠[]:=by
  intro e
  have:=insN_len k l
  rw [e] at this;simp at this
theorem mem_putL {l:List Rt} {r x:Rt} (h:x∈putL l r):x=r∨x∈l:=by
  unfold putL at h
  rcases List.mem_append.1 h with h|h
  · exact .inr (List.mem_filter.1 h).1
  · rcases List.mem_cons.1 h with e|h
    · exact .inl e
    · exact .inr (List.mem_filter.1 h).1
def lnk (ls:List Link) (i k:Int):Prop:=0<=k/\k<ls.length/\(lA (ls.getD k.toNat default)=i∨lB (ls.getD k.toNat default)=i)
structure rtOK (ls:List Link) (aa:List Int) (i:Int) (r:Rt):Prop where
  len:r.1.2=32
  mem:r.1.1∈aa
  ne:r.2.1≠[]
  pw:r.2.1.Pairwise (· < ·)
  ln:∀ k∈r.2.1,lnk ls i k
  w0:1<=r.2.2
  w1:r.2.2<=3
def tabOK (ls:List Link) (aa:List Int) (i:Int) (t:List Rt):Prop:=sortedR t∧∀ r∈t,rtOK ls aa i r
theorem tabOK_len {ls:List Link} {aa:List Int} {i:Int} {t:List Rt} (h:tabOK ls aa i t):t.length<=aa.length:=by
  have hn:(t.map fun r=>r.1.1).Nodup:=by
    refine List.Pairwise.map (R:=fun a b:Rt=>a.1.1≠b.1.1) _ (fun a b h=>h) (h.1.imp_of_mem fun {a b} ha hb k => ?_)
    have e1:=(h.2 a ha).len
    have e2:=(h.2 b hb).len
    unfold plt at k
    omega
  have:=nodup_len hn (m:=aa) fun x hx=>by
    obtain ⟨r,hr,rfl⟩:=List.mem_map.1 hx
    exact (h.2 r hr).mem
  simpa using this
theorem rtOK_len {ls:List Link} {aa:List Int} {i:Int} {r:Rt} (h:rtOK ls aa i r):r.2.1.length<=ls.length:=by
  have hn:r.2.1.Nodup:=h.pw.imp fun k=>by omega
  have:=nodup_len hn (m:=(List.range ls.length).map fun (n:Nat)=>(n:Int)) fun x hx=>by
    obtain ⟨k0,k1,_⟩:=h.ln x hx
    exact List.mem_map.2 ⟨x.toNat,List.mem_range.2 (by omega),by omega⟩
  simpa using this
theorem tabOK_route {ls:List Link} {aa:List Int} {i:Int} {t:List Rt} (h:tabOK ls aa i t) {p:Pfx} {k way:Int} (hp:p.2=32) (ha:p.1∈aa) (hk:lnk ls i k) (h0:1<=way) (h1:way<=3) :
    tabOK ls aa i (routeL t p k way):=by
  have put:∀ r:Rt,rtOK ls aa i r->tabOK ls aa i (putL t r):=fun r hr =>
    ⟨putL_sorted h.1,fun x hx=>by
      rcases mem_putL hx with rfl|hx
      · exact hr
      · exact h.2 x hx⟩
  unfold routeL
  split
  · rename_i hf
    have hx:t.getD (rFind t p) default∈t:=by
      have:=getD_mem (xs:=t) (i:=(rFind t p:Nat)) (by omega) (by omega)
      simpa using this
    have hx:=h.2 _ hx
    split
    · exact h
    · rename_i hn
      exact put _ ⟨hp,ha,insN_ne _ _,insN_pw hx.pw hn,fun y hy=>by
        rcases mem_insN hy with rfl|hy
        · exact hk
        · exact hx.ln y hy,hx.w0,hx.w1⟩
  · exact put _ ⟨hp,ha,by simp,List.pairwise_singleton _ _,fun y hy=>by rw [List.mem_singleton.1 hy];exact hk,h0,h1⟩
structure RI (ls:List Link) (aa:List Int) (ns0 ns:List Node):Prop where
  n:ns.length=ns0.length
  e:∀ i:Nat,i<ns0.length->setRoutes (ns.getD i default) []=setRoutes (ns0.getD i default) []
  t:∀ i:Nat,i<ns0.length->tabOK ls aa i (nRoutes (ns.getD i default))
theorem RI.ports {ls aa ns0 ns} (h:RI ls aa ns0 ns) {i:Nat} (hi:i<ns0.length):nPorts (ns.getD i default)=nPorts (ns0.getD i default):=by
  have:=congrArg nPorts (h.e i hi);exact this
theorem RI.host {ls aa ns0 ns} (h:RI ls aa ns0 ns) {i:Nat} (hi:i<ns0.length):nHost (ns.getD i default)=nHost (ns0.getD i default):=by
  have:=congrArg nHost (h.e i hi);exact this
theorem RI.route {ls aa ns0 ns} (h:RI ls aa ns0 ns) {a:Int} {p:Pfx} {k way:Int} (a0:0<=a) (a1:a<ns0.length) (hp:p.2=32) (ha:p.1∈aa) (hk:lnk ls a k) (h0:1<=way) (h1:way<=3) :
    RI ls aa ns0 (routeN ns a p k way):=by
  have hl:a.toNat<ns.length:=by have:=h.n;omega
  unfold routeN
  refine ⟨by rw [List.length_set];exact h.n,fun i hi => ?_,fun i hi => ?_⟩
  · by_cases e:a.toNat=i
    · subst e
      rw [getD_set hl];exact h.e _ hi
    · rw [getD_setne e];exact h.e _ hi
  · by_cases e:a.toNat=i
    · subst e
      rw [getD_set hl]
      have:=tabOK_route (h.t _ hi) (p:=p) (k:=k) (way:=way) hp ha (by rwa [show ((a.toNat:Nat):Int)=a by omega]) h0 h1
      exact this
    · rw [getD_setne e];exact h.t _ hi
theorem RI.step {ls aa ns0 ns} (h:RI ls aa ns0 ns) {d:List Int} {to:Int} {p:Pfx} {plain:Bool} {k way a b:Int} (a0:0<=a) (a1:a<ns0.length) (hp:p.2=32) (ha:p.1∈aa) (hk:lnk ls a k) (h0:1<=way) (h1:way<=3) :
    RI ls aa ns0 (stepE d to p plain k way ns a b):=by
  unfold stepE
  split
  · exact h
  · split
    · exact h
    · exact h.route a0 a1 hp ha hk h0 h1
def goodEnds (n:Nat) (ls:List Link):Prop:=∀ l∈ls,0<=l.1/\l.1<n/\0<=l.2.1/\l.2.1<n
theorem goodEnds.at' {n:Nat} {ls:List Link} (hg:goodEnds n ls) {k:Nat} (hk:k<ls.length):(0<=lA (ls.getD k default)/\lA (ls.getD k default)<n)/\0<=lB (ls.getD k default)/\lB (ls.getD k default)<n:=by
  have hx:ls.getD k default∈ls:=by
    have:=getD_mem (xs:=ls) (i:=(k:Nat)) (by omega) (by omega)
    simpa using this
  obtain ⟨q1,q2,q3,q4⟩:=hg _ hx
  exact ⟨⟨q1,q2⟩,q3,q4⟩
theorem lnkA {ls:List Link} {k:Nat} (hk:k<ls.length):lnk ls (lA (ls.getD k default)) k:=⟨by omega,by omega,.inl (by simp)⟩
theorem lnkB {ls:List Link} {k:Nat} (hk:k<ls.length):lnk ls (lB (ls.getD k default)) k:=⟨by omega,by omega,.inr (by simp)⟩
theorem RI.stepK {ls aa ns0 ns} (h:RI ls aa ns0 ns) (hg:goodEnds ns0.length ls) {d:List Int} {to:Int} {p:Pfx} {plain:Bool} {way:Int} {k:Nat} (hk:k<ls.length) (hp:p.2=32) (ha:p.1∈aa) (h0:1<=way) (h1:way<=3) :
    RI ls aa ns0 (stepK ls d to p plain way ns k):=by
  have hh:=hg.at' hk
  unfold Go.RS.stepK
  exact (h.step hh.1.1 hh.1.2 hp ha (lnkA hk) h0 h1).step hh.2.1 hh.2.2 hp ha (lnkB hk) h0 h1
theorem RI.stepKs {ls aa ns0 ns} (h:RI ls aa ns0 ns) (hg:goodEnds ns0.length ls) {d:List Int} {to:Int} {p:Pfx} {plain:Bool} {way:Int} (hp:p.2=32) (ha:p.1∈aa) (h0:1<=way) (h1:way<=3) {n:Nat} (hn:n<=ls.length) :
    RI ls aa ns0 ((List.range n).foldl (Go.RS.stepK ls d to p plain way) ns) :=
  foldl_inv _ _ h fun k hk b hb=>hb.stepK hg (by have:=List.mem_range.1 hk;omega) hp ha h0 h1
theorem RI.stepP {ls aa ns0 ns} (h:RI ls aa ns0 ns) (hg:goodEnds ns0.length ls) {d:List Int} {to:Int} {plain:Bool} {way:Int} {q:Port} (ha:q.1∈aa) (h0:1<=way) (h1:way<=3) :
    RI ls aa ns0 (stepP ls d to plain way ns q) :=
  h.stepKs (p:=(q.1,32)) hg rfl ha h0 h1 (Nat.le_refl _)
def allA (ns:List Node):List Int:=ns.flatMap fun x=>(nPorts x).map (·.1)
theorem mem_allA {ns:List Node} {i:Nat} (hi:i<ns.length) {q:Port} (hq:q∈nPorts (ns.getD i default)):q.1∈allA ns:=by
  have hx:ns.getD i default∈ns:=by
    have:=getD_mem (xs:=ns) (i:=(i:Nat)) (by omega) (by omega)
    simpa using this
  exact List.mem_flatMap.2 ⟨_,hx,List.mem_map.2 ⟨q,hq,rfl⟩⟩
theorem RI.stepPs {ls ns0 ns} (h:RI ls (allA ns0) ns0 ns) (hg:goodEnds ns0.length ls) {d:List Int} {to:Int} {plain:Bool} {way:Int} (h0:1<=way) (h1:way<=3) {l:List Port} (hl:∀ q∈l,q.1∈allA ns0) :
    RI ls (allA ns0) ns0 (l.foldl (Go.RS.stepP ls d to plain way) ns) :=
  foldl_inv _ _ h fun q hq b hb=>hb.stepP hg (hl q hq) h0 h1
theorem wayC_ok {c:Codes} (h:okB c):okB (wayC c).2/\1<=(wayC c).1/\(wayC c).1<=3:=by
  have k:=nextV_ok h 3
  have k2:=nextV_ok k.1 3
  have:=nextV_lt h (n:=3) (by omega)
  unfold wayC
  split
  · refine ⟨k2.1,?_⟩
    dsimp only
    split <;> omega
  · exact ⟨k.1,by dsimp only;omega,by dsimp only;omega⟩
theorem RI.stepT {ls ns0} {s:List Node×Codes} (h:RI ls (allA ns0) ns0 s.1/\okB s.2) (hg:goodEnds ns0.length ls) {plain:Bool} {to:Nat} (ht:to<ns0.length) :
    RI ls (allA ns0) ns0 (stepT ls plain s to).1/\okB (stepT ls plain s to).2:=by
  have w:=wayC_ok h.2
  unfold Go.RS.stepT
  refine ⟨h.1.stepPs hg w.2.1 w.2.2 fun q hq => ?_,w.1⟩
  rw [h.1.ports ht] at hq
  exact mem_allA ht hq
theorem RI.stepTs {ls ns0} {s:List Node×Codes} (h:RI ls (allA ns0) ns0 s.1/\okB s.2) (hg:goodEnds ns0.length ls) {plain:Bool} {n:Nat} (hn:n<=ns0.length) :
    RI ls (allA ns0) ns0 ((List.range n).foldl (Go.RS.stepT ls plain) s).1/\okB ((List.range n).foldl (Go.RS.stepT ls plain) s).2 :=
  foldl_inv (fun s:List Node×Codes=>RI ls (allA ns0) ns0 s.1/\okB s.2) _ h fun k hk b hb=>RI.stepT hb hg (by have:=List.mem_range.1 hk;omega)
theorem RI.start {ls:List Link} {ns0:List Node} (h:∀ x∈ns0,nRoutes x=[]):RI ls (allA ns0) ns0 ns0:=by
  refine ⟨rfl,fun _ _=>rfl,fun i hi => ?_⟩
  have hx:ns0.getD i default∈ns0:=by
    have:=getD_mem (xs:=ns0) (i:=(i:Nat)) (by omega) (by omega)
    simpa using this
  rw [h _ hx]
  exact ⟨List.Pairwise.nil,fun r hr=>by cases hr⟩
end Go.RS

/- Netg: how drawn networks grow: what holds of their nodes and links. -/
namespace Go.RS
open Go.SX Go.Proofs
set_option maxRecDepth 100000
set_option linter.unusedVariables false
def port1 (i:Int) (k:Nat) (l:Link):List Port:=(if lA l=i then [(baseA k+1,(k:Int))] else [])++(if lB l=i then [(baseA k+2,(k:Int))] else [])
def portsF (i:Int):Nat->List Link->List Port
  | _,[]=>[]
  | k,l::r=>port1 i k l++portsF i (k+1) r
theorem portsF_snoc (i:Int) (l:Link):∀ (k:Nat) (ls:List Link),portsF i k (ls++[l])=portsF i k ls++port1 i (k+ls.length) l
  | k,[]=>by simp [portsF]
  | k,x::r=>by
    rw [List.cons_append,portsF,portsF_snoc i l (k+1) r,portsF,List.append_assoc,List.length_cons,show k+1+r.length=k+(r.length+1) by omega]
theorem port1_len (i:Int) (k:Nat) (l:Link):(port1 i k l).length<=2:=by
  unfold port1
  split <;> split <;> simp
theorem portsF_len (i:Int):∀ (k:Nat) (ls:List Link),(portsF i k ls).length<=2*ls.length
  | k,[]=>by simp [portsF]
  | k,x::r=>by
    have:=portsF_len i (k+1) r
    have:=port1_len i k x
    rw [portsF,List.length_append,List.length_cons];omega
theorem portsF_none {i:Int}:∀ {k:Nat} {ls:List Link},(∀ x∈ls,lA x≠i/\lB x≠i)->portsF i k ls=[]
  | k,[],_=>rfl
  | k,x::r,h=>by
    have hx:=h x List.mem_cons_self
    rw [portsF,portsF_none fun y hy=>h y (List.mem_cons_of_mem _ hy),port1,if_neg hx.1,if_neg hx.2];rfl
theorem mem_portsF {i:Int} {q:Port}:∀ {k:Nat} {ls:List Link},q∈portsF i k ls↔∃ j,j<ls.length/\((lA (ls.getD j default)=i/\q=(baseA (k+j:Nat)+1,((k+j:Nat):Int)))∨(lB (ls.getD j default)=i/\q=(baseA (k+j:Nat)+2,((k+j:Nat):Int))))
  | k,[]=>by simp [portsF]
  | k,x::r=>by
    rw [portsF,List.mem_append,mem_portsF (k:=k+1) (ls:=r)]
    constructor
    · rintro (h|⟨j,hj,h⟩)
      · refine ⟨0,by simp,?_⟩
        unfold port1 at h
        rcases List.mem_append.1 h with h|h
        · split at h
          · rename_i e
            exact .inl ⟨e,by simpa using h⟩
          · cases h
        · split at h
          · rename_i e
            exact .inr ⟨e,by simpa using h⟩
          · cases h
      · refine ⟨j+1,by rw [List.length_cons];omega,?_⟩
        rw [List.getD_cons_succ,show k+(j+1)=k+1+j by omega];exact h
    · rintro ⟨j,hj,h⟩
      cases j with
      | zero =>
        refine .inl ?_
        rw [List.getD_cons_zero] at h
        unfold port1
        rcases h with ⟨e,h⟩|⟨e,h⟩
        · rw [if_pos e];exact List.mem_append.2 (.inl (by simpa using h))
        · rw [if_pos e];exact List.mem_append.2 (.inr (by simpa using h))
      | succ j =>
        refine .inr ⟨j,by rw [List.length_cons] at hj;omega,?_⟩
        rw [List.getD_cons_succ,show k+(j+1)=k+1+j by omega] at h;exact h
theorem getD_app_lt {α:Type} [Inhabited α] {l m:List α} {i:Nat} (h:i<l.length):(l++m).getD i default=l.getD i default:=by
  rw [List.getD_eq_getElem?_getD,List.getElem?_append_left h,List.getD_eq_getElem?_getD]
theorem getD_app_eq {α:Type} [Inhabited α] {l:List α} {x:α}:(l++[x]).getD l.length default=x:=by
  rw [List.getD_eq_getElem?_getD];simp
theorem addPort_get {ns:List Node} {x:Int} {p:Port} (x0:0<=x) {i:Nat} (hi:i<ns.length) :
    (addPort ns x p).getD i default=((ns.getD i default).1++(if x=i then [p] else []),(ns.getD i default).2):=by
  unfold addPort
  by_cases e:x=i
  · have:x.toNat=i:=by omega
    rw [this,getD_set hi,if_pos e]
  · have:x.toNat≠i:=by omega
    rw [getD_setne this,if_neg e,List.append_nil]
theorem addPort_len (ns:List Node) (x:Int) (p:Port):(addPort ns x p).length=ns.length:=by unfold addPort;exact List.length_set
structure GI (s:Scene) (nn nl:Nat):Prop where
  n:s.1.1.length=nn
  l:s.1.2.1.length=nl
  h:s.1.2.2=[]
  c:okB s.2
  g:∀ x∈s.1.2.1,(0<=lA x/\lA x<nn)/\(0<=lB x/\lB x<nn)/\lA x≠lB x/\(1<=lDelay x/\lDelay x<=20)/\lJitter x=0/\lLoss x=0/\0<=lSeed x/\lSeed x<=255
  p:∀ i:Nat,i<nn->nPorts (s.1.1.getD i default)=portsF i 0 s.1.2.1
  d:∀ i:Nat,i<nn→∃ host f sd,(s.1.1.getD i default).2=(newNode i host f sd).2/\(f=64∨f=255∨f=128)/\0<=sd/\sd<=255
theorem GI.node {s:Scene} {nn nl:Nat} (h:GI s nn nl) (host:Bool):GI (nodeS s host) (nn+1) nl:=by
  have k3:=nextV_lt h.c (n:=3) (by omega)
  have c3:=(nextV_ok h.c 3).1
  have k4:=nextV_lt c3 (n:=256) (by omega)
  have c4:=(nextV_ok c3 256).1
  refine ⟨by simp only [nodeS,List.length_append,List.length_cons,List.length_nil,h.n],h.l,h.h,c4,fun x hx => ?_,fun i hi => ?_,fun i hi => ?_⟩
  · have:=h.g x hx
    omega
  · by_cases e:i<nn
    · rw [show (nodeS s host).1.1.getD i default=s.1.1.getD i default from getD_app_lt (by rw [h.n];exact e)]
      exact h.p i e
    · have e:i=s.1.1.length:=by rw [h.n];omega
      subst e
      rw [show (nodeS s host).1.1.getD s.1.1.length default=newNode s.1.1.length host _ _ from getD_app_eq]
      refine (portsF_none fun x hx => ?_).symm
      have:=h.g x hx
      have:=h.n
      omega
  · by_cases e:i<nn
    · rw [show (nodeS s host).1.1.getD i default=s.1.1.getD i default from getD_app_lt (by rw [h.n];exact e)]
      exact h.d i e
    · have e:i=s.1.1.length:=by rw [h.n];omega
      subst e
      rw [show (nodeS s host).1.1.getD s.1.1.length default=newNode s.1.1.length host _ _ from getD_app_eq]
      refine ⟨host,_,_,rfl,?_,k4.1,by omega⟩
      rcases (show (nextV s.2 3).1=0∨(nextV s.2 3).1=1∨(nextV s.2 3).1=2 by omega) with e|e|e <;> rw [e] <;> simp
theorem GI.link {s:Scene} {nn nl:Nat} (h:GI s nn nl) {a b:Int} (a0:0<=a) (a1:a<nn) (b0:0<=b) (b1:b<nn) (ne:a≠b):GI (linkS s a b) nn (nl+1):=by
  have k3:=nextV_lt h.c (n:=20) (by omega)
  have c3:=(nextV_ok h.c 20).1
  have k4:=nextV_lt c3 (n:=256) (by omega)
  have c4:=(nextV_ok c3 256).1
  refine ⟨by simp only [linkS,addPort_len,h.n],by simp only [linkS,List.length_append,List.length_cons,List.length_nil,h.l],h.h,c4,fun x hx => ?_,fun i hi => ?_,fun i hi => ?_⟩
  · rcases List.mem_append.1 hx with hx|hx
    · exact h.g x hx
    · rw [List.mem_singleton.1 hx]
      refine ⟨⟨a0,a1⟩,⟨b0,b1⟩,ne,?_,rfl,rfl,k4.1,?_⟩
      · show 1<=1+(nextV s.2 20).1/\1+(nextV s.2 20).1<=20
        omega
      · show (nextV (nextV s.2 20).2 256).1<=255
        omega
  · have hp:=h.p i hi
    unfold linkS
    dsimp only
    rw [addPort_get b0 (by rw [addPort_len,h.n];exact hi),addPort_get a0 (by rw [h.n];exact hi),portsF_snoc,← hp,Nat.zero_add]
    simp only [nPorts,port1,lA,lB,List.append_assoc]
    rfl
  · unfold linkS
    dsimp only
    rw [addPort_get b0 (by rw [addPort_len,h.n];exact hi),addPort_get a0 (by rw [h.n];exact hi)]
    exact h.d i hi
theorem GI.codes {s:Scene} {nn nl:Nat} (h:GI s nn nl) {c:Codes} (hc:okB c):GI (s.1,c) nn nl:=⟨h.n,h.l,h.h,hc,h.g,h.p,h.d⟩
theorem GI.start {c:Codes} (hc:okB c):GI (([],[],[]),c) 0 0 :=
  ⟨rfl,rfl,rfl,hc,fun x hx=>(by cases hx),fun i hi=>(by omega),fun i hi=>(by omega)⟩
theorem GI.routes {s:Scene} {nn nl:Nat} (h:GI s nn nl):∀ x∈s.1.1,nRoutes x=[]:=fun x hx=>by
  obtain ⟨i,hi,e⟩:=List.mem_iff_getElem.1 hx
  obtain ⟨host,f,sd,hd,-⟩:=h.d i (by rw [← h.n];exact hi)
  have:s.1.1.getD i default=x:=by rw [List.getD_eq_getElem?_getD,List.getElem?_eq_getElem hi,e];rfl
  rw [this] at hd
  show x.2.2.2.2.1=[]
  rw [hd];rfl
theorem GI.plen {s:Scene} {nn nl:Nat} (h:GI s nn nl):∀ x∈s.1.1,x.1.length<=2*nl:=fun x hx=>by
  obtain ⟨i,hi,e⟩:=List.mem_iff_getElem.1 hx
  have hp:=h.p i (by rw [← h.n];exact hi)
  have:s.1.1.getD i default=x:=by rw [List.getD_eq_getElem?_getD,List.getElem?_eq_getElem hi,e];rfl
  rw [this] at hp
  have:=portsF_len i 0 s.1.2.1
  rw [← hp,h.l] at this;exact this
theorem allA_len:∀ {ns:List Node} {m:Nat},(∀ x∈ns,x.1.length<=m)->(allA ns).length<=ns.length*m
  | [],m,_=>by simp [allA]
  | x::r,m,h=>by
    have k:=allA_len (ns:=r) (m:=m) fun y hy=>h y (List.mem_cons_of_mem _ hy)
    have hx:=h x List.mem_cons_self
    unfold allA at k ⊢
    rw [List.flatMap_cons,List.length_append,List.length_map,List.length_cons,Nat.succ_mul]
    show (nPorts x).length+_<=_
    have:(nPorts x).length<=m:=hx
    omega
theorem GI.ends {s:Scene} {nn nl:Nat} (h:GI s nn nl):goodEnds s.1.1.length s.1.2.1:=fun x hx=>by
  have:=h.g x hx
  rw [h.n]
  exact ⟨this.1.1,this.1.2,this.2.1.1,this.2.1.2⟩
theorem GI.chain {s:Scene} (h:GI s 1 0):∀ k:Nat,GI ((List.range k).foldl chainS s) (k+1) k
  | 0=>h
  | k+1=>by
    rw [List.range_succ,List.foldl_append]
    exact ((GI.chain h k).node false).link (by omega) (by omega) (by omega) (by omega) (by omega)
def lineN (c:Codes):Int:=1+(nextV (nodeS (([],[],[]),c) true).2 5).1
def line0 (c:Codes):Scene:=((nodeS (([],[],[]),c) true).1,(nextV (nodeS (([],[],[]),c) true).2 5).2)
theorem line0_ok {c:Codes} (h:okB c):GI (line0 c) 1 0:=((GI.start h).node true).codes (nextV_ok ((GI.start h).node true).c 5).1
theorem lineN_ok {c:Codes} (h:okB c):1<=lineN c/\lineN c<=5:=by
  have:=nextV_lt ((GI.start h).node true).c (n:=5) (by omega)
  unfold lineN;omega
theorem lineS_eq (c:Codes):lineS c=(lineN c,linkS (nodeS ((List.range (lineN c).toNat).foldl chainS (line0 c)) true) (lineN c) (lineN c+1)):=rfl
theorem line_ok {c:Codes} (h:okB c):GI (lineS c).2 ((lineN c).toNat+2) ((lineN c).toNat+1):=by
  have:=lineN_ok h
  rw [lineS_eq]
  exact (((line0_ok h).chain _).node true).link (by omega) (by omega) (by omega) (by omega) (by omega)
theorem GI.short {s:Scene} {nn nl:Nat} (h:GI s nn nl) {n:Int} (n1:1<=n) (hn:n+2<=nn):∃ m,nl<=m/\m<=nl+1/\GI (shortS n s) nn m:=by
  have ka:=nextV_lt h.c (n:=n) (by omega)
  have ca:=(nextV_ok h.c n).1
  have kb:=nextV_lt ca (n:=n) (by omega)
  have cb:=(nextV_ok ca n).1
  unfold shortS
  dsimp only
  split
  · exact ⟨nl,by omega,by omega,h.codes cb⟩
  · rename_i e
    exact ⟨nl+1,by omega,by omega,(h.codes cb).link (by omega) (by omega) (by omega) (by omega) (by omega)⟩
theorem GI.shorts {s:Scene} {nn nl:Nat} (h:GI s nn nl) {n:Int} (n1:1<=n) (hn:n+2<=nn):∀ k:Nat,∃ m,nl<=m/\m<=nl+k/\GI ((List.range k).foldl (fun s _=>shortS n s) s) nn m
  | 0=>⟨nl,by omega,by omega,h⟩
  | k+1=>by
    obtain ⟨m,m0,m1,hm⟩:=GI.shorts h n1 hn k
    obtain ⟨m',q0,q1,hq⟩:=hm.short n1 hn
    refine ⟨m',by omega,by omega,?_⟩
    rw [List.range_succ,List.foldl_append];exact hq
def more1 (plain:Bool) (n:Int) (s:Scene) (k:Nat):Scene:=if 1<n/\plain=false then (List.range k).foldl (fun s _=>shortS n s) (s.1,(nextV s.2 4).2) else (s.1,(nextV s.2 4).2)
theorem more1_ok {s:Scene} {nn nl:Nat} (h:GI s nn nl) {plain:Bool} {n:Int} (n1:1<=n) (hn:n+2<=nn) (k:Nat):∃ m,nl<=m/\m<=nl+k/\GI (more1 plain n s k) nn m:=by
  have hc:=h.codes (nextV_ok h.c 4).1
  unfold more1
  split
  · exact hc.shorts n1 hn k
  · exact ⟨nl,by omega,by omega,hc⟩
theorem moreS_eq (plain:Bool) (n:Int) (s:Scene):moreS plain n s=(let s1:=more1 plain n s (nextV s.2 4).1.toNat
    if plain=true/\2<n then
      if (nextV s1.2 2).1=1 then linkS (s1.1,(nextV (nextV s1.2 2).2 (n-1)).2) (1+(nextV (nextV s1.2 2).2 (n-1)).1) n else (s1.1,(nextV s1.2 2).2)
    else s1):=rfl
theorem moreS_ok {s:Scene} {nn nl:Nat} (h:GI s nn nl) {plain:Bool} {n:Int} (n1:1<=n) (hn:n+2<=nn):∃ m,nl<=m/\m<=nl+4/\GI (moreS plain n s) nn m:=by
  have k4:=nextV_lt h.c (n:=4) (by omega)
  obtain ⟨m,m0,m1,hm⟩:=more1_ok h (plain:=plain) n1 hn (nextV s.2 4).1.toNat
  rw [moreS_eq]
  dsimp only
  generalize more1 plain n s (nextV s.2 4).1.toNat=t at hm ⊢
  have c2:=(nextV_ok hm.c 2).1
  have c3:=(nextV_ok c2 (n-1)).1
  split
  · rename_i e
    split
    · have k5:=nextV_lt c2 (n:=n-1) (by omega)
      exact ⟨m+1,by omega,by omega,(hm.codes c3).link (by omega) (by omega) (by omega) (by omega) (by omega)⟩
    · exact ⟨m,by omega,by omega,hm.codes c2⟩
  · exact ⟨m,by omega,by omega,hm⟩
theorem net_ok {c:Codes} (h:okB c) (plain:Bool):∃ m,2<=m/\m<=10/\GI (moreS plain (lineS c).1 (lineS c).2) ((lineN c).toNat+2) m:=by
  have hn:=lineN_ok h
  obtain ⟨m,m0,m1,hm⟩:=moreS_ok (line_ok h) (plain:=plain) (n:=lineN c) hn.1 (by omega)
  exact ⟨m,by omega,by omega,hm⟩
end Go.RS
