/- Probe: probes, their packets and keys. -/
import Derived.Test.YtfgcoeablgoccaaGreatDoorIpv4
import Derived.Test.YtfgcoeablgoccaaGreatDoorWire
import Derived.Laws.BitsAllLaws
namespace Go.RS
open Go.SX Go.Proofs
set_option maxRecDepth 100000
set_option linter.unusedVariables false
abbrev cProbe:CT := .pair cU32 (.pair cU32 (.pair cI (.pair cI (.pair cI cI))))
abbrev Probe:Type:=Int×Int×Int×Int×Int×Int
def protoOK (n:Int):Prop:=n=1∨n=6∨n=17
instance (n:Int):Decidable (protoOK n):=by unfold protoOK;infer_instance
def rangeOK (p:Probe):Prop:=(0<=p.2.2.2.1/\p.2.2.2.1<=1023)/\(0<=p.2.2.2.2.1/\p.2.2.2.2.1<=65534)/\1<=p.2.2.2.2.2/\p.2.2.2.2.2<=255
instance (p:Probe):Decidable (rangeOK p):=by unfold rangeOK;infer_instance
def probeErr (p:Probe):Int:=if ¬ protoOK p.2.2.1 then 16 else if ¬ rangeOK p then 1 else 0
def icmpN (p:Probe):Int:=oc (65535-(16384+p.2.2.2.1)+csum (echoBody (false,21075,p.2.2.2.2.1,[0,0])))
def udpX (p:Probe):Int:=oc (65535-(p.2.2.2.2.1+1)+pseudo p.1 p.2.1 17 (udpBody (20000+p.2.2.2.1,33434,[0,0])))
def udpN (p:Probe):Int:=if udpX p=0 then 65535 else udpX p
def conEcho (p:Probe):Echo:=(false,21075,p.2.2.2.2.1,w2 (icmpN p))
def conDgram (p:Probe):Dgram:=(20000+p.2.2.2.1,33434,w2 (udpN p))
def conSeg (p:Probe):Seg:=(20000+p.2.2.2.1,80,p.2.2.2.2.1,0,2,1024,[])
def conP (p:Probe):List Int:=if p.2.2.1=1 then echoEnc (conEcho p) else if p.2.2.1=17 then udpEnc p.1 p.2.1 (conDgram p) else tcpEnc p.1 p.2.1 (conSeg p)
def hdrP (p:Probe):Header:=(0,p.2.2.2.2.1,p.2.2.2.2.2,p.2.2.1,true,p.1,p.2.1)
def build (p:Probe):List Int:=if probeErr p=0 then ipEnc (hdrP p,conP p) else []
def key0:Key:=(0,0,0,0,0)
def probe0:Probe:=(0,0,0,0,0,0)
def keyPkt (x:Packet):Key:=(x.1.2.2.2.2.2.1,x.1.2.2.2.2.2.2,x.1.2.2.2.1,if protoOK x.1.2.2.2.1/\4<=x.2.length then wordAt x.2 0 else 0,if protoOK x.1.2.2.2.1/\4<=x.2.length then wordAt x.2 2 else 0)
def keyB (b:List Int):Key:=if decErr b=0 then keyPkt (decPkt b) else key0
theorem probe_ok {p:Probe}:probeErr p=0↔protoOK p.2.2.1/\rangeOK p:=by
  unfold probeErr
  constructor
  · intro h
    split at h
    · cases h
    · split at h
      · cases h
      · rename_i h1 h2;exact ⟨Decidable.not_not.1 h1,Decidable.not_not.1 h2⟩
  · rintro ⟨h1,h2⟩
    rw [if_neg (fun k=>k h1),if_neg (fun k=>k h2)]
theorem word_setW {b:List Int} {i:Nat} {c:Int} (h:i+2<=b.length) (c0:0<=c) (c1:c<=65535):wordAt (setW b i c) i=c:=by
  rw [wordAt_get (by rw [setW_len];exact h)]
  unfold setW
  rw [getD_ne (by omega),getD_same (by omega),getD_same (by rw [List.length_set];omega)]
  omega
theorem pseudo_lt {s d:Int} {p:Int} {X:List Int} (hx:bytes X) (hp:0<p%256):0<=pseudo s d p X/\pseudo s d p X<=65534:=by
  have h1:=(pseudo_range (a:=s) (b:=d) (p:=p) hx).1
  refine ⟨h1,?_⟩
  unfold pseudo at h1 ⊢
  split
  · omega
  · unfold csum
    rw [pseudo_sum]
    have h2:=head_nonneg s d p X.length
    have h3:=(sumF_range true X hx).1
    unfold oc
    rw [if_neg (by omega)];omega
theorem bytes2:bytes [0,0]:=bytes_cons (by omega) (by omega) (bytes_cons (by omega) (by omega) bytes_nil)
theorem bytes_echo0 (t:Int):bytes (echoBody (false,21075,t,[0,0])):=echo_bytes bytes2
theorem bytes_udp0 (f:Int):bytes (udpBody (20000+f,33434,[0,0])):=udp_bytes bytes2
theorem icmpN_pos {p:Probe} (h:rangeOK p):1<=icmpN p/\icmpN p<=65535:=by
  have:=csum_range (bytes_echo0 p.2.2.2.2.1)
  obtain ⟨⟨h1,h2⟩,-⟩:=h
  unfold icmpN oc
  rw [if_neg (by omega)];omega
theorem udpX_range {p:Probe} (h:rangeOK p):0<=udpX p/\udpX p<=65535:=by
  have:=pseudo_lt (s:=p.1) (d:=p.2.1) (p:=17) (bytes_udp0 p.2.2.2.1) (by decide)
  obtain ⟨-,⟨h1,h2⟩,-⟩:=h
  exact oc_range (by omega)
theorem udpN_pos {p:Probe} (h:rangeOK p):1<=udpN p/\udpN p<=65535:=by
  have:=udpX_range h
  unfold udpN;split <;> omega
theorem w2_bytes2 (n:Int):(w2 n).length=2:=rfl
theorem okEchoP {p:Probe} (h:rangeOK p):okEcho (w2 (icmpN p)) (conEcho p):=by
  obtain ⟨-,⟨h1,h2⟩,-⟩:=h
  exact ⟨⟨(word16_iff _).2 ⟨by show (0:Int)<=21075;omega,by show (21075:Int)<=_;omega⟩,(word16_iff _).2 ⟨h1,by show p.2.2.2.2.1<=_;omega⟩⟩,rfl⟩
theorem okDgramP {p:Probe} (h:rangeOK p):okDgram (w2 (udpN p)) (conDgram p):=by
  obtain ⟨⟨h1,h2⟩,-⟩:=h
  exact ⟨⟨(word16_iff _).2 ⟨by show (0:Int)<=20000+p.2.2.2.1;omega,by show 20000+p.2.2.2.1<=_;omega⟩,(word16_iff _).2 ⟨by show (0:Int)<=33434;omega,by show (33434:Int)<=_;omega⟩⟩,rfl⟩
theorem okSegP {p:Probe} (h:rangeOK p):okSeg [] (conSeg p):=by
  obtain ⟨⟨h1,h2⟩,⟨h3,h4⟩,-⟩:=h
  refine ⟨⟨(word16_iff _).2 ⟨?_,?_⟩,(word16_iff _).2 ⟨?_,?_⟩,⟨?_,?_⟩,⟨?_,?_⟩,⟨?_,?_⟩,(word16_iff _).2 ⟨?_,?_⟩⟩,rfl⟩ <;> simp only [conSeg] <;> omega
theorem echo_err0 {p:Probe} (h:rangeOK p):echoErr (conEcho p)=0:=echo_good (okEchoP h) (by rw [w2_bytes2];omega)
theorem udp_err0 {p:Probe} (h:rangeOK p):udpErr (conDgram p)=0:=udp_good (okDgramP h) (by rw [w2_bytes2];omega)
theorem tcp_err0 {p:Probe} (h:rangeOK p):tcpErr (conSeg p)=0:=tcp_good (okSegP h) (by simp)
theorem con_echo {p:Probe} (h:rangeOK p) (h1:p.2.2.1=1):conP p=setW (echoBody (conEcho p)) 2 (csum (echoBody (conEcho p))):=by
  rw [conP,if_pos h1,echoEnc,if_pos (echo_err0 h)]
theorem con_udp {p:Probe} (h:rangeOK p) (h1:p.2.2.1=17):conP p=setW (udpBody (conDgram p)) 6 (sumU p.1 p.2.1 (udpBody (conDgram p))):=by
  rw [conP,if_neg (by omega),if_pos h1,udpEnc,if_pos (udp_err0 h)]
theorem con_tcp {p:Probe} (h:rangeOK p) (h1:p.2.2.1=6):conP p=setW (tcpBody (conSeg p)) 16 (pseudo p.1 p.2.1 6 (tcpBody (conSeg p))):=by
  rw [conP,if_neg (by omega),if_neg (by omega),tcpEnc,if_pos (tcp_err0 h)]
theorem con_len {p:Probe} (h:probeErr p=0):(p.2.2.1≠6/\(conP p).length=10)∨(p.2.2.1=6/\(conP p).length=20):=by
  obtain ⟨h1|h1|h1,h2⟩:=probe_ok.1 h
  · rw [con_echo h2 h1,setW_len];exact .inl ⟨by omega,rfl⟩
  · rw [con_tcp h2 h1,setW_len];exact .inr ⟨h1,rfl⟩
  · rw [con_udp h2 h1,setW_len];exact .inl ⟨by omega,rfl⟩
theorem hdrP_ok {p:Probe} (h:probeErr p=0):hdrOK (hdrP p):=by
  obtain ⟨h1,⟨-,⟨h2,h3⟩,h4,h5⟩⟩:=probe_ok.1 h
  refine ⟨⟨?_,?_⟩,⟨?_,?_⟩,⟨?_,?_⟩,?_,?_⟩ <;> simp only [hdrP] <;> unfold protoOK at h1 <;> omega
theorem ipErr0 {p:Probe} (h:probeErr p=0):ipErr (hdrP p,conP p)=0:=by
  rw [ipErr,if_neg (fun k=>k (hdrP_ok h)),if_neg]
  rcases con_len h with h|h <;> rw [h.2] <;> simp
theorem build_eq {p:Probe} (h:probeErr p=0):build p=hdrB (hdrP p) (20+(conP p).length)++conP p:=by
  rw [build,if_pos h,ipEnc,if_pos (ipErr0 h)]
theorem build_len (p:Probe):(build p).length<=40:=by
  by_cases h:probeErr p=0
  · rw [build_eq h,List.length_append,hdrB_len]
    rcases con_len h with h|h <;> omega
  · rw [build,if_neg h];simp
def ct_ref07_Check:Ct:=⟨[.agg cProbe],[.val cI],fun d=>[],fun d=>((probeErr d.1,()),())⟩
def an_ref07_Check:PDs ct_ref07_Check.ps->Anns:=(fun _=>{})
def Qbk3 (a b c d e f:Int) :=
 (0<=a/\a<=4294967295)/\(0<=b/\b<=4294967295)/\R64 c/\R64 d/\R64 e/\R64 f
theorem vc_ref07_Check :
 ∀(a b c d e f:Int),(Qbk3 a b c d e f)/\True->True-> ∀(g:Bool),g= ! decide (c=1)->(g->(g->g)/\True)/\(g->(g->g)/\True)/\(g->g)/\ ∀(h:Bool),(h=bif g then ! decide (c=17) else false)->(h->(h->h)/\True)/\(h->(h->h)/\True)/\(h->h)/\ifP (bif h then ! decide (c=6) else false) ((16:Int)=probeErr (a,b,c,d,e,f)) (∀(i:Bool),i=decide (d<0)->((! i)->((! i)->(! i))/\True)/\((! i)->((! i)->(! i))/\True)/\(i=false->(! i))/\ ∀(j:Bool),(j=bif i then true else decide (1023<d))->((! j)->((! j)->(! j))/\True)/\((! j)->((! j)->(! j))/\True)/\(j=false->(! j))/\ ∀(k:Bool),(k=bif j then true else decide (e<0))->((! k)->((! k)->(! k))/\True)/\((! k)->((! k)->(! k))/\True)/\(k=false->(! k))/\ ∀(l:Bool),(l=bif k then true else decide (65534<e))->((! l)->((! l)->(! l))/\True)/\((! l)->((! l)->(! l))/\True)/\(l=false->(! l))/\ ∀(m:Bool),(m=bif l then true else decide (f<1))->((! m)->((! m)->(! m))/\True)/\((! m)->((!
 m)->(! m))/\True)/\(m=false->(! m))/\ifP (bif m then true else decide (255<f)) ((1:Int)=probeErr (a,b,c,d,e,f)) ((0:Int)=probeErr (a,b,c,d,e,f))):=by
  delta Qbk3
  rintro s d pr f t l - -
  (repeat (intro (b_:Bool) (hb_:b_=_);(repeat refine ⟨(by first|(simp;done)|(rw [hb_];simp;done)|(rw [hb_];simp;omega)|(rw [hb_];simp;intros;omega)|(rw [hb_];simp +contextual;done)),?_⟩);subst hb_))
  refine ifP_split (fun hc => ?_) (fun hc => ?_)
  · rw [probeErr,if_pos]
    simp only [protoOK]
    intro k
    rcases k with rfl|rfl|rfl <;> simp at hc
  have hp:protoOK pr:=by
    unfold protoOK
    by_cases h1:pr=1
    · exact .inl h1
    · by_cases h6:pr=17
      · exact .inr (.inr h6)
      · simp [h1,h6] at hc;exact .inr (.inl hc)
  have key:∀ (v:Int),(v=if rangeOK (s,d,pr,f,t,l) then 0 else 1)->v=probeErr (s,d,pr,f,t,l):=by
    intro v hv
    rw [probeErr,if_neg (fun k=>k hp),hv]
    by_cases k:rangeOK (s,d,pr,f,t,l)
    · rw [if_pos k,if_neg (fun q=>q k)]
    · rw [if_neg k,if_pos k]
  (repeat (intro (b_:Bool) (hb_:b_=_);(repeat refine ⟨(by first|(simp;done)|(rw [hb_];simp;done)|(rw [hb_];simp;omega)|(rw [hb_];simp;intros;omega)|(rw [hb_];simp +contextual;done)),?_⟩);subst hb_))
  refine ifP_split (fun h1 => ?_) (fun h1 => ?_)
  · have hn:¬ rangeOK (s,d,pr,f,t,l):=by
      rintro ⟨⟨a,b⟩,⟨a2,b2⟩,a3,b3⟩
      simp only at a b a2 b2 a3 b3
      simp [Bool.cond_eq_ite] at h1;omega
    exact key 1 (by rw [if_neg hn])
  · have hn:rangeOK (s,d,pr,f,t,l):=by
      simp [Bool.cond_eq_ite] at h1
      refine ⟨⟨?_,?_⟩,⟨?_,?_⟩,?_,?_⟩ <;> simp only <;> omega
    exact key 0 (by rw [if_pos hn])
theorem ok_ref07_Check:SpecOK Tryz.prog GL 76 ct_ref07_Check.spec:=Ct.okH _ Tryz.func76 (by kernel_rfl) noSpecs_ok hmix an_ref07_Check (hideMp (by kernel_rfl) vc_ref07_Check)
def ct_probe_Key:Ct:=⟨[.val (.sl cU8)],[.agg cKey,.val cI],fun d=>[(d.1.length:Int)<=1099511627776],fun d=>((keyB d.1,decErr d.1,()),())⟩
def an_probe_Key:PDs ct_probe_Key.ps->Anns:=(fun _=>{})
def Qbk1 (a:List Int) (b:(Int×Int×Int×Int×Bool×Int×Int)×List Int) :=
 (b.1.2.2.2.2.2.1,b.1.2.2.2.2.2.2,b.1.2.2.2.1,(0:Int),(0:Int))=keyB a/\(0:Int)=decErr a
def Qbk0 (a:List Int) (b:(Int×Int×Int×Int×Bool×Int×Int)×List Int) :=
 ifP (decide (4<=(b.2.length:Int))) ((b.2.length:Int)<=1099511627776/\(b.2.length:Int)<=1099511627776/\(b.1.2.2.2.2.2.1,b.1.2.2.2.2.2.2,b.1.2.2.2.1,getV b.2 (0:Int) (2:Int),getV b.2 (2:Int) (2:Int))=keyB a/\(0:Int)=decErr a) (Qbk1 a b)
theorem vc_probe_Key :
 ∀(a:List Int),(a.length<=maxLen/\ ∀(b:Int),b∈a->0<=b/\b<=255)/\True->(a.length:Int)<=1099511627776->(a.length:Int)<=1099511627776/\ ∀(b:(Int×Int×Int×Int×Bool×Int×Int)×List Int) (c:Int),b=decPkt a/\c=decErr a->ifP (! decide (c=0)) (((0:Int),(0:Int),(0:Int),(0:Int),(0:Int))=keyB a/\c=decErr a) (ifP (decide (b.1.2.2.2.1=1)) (ifP (decide (b.1.2.2.2.1=1)) (Qbk0 a b) (Qbk1 a b)) (ifP (decide (b.1.2.2.2.1=6)) (ifP (decide (b.1.2.2.2.1=6)) (Qbk0 a b) (Qbk1 a b)) (ifP (decide (b.1.2.2.2.1=17)) (Qbk0 a b) (Qbk1 a b)))):=by
  delta Qbk0 Qbk1
  rintro b ⟨⟨-,hb⟩,-⟩ hl
  refine ⟨hl,?_⟩
  rintro d e ⟨rfl,rfl⟩
  refine ifP_split (fun h => ?_) (fun h => ?_)
  · have h:¬ decErr b=0:=by simpa using h
    rw [keyB,if_neg h];exact ⟨rfl,rfl⟩
  have h:decErr b=0:=by simpa using h
  have hdl:=dec_len h
  have hk:keyB b=keyPkt (decPkt b):=by rw [keyB,if_pos h]
  rw [hk,h]
  have hpl:((decPkt b).2.length:Int)<=1500:=by rw [decPkt,if_pos h];simp only [List.length_drop];omega
  generalize decPkt b=x at *
  have yes:protoOK x.1.2.2.2.1->(4:Int)<=x.2.length->((x.2.length:Int)<=1099511627776/\(x.2.length:Int)<=1099511627776/\(x.1.2.2.2.2.2.1,x.1.2.2.2.2.2.2,x.1.2.2.2.1,getV x.2 0 2,getV x.2 2 2)=keyPkt x/\(0:Int)=0):=by
    intro h1 h2
    refine ⟨by omega,by omega,?_,rfl⟩
    rw [gV2 (by omega) (by omega),gV2 (by omega) (by omega),keyPkt,if_pos ⟨h1,by omega⟩,if_pos ⟨h1,by omega⟩];rfl
  have no:¬ (protoOK x.1.2.2.2.1/\(4:Int)<=x.2.length)->((x.1.2.2.2.2.2.1,x.1.2.2.2.2.2.2,x.1.2.2.2.1,(0:Int),(0:Int))=keyPkt x/\(0:Int)=0):=by
    intro h1
    rw [keyPkt,if_neg (fun k=>h1 ⟨k.1,by omega⟩),if_neg (fun k=>h1 ⟨k.1,by omega⟩)];exact ⟨rfl,rfl⟩
  refine ifP_split (fun h1 => ?_) (fun h1 => ?_)
  · refine ifP_split (fun _ => ?_) (fun k=>by rw [h1] at k;cases k)
    have h1:=of_decide_eq_true h1
    exact ifP_split (fun h4=>yes (.inl h1) (of_decide_eq_true h4)) (fun h4=>no (fun k=>(of_decide_eq_false h4) k.2))
  refine ifP_split (fun h6 => ?_) (fun h6 => ?_)
  · refine ifP_split (fun _ => ?_) (fun k=>by rw [h6] at k;cases k)
    have h6:=of_decide_eq_true h6
    exact ifP_split (fun h4=>yes (.inr (.inl h6)) (of_decide_eq_true h4)) (fun h4=>no (fun k=>(of_decide_eq_false h4) k.2))
  refine ifP_split (fun h17 => ?_) (fun h17 => ?_)
  · have h17:=of_decide_eq_true h17
    exact ifP_split (fun h4=>yes (.inr (.inr h17)) (of_decide_eq_true h4)) (fun h4=>no (fun k=>(of_decide_eq_false h4) k.2))
  · have h1:=of_decide_eq_false h1
    have h6:=of_decide_eq_false h6
    have h17:=of_decide_eq_false h17
    exact no (fun k=>by rcases k.1 with k|k|k <;> contradiction)
theorem ok_probe_Key:SpecOK Tryz.prog GL 198 ct_probe_Key.spec:=Ct.okH _ Tryz.func198 (by kernel_rfl) (withSpec_ok (withSpec_ok noSpecs_ok (Ct.named ok_ipv4_Decode)) ok_wire_Get) hmix an_probe_Key (hideMp (by kernel_rfl) vc_probe_Key)
def ct_ref07_balanced:Ct:=⟨[.val cI,.val cI],[.val cI],fun d=>[0<=d.1,d.1<=65535,0<=d.2.1,d.2.1<=65535],fun d=>((if oc (65535-d.2.1+d.1)=0 then 65535 else oc (65535-d.2.1+d.1),()),())⟩
def an_ref07_balanced:PDs ct_ref07_balanced.ps->Anns:=(fun _=>{})
def Qbk2 (a b:Int) :=
 if (word16 (IntKind.wrap .i64 ((65535:Int) -b))&&word16 a)=true then oc (IntKind.wrap .i64 ((65535:Int) -b)+a) else (0:Int)
theorem vc_ref07_balanced :
 ∀(a b:Int),R64 a/\R64 b/\True->0<=a/\a<=65535/\0<=b/\b<=65535->ifP (decide ((Qbk2 a b)=0)) ((65535:Int)=if oc ((65535:Int) -b+a)=0 then (65535:Int) else oc ((65535:Int) -b+a)) ((Qbk2 a b)=if oc ((65535:Int) -b+a)=0 then (65535:Int) else oc ((65535:Int) -b+a)):=by
  delta Qbk2
  rintro a b-⟨a0,a1,b0,b1⟩
  rw [w64 (n:=65535-b) (by omega) (by omega),if_pos (by simp only [Bool.and_eq_true,word16_iff];omega)]
  refine ifP_split (fun h => ?_) (fun h => ?_)
  · rw [if_pos (of_decide_eq_true h)]
  · rw [if_neg (of_decide_eq_false h)]
theorem ok_ref07_balanced:SpecOK Tryz.prog GL 125 ct_ref07_balanced.spec:=Ct.okH _ Tryz.func125 (by kernel_rfl) (withSpec_ok noSpecs_ok ok_ref04_Add) hmix an_ref07_balanced (hideMp (by kernel_rfl) vc_ref07_balanced)
def ct_ref07_data:Ct:=⟨[.agg cProbe],[.own 5 cU8],fun d=>[probeErr d.1=0],fun d=>((conP d.1,()),())⟩
def an_ref07_data:PDs ct_ref07_data.ps->Anns:=(fun _=>{})
theorem vc_ref07_data :
 ∀(a b c d e f:Int),(Qbk3 a b c d e f)/\True->probeErr (a,b,c,d,e,f)=0->ifP (decide (c=1)) (((List.length [(0:Int),(0:Int)]):Int)<=1073741824/\ ∀(g:List Int) (h:Int),g=echoEnc (false,(21075:Int),e,[(0:Int),(0:Int)])/\h=echoErr (false,(21075:Int),e,[(0:Int),(0:Int)])->(g.length:Int)<=1099511627776/\ ∀(i:Int),i=getV g (2:Int) (2:Int)->0<=i/\i<=65535/\0<=IntKind.wrap .i64 ((16384:Int)+d)/\IntKind.wrap .i64 ((16384:Int)+d)<=65535/\ ∀(j:Int),(j=if oc ((65535:Int) -IntKind.wrap .i64 ((16384:Int)+d)+i)=0 then (65535:Int) else oc ((65535:Int) -IntKind.wrap .i64 ((16384:Int)+d)+i))->(↑(0:Nat):Int)<=1099511627776/\ ∀(k:List Int),k=putB ([]:List Int) j (2:Int)->(k.length:Int)<=1073741824/\ ∀(l:List Int) (m:Int),l=echoEnc (false,(21075:Int),e,k)/\m=echoErr (false,(21075:Int),e,k)->l=conP (a,b,c,d,e,f)) (ifP (decide (c=17)) ((↑(0:Nat):Int)<=1099511627776/\ ∀(g:List Int),g=putB ([]:List Int)
 (IntKind.wrap .i64 ((20000:Int)+d)) (2:Int)->(g.length:Int)<=1099511627776/\ ∀(h:List Int),h=putB g (33434:Int) (2:Int)->(h.length+List.length [(0:Int),(10:Int),(0:Int),(0:Int),(0:Int),(0:Int)])*(1:Nat)<=(140737488355328:Nat)/\((List.length (h++[(0:Int),(10:Int),(0:Int),(0:Int),(0:Int),(0:Int)])):Int)<=1073741824/\ ∀(i:Int),i=pseudo a b (17:Int) (h++[(0:Int),(10:Int),(0:Int),(0:Int),(0:Int),(0:Int)])->0<=i/\i<=65535/\0<=IntKind.wrap .i64 (e+(1:Int))/\IntKind.wrap .i64 (e+(1:Int))<=65535/\ ∀(j:Int),(j=if oc ((65535:Int) -IntKind.wrap .i64 (e+(1:Int))+i)=0 then (65535:Int) else oc ((65535:Int) -IntKind.wrap .i64 (e+(1:Int))+i))->(↑(0:Nat):Int)<=1099511627776/\ ∀(k:List Int),k=putB ([]:List Int) j (2:Int)->(k.length:Int)<=1073741824/\udpEnc a b (IntKind.wrap .i64 ((20000:Int)+d),(33434:Int),k)=conP (a,b,c,d,e,f)) ((↑(0:Nat):Int)<=1000000/\tcpEnc a b (IntKind.wrap .i64
 ((20000:Int)+d),(80:Int),e,(0:Int),(2:Int),(1024:Int),([]:List Int))=conP (a,b,c,d,e,f))):=by
  delta Qbk3
  rintro s d pr f t l-he
  obtain ⟨hp,hr⟩:=probe_ok.1 he
  have hr':=hr
  obtain ⟨⟨f0,f1⟩,⟨t0,t1⟩,l0,l1⟩:=hr'
  simp only at f0 f1 t0 t1 l0 l1
  rw [w64 (n:=16384+f) (by omega) (by omega),w64 (n:=20000+f) (by omega) (by omega),w64 (n:=t+1) (by omega) (by omega)]
  refine ifP_split (fun h1 => ?_) (fun h1=>ifP_split (fun h17 => ?_) (fun h17 => ?_))
  · have h1:=of_decide_eq_true h1
    have e0:echoErr (false,21075,t,[0,0])=0:=echo_good (data:=[0,0]) ⟨⟨(word16_iff _).2 ⟨by show (0:Int)<=21075;omega,by show (21075:Int)<=_;omega⟩,(word16_iff _).2 ⟨t0,by show t<=_;omega⟩⟩,rfl⟩ (by simp)
    have hc:=csum_range (bytes_echo0 t)
    refine ⟨by simp,?_⟩
    rintro b _ ⟨rfl,-⟩
    rw [echoEnc,if_pos e0]
    have hl:(setW (echoBody (false,21075,t,[0,0])) 2 (csum (echoBody (false,21075,t,[0,0])))).length=10:=by rw [setW_len];rfl
    refine ⟨by omega,?_⟩
    rw [gV2 (by omega) (by omega),show Int.toNat 2=2 from rfl,word_setW (by show 2+2<=10;omega) hc.1 hc.2]
    rintro _ rfl
    refine ⟨hc.1,hc.2,by omega,by omega,?_⟩
    have hi:=icmpN_pos hr
    have ei:oc (65535-(16384+f)+csum (echoBody (false,21075,t,[0,0])))=icmpN (s,d,pr,f,t,l):=rfl
    rw [ei,if_neg (by omega)]
    rintro _ rfl
    refine ⟨by omega,?_⟩
    rw [putB_2 (by omega) (by omega)]
    rintro _ rfl
    refine ⟨by simp [w2],?_⟩
    rintro _ _ ⟨rfl,-⟩
    rw [conP,if_pos h1];rfl
  · have h17:=of_decide_eq_true h17
    refine ⟨by omega,?_⟩
    rw [putB_2 (by omega) (by omega)]
    rintro _ rfl
    refine ⟨by simp [w2],?_⟩
    rw [putB_2 (by omega) (by omega)]
    rintro _ rfl
    have eb:[]++w2 (20000+f)++w2 33434++[0,10,0,0,0,0]=udpBody (20000+f,33434,[0,0]):=by simp [udpBody,w2]
    rw [eb]
    refine ⟨by simp [w2],by show ((10:Nat):Int)<=_;omega,?_⟩
    have hq:=pseudo_lt (s:=s) (d:=d) (p:=17) (bytes_udp0 f) (by decide)
    rintro _ rfl
    refine ⟨hq.1,by omega,by omega,by omega,?_⟩
    have hu:=udpN_pos hr
    have eu:(if oc (65535-(t+1)+pseudo s d 17 (udpBody (20000+f,33434,[0,0])))=0 then 65535 else oc (65535-(t+1)+pseudo s d 17 (udpBody (20000+f,33434,[0,0]))))=udpN (s,d,pr,f,t,l):=rfl
    rw [eu]
    rintro _ rfl
    refine ⟨by omega,?_⟩
    rw [putB_2 (by omega) (by omega)]
    rintro _ rfl
    refine ⟨by simp [w2],?_⟩
    rw [conP,if_neg (by simp only;omega),if_pos h17];rfl
  · have h1:=of_decide_eq_false h1
    have h17:=of_decide_eq_false h17
    rw [conP,if_neg h1,if_neg h17]
    exact ⟨by omega,rfl⟩
theorem ok_ref07_data:SpecOK Tryz.prog GL 78 ct_ref07_data.spec:=Ct.okH _ Tryz.func78 (by kernel_rfl) (withSpec_ok (withSpec_ok (withSpec_ok (withSpec_ok (withSpec_ok (withSpec_ok (withSpec_ok noSpecs_ok (Ct.named ok_ref06_EncodeEcho)) (Ct.named ok_ref04_At)) (Ct.named ok_ref07_balanced)) (Ct.named ok_ref04_Push)) (Ct.named ok_ref06_Pseudo)) ok_ref06_EncodeUDP) ok_ref06_EncodeTCP) hmix an_ref07_data (hideMp (by kernel_rfl) vc_ref07_data)
def ct_ref07_Build:Ct:=⟨[.agg cProbe],[.own 5 cU8,.val cI],fun d=>[],fun d=>((build d.1,probeErr d.1,()),())⟩
def an_ref07_Build:PDs ct_ref07_Build.ps->Anns:=(fun _=>{})
theorem vc_ref07_Build :
 ∀(a b c d e f:Int),(Qbk3 a b c d e f)/\True->True->ifP (! decide (probeErr (a,b,c,d,e,f)=0)) (([]:List Int)=build (a,b,c,d,e,f)/\probeErr (a,b,c,d,e,f)=probeErr (a,b,c,d,e,f)) (probeErr (a,b,c,d,e,f)=0/\((List.length (conP (a,b,c,d,e,f))):Int)<=1073741824/\ipEnc (((0:Int),e,f,c,true,a,b),conP (a,b,c,d,e,f))=build (a,b,c,d,e,f)/\ipErr (((0:Int),e,f,c,true,a,b),conP (a,b,c,d,e,f))=probeErr (a,b,c,d,e,f)):=by
  delta Qbk3
  rintro s d pr f t l - -
  refine ifP_split (fun h => ?_) (fun h => ?_)
  · have h:¬ probeErr (s,d,pr,f,t,l)=0:=by simpa using h
    rw [build,if_neg h];exact ⟨rfl,rfl⟩
  have h:probeErr (s,d,pr,f,t,l)=0:=by simpa using h
  have e0:=ipErr0 h
  have hl:=con_len h
  refine ⟨h,by omega,?_⟩
  rw [build,if_pos h,h]
  exact ⟨rfl,e0⟩
theorem ok_ref07_Build:SpecOK Tryz.prog GL 29 ct_ref07_Build.spec:=Ct.okH _ Tryz.func29 (by kernel_rfl) (withSpec_ok (withSpec_ok (withSpec_ok noSpecs_ok ok_ref07_Check) ok_ref07_data) ok_ref05_Encode) hmix an_ref07_Build (hideMp (by kernel_rfl) vc_ref07_Build)
end Go.RS

/- Pback: probes read back from their packets. -/
namespace Go.RS
open Go.SX Go.Proofs
set_option maxRecDepth 100000
set_option linter.unusedVariables false
theorem okC_new (m:Int) (hm:0<=m) (l:List Int):okC (if (l.length:Int)<=m then l else l.take (Int.toNat m),0):=by
  split <;> simp [okC]
def u32 (n:Int):Prop:=0<=n/\n<=4294967295
end Go.RS

/- Addr: prefixes, and functions of Go's library over numbers. -/
namespace Go.RS
open Go.SX Go.Proofs
set_option maxRecDepth 100000
set_option linter.unusedVariables false
abbrev cPfx:CT := .pair cU32 cI
def icmp (a b:Int):Int:=if a<b then -1 else if b<a then 1 else 0
abbrev Pfx:Type:=Int×Int
def pcmp (p q:Pfx):Int:=if icmp p.1 q.1≠0 then icmp p.1 q.1 else icmp p.2 q.2
def firstNZ:List Int->Int
  | []=>0
  | x::xs=>if x≠0 then x else firstNZ xs
theorem drop_getD {l:List Int} {j:Int} (h0:0<=j) (h1:j<l.length):l.drop j.toNat=l.getD j.toNat default::l.drop (j+1).toNat:=by
  have hj:j.toNat<l.length:=by omega
  rw [List.drop_eq_getElem_cons hj,List.getD_eq_getElem?_getD,List.getElem?_eq_getElem hj,Option.getD_some]
  congr 2;omega
theorem mem_take_succ {α:Type} [Inhabited α] {l:List α} {j:Int} (h0:0<=j) (h1:j<l.length) {y:α} (hy:y∈l.take (j+1).toNat):y∈l.take j.toNat∨y=l.getD j.toNat default:=by
  have hj:j.toNat<l.length:=by omega
  have e:(j+1).toNat=j.toNat+1:=by omega
  rw [e,List.take_succ_eq_append_getElem hj] at hy
  rcases List.mem_append.1 hy with hy|hy
  · exact .inl hy
  · right
    simp at hy
    rw [List.getD_eq_getElem?_getD,List.getElem?_eq_getElem hj,Option.getD_some];exact hy
theorem idxOf_at {l:List Int} {v j:Int} (h0:0<=j) (h1:j<l.length) (hv:l.getD j.toNat default=v) (h2:∀ y∈l.take j.toNat,y≠v):l.idxOf v=j.toNat:=by
  have hj:j.toNat<l.length:=by omega
  rw [List.getD_eq_getElem?_getD,List.getElem?_eq_getElem hj,Option.getD_some] at hv
  have e:l=l.take j.toNat++l[j.toNat]::l.drop (j.toNat+1):=by
    rw [← List.drop_eq_getElem_cons hj,List.take_append_drop]
  rw [e,List.idxOf_append,if_neg (fun hm=>h2 v hm rfl),hv,List.idxOf_cons_self]
  simp;omega
def ct_cmp_isNaN_bef2:Ct:=⟨[.val cI],[.val .bool],fun _=>[],fun _=>((false,()),())⟩
def an_cmp_isNaN_bef2:PDs ct_cmp_isNaN_bef2.ps->Anns:=(fun _=>{})
theorem vc_cmp_isNaN_bef2 :
 ∀(a:Int),R64 a/\True->True->(! decide (a=a))=false:=by
  rintro x - -
  simp
theorem ok_cmp_isNaN_bef2:SpecOK Tryz.prog GL 184 ct_cmp_isNaN_bef2.spec:=Ct.okH _ Tryz.func184 (by kernel_rfl) noSpecs_ok hmix an_cmp_isNaN_bef2 (hideMp (by kernel_rfl) vc_cmp_isNaN_bef2)
def ct_cmp_isNaN_1748:Ct:=⟨[.val cU32],[.val .bool],fun _=>[],fun _=>((false,()),())⟩
def an_cmp_isNaN_1748:PDs ct_cmp_isNaN_1748.ps->Anns:=(fun _=>{})
theorem vc_cmp_isNaN_1748 :
 ∀(a:Int),(0<=a/\a<=4294967295)/\True->True->(! decide (a=a))=false:=by
  rintro x - -
  simp
theorem ok_cmp_isNaN_1748:SpecOK Tryz.prog GL 183 ct_cmp_isNaN_1748.spec:=Ct.okH _ Tryz.func183 (by kernel_rfl) noSpecs_ok hmix an_cmp_isNaN_1748 (hideMp (by kernel_rfl) vc_cmp_isNaN_1748)
def ct_cmp_Compare_bef2:Ct:=⟨[.val cI,.val cI],[.val cI],fun _=>[],fun d=>((icmp d.1 d.2.1,()),())⟩
def an_cmp_Compare_bef2:PDs ct_cmp_Compare_bef2.ps->Anns:=(fun _=>{})
def Qbm1 (a b:Int) :=
 ifP (decide (a<b)) ((-1:Int)=icmp a b) (ifP (decide (b<a)) ((1:Int)=icmp a b) ((0:Int)=icmp a b))
theorem vc_cmp_Compare_bef2 :
 ∀(a b:Int),R64 a/\R64 b/\True->True->(Qbm1 a b):=by
  delta Qbm1
  rintro x y - -
  unfold icmp
  refine ifP_split (fun h => ?_) (fun h=>ifP_split (fun h2 => ?_) (fun h2 => ?_))
  · rw [if_pos (of_decide_eq_true h)]
  · rw [if_neg (of_decide_eq_false h),if_pos (of_decide_eq_true h2)]
  · rw [if_neg (of_decide_eq_false h),if_neg (of_decide_eq_false h2)]
theorem ok_cmp_Compare_bef2:SpecOK Tryz.prog GL 150 ct_cmp_Compare_bef2.spec:=Ct.okH _ Tryz.func150 (by kernel_rfl) (withSpec_ok noSpecs_ok ok_cmp_isNaN_bef2) hmix an_cmp_Compare_bef2 (hideMp (by kernel_rfl) vc_cmp_Compare_bef2)
def ct_cmp_Compare_1748:Ct:=⟨[.val cU32,.val cU32],[.val cI],fun _=>[],fun d=>((icmp d.1 d.2.1,()),())⟩
def an_cmp_Compare_1748:PDs ct_cmp_Compare_1748.ps->Anns:=(fun _=>{})
theorem vc_cmp_Compare_1748 :
 ∀(a b:Int),(0<=a/\a<=4294967295)/\(0<=b/\b<=4294967295)/\True->True->(Qbm1 a b):=by
  delta Qbm1
  rintro x y - -
  unfold icmp
  refine ifP_split (fun h => ?_) (fun h=>ifP_split (fun h2 => ?_) (fun h2 => ?_))
  · rw [if_pos (of_decide_eq_true h)]
  · rw [if_neg (of_decide_eq_false h),if_pos (of_decide_eq_true h2)]
  · rw [if_neg (of_decide_eq_false h),if_neg (of_decide_eq_false h2)]
theorem ok_cmp_Compare_1748:SpecOK Tryz.prog GL 149 ct_cmp_Compare_1748.spec:=Ct.okH _ Tryz.func149 (by kernel_rfl) (withSpec_ok noSpecs_ok ok_cmp_isNaN_1748) hmix an_cmp_Compare_1748 (hideMp (by kernel_rfl) vc_cmp_Compare_1748)
def ct_cmp_Or_bef2:Ct:=⟨[.val (.sl cI)],[.val cI],fun _=>[],fun d=>((firstNZ d.1,()),())⟩
def an_cmp_Or_bef2:PDs ct_cmp_Or_bef2.ps->Anns:=(fun d=>{loops:=(fun n=>match n with|3=>some (fun S=>{ι:=Int,μ:=fun i=>(d.1.length-i).toNat,inv:=fun i=>0<=i/\i<=d.1.length/\firstNZ d.1=firstNZ (d.1.drop i.toNat),keep:=[3,6,7],slots:=fun i=>[(8,.int .i64 i)],names:=fun i=>[]})|_=>none)})
def Qbm2 (a:List Int) :=
 (a.length:Int)
theorem vc_cmp_Or_bef2 :
 ∀(a:List Int),(a.length<=maxLen/\ ∀(b:Int),b∈a->R64 b)/\True->True->(∃(b:Int),(0<=b/\b<=(Qbm2 a)/\firstNZ a=firstNZ (List.drop b.toNat a))/\(0:Int)=0/\a=a/\(Qbm2 a)=(Qbm2 a)/\(0:Int)=b/\True)/\ ∀(b:Int),0<=b/\b<=(Qbm2 a)/\firstNZ a=firstNZ (List.drop b.toNat a)->ifP (decide (b<(Qbm2 a))) (0<=b/\b<(Qbm2 a)/\ifP (! decide (a.getD b.toNat default=0)) (a.getD b.toNat default=firstNZ a) (∃(c:Int),(0<=c/\c<=(Qbm2 a)/\firstNZ a=firstNZ (List.drop c.toNat a))/\Int.toNat ((Qbm2 a) -c)<Int.toNat ((Qbm2 a) -b)/\(0:Int)=0/\a=a/\(Qbm2 a)=(Qbm2 a)/\IntKind.wrap .i64 (b+(1:Int))=c/\True)) ((0:Int)=firstNZ a):=by
  delta Qbm2
  rintro x ⟨⟨hl,-⟩,-⟩ -
  simp only [maxLen] at hl
  refine ⟨⟨0,⟨by omega,by omega,rfl⟩,(by repeat' first|exact trivial|refine ⟨trivial,?_⟩|refine ⟨(by with_reducible rfl),?_⟩|refine ⟨w64 (by omega) (by omega),?_⟩|refine ⟨rfl,?_⟩)⟩,?_⟩
  rintro j ⟨h0,h1,h2⟩
  refine ifP_split (fun hj => ?_) (fun hj => ?_)
  · have hj:=of_decide_eq_true hj
    have e:=drop_getD (l:=x) h0 hj
    rw [e] at h2
    refine ⟨h0,hj,ifP_split (fun hz => ?_) (fun hz => ?_)⟩
    · have hz:x.getD j.toNat default≠0:=by simpa only [Bool.not_eq_true',decide_eq_false_iff_not] using hz
      rw [h2,firstNZ,if_pos hz]
    · have hz:¬ x.getD j.toNat default≠0:=by simpa only [Bool.not_eq_false',decide_eq_true_eq,ne_eq,Decidable.not_not] using hz
      rw [firstNZ,if_neg hz] at h2
      exact ⟨j+1,⟨by omega,by omega,h2⟩,by omega,(by repeat' first|exact trivial|refine ⟨trivial,?_⟩|refine ⟨(by with_reducible rfl),?_⟩|refine ⟨w64 (by omega) (by omega),?_⟩|refine ⟨rfl,?_⟩)⟩
  · have hj:=of_decide_eq_false hj
    rw [h2,List.drop_eq_nil_of_le (by omega)];rfl
theorem ok_cmp_Or_bef2:SpecOK Tryz.prog GL 148 ct_cmp_Or_bef2.spec:=Ct.okH _ Tryz.func148 (by kernel_rfl) noSpecs_ok hmix an_cmp_Or_bef2 (hideMp (by kernel_rfl) vc_cmp_Or_bef2)
def ct_address_Compare:Ct:=⟨[.agg cPfx,.agg cPfx],[.val cI],fun _=>[],fun d=>((pcmp d.1 d.2.1,()),())⟩
def an_address_Compare:PDs ct_address_Compare.ps->Anns:=(fun _=>{})
theorem vc_address_Compare :
 ∀(a b c d:Int),((0<=a/\a<=4294967295)/\R64 b)/\((0<=c/\c<=4294967295)/\R64 d)/\True->True->firstNZ [icmp a c,icmp b d]=pcmp (a,b) (c,d):=by
  rintro x y z u - -
  simp only [firstNZ,pcmp]
  split
  · rfl
  · split
    · rfl
    · rename_i h;simp at h;exact h.symm
theorem ok_address_Compare:SpecOK Tryz.prog GL 98 ct_address_Compare.spec:=Ct.okH _ Tryz.func98 (by kernel_rfl) (withSpec_ok (withSpec_ok (withSpec_ok noSpecs_ok ok_cmp_Compare_1748) ok_cmp_Compare_bef2) ok_cmp_Or_bef2) hmix an_address_Compare (hideMp (by kernel_rfl) vc_address_Compare)
def ct_ref01_Order:Ct:=⟨[.val cI,.val cI],[.val cI],fun _=>[],fun d=>((icmp d.1 d.2.1,()),())⟩
def an_ref01_Order:PDs ct_ref01_Order.ps->Anns:=(fun _=>{})
theorem vc_ref01_Order :
 ∀(a b:Int),R64 a/\R64 b/\True->True->(Qbm1 a b):=by
  delta Qbm1
  rintro x y - -
  unfold icmp
  refine ifP_split (fun h => ?_) (fun h=>ifP_split (fun h2 => ?_) (fun h2 => ?_))
  · rw [if_pos (of_decide_eq_true h)]
  · rw [if_neg (of_decide_eq_false h),if_pos (of_decide_eq_true h2)]
  · rw [if_neg (of_decide_eq_false h),if_neg (of_decide_eq_false h2)]
theorem ok_ref01_Order:SpecOK Tryz.prog GL 153 ct_ref01_Order.spec:=Ct.okH _ Tryz.func153 (by kernel_rfl) noSpecs_ok hmix an_ref01_Order (hideMp (by kernel_rfl) vc_ref01_Order)
def ct_ref01_Compare:Ct:=⟨[.agg cPfx,.agg cPfx],[.val cI],fun _=>[],fun d=>((pcmp d.1 d.2.1,()),())⟩
def an_ref01_Compare:PDs ct_ref01_Compare.ps->Anns:=(fun _=>{})
theorem vc_ref01_Compare :
 ∀(a b c d:Int),((0<=a/\a<=4294967295)/\R64 b)/\((0<=c/\c<=4294967295)/\R64 d)/\True->True->ifP (! decide (a=c)) (icmp (IntKind.wrap .i64 a) (IntKind.wrap .i64 c)=pcmp (a,b) (c,d)) (icmp b d=pcmp (a,b) (c,d)):=by
  rintro x y z u ⟨⟨⟨h0,h1⟩,-⟩,⟨⟨h2,h3⟩,-⟩,-⟩ -
  unfold pcmp
  refine ifP_split (fun h => ?_) (fun h => ?_)
  · simp at h
    rw [w64 (by omega) (by omega),w64 (by omega) (by omega),if_pos (by simp only [icmp];split <;> first|omega|(split <;> omega))]
  · simp at h
    subst h
    rw [if_neg (by simp [icmp])]
theorem ok_ref01_Compare:SpecOK Tryz.prog GL 102 ct_ref01_Compare.spec:=Ct.okH _ Tryz.func102 (by kernel_rfl) (withSpec_ok noSpecs_ok ok_ref01_Order) hmix an_ref01_Compare (hideMp (by kernel_rfl) vc_ref01_Compare)
def sz (n:Int):Int:=2^(32-n).toNat
def pValid (p:Pfx):Bool:=decide (0<=p.2/\p.2<=32/\p.1%sz p.2=0)
def contains (p:Pfx) (a:Int):Bool:=pValid p&&decide (p.1<=a/\a<p.1+sz p.2)
theorem sz_pos (n:Int):0<sz n:=Int.pow_pos (by decide)
theorem sz_nat (n:Int):sz n=((2^(32-n).toNat:Nat):Int):=by unfold sz;rw [Int.natCast_pow];rfl
theorem sz_cases {n:Int} (h0:0<=n) (h1:n<=32):∃ k:Nat,k<=32/\n=32-k/\sz n=((2^k:Nat):Int):=⟨(32-n).toNat,by omega,by omega,sz_nat n⟩
theorem mask_eq {n:Int} (h0:0<=n) (h1:n<=32):shlI .u32 4294967295 (32-n)=4294967296-sz n:=by
  obtain ⟨k,hk,rfl,e⟩:=sz_cases h0 h1
  rw [e]
  have:(32:Int)-(32-(k:Int))=(k:Int):=by omega
  rw [this]
  unfold shlI
  rw [IntKind.wrap_u32]
  have hm:min ((k:Int)).toNat IntKind.u32.bits=k:=by simp only [IntKind.bits,Int.toNat_natCast];omega
  rw [hm]
  have hd:∀ k:Nat,k<=32->(4294967295*2^k:Int)%4294967296=4294967296-((2^k:Nat):Int):=by decide
  exact hd k hk
theorem size_eq {n:Int} (h0:0<=n) (h1:n<=32):shlI .i64 1 (32-n)=sz n:=by
  obtain ⟨k,hk,rfl,e⟩:=sz_cases h0 h1
  rw [e]
  have:(32:Int)-(32-(k:Int))=(k:Int):=by omega
  rw [this]
  unfold shlI
  have hm:min ((k:Int)).toNat IntKind.i64.bits=k:=by simp only [IntKind.bits,Int.toNat_natCast];omega
  rw [hm,Int.one_mul]
  have e2:((2:Int)^k)=((2^k:Nat):Int):=by rw [Int.natCast_pow];rfl
  have:(2:Nat)^k<=2^32:=Nat.pow_le_pow_right (by decide) hk
  rw [e2]
  generalize 2^k=s at this ⊢
  exact w64 (by omega) (by omega)
theorem mask_not {x n:Int} (h0:0<=x) (h1:x<=4294967295) (h2:0<=n) (h3:n<=32):bits .andNot .u32 x (4294967296-sz n)=x%sz n:=by
  obtain ⟨k,hk,rfl,e⟩:=sz_cases h2 h3
  have hp:(2:Nat)^k<=2^32:=Nat.pow_le_pow_right (by decide) hk
  have hp0:0<(2:Nat)^k:=Nat.two_pow_pos k
  rw [e,u32_andNot _ _ h0 (by omega) (by omega) (by omega)]
  have e1:4294967295-((4294967296:Int)-((2^k:Nat):Int)).toNat=2^k-1:=by omega
  rw [e1,Nat.and_two_pow_sub_one_eq_mod]
  obtain ⟨m,rfl⟩:=Int.eq_ofNat_of_zero_le h0
  rw [Int.toNat_natCast,Int.natCast_emod]
theorem and_high {a k:Nat} (hk:k<=32) (ha:a<4294967296):a &&& (4294967296-2^k)=a/2^k*2^k:=by
  have e:4294967296-2^k=(2^(32-k)-1) <<< k:=by
    rw [Nat.shiftLeft_eq,Nat.sub_mul,← Nat.pow_add,Nat.one_mul]
    congr 1
    rw [show 32-k+k=32 from by omega]
  rw [e,← Nat.shiftRight_eq_div_pow,← Nat.shiftLeft_eq]
  apply Nat.eq_of_testBit_eq
  intro i
  simp only [Nat.testBit_and,Nat.testBit_shiftLeft,Nat.testBit_two_pow_sub_one,Nat.testBit_shiftRight]
  by_cases hi:k<=i
  · have e2:k+(i-k)=i:=by omega
    simp only [hi,decide_true,Bool.true_and,e2]
    by_cases h32:i<32
    · have:i-k<32-k:=by omega
      simp [this]
    · have:a.testBit i=false:=Nat.testBit_lt_two_pow (Nat.lt_of_lt_of_le ha (Nat.pow_le_pow_right (show 0<2 by decide) (by omega:32<=i)))
      simp [this]
  · simp [hi]
theorem mask_and {a n x:Int} (h0:0<=a) (h1:a<=4294967295) (h2:0<=n) (h3:n<=32) (hx:0<=x) (hm:x%sz n=0) :
    (bits .and .u32 a (4294967296-sz n)=x)↔(x<=a/\a<x+sz n):=by
  obtain ⟨k,hk,rfl,e⟩:=sz_cases h2 h3
  have hp:(2:Nat)^k<=2^32:=Nat.pow_le_pow_right (by decide) hk
  have hp0:0<(2:Nat)^k:=Nat.two_pow_pos k
  rw [e] at hm ⊢
  rw [u32_and _ _ h0 (by omega) (by omega) (by omega)]
  have e1:((4294967296:Int)-((2^k:Nat):Int)).toNat=4294967296-2^k:=by omega
  rw [e1,and_high hk (by omega)]
  obtain ⟨m,rfl⟩:=Int.eq_ofNat_of_zero_le h0
  obtain ⟨y,rfl⟩:=Int.eq_ofNat_of_zero_le hx
  rw [Int.toNat_natCast]
  have hm:y%2^k=0:=by
    have:((y%2^k:Nat):Int)=0:=by rw [Int.natCast_emod];exact hm
    omega
  generalize 2^k=s at *
  have d:=Nat.div_add_mod m s
  have dl:=Nat.mod_lt m hp0
  have dy:=Nat.div_add_mod y s
  rw [hm] at dy
  rw [Nat.mul_comm] at d
  constructor
  · intro h;omega
  · rintro ⟨h,h'⟩
    have hq:m/s=y/s:=by
      apply Nat.le_antisymm
      · have:m<(y/s+1)*s:=by rw [Nat.add_mul,Nat.one_mul,Nat.mul_comm (y/s)];omega
        have:=Nat.div_lt_of_lt_mul (Nat.mul_comm _ _▸this:m<s*(y/s+1))
        omega
      · exact Nat.div_le_div_right (by omega)
    rw [hq,Nat.mul_comm];omega
theorem shift_valid {a n:Int} (h2:0<=n) (h3:n<=32) (h0:0<=a) (h1:a<=4294967295):pValid (shlI .u32 (shrI .u32 a (32-n)) (32-n),n)=true:=by
  obtain ⟨k,hk,rfl,e⟩:=sz_cases h2 h3
  have hp:(2:Nat)^k<=2^32:=Nat.pow_le_pow_right (by decide) hk
  have hp0:0<(2:Nat)^k:=Nat.two_pow_pos k
  have:(32:Int)-(32-(k:Int))=(k:Int):=by omega
  simp only [pValid,e,this,decide_eq_true_eq]
  refine ⟨by omega,by omega,?_⟩
  unfold shlI shrI
  have hm:min ((k:Int)).toNat IntKind.u32.bits=k:=by simp only [IntKind.bits,Int.toNat_natCast];omega
  rw [hm]
  have e2:((2:Int)^k)=((2^k:Nat):Int):=by rw [Int.natCast_pow];rfl
  obtain ⟨m,rfl⟩:=Int.eq_ofNat_of_zero_le h0
  rw [e2,Int.fdiv_eq_ediv_of_nonneg _ (by omega),← Int.natCast_ediv,← Int.natCast_mul,wu32 (by omega) (by
    have:=Nat.div_mul_le_self m (2^k)
    omega),← Int.natCast_emod,Nat.mul_mod_left]
  rfl
def ct_address_mask:Ct:=⟨[.val cI],[.val cU32],fun d=>[0<=d.1/\d.1<=32],fun d=>((4294967296-sz d.1,()),())⟩
def an_address_mask:PDs ct_address_mask.ps->Anns:=(fun _=>{})
theorem vc_address_mask :
 ∀(a:Int),R64 a/\True->0<=a/\a<=32->0<=IntKind.wrap .i64 ((32:Int) -a)/\shlI IntKind.u32 (4294967295:Int) (IntKind.wrap .i64 ((32:Int) -a))=4294967296 -sz a:=by
  rintro x-⟨h0,h1⟩
  rw [w64 (by omega) (by omega)]
  exact ⟨by omega,mask_eq h0 h1⟩
theorem ok_address_mask:SpecOK Tryz.prog GL 147 ct_address_mask.spec:=Ct.okH _ Tryz.func147 (by kernel_rfl) noSpecs_ok hmix an_address_mask (hideMp (by kernel_rfl) vc_address_mask)
def ct_address_Valid:Ct:=⟨[.agg cPfx],[.val .bool],fun _=>[],fun d=>((pValid d.1,()),())⟩
def an_address_Valid:PDs ct_address_Valid.ps->Anns:=(fun _=>{})
theorem vc_address_Valid :
 ∀(a b:Int),((0<=a/\a<=4294967295)/\R64 b)/\True->True-> ∀(c:Bool),c=decide (0<=b)->(c->(c->c)/\True)/\(c->(c->c)/\True)/\(c->c)/\ ∀(d:Bool),(d=bif c then decide (b<=32) else false)->(d->(d->d)/\True)/\(d->(d->d)/\True)/\(d->(d->d)/\(0<=b/\b<=32)/\True)/\(d->(d->d)/\(d->d)/\True)/\(d->(d->d)/\True)/\(d->d)/\(bif d then decide (bits BinOp.andNot IntKind.u32 a ((4294967296:Int) -sz b)=0) else false)=pValid (a,b):=by
  rintro x n ⟨⟨⟨h0,h1⟩,-⟩,-⟩ -
  (repeat (intro (b_:Bool) (hb_:b_=_);(repeat refine ⟨(by first|(simp;done)|(rw [hb_];simp;done)|(rw [hb_];simp;omega)|(rw [hb_];simp;intros;omega)|(rw [hb_];simp +contextual;done)),?_⟩);subst hb_))
  by_cases hn:0<=n/\n<=32
  · have:=mask_not (n:=n) h0 h1 hn.1 hn.2
    simp [pValid,hn,this]
  · simp only [pValid]
    by_cases h2:0<=n
    · have:¬ n<=32:=fun h=>hn ⟨h2,h⟩
      simp [this]
    · simp [h2]
theorem ok_address_Valid:SpecOK Tryz.prog GL 97 ct_address_Valid.spec:=Ct.okH _ Tryz.func97 (by kernel_rfl) (withSpec_ok noSpecs_ok ok_address_mask) hmix an_address_Valid (hideMp (by kernel_rfl) vc_address_Valid)
def ct_address_Contains:Ct:=⟨[.agg cPfx,.val cU32],[.val .bool],fun _=>[],fun d=>((contains d.1 d.2.1,()),())⟩
def an_address_Contains:PDs ct_address_Contains.ps->Anns:=(fun _=>{})
theorem vc_address_Contains :
 ∀(a b c:Int),((0<=a/\a<=4294967295)/\R64 b)/\(0<=c/\c<=4294967295)/\True->True-> ∀(d:Bool),d=pValid (a,b)->(d->(d->d)/\True)/\(d->(d->d)/\(0<=b/\b<=32)/\True)/\(d->(d->d)/\(d->d)/\True)/\(d->(d->d)/\True)/\(d->(d->d)/\(d->d)/\True)/\(d->d)/\(bif d then decide (bits BinOp.and IntKind.u32 c ((4294967296:Int) -sz b)=a) else false)=contains (a,b) c:=by
  rintro x n a ⟨⟨⟨h0,h1⟩,-⟩,⟨h2,h3⟩,-⟩ -
  have hv:∀ b:Bool,b=pValid (x,n)->b=true->0<=n/\n<=32/\x%sz n=0:=by
    rintro b rfl h;simpa [pValid] using h
  rintro b hb
  have hr:=hv b hb
  refine ⟨by simp,fun h=>⟨fun _=>h,⟨(hr h).1,(hr h).2.1⟩,trivial⟩,by simp,by simp,by simp,by simp,?_⟩
  unfold contains
  rw [← hb]
  cases b with
  | false=>rfl
  | true =>
    obtain ⟨r1,r2,r3⟩:=hr rfl
    have:=mask_and (n:=n) (x:=x) h2 h3 r1 r2 h0 r3
    rw [Bool.eq_iff_iff];simpa using this
theorem ok_address_Contains:SpecOK Tryz.prog GL 146 ct_address_Contains.spec:=Ct.okH _ Tryz.func146 (by kernel_rfl) (withSpec_ok (withSpec_ok noSpecs_ok ok_address_mask) ok_address_Valid) hmix an_address_Contains (hideMp (by kernel_rfl) vc_address_Contains)
def ct_ref01_size:Ct:=⟨[.val cI],[.val cI],fun d=>[0<=d.1/\d.1<=32],fun d=>((sz d.1,()),())⟩
def an_ref01_size:PDs ct_ref01_size.ps->Anns:=(fun _=>{})
theorem vc_ref01_size :
 ∀(a:Int),R64 a/\True->0<=a/\a<=32->0<=IntKind.wrap .i64 ((32:Int) -a)/\shlI IntKind.i64 (1:Int) (IntKind.wrap .i64 ((32:Int) -a))=sz a:=by
  rintro x-⟨h0,h1⟩
  rw [w64 (by omega) (by omega)]
  exact ⟨by omega,size_eq h0 h1⟩
theorem ok_ref01_size:SpecOK Tryz.prog GL 152 ct_ref01_size.spec:=Ct.okH _ Tryz.func152 (by kernel_rfl) noSpecs_ok hmix an_ref01_size (hideMp (by kernel_rfl) vc_ref01_size)
def ct_ref01_Valid:Ct:=⟨[.agg cPfx],[.val .bool],fun _=>[],fun d=>((pValid d.1,()),())⟩
def an_ref01_Valid:PDs ct_ref01_Valid.ps->Anns:=(fun _=>{})
theorem vc_ref01_Valid :
 ∀(a b:Int),((0<=a/\a<=4294967295)/\R64 b)/\True->True-> ∀(c:Bool),c=decide (0<=b)->(c->(c->c)/\True)/\(c->(c->c)/\True)/\(c->c)/\ ∀(d:Bool),(d=bif c then decide (b<=32) else false)->(d->(d->d)/\True)/\(d->(d->d)/\True)/\(d->(d->d)/\True)/\(d->(d->d)/\(0<=b/\b<=32)/\True)/\(d->(d->d)/\(d->d)/\sz b≠(0:Int)/\True)/\(d->(d->d)/\True)/\(d->d)/\(bif d then decide (Int.tmod (IntKind.wrap .i64 a) (sz b)=0) else false)=pValid (a,b):=by
  rintro x n ⟨⟨⟨h0,h1⟩,-⟩,-⟩ -
  have hp:=sz_pos n
  (repeat (intro (b_:Bool) (hb_:b_=_);(repeat refine ⟨(by first|(simp;done)|(rw [hb_];simp;done)|(rw [hb_];simp;omega)|(rw [hb_];simp;intros;omega)|(rw [hb_];simp +contextual;done)),?_⟩);subst hb_))
  rw [w64 (by omega) (by omega),Int.tmod_eq_emod_of_nonneg h0]
  simp only [pValid]
  by_cases h2:0<=n
  · by_cases h3:n<=32
    · simp [h2,h3]
    · simp [h2,h3]
  · simp [h2]
theorem ok_ref01_Valid:SpecOK Tryz.prog GL 101 ct_ref01_Valid.spec:=Ct.okH _ Tryz.func101 (by kernel_rfl) (withSpec_ok noSpecs_ok ok_ref01_size) hmix an_ref01_Valid (hideMp (by kernel_rfl) vc_ref01_Valid)
def ct_slices_Index_263e:Ct:=⟨[.val (.sl cI),.val cI],[.val cI],fun _=>[],fun d=>((if d.2.1∈d.1 then (d.1.idxOf d.2.1:Int) else -1,()),())⟩
def an_slices_Index_263e:PDs ct_slices_Index_263e.ps->Anns:=(fun d=>{loops:=(fun n=>match n with|2=>some (fun S=>{ι:=Int,μ:=fun i=>(d.1.length-i).toNat,inv:=fun i=>0<=i/\i<=d.1.length∧∀ y∈d.1.take i.toNat,y≠d.2.1,keep:=[0,1,6,7],slots:=fun i=>[(8,.int .i64 i)],names:=fun i=>[]})|_=>none)})
theorem vc_slices_Index_263e :
 ∀(a:List Int) (b:Int),(a.length<=maxLen/\ ∀(c:Int),c∈a->R64 c)/\R64 b/\True->True->(∃(c:Int),(0<=c/\c<=(Qbm2 a)/\ ∀(d:Int),d∈List.take c.toNat a->d≠b)/\a=a/\b=b/\a=a/\(Qbm2 a)=(Qbm2 a)/\(0:Int)=c/\True)/\ ∀(c:Int),(0<=c/\c<=(Qbm2 a)/\ ∀(d:Int),d∈List.take c.toNat a->d≠b)->ifP (decide (c<(Qbm2 a))) (0<=c/\c<(Qbm2 a)/\ifP (decide (b=a.getD c.toNat default)) (c=if b∈a then (↑(List.idxOf b a):Int) else (-1:Int)) (∃(d:Int),(0<=d/\d<=(Qbm2 a)/\ ∀(e:Int),e∈List.take d.toNat a->e≠b)/\Int.toNat ((Qbm2 a) -d)<Int.toNat ((Qbm2 a) -c)/\a=a/\b=b/\a=a/\(Qbm2 a)=(Qbm2 a)/\IntKind.wrap .i64 (c+(1:Int))=d/\True)) ((-1:Int)=if b∈a then (↑(List.idxOf b a):Int) else (-1:Int)):=by
  delta Qbm2
  rintro x v ⟨⟨hl,-⟩,-⟩ -
  simp only [maxLen] at hl
  refine ⟨⟨0,⟨by omega,by omega,by simp⟩,(by repeat' first|exact trivial|refine ⟨trivial,?_⟩|refine ⟨(by with_reducible rfl),?_⟩|refine ⟨w64 (by omega) (by omega),?_⟩|refine ⟨rfl,?_⟩)⟩,?_⟩
  rintro j ⟨h0,h1,h2⟩
  refine ifP_split (fun hj => ?_) (fun hj => ?_)
  · have hj:=of_decide_eq_true hj
    refine ⟨h0,hj,ifP_split (fun hz => ?_) (fun hz => ?_)⟩
    · have hz:=of_decide_eq_true hz
      have hm:v∈x:=by rw [hz];exact getD_mem h0 hj
      rw [if_pos hm]
      have:=idxOf_at (l:=x) (v:=v) h0 hj hz.symm h2
      omega
    · have hz:=of_decide_eq_false hz
      refine ⟨j+1,⟨by omega,by omega,fun y hy => ?_⟩,by omega,(by repeat' first|exact trivial|refine ⟨trivial,?_⟩|refine ⟨(by with_reducible rfl),?_⟩|refine ⟨w64 (by omega) (by omega),?_⟩|refine ⟨rfl,?_⟩)⟩
      rcases mem_take_succ h0 hj hy with hy|rfl
      · exact h2 y hy
      · exact fun e=>hz e.symm
  · have hj:=of_decide_eq_false hj
    rw [List.take_of_length_le (by omega)] at h2
    rw [if_neg (fun hm=>h2 v hm rfl)]
theorem ok_slices_Index_263e:SpecOK Tryz.prog GL 185 ct_slices_Index_263e.spec:=Ct.okH _ Tryz.func185 (by kernel_rfl) noSpecs_ok hmix an_slices_Index_263e (hideMp (by kernel_rfl) vc_slices_Index_263e)
def ct_slices_Contains_263e:Ct:=⟨[.val (.sl cI),.val cI],[.val .bool],fun _=>[],fun d=>((decide (d.2.1∈d.1),()),())⟩
def an_slices_Contains_263e:PDs ct_slices_Contains_263e.ps->Anns:=(fun _=>{})
theorem vc_slices_Contains_263e :
 ∀(a:List Int) (b:Int),(a.length<=maxLen/\ ∀(c:Int),c∈a->R64 c)/\R64 b/\True->True->decide (0<=if b∈a then (↑(List.idxOf b a):Int) else (-1:Int))=decide (b∈a):=by
  rintro x v - -
  by_cases h:v∈x
  · rw [if_pos h];simp [h];
  · rw [if_neg h];simp [h]
theorem ok_slices_Contains_263e:SpecOK Tryz.prog GL 151 ct_slices_Contains_263e.spec:=Ct.okH _ Tryz.func151 (by kernel_rfl) (withSpec_ok noSpecs_ok ok_slices_Index_263e) hmix an_slices_Contains_263e (hideMp (by kernel_rfl) vc_slices_Contains_263e)
def ct_draw_Codes_Prefix:Cn:=⟨[.box 96 cCodes],[.agg cPfx],fun d=>[okC d.1],fun d y=>okC y.2.1/\pValid y.1.1=true,fun d h=>⟨(((0,0),()),(d.1,())),h.1,by simp [pValid]⟩⟩
def an_draw_Codes_Prefix:PDs ct_draw_Codes_Prefix.ps->Anns:=(fun _=>{})
def Qbm0 (c:Int) :=
 (32:Int) -List.getD [(0:Int),(8:Int),(16:Int),(24:Int),(29:Int),(30:Int),(31:Int),(32:Int)] c.toNat default
theorem vc_draw_Codes_Prefix :
 ∀(a:List Int) (b:Int),((a.length<=maxLen/\ ∀(c:Int),c∈a->0<=c/\c<=255)/\R64 b)/\True->0<=b/\b<=(Qbm2 a)->okC (a,b)/\ ∀(c:Int) (d:List Int) (e:Int),0<=c/\(c<8∨c=0)/\okC (d,e)->0<=c/\c<((List.length [(0:Int),(8:Int),(16:Int),(24:Int),(29:Int),(30:Int),(31:Int),(32:Int)]):Int)/\ifP (decide (List.getD [(0:Int),(8:Int),(16:Int),(24:Int),(29:Int),(30:Int),(31:Int),(32:Int)] c.toNat default=0)) (okC (d,e)/\pValid ((0:Int),(0:Int))=true) (okC (d,e)/\ ∀(f:Int) (g:List Int) (h:Int),okC (g,h)/\0<=f/\f<=4294967295->0<=IntKind.wrap .i64 (Qbm0 c)/\0<=IntKind.wrap .i64 (Qbm0 c)/\okC (g,h)/\pValid (shlI IntKind.u32 (shrI IntKind.u32 f (IntKind.wrap .i64 (Qbm0 c))) (IntKind.wrap .i64 (Qbm0 c)),List.getD [(0:Int),(8:Int),(16:Int),(24:Int),(29:Int),(30:Int),(31:Int),(32:Int)] c.toNat default)=true):=by
  delta Qbm0 Qbm2
  rintro l p-h
  refine ⟨h,?_⟩
  rintro r l2 p2 ⟨h1,h2,h3⟩
  have hk:0<=([0,8,16,24,29,30,31,32]:List Int).getD r.toNat default/\([0,8,16,24,29,30,31,32]:List Int).getD r.toNat default<=32 :=
    getD_all (p:=fun v=>0<=v/\v<=(32:Int)) (by simp) h1 (by simp;omega)
  generalize ([0,8,16,24,29,30,31,32]:List Int).getD r.toNat default=n at hk ⊢
  refine ⟨h1,by simp;omega,ifP_split (fun hz=>⟨h3,by simp [pValid]⟩) (fun hz=>⟨h3,?_⟩)⟩
  rintro a l3 p3 ⟨h4,h5,h6⟩
  rw [w64 (by omega) (by omega)]
  exact ⟨by omega,by omega,h4,shift_valid hk.1 hk.2 h5 h6⟩
theorem ok_draw_Codes_Prefix:SpecOK Tryz.prog GL 45 ct_draw_Codes_Prefix.spec:=Cn.okH _ Tryz.func45 (by kernel_rfl) (withSpec_ok (withSpec_ok noSpecs_ok ok_Next) ok_draw_Codes_Address) hmix an_draw_Codes_Prefix (hideMp (by kernel_rfl) vc_draw_Codes_Prefix)
end Go.RS

/- Reply: answers. -/
namespace Go.RS
open Go.SX Go.Proofs
set_option maxRecDepth 100000
set_option linter.unusedVariables false
abbrev Ans:Type:=Int×Int×Int×Int×Int×Int
def ans0:Ans:=(0,0,0,0,0,0)
def special (a:Int):Int :=
  if a/16777216=0 then 1 else if a/16777216=127 then 2
  else if a/16777216=10∨(a/16777216=172/\16<=a/65536%256/\a/65536%256<32)∨(a/16777216=192/\a/65536%256=168) then 3
  else if a/16777216=169/\a/65536%256=254 then 4
  else if 224<=a/16777216/\a/16777216<240 then 5 else if 240<=a/16777216 then 6 else 0
def usable (a:Int):Prop:=special a=0∨special a=3
instance (a:Int):Decidable (usable a):=by unfold usable;infer_instance
def protoP (x:Packet):Int:=x.1.2.2.2.1
def pktAns (x:Packet):Prop:=8<=x.2.length/\(x.1.2.2.2.1=1->x.2.getD 0 default=8)/\(x.1.2.2.2.1=6->14<=x.2.length->bits .and .u8 (x.2.getD 13 default) 4=0)/\usable x.1.2.2.2.2.2.1
instance (x:Packet):Decidable (pktAns x):=by unfold pktAns;infer_instance
def ansOK (b:List Int):Prop:=decErr b=0/\pktAns (decPkt b)
instance (b:List Int):Decidable (ansOK b):=by unfold ansOK;infer_instance
def preAns (b:List Int):Prop:=decErr b=0/\8<=(decPkt b).2.length/\(protoP (decPkt b)=1->(decPkt b).2.getD 0 default=8)/\(protoP (decPkt b)=6->14<=(decPkt b).2.length->bits .and .u8 ((decPkt b).2.getD 13 default) 4=0)
instance (b:List Int):Decidable (preAns b):=by unfold preAns;infer_instance
def ansP' (b:List Int):Packet:=if preAns b then decPkt b else (hdr0,[])
def numOK (id ttl:Int):Prop:=(0<=id/\id<=65535)/\0<=ttl/\ttl<=255
instance (i t:Int):Decidable (numOK i t):=by unfold numOK;infer_instance
def sendP (src dst proto id ttl:Int) (data:List Int):Packet:=((0,id,ttl,proto,false,src,dst),data)
def srcOf (b:List Int):Int:=(pkHdrF b).2.2.2.2.2.1
def dstOf (b:List Int):Int:=(pkHdrF b).2.2.2.2.2.2
def protoOf (b:List Int):Int:=(pkHdrF b).2.2.2.1
def errGood (kind code id ttl:Int):Prop:=(kind=11∨kind=3)/\(0<=code/\code<=255)/\numOK id ttl
instance (k c i t:Int):Decidable (errGood k c i t):=by unfold errGood;infer_instance
def errE (b:List Int) (kind code id ttl:Int):Int:=if ¬ errGood kind code id ttl then 1 else if ansOK b then 0 else 17
def errB (b:List Int) (src kind code id ttl:Int):List Int:=if errE b kind code id ttl=0 then ipEnc (sendP src (srcOf b) 1 id ttl (noticeEnc (kind,code,b.take 28))) else []
def rstOf (s:Seg):Seg:=(s.2.1,s.1,0,(s.2.2.1+1)%4294967296,20,0,[])
def hostGood (b:List Int):Prop:=ansOK b/\((protoOf b=1/\unEchoErr (b.drop 20)=0)∨(protoOf b=17/\unUDPErr (srcOf b) (dstOf b) (b.drop 20)=0) ∨
  (protoOf b=6/\unTCPErr (srcOf b) (dstOf b) (b.drop 20)=0/\bits .and .i64 (unTCP (srcOf b) (dstOf b) (b.drop 20)).2.2.2.2.1 2≠0/\bits .and .i64 (unTCP (srcOf b) (dstOf b) (b.drop 20)).2.2.2.2.1 4=0))
instance (b:List Int):Decidable (hostGood b):=by unfold hostGood;infer_instance
def hostE (b:List Int) (id ttl:Int):Int:=if ¬ numOK id ttl then 1 else if hostGood b then 0 else 17
def hostB (b:List Int) (src id ttl:Int):List Int :=
  if hostE b id ttl=0 then
    if protoOf b=1 then ipEnc (sendP src (srcOf b) 1 id ttl (echoEnc (true,(unEcho (b.drop 20)).2)))
    else if protoOf b=17 then errB b src 3 3 id ttl
    else ipEnc (sendP src (srcOf b) 6 id ttl (tcpEnc src (srcOf b) (rstOf (unTCP (srcOf b) (dstOf b) (b.drop 20)))))
  else []
def quHead (b:List Int):Prop:=pkErr b=0/\b.length=28/\(pkHdrF b).1=0/\(pkHdrF b).2.2.2.2.1=true
instance (b:List Int):Decidable (quHead b):=by unfold quHead;infer_instance
def quFlow (b:List Int):Int:=if protoOf b=1 then wordAt b 22-16384 else if protoOf b=17∨protoOf b=6 then wordAt b 20-20000 else 0
def quP (b:List Int):Probe:=(srcOf b,dstOf b,protoOf b,quFlow b,(pkHdrF b).2.1,(pkHdrF b).2.2.1)
def quRight (b:List Int):Prop :=
  (protoOf b=1/\wordAt b 2=30/\wordAt b 20=2048/\wordAt b 24=21075/\wordAt b 26=(pkHdrF b).2.1) ∨
  (protoOf b=17/\wordAt b 2=30/\wordAt b 22=33434/\wordAt b 24=wordAt b 2-20/\wordAt b 26=(pkHdrF b).2.1+1) ∨
  (protoOf b=6/\wordAt b 2=40/\wordAt b 22=80/\numB ((b.drop 24).take 4)=(pkHdrF b).2.1)
instance (b:List Int):Decidable (quRight b):=by unfold quRight;infer_instance
def quV (b:List Int):Probe×Bool:=if quHead b then (quP b,decide (quRight b/\probeErr (quP b)=0)) else (probe0,false)
def noT (p:Probe) (t:Int):Probe:=(p.1,p.2.1,p.2.2.1,p.2.2.2.1,p.2.2.2.2.1,t)
def kindN (ty code:Int):Int:=if ty=11 then 1 else if code=3 then 3 else 5
abbrev RdR:Type:=Probe×Ans×Bool
def noR:RdR:=(probe0,ans0,false)
def noticeR (dst:Int) (b:List Int):RdR :=
  if unNoticeErr b=0 then (noT (quV (unNotice b).2.2).1 0,(0,kindN (unNotice b).1 (unNotice b).2.1,(unNotice b).2.1,0,0,(quV (unNotice b).2.2).1.2.2.2.2.2),(quV (unNotice b).2.2).2&&decide ((quV (unNotice b).2.2).1.1=dst)) else noR
def echoGood (b:List Int):Prop:=unEchoErr b=0/\(unEcho b).1=true/\(unEcho b).2.1=21075/\(unEcho b).2.2.2.length=2
instance (b:List Int):Decidable (echoGood b):=by unfold echoGood;infer_instance
def echoR (src dst:Int) (b:List Int):RdR:=if echoGood b then ((dst,src,1,wordAt b 2-18432,(unEcho b).2.2.1,0),(0,2,0,0,0,0),true) else noR
def resetGood (src dst:Int) (b:List Int):Prop:=unTCPErr src dst b=0/\(unTCP src dst b).1=80/\(unTCP src dst b).2.2.1=0/\(unTCP src dst b).2.2.2.2.1=20/\(unTCP src dst b).2.2.2.2.2.1=0/\(unTCP src dst b).2.2.2.2.2.2=[]
instance (s d:Int) (b:List Int):Decidable (resetGood s d b):=by unfold resetGood;infer_instance
def resetR (src dst:Int) (b:List Int):RdR:=if resetGood src dst b then ((dst,src,6,(unTCP src dst b).2.1-20000,(unTCP src dst b).2.2.2.1-1,0),(0,4,0,0,0,0),true) else noR
def partR (b:List Int):RdR :=
  if protoOf b=1/\0<(b.drop 20).length/\(b.drop 20).getD 0 default=0 then echoR (srcOf b) (dstOf b) (b.drop 20)
  else if protoOf b=1 then noticeR (dstOf b) (b.drop 20) else if protoOf b=6 then resetR (srcOf b) (dstOf b) (b.drop 20) else noR
def readGood (b:List Int):Prop:=decErr b=0/\(partR b).2.2=true/\probeErr (noT (partR b).1 1)=0
instance (b:List Int):Decidable (readGood b):=by unfold readGood;infer_instance
def readA (b:List Int):Probe×Ans:=if readGood b then ((partR b).1,(srcOf b,(partR b).2.1.2.1,(partR b).2.1.2.2.1,(pkHdrF b).2.2.1,(pkHdrF b).2.1,(partR b).2.1.2.2.2.2.2)) else (probe0,ans0)
def readAE (b:List Int):Int:=if readGood b then 0 else 17
theorem shr24 {n:Int} (h0:0<=n):shrI .i64 n 24=n/16777216:=by
  have e:=shr_pow (n:=n) (k:=3) h0 (by omega)
  exact e
theorem i64_and255 (n:Int):bits .and .i64 n 255=n%256:=by
  have h127:(BitVec.ofInt 64 255).toNat=2^8-1:=by decide
  have key:(BitVec.ofInt 64 n &&& BitVec.ofInt 64 255).toNat=(n%((2^64:Nat):Int)).toNat%2^8:=by
    rw [BitVec.toNat_and,BitVec.toNat_ofInt,h127,Nat.and_two_pow_sub_one_eq_mod]
  show IntKind.i64.wrap ((BitVec.ofInt 64 n &&& BitVec.ofInt 64 255).toNat:Nat)=n%256
  rw [key,IntKind.wrap_i64]
  omega
theorem i64_and32 (n:Int):bits .and .i64 n 4294967295=n%4294967296:=by
  have h127:(BitVec.ofInt 64 4294967295).toNat=2^32-1:=by decide
  have key:(BitVec.ofInt 64 n &&& BitVec.ofInt 64 4294967295).toNat=(n%((2^64:Nat):Int)).toNat%2^32:=by
    rw [BitVec.toNat_and,BitVec.toNat_ofInt,h127,Nat.and_two_pow_sub_one_eq_mod]
  show IntKind.i64.wrap ((BitVec.ofInt 64 n &&& BitVec.ofInt 64 4294967295).toNat:Nat)=n%4294967296
  rw [key,IntKind.wrap_i64]
  omega
theorem ct_num {p n a s:Int} (hs:sz n=s) (hn:0<=n/\n<=32) (hp:p%s=0):contains (p,n) a=decide (p<=a/\a<p+s):=by
  unfold contains pValid
  simp only
  rw [hs,decide_eq_true ⟨hn.1,hn.2,hp⟩,Bool.true_and]
theorem ans_pre {b:List Int}:ansOK b↔preAns b/\usable (decPkt b).1.2.2.2.2.2.1:=⟨fun h=>⟨⟨h.1,h.2.1,h.2.2.1,h.2.2.2.1⟩,h.2.2.2.2⟩,fun h=>⟨h.1.1,h.1.2.1,h.1.2.2.1,h.1.2.2.2,h.2⟩⟩
theorem ansP'_eq {b:List Int} (h:ansOK b):ansP' b=(pkHdrF b,b.drop 20):=by rw [ansP',if_pos (ans_pre.1 h).1,decPkt,if_pos h.1]
theorem ans_facts {b:List Int} (h:ansOK b):decErr b=0/\28<=b.length/\(protoOf b=1->(b.drop 20).getD 0 default=8)/\(protoOf b=6->14<=(b.drop 20).length->bits .and .u8 ((b.drop 20).getD 13 default) 4=0)/\usable (srcOf b):=by
  obtain ⟨h1,h2⟩:=h
  rw [decPkt,if_pos h1] at h2
  obtain ⟨k1,k2,k3,k4⟩:=h2
  simp only [List.length_drop] at k1
  exact ⟨h1,by omega,k2,k3,k4⟩
theorem ip_send {src dst proto id ttl:Int} {data:List Int} (hn:numOK id ttl) (hp:0<=proto/\proto<=255) (hl:(data.length:Int)<=1480):ipErr (sendP src dst proto id ttl data)=0:=by
  obtain ⟨⟨a,b⟩,c,d⟩:=hn
  rw [ipErr,if_neg,if_neg (by simp only [sendP];omega)]
  rw [Decidable.not_not]
  exact ⟨⟨Int.le_refl _,by simp only [sendP];omega⟩,⟨c,d⟩,hp,a,b⟩
theorem err_good {b:List Int} {src kind code id ttl:Int} (hg:errGood kind code id ttl) (ha:ansOK b) :
    errE b kind code id ttl=0/\errB b src kind code id ttl=ipEnc (sendP src (srcOf b) 1 id ttl (noticeEnc (kind,code,b.take 28)))/\noticeErr (kind,code,b.take 28)=0/\ipErr (sendP src (srcOf b) 1 id ttl (noticeEnc (kind,code,b.take 28)))=0:=by
  have he:errE b kind code id ttl=0:=by rw [errE,if_neg (fun k=>k hg),if_pos ha]
  obtain ⟨-,hl,-⟩:=ans_facts ha
  obtain ⟨h1,h2,h3⟩:=hg
  refine ⟨he,by rw [errB,if_pos he],?_,ip_send h3 (by omega) (notice_enc_len _)⟩
  have ht:(b.take 28).length=28:=by rw [List.length_take];omega
  rw [noticeErr,if_neg,if_neg,if_neg]
  · simp only;rw [ht];omega
  · simp only;rw [ht];omega
  · rw [Decidable.not_not];exact ⟨h1.symm,h2⟩
theorem err_range {b:List Int} {src kind code id ttl:Int} (hg:¬ errGood kind code id ttl):([]:List Int)=errB b src kind code id ttl/\1=errE b kind code id ttl:=by
  have he:errE b kind code id ttl=1:=by rw [errE,if_pos hg]
  rw [errB,he];exact ⟨rfl,rfl⟩
theorem err_bad {b:List Int} {src kind code id ttl:Int} (hg:errGood kind code id ttl) (ha:¬ ansOK b):([]:List Int)=errB b src kind code id ttl/\17=errE b kind code id ttl:=by
  have he:errE b kind code id ttl=17:=by rw [errE,if_neg (fun k=>k hg),if_neg ha]
  rw [errB,he];exact ⟨rfl,rfl⟩
theorem sub28 (b:List Int):subL b (Int.toNat 0) (Int.toNat 28)=b.take 28:=by
  show subL b 0 28=_
  simp [subL]
theorem host_range {b:List Int} {src id ttl:Int} (hn:¬ numOK id ttl):([]:List Int)=hostB b src id ttl/\1=hostE b id ttl:=by
  have he:hostE b id ttl=1:=by rw [hostE,if_pos hn]
  rw [hostB,he];exact ⟨rfl,rfl⟩
theorem host_bad {b:List Int} {src id ttl:Int} (hn:numOK id ttl) (ha:¬ hostGood b):([]:List Int)=hostB b src id ttl/\17=hostE b id ttl:=by
  have he:hostE b id ttl=17:=by rw [hostE,if_neg (fun k=>k hn),if_neg ha]
  rw [hostB,he];exact ⟨rfl,rfl⟩
theorem host_zero {b:List Int} {id ttl:Int} (hn:numOK id ttl) (ha:hostGood b):hostE b id ttl=0:=by rw [hostE,if_neg (fun k=>k hn),if_pos ha]
theorem host_1 {b:List Int} {src id ttl:Int} (hn:numOK id ttl) (ha:ansOK b) (h:protoOf b=1) (he:unEchoErr (b.drop 20)=0) :
    hostB b src id ttl=ipEnc (sendP src (srcOf b) 1 id ttl (echoEnc (true,(unEcho (b.drop 20)).2)))/\hostE b id ttl=0:=by
  have h0:=host_zero hn (b:=b) ⟨ha,.inl ⟨h,he⟩⟩
  rw [hostB,if_pos h0,if_pos h];exact ⟨rfl,h0⟩
theorem host_17 {b:List Int} {src id ttl:Int} (hn:numOK id ttl) (ha:ansOK b) (h:protoOf b=17) (he:unUDPErr (srcOf b) (dstOf b) (b.drop 20)=0) :
    hostB b src id ttl=errB b src 3 3 id ttl/\hostE b id ttl=0:=by
  have h0:=host_zero hn (b:=b) ⟨ha,.inr (.inl ⟨h,he⟩)⟩
  rw [hostB,if_pos h0,if_neg (by omega),if_pos h];exact ⟨rfl,h0⟩
theorem host_6 {b:List Int} {src id ttl:Int} (hn:numOK id ttl) (ha:ansOK b) (h:protoOf b=6) (he:unTCPErr (srcOf b) (dstOf b) (b.drop 20)=0)
    (h2:bits .and .i64 (unTCP (srcOf b) (dstOf b) (b.drop 20)).2.2.2.2.1 2≠0) (h4:bits .and .i64 (unTCP (srcOf b) (dstOf b) (b.drop 20)).2.2.2.2.1 4=0) :
    hostB b src id ttl=ipEnc (sendP src (srcOf b) 6 id ttl (tcpEnc src (srcOf b) (rstOf (unTCP (srcOf b) (dstOf b) (b.drop 20)))))/\hostE b id ttl=0:=by
  have h0:=host_zero hn (b:=b) ⟨ha,.inr (.inr ⟨h,he,h2,h4⟩)⟩
  rw [hostB,if_pos h0,if_neg (by omega),if_neg (by omega)];exact ⟨rfl,h0⟩
theorem err_port {b:List Int} {id ttl:Int} (hn:numOK id ttl) (ha:ansOK b):errE b 3 3 id ttl=0:=by
  rw [errE,if_neg (fun k=>k ⟨.inr rfl,⟨by omega,by omega⟩,hn⟩),if_pos ha]
theorem un_echo_len (b:List Int):(unEcho b).2.2.2.length<=b.length:=by
  unfold unEcho;split
  · simp only [List.length_drop];omega
  · simp
theorem un_tcp_rng {s d:Int} {b:List Int} (hb:bytes b):(0<=(unTCP s d b).2.1/\(unTCP s d b).2.1<=65535)/\(0<=(unTCP s d b).2.2.1/\(unTCP s d b).2.2.1<=4294967295)/\0<=(unTCP s d b).2.2.2.1/\(unTCP s d b).2.2.2.1<=4294967295:=by
  unfold unTCP;split
  · have h1:=bytes_word hb (Int.toNat 2)
    have h2:=bytes_word hb (Int.toNat 4)
    have h3:=bytes_word hb (Int.toNat 6)
    have h4:=bytes_word hb (Int.toNat 8)
    have h5:=bytes_word hb (Int.toNat 10)
    simp only
    omega
  · simp
def blkP (k:Int):Pfx:=([(0,8),(2130706432,8),(167772160,8),(2886729728,12),(3232235520,16),(2851995648,16),(3758096384,4),(4026531840,4)]:List Pfx).getD k.toNat (0,0)
def ct_address_Special:Ct:=⟨[.val cU32],[.val cI],fun d=>[],fun d=>((special d.1,()),())⟩
def an_address_Special:PDs ct_address_Special.ps->Anns:=(fun d=>{cuts:=(fun n=>match n with|6=>some (fun S=>{ι:=Unit,inv:=fun i=>contains (blkP (S.i 6)) d.1=false,keep:=[0,5,6],slots:=fun i=>[],names:=fun i=>[]})|_=>none),unr:=fun n=>match n with|2=>9|_=>0})
def Qbn0 :=
 (2:Int)^IntKind.bits IntKind.i64
def Qbn5 :=
 (nat_lit 0+nat_lit 1)%Int.natAbs (Qbn0)+nat_lit 1
def Qbn1 :=
 ((Qbn5)%Int.natAbs (Qbn0)+nat_lit 1)%Int.natAbs (Qbn0)+nat_lit 1
def Qbn7 :=
 IntKind.wrap .i64 ((0:Int)+(1:Int))+(1:Int)
def Qbn2 :=
 IntKind.wrap .i64 (IntKind.wrap .i64 (Qbn7)+(1:Int))+(1:Int)
def Qbn3 :=
 ((Qbn1)%Int.natAbs (Qbn0)+nat_lit 1)%Int.natAbs (Qbn0)+nat_lit 1
def Qbn6 :=
 IntKind.wrap .i64 (IntKind.wrap .i64 (Qbn2)+(1:Int))+(1:Int)
def Qbn12 :=
 (2130706432:Int)
def Qbn13 :=
 (2886729728:Int)
def Qbn14 :=
 (3232235520:Int)
def Qbn15 :=
 (2851995648:Int)
def Qbn16 :=
 (3758096384:Int)
def Qbn17 :=
 (4026531840:Int)
def Qbn18 :=
 blkP (Int.ofNat (((Qbn5)%Int.natAbs (Qbn0)+nat_lit 1)%Int.natAbs (Qbn0)))
def Qbn19 :=
 blkP (Int.ofNat (((Qbn1)%Int.natAbs (Qbn0)+nat_lit 1)%Int.natAbs (Qbn0)))
def Qbn20 :=
 blkP (Int.ofNat (((Qbn3)%Int.natAbs (Qbn0)+nat_lit 1)%Int.natAbs (Qbn0)))
def Qbn22 :=
 (167772160:Int)
theorem vc_address_Special :
 ∀(a:Int),(0<=a/\a<=4294967295)/\True->True->ifP (contains ((0:Int),(8:Int)) a) ((1:Int)=special a) (∃(b:Unit),contains (blkP (0:Int)) a=false/\a=a/\(0:Int)=0/\(8:Int)=8/\(1:Int)=1/\(Qbn12)=2130706432/\(8:Int)=8/\(2:Int)=2/\(Qbn22)=167772160/\(8:Int)=8/\(3:Int)=3/\(Qbn13)=2886729728/\(12:Int)=12/\(3:Int)=3/\(Qbn14)=3232235520/\(16:Int)=16/\(3:Int)=3/\(Qbn15)=2851995648/\(16:Int)=16/\(4:Int)=4/\(Qbn16)=3758096384/\(4:Int)=4/\(5:Int)=5/\(Qbn17)=4026531840/\(4:Int)=4/\(6:Int)=6/\(0:Int)=0/\True)/\ ∀(b:Unit),contains (blkP (0:Int)) a=false->ifP (contains ((Qbn12),(8:Int)) a) ((2:Int)=special a) (∃(c:Unit),contains (blkP (Int.ofNat ((nat_lit 0+nat_lit 1)%Int.natAbs (Qbn0))))
 a=false/\a=a/\(0:Int)=0/\(8:Int)=8/\(1:Int)=1/\(Qbn12)=2130706432/\(8:Int)=8/\(2:Int)=2/\(Qbn22)=167772160/\(8:Int)=8/\(3:Int)=3/\(Qbn13)=2886729728/\(12:Int)=12/\(3:Int)=3/\(Qbn14)=3232235520/\(16:Int)=16/\(3:Int)=3/\(Qbn15)=2851995648/\(16:Int)=16/\(4:Int)=4/\(Qbn16)=3758096384/\(4:Int)=4/\(5:Int)=5/\(Qbn17)=4026531840/\(4:Int)=4/\(6:Int)=6/\IntKind.wrap .i64 ((0:Int)+(1:Int))=IntKind.wrap .i64 ((0:Int)+(1:Int))/\True)/\ ∀(c:Unit),contains (blkP (Int.ofNat ((nat_lit 0+nat_lit 1)%Int.natAbs (Qbn0)))) a=false->ifP (contains ((Qbn22),(8:Int)) a) ((3:Int)=special a) (∃(d:Unit),contains (blkP (Int.ofNat ((Qbn5)%Int.natAbs (Qbn0))))
 a=false/\a=a/\(0:Int)=0/\(8:Int)=8/\(1:Int)=1/\(Qbn12)=2130706432/\(8:Int)=8/\(2:Int)=2/\(Qbn22)=167772160/\(8:Int)=8/\(3:Int)=3/\(Qbn13)=2886729728/\(12:Int)=12/\(3:Int)=3/\(Qbn14)=3232235520/\(16:Int)=16/\(3:Int)=3/\(Qbn15)=2851995648/\(16:Int)=16/\(4:Int)=4/\(Qbn16)=3758096384/\(4:Int)=4/\(5:Int)=5/\(Qbn17)=4026531840/\(4:Int)=4/\(6:Int)=6/\IntKind.wrap .i64 (Qbn7)=IntKind.wrap .i64 (Qbn7)/\True)/\ ∀(d:Unit),contains (blkP (Int.ofNat ((Qbn5)%Int.natAbs (Qbn0)))) a=false->ifP (contains ((Qbn13),(12:Int)) a) ((3:Int)=special a) (∃(e:Unit),contains (Qbn18)
 a=false/\a=a/\(0:Int)=0/\(8:Int)=8/\(1:Int)=1/\(Qbn12)=2130706432/\(8:Int)=8/\(2:Int)=2/\(Qbn22)=167772160/\(8:Int)=8/\(3:Int)=3/\(Qbn13)=2886729728/\(12:Int)=12/\(3:Int)=3/\(Qbn14)=3232235520/\(16:Int)=16/\(3:Int)=3/\(Qbn15)=2851995648/\(16:Int)=16/\(4:Int)=4/\(Qbn16)=3758096384/\(4:Int)=4/\(5:Int)=5/\(Qbn17)=4026531840/\(4:Int)=4/\(6:Int)=6/\IntKind.wrap .i64 (IntKind.wrap .i64 (Qbn7)+(1:Int))=IntKind.wrap .i64 (IntKind.wrap .i64 (Qbn7)+(1:Int))/\True)/\ ∀(e:Unit),contains (Qbn18) a=false->ifP (contains ((Qbn14),(16:Int)) a) ((3:Int)=special a) (∃(f:Unit),contains (blkP (Int.ofNat ((Qbn1)%Int.natAbs (Qbn0))))
 a=false/\a=a/\(0:Int)=0/\(8:Int)=8/\(1:Int)=1/\(Qbn12)=2130706432/\(8:Int)=8/\(2:Int)=2/\(Qbn22)=167772160/\(8:Int)=8/\(3:Int)=3/\(Qbn13)=2886729728/\(12:Int)=12/\(3:Int)=3/\(Qbn14)=3232235520/\(16:Int)=16/\(3:Int)=3/\(Qbn15)=2851995648/\(16:Int)=16/\(4:Int)=4/\(Qbn16)=3758096384/\(4:Int)=4/\(5:Int)=5/\(Qbn17)=4026531840/\(4:Int)=4/\(6:Int)=6/\IntKind.wrap .i64 (Qbn2)=IntKind.wrap .i64 (Qbn2)/\True)/\ ∀(f:Unit),contains (blkP (Int.ofNat ((Qbn1)%Int.natAbs (Qbn0)))) a=false->ifP (contains ((Qbn15),(16:Int)) a) ((4:Int)=special a) (∃(g:Unit),contains (Qbn19)
 a=false/\a=a/\(0:Int)=0/\(8:Int)=8/\(1:Int)=1/\(Qbn12)=2130706432/\(8:Int)=8/\(2:Int)=2/\(Qbn22)=167772160/\(8:Int)=8/\(3:Int)=3/\(Qbn13)=2886729728/\(12:Int)=12/\(3:Int)=3/\(Qbn14)=3232235520/\(16:Int)=16/\(3:Int)=3/\(Qbn15)=2851995648/\(16:Int)=16/\(4:Int)=4/\(Qbn16)=3758096384/\(4:Int)=4/\(5:Int)=5/\(Qbn17)=4026531840/\(4:Int)=4/\(6:Int)=6/\IntKind.wrap .i64 (IntKind.wrap .i64 (Qbn2)+(1:Int))=IntKind.wrap .i64 (IntKind.wrap .i64 (Qbn2)+(1:Int))/\True)/\ ∀(g:Unit),contains (Qbn19) a=false->ifP (contains ((Qbn16),(4:Int)) a) ((5:Int)=special a) (∃(h:Unit),contains (blkP (Int.ofNat ((Qbn3)%Int.natAbs (Qbn0))))
 a=false/\a=a/\(0:Int)=0/\(8:Int)=8/\(1:Int)=1/\(Qbn12)=2130706432/\(8:Int)=8/\(2:Int)=2/\(Qbn22)=167772160/\(8:Int)=8/\(3:Int)=3/\(Qbn13)=2886729728/\(12:Int)=12/\(3:Int)=3/\(Qbn14)=3232235520/\(16:Int)=16/\(3:Int)=3/\(Qbn15)=2851995648/\(16:Int)=16/\(4:Int)=4/\(Qbn16)=3758096384/\(4:Int)=4/\(5:Int)=5/\(Qbn17)=4026531840/\(4:Int)=4/\(6:Int)=6/\IntKind.wrap .i64 (Qbn6)=IntKind.wrap .i64 (Qbn6)/\True)/\ ∀(h:Unit),contains (blkP (Int.ofNat ((Qbn3)%Int.natAbs (Qbn0)))) a=false->ifP (contains ((Qbn17),(4:Int)) a) ((6:Int)=special a) (∃(i:Unit),contains (Qbn20)
 a=false/\a=a/\(0:Int)=0/\(8:Int)=8/\(1:Int)=1/\(Qbn12)=2130706432/\(8:Int)=8/\(2:Int)=2/\(Qbn22)=167772160/\(8:Int)=8/\(3:Int)=3/\(Qbn13)=2886729728/\(12:Int)=12/\(3:Int)=3/\(Qbn14)=3232235520/\(16:Int)=16/\(3:Int)=3/\(Qbn15)=2851995648/\(16:Int)=16/\(4:Int)=4/\(Qbn16)=3758096384/\(4:Int)=4/\(5:Int)=5/\(Qbn17)=4026531840/\(4:Int)=4/\(6:Int)=6/\IntKind.wrap .i64 (IntKind.wrap .i64 (Qbn6)+(1:Int))=IntKind.wrap .i64 (IntKind.wrap .i64 (Qbn6)+(1:Int))/\True)/\ ∀(i:Unit),contains (Qbn20) a=false->(0:Int)=special a:=by
  delta Qbn0 Qbn1 Qbn2 Qbn3 Qbn5 Qbn6 Qbn7 Qbn12 Qbn13 Qbn14 Qbn15 Qbn16 Qbn17 Qbn18 Qbn19 Qbn20 Qbn22
  rintro a ⟨⟨a0,a1⟩,-⟩ -
  have q0:=ct_num (p:=0) (n:=8) (a:=a) (s:=16777216) rfl (by omega) (by omega)
  have q1:=ct_num (p:=2130706432) (n:=8) (a:=a) (s:=16777216) rfl (by omega) (by omega)
  have q2:=ct_num (p:=167772160) (n:=8) (a:=a) (s:=16777216) rfl (by omega) (by omega)
  have q3:=ct_num (p:=2886729728) (n:=12) (a:=a) (s:=1048576) rfl (by omega) (by omega)
  have q4:=ct_num (p:=3232235520) (n:=16) (a:=a) (s:=65536) rfl (by omega) (by omega)
  have q5:=ct_num (p:=2851995648) (n:=16) (a:=a) (s:=65536) rfl (by omega) (by omega)
  have q6:=ct_num (p:=3758096384) (n:=4) (a:=a) (s:=268435456) rfl (by omega) (by omega)
  have q7:=ct_num (p:=4026531840) (n:=4) (a:=a) (s:=268435456) rfl (by omega) (by omega)
  refine ⟨ifP_split (fun h => ?_) (fun h=>⟨(),h,(by repeat' first|exact trivial|refine ⟨trivial,?_⟩|refine ⟨(by with_reducible rfl),?_⟩|refine ⟨w64 (by omega) (by omega),?_⟩|refine ⟨rfl,?_⟩)⟩),?_⟩
  · rw [q0] at h
    have h:=of_decide_eq_true h
    unfold special;rw [if_pos (by omega)]
  rintro-h
  have h:contains (0,8) a=false:=h
  rw [q0] at h
  have h0:=of_decide_eq_false h
  refine ⟨ifP_split (fun h => ?_) (fun h=>⟨(),h,(by repeat' first|exact trivial|refine ⟨trivial,?_⟩|refine ⟨(by with_reducible rfl),?_⟩|refine ⟨w64 (by omega) (by omega),?_⟩|refine ⟨rfl,?_⟩)⟩),?_⟩
  · rw [q1] at h
    have h:=of_decide_eq_true h
    unfold special;rw [if_neg (by omega),if_pos (by omega)]
  rintro-h
  have h:contains (2130706432,8) a=false:=h
  rw [q1] at h
  have h1:=of_decide_eq_false h
  refine ⟨ifP_split (fun h => ?_) (fun h=>⟨(),h,(by repeat' first|exact trivial|refine ⟨trivial,?_⟩|refine ⟨(by with_reducible rfl),?_⟩|refine ⟨w64 (by omega) (by omega),?_⟩|refine ⟨rfl,?_⟩)⟩),?_⟩
  · rw [q2] at h
    have h:=of_decide_eq_true h
    unfold special;rw [if_neg (by omega),if_neg (by omega),if_pos (by omega)]
  rintro-h
  have h:contains (167772160,8) a=false:=h
  rw [q2] at h
  have h2:=of_decide_eq_false h
  refine ⟨ifP_split (fun h => ?_) (fun h=>⟨(),h,(by repeat' first|exact trivial|refine ⟨trivial,?_⟩|refine ⟨(by with_reducible rfl),?_⟩|refine ⟨w64 (by omega) (by omega),?_⟩|refine ⟨rfl,?_⟩)⟩),?_⟩
  · rw [q3] at h
    have h:=of_decide_eq_true h
    unfold special;rw [if_neg (by omega),if_neg (by omega),if_pos (by omega)]
  rintro-h
  have h:contains (2886729728,12) a=false:=h
  rw [q3] at h
  have h3:=of_decide_eq_false h
  refine ⟨ifP_split (fun h => ?_) (fun h=>⟨(),h,(by repeat' first|exact trivial|refine ⟨trivial,?_⟩|refine ⟨(by with_reducible rfl),?_⟩|refine ⟨w64 (by omega) (by omega),?_⟩|refine ⟨rfl,?_⟩)⟩),?_⟩
  · rw [q4] at h
    have h:=of_decide_eq_true h
    unfold special;rw [if_neg (by omega),if_neg (by omega),if_pos (by omega)]
  rintro-h
  have h:contains (3232235520,16) a=false:=h
  rw [q4] at h
  have h4:=of_decide_eq_false h
  refine ⟨ifP_split (fun h => ?_) (fun h=>⟨(),h,(by repeat' first|exact trivial|refine ⟨trivial,?_⟩|refine ⟨(by with_reducible rfl),?_⟩|refine ⟨w64 (by omega) (by omega),?_⟩|refine ⟨rfl,?_⟩)⟩),?_⟩
  · rw [q5] at h
    have h:=of_decide_eq_true h
    unfold special;rw [if_neg (by omega),if_neg (by omega),if_neg (by omega),if_pos (by omega)]
  rintro-h
  have h:contains (2851995648,16) a=false:=h
  rw [q5] at h
  have h5:=of_decide_eq_false h
  refine ⟨ifP_split (fun h => ?_) (fun h=>⟨(),h,(by repeat' first|exact trivial|refine ⟨trivial,?_⟩|refine ⟨(by with_reducible rfl),?_⟩|refine ⟨w64 (by omega) (by omega),?_⟩|refine ⟨rfl,?_⟩)⟩),?_⟩
  · rw [q6] at h
    have h:=of_decide_eq_true h
    unfold special;rw [if_neg (by omega),if_neg (by omega),if_neg (by omega),if_neg (by omega),if_pos (by omega)]
  rintro-h
  have h:contains (3758096384,4) a=false:=h
  rw [q6] at h
  have h6:=of_decide_eq_false h
  refine ⟨ifP_split (fun h => ?_) (fun h=>⟨(),h,(by repeat' first|exact trivial|refine ⟨trivial,?_⟩|refine ⟨(by with_reducible rfl),?_⟩|refine ⟨w64 (by omega) (by omega),?_⟩|refine ⟨rfl,?_⟩)⟩),?_⟩
  · rw [q7] at h
    have h:=of_decide_eq_true h
    unfold special;rw [if_neg (by omega),if_neg (by omega),if_neg (by omega),if_neg (by omega),if_neg (by omega),if_pos (by omega)]
  rintro-h
  have h:contains (4026531840,4) a=false:=h
  rw [q7] at h
  have h7:=of_decide_eq_false h
  unfold special;rw [if_neg (by omega),if_neg (by omega),if_neg (by omega),if_neg (by omega),if_neg (by omega),if_neg (by omega)]
theorem ok_address_Special:SpecOK Tryz.prog GL 94 ct_address_Special.spec:=Ct.okH _ Tryz.func94 (by kernel_rfl) (withConc_ok (withSpec_ok noSpecs_ok ok_address_Contains) (d:=8)) hmix an_address_Special (hideMp (by kernel_rfl) vc_address_Special)
def ct_ref01_Special:Ct:=⟨[.val cU32],[.val cI],fun d=>[],fun d=>((special d.1,()),())⟩
def an_ref01_Special:PDs ct_ref01_Special.ps->Anns:=(fun _=>{})
def Qbn8 (a:Int) :=
 IntKind.wrap .i64 a
def Qbn21 (a:Int) :=
 shrI IntKind.i64 (Qbn8 a) (16:Int)
theorem vc_ref01_Special :
 ∀(a:Int),(0<=a/\a<=4294967295)/\True->True->(0:Int)<=24/\(0:Int)<=16/\ifP (decide (shrI IntKind.i64 (Qbn8 a) (24:Int)=0)) ((1:Int)=special a) (ifP (decide (shrI IntKind.i64 (Qbn8 a) (24:Int)=127)) ((2:Int)=special a) (∀(b:Bool),b=decide (shrI IntKind.i64 (Qbn8 a) (24:Int)=10)->((! b)->((! b)->(! b))/\True)/\((! b)->((! b)->(! b))/\True)/\ ∀(c:Bool),c=decide (shrI IntKind.i64 (Qbn8 a) (24:Int)=172)->((! b&&c)->((! b&&c)->(! b&&c))/\True)/\((! b)->((! b)->(! b))/\(c->(! b&&c))/\True)/\((! b)->((! b)->(! b))/\True)/\ ∀(d:Bool),(d=bif c then decide (16<=bits BinOp.and IntKind.i64 (Qbn21 a) (255:Int)) else false)->((! b&&d)->((! b&&d)->(! b&&d))/\True)/\((! b)->((! b)->(! b))/\(d->(! b&&d))/\True)/\(b=false->(! b))/\ ∀(e:Bool),(e=bif b then true else bif d then decide (bits BinOp.and IntKind.i64 (Qbn21 a) (255:Int)<32) else false)->((! e)->((! e)->(! e))/\True)/\((! e)->((! e)->(! e))/\True)/\
 ∀(f:Bool),f=decide (shrI IntKind.i64 (Qbn8 a) (24:Int)=192)->((! e&&f)->((! e&&f)->(! e&&f))/\True)/\((! e)->((! e)->(! e))/\(f->(! e&&f))/\True)/\(e=false->(! e))/\ifP (bif e then true else bif f then decide (bits BinOp.and IntKind.i64 (Qbn21 a) (255:Int)=168) else false) ((3:Int)=special a) (∀(g:Bool),g=decide (shrI IntKind.i64 (Qbn8 a) (24:Int)=169)->(g->(g->g)/\True)/\(g->g)/\ifP (bif g then decide (bits BinOp.and IntKind.i64 (Qbn21 a) (255:Int)=254) else false) ((4:Int)=special a) (∀(h:Bool),h=decide (224<=shrI IntKind.i64 (Qbn8 a) (24:Int))->(h->(h->h)/\True)/\(h->h)/\ifP (bif h then decide (shrI IntKind.i64 (Qbn8 a) (24:Int)<240) else false) ((5:Int)=special a) (ifP (decide (240<=shrI IntKind.i64 (Qbn8 a) (24:Int))) ((6:Int)=special a) ((0:Int)=special a)))))):=by
  delta Qbn8 Qbn21
  rintro a ⟨⟨a0,a1⟩,-⟩ -
  rw [w64 (n:=a) (by omega) (by omega),shr24 a0,shr16 a0,i64_and255]
  refine ⟨by omega,by omega,ifP_split (fun h => ?_) (fun h => ?_)⟩
  · rw [special,if_pos (of_decide_eq_true h)]
  have h1:=of_decide_eq_false h
  refine ifP_split (fun h => ?_) (fun h => ?_)
  · rw [special,if_neg h1,if_pos (of_decide_eq_true h)]
  have h2:=of_decide_eq_false h
  rw [special,if_neg h1,if_neg h2]
  (repeat (intro (b_:Bool) (hb_:b_=_);(repeat refine ⟨(by first|(simp;done)|(rw [hb_];simp;done)|(rw [hb_];simp;omega)|(rw [hb_];simp;intros;omega)|(rw [hb_];simp +contextual;done)),?_⟩);subst hb_))
  refine ⟨fun h=>by rw [h];rfl,?_⟩
  refine ifP_split (fun h => ?_) (fun h => ?_)
  · rw [if_pos]
    simp [Bool.cond_eq_ite] at h;omega
  have h3:¬ (a/16777216=10∨(a/16777216=172/\16<=a/65536%256/\a/65536%256<32)∨(a/16777216=192/\a/65536%256=168)):=by
    simp [Bool.cond_eq_ite] at h;omega
  rw [if_neg h3]
  clear h
  (repeat (intro (b_:Bool) (hb_:b_=_);(repeat refine ⟨(by first|(simp;done)|(rw [hb_];simp;done)|(rw [hb_];simp;omega)|(rw [hb_];simp;intros;omega)|(rw [hb_];simp +contextual;done)),?_⟩);subst hb_))
  refine ifP_split (fun h => ?_) (fun h => ?_)
  · rw [if_pos]
    simp [Bool.cond_eq_ite] at h;omega
  have h4:¬ (a/16777216=169/\a/65536%256=254):=by
    simp [Bool.cond_eq_ite] at h;omega
  rw [if_neg h4]
  clear h
  (repeat (intro (b_:Bool) (hb_:b_=_);(repeat refine ⟨(by first|(simp;done)|(rw [hb_];simp;done)|(rw [hb_];simp;omega)|(rw [hb_];simp;intros;omega)|(rw [hb_];simp +contextual;done)),?_⟩);subst hb_))
  refine ifP_split (fun h => ?_) (fun h => ?_)
  · rw [if_pos]
    simp [Bool.cond_eq_ite] at h;omega
  have h5:¬ (224<=a/16777216/\a/16777216<240):=by
    simp [Bool.cond_eq_ite] at h;omega
  rw [if_neg h5]
  exact ifP_split (fun h=>by rw [if_pos (of_decide_eq_true h)]) (fun h=>by rw [if_neg (of_decide_eq_false h)])
theorem ok_ref01_Special:SpecOK Tryz.prog GL 100 ct_ref01_Special.spec:=Ct.okH _ Tryz.func100 (by kernel_rfl) noSpecs_ok hmix an_ref01_Special (hideMp (by kernel_rfl) vc_ref01_Special)
def ct_ref01_Usable:Ct:=⟨[.val cU32],[.val .bool],fun d=>[],fun d=>((decide (usable d.1),()),())⟩
def an_ref01_Usable:PDs ct_ref01_Usable.ps->Anns:=(fun _=>{})
theorem vc_ref01_Usable :
 ∀(a:Int),(0<=a/\a<=4294967295)/\True->True-> ∀(b:Bool),b=decide (special a=0)->((! b)->((! b)->(! b))/\True)/\((! b)->((! b)->(! b))/\True)/\(b=false->(! b))/\(bif b then true else decide (special a=3))=decide (usable a):=by
  rintro a - -
  (repeat (intro (b_:Bool) (hb_:b_=_);(repeat refine ⟨(by first|(simp;done)|(rw [hb_];simp;done)|(rw [hb_];simp;omega)|(rw [hb_];simp;intros;omega)|(rw [hb_];simp +contextual;done)),?_⟩);subst hb_))
  rw [Bool.eq_iff_iff,decide_eq_true_iff];simp [usable,Bool.cond_eq_ite]
theorem ok_ref01_Usable:SpecOK Tryz.prog GL 53 ct_ref01_Usable.spec:=Ct.okH _ Tryz.func53 (by kernel_rfl) (withSpec_ok noSpecs_ok ok_ref01_Special) hmix an_ref01_Usable (hideMp (by kernel_rfl) vc_ref01_Usable)
def ct_reply_answerable:Ct:=⟨[.val (.sl cU8)],[.agg cPacket,.val .bool],fun d=>[(d.1.length:Int)<=1099511627776],fun d=>((ansP' d.1,decide (ansOK d.1),()),())⟩
def an_reply_answerable:PDs ct_reply_answerable.ps->Anns:=(fun _=>{})
def Qbn4 (a:List Int) :=
 (((0:Int),(0:Int),(0:Int),(0:Int),false,(0:Int),(0:Int)),([]:List Int))=ansP' a/\false=decide (ansOK a)
def Qbn10 (a:List Int) (b:(Int×Int×Int×Int×Bool×Int×Int)×List Int) :=
 ∀(e:Bool),e=decide (special b.1.2.2.2.2.2.1=0)->((! e)->((! e)->(! e))/\True)/\(e=false->(! e))/\b=ansP' a/\(bif e then true else decide (special b.1.2.2.2.2.2.1=3))=decide (ansOK a)
theorem vc_reply_answerable :
 ∀(a:List Int),(a.length<=maxLen/\ ∀(b:Int),b∈a->0<=b/\b<=255)/\True->(a.length:Int)<=1099511627776->(a.length:Int)<=1099511627776/\ ∀(b:(Int×Int×Int×Int×Bool×Int×Int)×List Int) (c:Int),b=decPkt a/\c=decErr a-> ∀(d:Bool),d= ! decide (c=0)->((! d)->((! d)->(! d))/\True)/\((! d)->((! d)->(! d))/\True)/\((! d)->((! d)->(! d))/\True)/\(d=false->(! d))/\ifP (bif d then true else decide ((b.2.length:Int)<8)) (Qbn4 a) (ifP (decide (b.1.2.2.2.1=1)) ((0:Int)<=0/\0<(b.2.length:Int)/\ifP (! decide (List.getD b.2 (Int.toNat (0:Int)) default=8)) (Qbn4 a) (Qbn10 a b)) (ifP (decide (b.1.2.2.2.1=6)) (∀(e:Bool),e=decide (13<(b.2.length:Int))->(e->(e->e)/\True)/\(e->(e->e)/\(0:Int)<=13/\13<(b.2.length:Int)/\True)/\(e->(e->e)/\True)/\(e->(e->e)/\True)/\(e->(e->e)/\True)/\(e->e)/\ifP (bif e then ! decide (bits BinOp.and IntKind.u8 (List.getD b.2 (Int.toNat (13:Int)) default) (4:Int)=0) else false) (Qbn4 a)
 (∀(f:Bool),f=decide (special b.1.2.2.2.2.2.1=0)->((! f)->((! f)->(! f))/\True)/\(f=false->(! f))/\b=ansP' a/\(bif f then true else decide (special b.1.2.2.2.2.2.1=3))=decide (ansOK a))) (Qbn10 a b))):=by
  delta Qbn4 Qbn10
  rintro b ⟨⟨-,hb⟩,-⟩ hl
  refine ⟨hl,?_⟩
  rintro d e ⟨rfl,rfl⟩
  have bad:¬ preAns b->(((0,0,0,0,false,0,0),[]):Packet)=ansP' b/\false=decide (ansOK b):=fun h=>by rw [ansP',if_neg h,decide_eq_false (fun k=>h (ans_pre.1 k).1)];exact ⟨rfl,rfl⟩
  have good:preAns b->decPkt b=ansP' b/\(bif decide (special (decPkt b).1.2.2.2.2.2.1=0) then true else decide (special (decPkt b).1.2.2.2.2.2.1=3))=decide (ansOK b):=by
    intro h
    refine ⟨by rw [ansP',if_pos h],?_⟩
    rw [Bool.eq_iff_iff,decide_eq_true_iff,ans_pre]
    simp [h,usable,Bool.cond_eq_ite]
  (repeat (intro (b_:Bool) (hb_:b_=_);(repeat refine ⟨(by first|(simp;done)|(rw [hb_];simp;done)|(rw [hb_];simp;omega)|(rw [hb_];simp;intros;omega)|(rw [hb_];simp +contextual;done)),?_⟩);subst hb_))
  refine ifP_split (fun h => ?_) (fun h => ?_)
  · refine bad (fun k => ?_)
    obtain ⟨k1,k2,-⟩:=k
    rw [k1] at h;simp at h;omega
  have h1:decErr b=0:=by
    refine Classical.byContradiction fun k => ?_
    simp [k] at h
  have h2:8<=(decPkt b).2.length:=by
    rw [h1] at h;simp at h;omega
  refine ifP_split (fun hp => ?_) (fun hp => ?_)
  · have hp:protoP (decPkt b)=1:=of_decide_eq_true hp
    refine ⟨by omega,by omega,ifP_split (fun h8 => ?_) (fun h8 => ?_)⟩
    · refine bad (fun k => ?_)
      have:=k.2.2.1 hp
      simp only [show Int.toNat 0=0 from rfl,this] at h8
      simp at h8
    · (repeat (intro (b_:Bool) (hb_:b_=_);(repeat refine ⟨(by first|(simp;done)|(rw [hb_];simp;done)|(rw [hb_];simp;omega)|(rw [hb_];simp;intros;omega)|(rw [hb_];simp +contextual;done)),?_⟩);subst hb_))
      exact good ⟨h1,h2,fun _=>by simpa using h8,fun k=>by omega⟩
  have hp:¬ protoP (decPkt b)=1:=of_decide_eq_false hp
  refine ifP_split (fun hq => ?_) (fun hq => ?_)
  · have hq:protoP (decPkt b)=6:=of_decide_eq_true hq
    (repeat (intro (b_:Bool) (hb_:b_=_);(repeat refine ⟨(by first|(simp;done)|(rw [hb_];simp;done)|(rw [hb_];simp;omega)|(rw [hb_];simp;intros;omega)|(rw [hb_];simp +contextual;done)),?_⟩);subst hb_))
    refine ifP_split (fun h8 => ?_) (fun h8 => ?_)
    · refine bad (fun k => ?_)
      have:=k.2.2.2 hq
      simp [Bool.cond_eq_ite] at h8
      exact h8.2 (this (by omega))
    · (repeat (intro (b_:Bool) (hb_:b_=_);(repeat refine ⟨(by first|(simp;done)|(rw [hb_];simp;done)|(rw [hb_];simp;omega)|(rw [hb_];simp;intros;omega)|(rw [hb_];simp +contextual;done)),?_⟩);subst hb_))
      refine good ⟨h1,h2,fun k=>absurd k hp,fun _ hk => ?_⟩
      refine Classical.byContradiction fun k => ?_
      have k:¬ bits .and .u8 ((decPkt b).2.getD (Int.toNat 13) default) 4=0:=k
      rw [decide_eq_true (show (13:Int)<((decPkt b).2.length:Int) by omega),decide_eq_false k] at h8
      cases h8
  · have hq:¬ protoP (decPkt b)=6:=of_decide_eq_false hq
    (repeat (intro (b_:Bool) (hb_:b_=_);(repeat refine ⟨(by first|(simp;done)|(rw [hb_];simp;done)|(rw [hb_];simp;omega)|(rw [hb_];simp;intros;omega)|(rw [hb_];simp +contextual;done)),?_⟩);subst hb_))
    exact good ⟨h1,h2,fun k=>absurd k hp,fun k=>absurd k hq⟩
theorem ok_reply_answerable:SpecOK Tryz.prog GL 187 ct_reply_answerable.spec:=Ct.okH _ Tryz.func187 (by kernel_rfl) (withSpec_ok (withSpec_ok noSpecs_ok (Ct.named ok_ipv4_Decode)) ok_address_Special) hmix an_reply_answerable (hideMp (by kernel_rfl) vc_reply_answerable)
def ct_reply_numbers:Ct:=⟨[.val cI,.val cI],[.val .bool],fun d=>[],fun d=>((decide (numOK d.1 d.2.1),()),())⟩
def an_reply_numbers:PDs ct_reply_numbers.ps->Anns:=(fun _=>{})
theorem vc_reply_numbers :
 ∀(a b:Int),R64 a/\R64 b/\True->True-> ∀(c:Bool),c=decide (0<=a)->(c->(c->c)/\True)/\(c->c)/\ ∀(d:Bool),(d=bif c then decide (a<=65535) else false)->(d->(d->d)/\True)/\(d->d)/\ ∀(e:Bool),(e=bif d then decide (0<=b) else false)->(e->(e->e)/\True)/\(e->e)/\(bif e then decide (b<=255) else false)=decide (numOK a b):=by
  rintro id ttl - -
  (repeat (intro (b_:Bool) (hb_:b_=_);(repeat refine ⟨(by first|(simp;done)|(rw [hb_];simp;done)|(rw [hb_];simp;omega)|(rw [hb_];simp;intros;omega)|(rw [hb_];simp +contextual;done)),?_⟩);subst hb_))
  rw [Bool.eq_iff_iff];simp [numOK,Bool.cond_eq_ite,and_assoc]
theorem ok_reply_numbers:SpecOK Tryz.prog GL 186 ct_reply_numbers.spec:=Ct.okH _ Tryz.func186 (by kernel_rfl) noSpecs_ok hmix an_reply_numbers (hideMp (by kernel_rfl) vc_reply_numbers)
def ct_reply_send:Ct:=⟨[.val cU32,.val cU32,.val cI,.val cI,.val cI,.val (.sl cU8)],[.own 5 cU8,.val cI],fun d=>[(d.2.2.2.2.2.1.length:Int)<=1073741824],fun d=>((ipEnc (sendP d.1 d.2.1 d.2.2.1 d.2.2.2.1 d.2.2.2.2.1 d.2.2.2.2.2.1),ipErr (sendP d.1 d.2.1 d.2.2.1 d.2.2.2.1 d.2.2.2.2.1 d.2.2.2.2.2.1),()),())⟩
def an_reply_send:PDs ct_reply_send.ps->Anns:=(fun _=>{})
theorem vc_reply_send :
 ∀(a b c d e:Int) (f:List Int),(0<=a/\a<=4294967295)/\(0<=b/\b<=4294967295)/\R64 c/\R64 d/\R64 e/\(f.length<=maxLen/\ ∀(g:Int),g∈f->0<=g/\g<=255)/\True->(f.length:Int)<=1073741824->(f.length:Int)<=1073741824/\ipEnc (((0:Int),d,e,c,false,a,b),f)=ipEnc (sendP a b c d e f)/\ipErr (((0:Int),d,e,c,false,a,b),f)=ipErr (sendP a b c d e f):=by
  rintro s d p i t data-hl
  exact ⟨hl,rfl,rfl⟩
theorem ok_reply_send:SpecOK Tryz.prog GL 188 ct_reply_send.spec:=Ct.okH _ Tryz.func188 (by kernel_rfl) (withSpec_ok noSpecs_ok ok_ipv4_Encode) hmix an_reply_send (hideMp (by kernel_rfl) vc_reply_send)
def ct_reply_Error:Ct:=⟨[.val (.sl cU8),.val cU32,.val cI,.val cI,.val cI,.val cI],[.own 5 cU8,.val cI],fun d=>[(d.1.length:Int)<=1099511627776],fun d=>((errB d.1 d.2.1 d.2.2.1 d.2.2.2.1 d.2.2.2.2.1 d.2.2.2.2.2.1,errE d.1 d.2.2.1 d.2.2.2.1 d.2.2.2.2.1 d.2.2.2.2.2.1,()),())⟩
def an_reply_Error:PDs ct_reply_Error.ps->Anns:=(fun _=>{})
theorem vc_reply_Error :
 ∀(a:List Int) (b c d e f:Int),(a.length<=maxLen/\ ∀(g:Int),g∈a->0<=g/\g<=255)/\(0<=b/\b<=4294967295)/\R64 c/\R64 d/\R64 e/\R64 f/\True->(a.length:Int)<=1099511627776-> ∀(g:Bool),g= ! decide (c=11)->(g->(g->g)/\True)/\(g->g)/\ ∀(h:Bool),(h=bif g then ! decide (c=3) else false)->((! h)->((! h)->(! h))/\True)/\(h=false->(! h))/\ ∀(i:Bool),(i=bif h then true else decide (d<0))->((! i)->((! i)->(! i))/\True)/\(i=false->(! i))/\ ∀(j:Bool),(j=bif i then true else decide (255<d))->((! j)->((! j)->(! j))/\((! j)->(! j))/\True)/\((! j)->((! j)->(! j))/\True)/\(j=false->(! j))/\ifP (bif j then true else ! decide (numOK e f)) (([]:List Int)=errB a b c d e f/\(1:Int)=errE a c d e f) ((a.length:Int)<=1099511627776/\ ∀(k:(Int×Int×Int×Int×Bool×Int×Int)×List Int) (l:Bool),k=ansP' a/\l=decide (ansOK a)->ifP (! l) (([]:List Int)=errB a b c d e f/\(17:Int)=errE a c d e f)
 ((0:Int)<=0/\(0:Int)<=28/\28<=(a.length:Int)/\((List.length (subL a (Int.toNat (0:Int)) (Int.toNat (28:Int)))):Int)<=1073741824/\ ∀(m:List Int) (n:Int),m=noticeEnc (c,d,subL a (Int.toNat (0:Int)) (Int.toNat (28:Int)))/\n=noticeErr (c,d,subL a (Int.toNat (0:Int)) (Int.toNat (28:Int)))->ifP (! decide (n=0)) (([]:List Int)=errB a b c d e f/\n=errE a c d e f) ((m.length:Int)<=1073741824/\ipEnc (sendP b k.1.2.2.2.2.2.1 (1:Int) e f m)=errB a b c d e f/\ipErr (sendP b k.1.2.2.2.2.2.1 (1:Int) e f m)=errE a c d e f))):=by
  rintro b src kind code id ttl ⟨⟨-,hb⟩,-⟩ hl
  (repeat (intro (b_:Bool) (hb_:b_=_);(repeat refine ⟨(by first|(simp;done)|(rw [hb_];simp;done)|(rw [hb_];simp;omega)|(rw [hb_];simp;intros;omega)|(rw [hb_];simp +contextual;done)),?_⟩);subst hb_))
  by_cases hg:errGood kind code id ttl
  rotate_left
  · refine ifP_split (fun _=>err_range hg) (fun h=>absurd ?_ hg)
    by_cases hn:numOK id ttl
    · rw [decide_eq_true hn] at h
      refine ⟨?_,?_,hn⟩ <;> simp [Bool.cond_eq_ite] at h <;> omega
    · rw [decide_eq_false hn] at h
      simp at h
  have hg':=hg
  obtain ⟨g1,g2,g3⟩:=hg'
  refine ifP_split (fun h => ?_) (fun _=>⟨hl,?_⟩)
  · exfalso
    rw [decide_eq_true g3] at h
    simp [Bool.cond_eq_ite] at h;omega
  rintro d e ⟨rfl,rfl⟩
  refine ifP_split (fun h=>err_bad hg (by simpa using h)) (fun h => ?_)
  have ha:ansOK b:=by simpa using h
  have hgd:=err_good (src:=src) hg ha
  obtain ⟨-,h28,-⟩:=ans_facts ha
  rw [ansP'_eq ha,sub28]
  refine ⟨by omega,by omega,by omega,by rw [List.length_take];omega,?_⟩
  rintro n e ⟨rfl,rfl⟩
  rw [hgd.2.2.1]
  refine ifP_split (fun h=>by simp at h) (fun _ => ?_)
  have:=notice_enc_len (kind,code,b.take 28)
  refine ⟨by omega,hgd.2.1.symm,?_⟩
  rw [hgd.1];exact hgd.2.2.2
theorem ok_reply_Error:SpecOK Tryz.prog GL 190 ct_reply_Error.spec:=Ct.okH _ Tryz.func190 (by kernel_rfl) (withSpec_ok (withSpec_ok (withSpec_ok (withSpec_ok noSpecs_ok ok_reply_numbers) (Ct.named ok_reply_answerable)) (Ct.named ok_transport_EncodeNotice)) ok_reply_send) hmix an_reply_Error (hideMp (by kernel_rfl) vc_reply_Error)
def ct_reply_Host:Ct:=⟨[.val (.sl cU8),.val cU32,.val cI,.val cI],[.own 5 cU8,.val cI],fun d=>[(d.1.length:Int)<=1099511627776],fun d=>((hostB d.1 d.2.1 d.2.2.1 d.2.2.2.1,hostE d.1 d.2.2.1 d.2.2.2.1,()),())⟩
def an_reply_Host:PDs ct_reply_Host.ps->Anns:=(fun _=>{})
def Qbn9 (a:List Int) (b c d:Int) :=
 ([]:List Int)=hostB a b c d/\(17:Int)=hostE a c d
def Qbn11 (g:Int×Int×Int×Int×Int×Int×List Int) :=
 (g.2.1,g.1,(0:Int),bits BinOp.and IntKind.i64 (IntKind.wrap .i64 (g.2.2.1+(1:Int))) (4294967295:Int),(20:Int),(0:Int),([]:List Int))
theorem vc_reply_Host :
 ∀(a:List Int) (b c d:Int),(a.length<=maxLen/\ ∀(e:Int),e∈a->0<=e/\e<=255)/\(0<=b/\b<=4294967295)/\R64 c/\R64 d/\True->(a.length:Int)<=1099511627776->ifP (! decide (numOK c d)) (([]:List Int)=hostB a b c d/\(1:Int)=hostE a c d) ((a.length:Int)<=1099511627776/\ ∀(e:(Int×Int×Int×Int×Bool×Int×Int)×List Int) (f:Bool),e=ansP' a/\f=decide (ansOK a)->ifP (! f) (Qbn9 a b c d) (ifP (decide (e.1.2.2.2.1=1)) ((e.2.length:Int)<=1000000/\ ∀(g:Bool) (h i:Int) (j:List Int) (k:Int),(g,h,i,j)=unEcho e.2/\k=unEchoErr e.2->ifP (! decide (k=0)) (Qbn9 a b c d) ((j.length:Int)<=1073741824/\ ∀(l:List Int) (m:Int),l=echoEnc (true,h,i,j)/\m=echoErr (true,h,i,j)->(l.length:Int)<=1073741824/\ipEnc (sendP b e.1.2.2.2.2.2.1 e.1.2.2.2.1 c d l)=hostB a b c d/\ipErr (sendP b e.1.2.2.2.2.2.1 e.1.2.2.2.1 c d l)=hostE a c d)) (ifP (decide (e.1.2.2.2.1=17)) ((e.2.length:Int)<=1000000/\ ∀(g h:Int) (i:List Int)
 (j:Int),(g,h,i)=unUDP e.1.2.2.2.2.2.1 e.1.2.2.2.2.2.2 e.2/\j=unUDPErr e.1.2.2.2.2.2.1 e.1.2.2.2.2.2.2 e.2->ifP (! decide (j=0)) (Qbn9 a b c d) ((a.length:Int)<=1099511627776/\errB a b (3:Int) (3:Int) c d=hostB a b c d/\errE a (3:Int) (3:Int) c d=hostE a c d)) (ifP (decide (e.1.2.2.2.1=6)) ((e.2.length:Int)<=1000000/\ ∀(g:Int×Int×Int×Int×Int×Int×List Int) (h:Int),g=unTCP e.1.2.2.2.2.2.1 e.1.2.2.2.2.2.2 e.2/\h=unTCPErr e.1.2.2.2.2.2.1 e.1.2.2.2.2.2.2 e.2-> ∀(i:Bool),i= ! decide (h=0)->((! i)->((! i)->(! i))/\True)/\((! i)->((! i)->(! i))/\True)/\((! i)->((! i)->(! i))/\True)/\(i=false->(! i))/\ ∀(j:Bool),(j=bif i then true else decide (bits BinOp.and IntKind.i64 g.2.2.2.2.1 (2:Int)=0))->((! j)->((! j)->(! j))/\True)/\((! j)->((! j)->(! j))/\True)/\((! j)->((! j)->(! j))/\True)/\(j=false->(! j))/\ifP (bif j then true else ! decide (bits BinOp.and IntKind.i64 g.2.2.2.2.1 (4:Int)=0)) (Qbn9 a
 b c d) ((↑(0:Nat):Int)<=1000000/\ ∀(k:List Int) (l:Int),k=tcpEnc b e.1.2.2.2.2.2.1 (Qbn11 g)/\l=tcpErr (Qbn11 g)->(k.length:Int)<=1073741824/\ipEnc (sendP b e.1.2.2.2.2.2.1 e.1.2.2.2.1 c d k)=hostB a b c d/\ipErr (sendP b e.1.2.2.2.2.2.1 e.1.2.2.2.1 c d k)=hostE a c d)) (Qbn9 a b c d))))):=by
  delta Qbn9 Qbn11
  rintro b src id ttl ⟨⟨-,hb⟩,-⟩ hl
  by_cases hn:numOK id ttl
  rotate_left
  · exact ifP_split (fun _=>host_range hn) (fun h=>absurd (by simpa using h) hn)
  refine ifP_split (fun h=>by simp [hn] at h) (fun _=>⟨hl,?_⟩)
  rintro _ _ ⟨rfl,rfl⟩
  refine ifP_split (fun h=>host_bad hn (fun k => ?_)) (fun h => ?_)
  · have:=k.1;simp [this] at h
  have ha:ansOK b:=by simpa using h
  obtain ⟨hd0,h28,hp1,hp6,-⟩:=ans_facts ha
  have hdl:=dec_len hd0
  rw [ansP'_eq ha]
  have hdb:bytes (b.drop 20):=bytes_drop hb
  have hdr:(b.drop 20).length<=1480:=by rw [List.length_drop];omega
  have nofit:∀ k:Prop,(k->hostGood b->False)->k->([]:List Int)=hostB b src id ttl/\(17:Int)=hostE b id ttl:=fun k hk h=>host_bad hn (hk h)
  refine ifP_split (fun h1 => ?_) (fun h1=>ifP_split (fun h17 => ?_) (fun h17=>ifP_split (fun h6 => ?_) (fun h6 => ?_)))
  · have h1:protoOf b=1:=of_decide_eq_true h1
    refine ⟨by show ((b.drop 20).length:Int)<=_;omega,?_⟩
    rintro r i q dt e ⟨hu,rfl⟩
    refine ifP_split (fun h => ?_) (fun h => ?_)
    · refine host_bad hn (fun k => ?_)
      obtain ⟨-,⟨-,k⟩|⟨k,-⟩|⟨k,-⟩⟩:=k
      · simp [k] at h
      · omega
      · omega
    have h:unEchoErr (b.drop 20)=0:=by simpa using h
    have hh:=host_1 (src:=src) hn ha h1 h
    have hlen:=un_echo_len (b.drop 20)
    have e2:(i,q,dt)=(unEcho (b.drop 20)).2:=congrArg Prod.snd hu
    have e3:dt=(unEcho (b.drop 20)).2.2.2:=by rw [← e2]
    refine ⟨by rw [e3];omega,?_⟩
    rintro o e ⟨rfl,rfl⟩
    rw [show ((true,i,q,dt):Echo)=(true,(i,q,dt)) from rfl,e2]
    have hle:=enc_len (true,(unEcho (b.drop 20)).2)
    refine ⟨by omega,?_,?_⟩
    · rw [hh.1,← h1];rfl
    · rw [hh.2];exact ip_send hn (by have:=h1;unfold protoOf at this;simp only;omega) hle
  · have h1:=of_decide_eq_false h1
    have h17:protoOf b=17:=of_decide_eq_true h17
    refine ⟨by show ((b.drop 20).length:Int)<=_;omega,?_⟩
    rintro sp dp dt e ⟨hu,rfl⟩
    refine ifP_split (fun h => ?_) (fun h => ?_)
    · refine host_bad hn (fun k => ?_)
      obtain ⟨-,⟨k,-⟩|⟨-,k⟩|⟨k,-⟩⟩:=k
      · omega
      · have k:unUDPErr (pkHdrF b).2.2.2.2.2.1 (pkHdrF b).2.2.2.2.2.2 (b.drop 20)=0:=k
        simp [k] at h
      · omega
    have h:unUDPErr (srcOf b) (dstOf b) (b.drop 20)=0:=by
      have:unUDPErr (pkHdrF b).2.2.2.2.2.1 (pkHdrF b).2.2.2.2.2.2 (b.drop 20)=0:=by simpa using h
      exact this
    have hh:=host_17 (src:=src) hn ha h17 h
    exact ⟨hl,hh.1.symm,by rw [hh.2,err_port hn ha]⟩
  · have h1:=of_decide_eq_false h1
    have h17:=of_decide_eq_false h17
    have h6:protoOf b=6:=of_decide_eq_true h6
    refine ⟨by show ((b.drop 20).length:Int)<=_;omega,?_⟩
    rintro t e ⟨ht,rfl⟩
    have ht:t=unTCP (srcOf b) (dstOf b) (b.drop 20):=ht
    have hr:=un_tcp_rng (s:=srcOf b) (d:=dstOf b) hdb
    rw [← ht] at hr
    have ee:unTCPErr (pkHdrF b).2.2.2.2.2.1 (pkHdrF b).2.2.2.2.2.2 (b.drop 20)=unTCPErr (srcOf b) (dstOf b) (b.drop 20):=rfl
    rw [ee]
    (repeat (intro (b_:Bool) (hb_:b_=_);(repeat refine ⟨(by first|(simp;done)|(rw [hb_];simp;done)|(rw [hb_];simp;omega)|(rw [hb_];simp;intros;omega)|(rw [hb_];simp +contextual;done)),?_⟩);subst hb_))
    refine ifP_split (fun h => ?_) (fun h => ?_)
    · refine host_bad hn (fun k => ?_)
      obtain ⟨-,⟨k,-⟩|⟨k,-⟩|⟨-,k1,k2,k3⟩⟩:=k
      · omega
      · omega
      · rw [← ht] at k2 k3
        simp [k1,k2,k3] at h
    have k1:unTCPErr (srcOf b) (dstOf b) (b.drop 20)=0:=Classical.byContradiction fun k=>by simp [k] at h
    have k2:bits .and .i64 t.2.2.2.2.1 2≠0:=fun k=>by simp [k1,k] at h
    have k3:bits .and .i64 t.2.2.2.2.1 4=0:=Classical.byContradiction fun k=>by simp [k1,k2,k] at h
    have hh:=host_6 (src:=src) hn ha h6 k1 (by rw [← ht];exact k2) (by rw [← ht];exact k3)
    refine ⟨by simp,?_⟩
    rintro o e ⟨rfl,rfl⟩
    rw [w64 (n:=t.2.2.1+1) (by omega) (by omega),i64_and32]
    have hle:=tcp_enc_len src (srcOf b) (rstOf t)
    have er:((t.2.1,t.1,0,(t.2.2.1+1)%4294967296,20,0,[]):Seg)=rstOf t:=rfl
    rw [er]
    refine ⟨by show ((tcpEnc src (srcOf b) (rstOf t)).length:Int)<=_;omega,?_,?_⟩
    · rw [hh.1,← ht,← h6];rfl
    · rw [hh.2];exact ip_send hn (by have:=h6;unfold protoOf at this;simp only;omega) hle
  · have h1:=of_decide_eq_false h1
    have h17:=of_decide_eq_false h17
    have h6:=of_decide_eq_false h6
    refine host_bad hn (fun k => ?_)
    obtain ⟨-,⟨k,-⟩|⟨k,-⟩|⟨k,-⟩⟩:=k
    · exact h1 k
    · exact h17 k
    · exact h6 k
theorem ok_reply_Host:SpecOK Tryz.prog GL 155 ct_reply_Host.spec:=Ct.okH _ Tryz.func155 (by kernel_rfl) (withSpec_ok (withSpec_ok (withSpec_ok (withSpec_ok (withSpec_ok (withSpec_ok (withSpec_ok (withSpec_ok (withSpec_ok noSpecs_ok ok_reply_numbers) (Ct.named ok_reply_answerable)) (Ct.named ok_transport_DecodeEcho)) (Ct.named ok_transport_EncodeEcho)) (Ct.named ok_transport_DecodeUDP)) (Ct.named ok_transport_DecodeTCP)) (Ct.named ok_transport_EncodeTCP)) ok_reply_Error) ok_reply_send) hmix an_reply_Host (hideMp (by kernel_rfl) vc_reply_Host)
end Go.RS
