/- Reply: answers. -/
import Derived.Test.YtfgcoeablgoccaaGreatDoorAddr
import Derived.Test.YtfgcoeablgoccaaGreatDoorWire
namespace Go.RS
open Go.SX Go.Proofs
set_option maxRecDepth 100000
set_option linter.unusedVariables false
abbrev Ans:Type:=Int×Int×Int×Int×Int×Int
def ans0:Ans:=(0,0,0,0,0,0)
def special (a:Int):Int :=
  if a/16777216=0 then 1 else if a/16777216=127 then 2
  else if a/16777216=10∨(a/16777216=172/\16<=a/65536%256/\a/65536%256<32)∨(a/16777216=192/\a/65536%256=168) then 3
  else if a/16777216=169/\a/65536%256=254 then 4
  else if 224<=a/16777216/\a/16777216<240 then 5 else if 240<=a/16777216 then 6 else 0
def usable (a:Int):Prop:=special a=0∨special a=3
instance (a:Int):Decidable (usable a):=by unfold usable;infer_instance
def protoP (x:Packet):Int:=x.1.2.2.2.1
def pktAns (x:Packet):Prop:=8<=x.2.length/\(x.1.2.2.2.1=1->x.2.getD 0 default=8)/\(x.1.2.2.2.1=6->14<=x.2.length->bits .and .u8 (x.2.getD 13 default) 4=0)/\usable x.1.2.2.2.2.2.1
instance (x:Packet):Decidable (pktAns x):=by unfold pktAns;infer_instance
def ansOK (b:List Int):Prop:=decErr b=0/\pktAns (decPkt b)
instance (b:List Int):Decidable (ansOK b):=by unfold ansOK;infer_instance
def ansP (b:List Int):Packet:=if ansOK b then decPkt b else (hdr0,[])
def preAns (b:List Int):Prop:=decErr b=0/\8<=(decPkt b).2.length/\(protoP (decPkt b)=1->(decPkt b).2.getD 0 default=8)/\(protoP (decPkt b)=6->14<=(decPkt b).2.length->bits .and .u8 ((decPkt b).2.getD 13 default) 4=0)
instance (b:List Int):Decidable (preAns b):=by unfold preAns;infer_instance
def ansP' (b:List Int):Packet:=if preAns b then decPkt b else (hdr0,[])
def numOK (id ttl:Int):Prop:=(0<=id/\id<=65535)/\0<=ttl/\ttl<=255
instance (i t:Int):Decidable (numOK i t):=by unfold numOK;infer_instance
def sendP (src dst proto id ttl:Int) (data:List Int):Packet:=((0,id,ttl,proto,false,src,dst),data)
def srcOf (b:List Int):Int:=(pkHdrF b).2.2.2.2.2.1
def dstOf (b:List Int):Int:=(pkHdrF b).2.2.2.2.2.2
def protoOf (b:List Int):Int:=(pkHdrF b).2.2.2.1
def errGood (kind code id ttl:Int):Prop:=(kind=11∨kind=3)/\(0<=code/\code<=255)/\numOK id ttl
instance (k c i t:Int):Decidable (errGood k c i t):=by unfold errGood;infer_instance
def errE (b:List Int) (kind code id ttl:Int):Int:=if ¬ errGood kind code id ttl then 1 else if ansOK b then 0 else 17
def errB (b:List Int) (src kind code id ttl:Int):List Int:=if errE b kind code id ttl=0 then ipEnc (sendP src (srcOf b) 1 id ttl (noticeEnc (kind,code,b.take 28))) else []
def rstOf (s:Seg):Seg:=(s.2.1,s.1,0,(s.2.2.1+1)%4294967296,20,0,[])
def hostGood (b:List Int):Prop:=ansOK b/\((protoOf b=1/\unEchoErr (b.drop 20)=0)∨(protoOf b=17/\unUDPErr (srcOf b) (dstOf b) (b.drop 20)=0) ∨
  (protoOf b=6/\unTCPErr (srcOf b) (dstOf b) (b.drop 20)=0/\bits .and .i64 (unTCP (srcOf b) (dstOf b) (b.drop 20)).2.2.2.2.1 2≠0/\bits .and .i64 (unTCP (srcOf b) (dstOf b) (b.drop 20)).2.2.2.2.1 4=0))
instance (b:List Int):Decidable (hostGood b):=by unfold hostGood;infer_instance
def hostE (b:List Int) (id ttl:Int):Int:=if ¬ numOK id ttl then 1 else if hostGood b then 0 else 17
def hostB (b:List Int) (src id ttl:Int):List Int :=
  if hostE b id ttl=0 then
    if protoOf b=1 then ipEnc (sendP src (srcOf b) 1 id ttl (echoEnc (true,(unEcho (b.drop 20)).2)))
    else if protoOf b=17 then errB b src 3 3 id ttl
    else ipEnc (sendP src (srcOf b) 6 id ttl (tcpEnc src (srcOf b) (rstOf (unTCP (srcOf b) (dstOf b) (b.drop 20)))))
  else []
def quHead (b:List Int):Prop:=pkErr b=0/\b.length=28/\(pkHdrF b).1=0/\(pkHdrF b).2.2.2.2.1=true
instance (b:List Int):Decidable (quHead b):=by unfold quHead;infer_instance
def quFlow (b:List Int):Int:=if protoOf b=1 then wordAt b 22-16384 else if protoOf b=17∨protoOf b=6 then wordAt b 20-20000 else 0
def quP (b:List Int):Probe:=(srcOf b,dstOf b,protoOf b,quFlow b,(pkHdrF b).2.1,(pkHdrF b).2.2.1)
def quRight (b:List Int):Prop :=
  (protoOf b=1/\wordAt b 2=30/\wordAt b 20=2048/\wordAt b 24=21075/\wordAt b 26=(pkHdrF b).2.1) ∨
  (protoOf b=17/\wordAt b 2=30/\wordAt b 22=33434/\wordAt b 24=wordAt b 2-20/\wordAt b 26=(pkHdrF b).2.1+1) ∨
  (protoOf b=6/\wordAt b 2=40/\wordAt b 22=80/\numB ((b.drop 24).take 4)=(pkHdrF b).2.1)
instance (b:List Int):Decidable (quRight b):=by unfold quRight;infer_instance
def quV (b:List Int):Probe×Bool:=if quHead b then (quP b,decide (quRight b/\probeErr (quP b)=0)) else (probe0,false)
def noT (p:Probe) (t:Int):Probe:=(p.1,p.2.1,p.2.2.1,p.2.2.2.1,p.2.2.2.2.1,t)
def kindN (ty code:Int):Int:=if ty=11 then 1 else if code=3 then 3 else 5
abbrev RdR:Type:=Probe×Ans×Bool
def noR:RdR:=(probe0,ans0,false)
def noticeR (dst:Int) (b:List Int):RdR :=
  if unNoticeErr b=0 then (noT (quV (unNotice b).2.2).1 0,(0,kindN (unNotice b).1 (unNotice b).2.1,(unNotice b).2.1,0,0,(quV (unNotice b).2.2).1.2.2.2.2.2),(quV (unNotice b).2.2).2&&decide ((quV (unNotice b).2.2).1.1=dst)) else noR
def echoGood (b:List Int):Prop:=unEchoErr b=0/\(unEcho b).1=true/\(unEcho b).2.1=21075/\(unEcho b).2.2.2.length=2
instance (b:List Int):Decidable (echoGood b):=by unfold echoGood;infer_instance
def echoR (src dst:Int) (b:List Int):RdR:=if echoGood b then ((dst,src,1,wordAt b 2-18432,(unEcho b).2.2.1,0),(0,2,0,0,0,0),true) else noR
def resetGood (src dst:Int) (b:List Int):Prop:=unTCPErr src dst b=0/\(unTCP src dst b).1=80/\(unTCP src dst b).2.2.1=0/\(unTCP src dst b).2.2.2.2.1=20/\(unTCP src dst b).2.2.2.2.2.1=0/\(unTCP src dst b).2.2.2.2.2.2=[]
instance (s d:Int) (b:List Int):Decidable (resetGood s d b):=by unfold resetGood;infer_instance
def resetR (src dst:Int) (b:List Int):RdR:=if resetGood src dst b then ((dst,src,6,(unTCP src dst b).2.1-20000,(unTCP src dst b).2.2.2.1-1,0),(0,4,0,0,0,0),true) else noR
def partR (b:List Int):RdR :=
  if protoOf b=1/\0<(b.drop 20).length/\(b.drop 20).getD 0 default=0 then echoR (srcOf b) (dstOf b) (b.drop 20)
  else if protoOf b=1 then noticeR (dstOf b) (b.drop 20) else if protoOf b=6 then resetR (srcOf b) (dstOf b) (b.drop 20) else noR
def readGood (b:List Int):Prop:=decErr b=0/\(partR b).2.2=true/\probeErr (noT (partR b).1 1)=0
instance (b:List Int):Decidable (readGood b):=by unfold readGood;infer_instance
def readA (b:List Int):Probe×Ans:=if readGood b then ((partR b).1,(srcOf b,(partR b).2.1.2.1,(partR b).2.1.2.2.1,(pkHdrF b).2.2.1,(pkHdrF b).2.1,(partR b).2.1.2.2.2.2.2)) else (probe0,ans0)
def readAE (b:List Int):Int:=if readGood b then 0 else 17
theorem shr24 {n:Int} (h0:0<=n):shrI .i64 n 24=n/16777216:=by
  have e:=shr_pow (n:=n) (k:=3) h0 (by omega)
  exact e
theorem i64_and255 (n:Int):bits .and .i64 n 255=n%256:=by
  have h127:(BitVec.ofInt 64 255).toNat=2^8-1:=by decide
  have key:(BitVec.ofInt 64 n &&& BitVec.ofInt 64 255).toNat=(n%((2^64:Nat):Int)).toNat%2^8:=by
    rw [BitVec.toNat_and,BitVec.toNat_ofInt,h127,Nat.and_two_pow_sub_one_eq_mod]
  show IntKind.i64.wrap ((BitVec.ofInt 64 n &&& BitVec.ofInt 64 255).toNat:Nat)=n%256
  rw [key,IntKind.wrap_i64]
  omega
theorem i64_and32 (n:Int):bits .and .i64 n 4294967295=n%4294967296:=by
  have h127:(BitVec.ofInt 64 4294967295).toNat=2^32-1:=by decide
  have key:(BitVec.ofInt 64 n &&& BitVec.ofInt 64 4294967295).toNat=(n%((2^64:Nat):Int)).toNat%2^32:=by
    rw [BitVec.toNat_and,BitVec.toNat_ofInt,h127,Nat.and_two_pow_sub_one_eq_mod]
  show IntKind.i64.wrap ((BitVec.ofInt 64 n &&& BitVec.ofInt 64 4294967295).toNat:Nat)=n%4294967296
  rw [key,IntKind.wrap_i64]
  omega
theorem ct_num {p n a s:Int} (hs:sz n=s) (hn:0<=n/\n<=32) (hp:p%s=0):contains (p,n) a=decide (p<=a/\a<p+s):=by
  unfold contains pValid
  simp only
  rw [hs,decide_eq_true ⟨hn.1,hn.2,hp⟩,Bool.true_and]
theorem ansP_eq {b:List Int} (h:ansOK b):ansP b=(pkHdrF b,b.drop 20):=by rw [ansP,if_pos h,decPkt,if_pos h.1]
theorem ans_pre {b:List Int}:ansOK b↔preAns b/\usable (decPkt b).1.2.2.2.2.2.1:=⟨fun h=>⟨⟨h.1,h.2.1,h.2.2.1,h.2.2.2.1⟩,h.2.2.2.2⟩,fun h=>⟨h.1.1,h.1.2.1,h.1.2.2.1,h.1.2.2.2,h.2⟩⟩
theorem ansP'_eq {b:List Int} (h:ansOK b):ansP' b=(pkHdrF b,b.drop 20):=by rw [ansP',if_pos (ans_pre.1 h).1,decPkt,if_pos h.1]
theorem ans_facts {b:List Int} (h:ansOK b):decErr b=0/\28<=b.length/\(protoOf b=1->(b.drop 20).getD 0 default=8)/\(protoOf b=6->14<=(b.drop 20).length->bits .and .u8 ((b.drop 20).getD 13 default) 4=0)/\usable (srcOf b):=by
  obtain ⟨h1,h2⟩:=h
  rw [decPkt,if_pos h1] at h2
  obtain ⟨k1,k2,k3,k4⟩:=h2
  simp only [List.length_drop] at k1
  exact ⟨h1,by omega,k2,k3,k4⟩
theorem ans_mk {b:List Int} (h1:decErr b=0) (h2:28<=b.length) (h3:protoOf b=1->(b.drop 20).getD 0 default=8) (h4:protoOf b=6->14<=(b.drop 20).length->bits .and .u8 ((b.drop 20).getD 13 default) 4=0) (h5:usable (srcOf b)):ansOK b:=by
  refine ⟨h1,?_⟩
  rw [decPkt,if_pos h1]
  exact ⟨by simp only [List.length_drop];omega,h3,h4,h5⟩
theorem ip_send {src dst proto id ttl:Int} {data:List Int} (hn:numOK id ttl) (hp:0<=proto/\proto<=255) (hl:(data.length:Int)<=1480):ipErr (sendP src dst proto id ttl data)=0:=by
  obtain ⟨⟨a,b⟩,c,d⟩:=hn
  rw [ipErr,if_neg,if_neg (by simp only [sendP];omega)]
  rw [Decidable.not_not]
  exact ⟨⟨Int.le_refl _,by simp only [sendP];omega⟩,⟨c,d⟩,hp,a,b⟩
theorem err_good {b:List Int} {src kind code id ttl:Int} (hg:errGood kind code id ttl) (ha:ansOK b) :
    errE b kind code id ttl=0/\errB b src kind code id ttl=ipEnc (sendP src (srcOf b) 1 id ttl (noticeEnc (kind,code,b.take 28)))/\noticeErr (kind,code,b.take 28)=0/\ipErr (sendP src (srcOf b) 1 id ttl (noticeEnc (kind,code,b.take 28)))=0:=by
  have he:errE b kind code id ttl=0:=by rw [errE,if_neg (fun k=>k hg),if_pos ha]
  obtain ⟨-,hl,-⟩:=ans_facts ha
  obtain ⟨h1,h2,h3⟩:=hg
  refine ⟨he,by rw [errB,if_pos he],?_,ip_send h3 (by omega) (notice_enc_len _)⟩
  have ht:(b.take 28).length=28:=by rw [List.length_take];omega
  rw [noticeErr,if_neg,if_neg,if_neg]
  · simp only;rw [ht];omega
  · simp only;rw [ht];omega
  · rw [Decidable.not_not];exact ⟨h1.symm,h2⟩
theorem err_range {b:List Int} {src kind code id ttl:Int} (hg:¬ errGood kind code id ttl):([]:List Int)=errB b src kind code id ttl/\1=errE b kind code id ttl:=by
  have he:errE b kind code id ttl=1:=by rw [errE,if_pos hg]
  rw [errB,he];exact ⟨rfl,rfl⟩
theorem err_bad {b:List Int} {src kind code id ttl:Int} (hg:errGood kind code id ttl) (ha:¬ ansOK b):([]:List Int)=errB b src kind code id ttl/\17=errE b kind code id ttl:=by
  have he:errE b kind code id ttl=17:=by rw [errE,if_neg (fun k=>k hg),if_neg ha]
  rw [errB,he];exact ⟨rfl,rfl⟩
theorem sub28 (b:List Int):subL b (Int.toNat 0) (Int.toNat 28)=b.take 28:=by
  show subL b 0 28=_
  simp [subL]
theorem host_range {b:List Int} {src id ttl:Int} (hn:¬ numOK id ttl):([]:List Int)=hostB b src id ttl/\1=hostE b id ttl:=by
  have he:hostE b id ttl=1:=by rw [hostE,if_pos hn]
  rw [hostB,he];exact ⟨rfl,rfl⟩
theorem host_bad {b:List Int} {src id ttl:Int} (hn:numOK id ttl) (ha:¬ hostGood b):([]:List Int)=hostB b src id ttl/\17=hostE b id ttl:=by
  have he:hostE b id ttl=17:=by rw [hostE,if_neg (fun k=>k hn),if_neg ha]
  rw [hostB,he];exact ⟨rfl,rfl⟩
theorem host_zero {b:List Int} {id ttl:Int} (hn:numOK id ttl) (ha:hostGood b):hostE b id ttl=0:=by rw [hostE,if_neg (fun k=>k hn),if_pos ha]
theorem host_1 {b:List Int} {src id ttl:Int} (hn:numOK id ttl) (ha:ansOK b) (h:protoOf b=1) (he:unEchoErr (b.drop 20)=0) :
    hostB b src id ttl=ipEnc (sendP src (srcOf b) 1 id ttl (echoEnc (true,(unEcho (b.drop 20)).2)))/\hostE b id ttl=0:=by
  have h0:=host_zero hn (b:=b) ⟨ha,.inl ⟨h,he⟩⟩
  rw [hostB,if_pos h0,if_pos h];exact ⟨rfl,h0⟩
theorem host_17 {b:List Int} {src id ttl:Int} (hn:numOK id ttl) (ha:ansOK b) (h:protoOf b=17) (he:unUDPErr (srcOf b) (dstOf b) (b.drop 20)=0) :
    hostB b src id ttl=errB b src 3 3 id ttl/\hostE b id ttl=0:=by
  have h0:=host_zero hn (b:=b) ⟨ha,.inr (.inl ⟨h,he⟩)⟩
  rw [hostB,if_pos h0,if_neg (by omega),if_pos h];exact ⟨rfl,h0⟩
theorem host_6 {b:List Int} {src id ttl:Int} (hn:numOK id ttl) (ha:ansOK b) (h:protoOf b=6) (he:unTCPErr (srcOf b) (dstOf b) (b.drop 20)=0)
    (h2:bits .and .i64 (unTCP (srcOf b) (dstOf b) (b.drop 20)).2.2.2.2.1 2≠0) (h4:bits .and .i64 (unTCP (srcOf b) (dstOf b) (b.drop 20)).2.2.2.2.1 4=0) :
    hostB b src id ttl=ipEnc (sendP src (srcOf b) 6 id ttl (tcpEnc src (srcOf b) (rstOf (unTCP (srcOf b) (dstOf b) (b.drop 20)))))/\hostE b id ttl=0:=by
  have h0:=host_zero hn (b:=b) ⟨ha,.inr (.inr ⟨h,he,h2,h4⟩)⟩
  rw [hostB,if_pos h0,if_neg (by omega),if_neg (by omega)];exact ⟨rfl,h0⟩
theorem err_port {b:List Int} {id ttl:Int} (hn:numOK id ttl) (ha:ansOK b):errE b 3 3 id ttl=0:=by
  rw [errE,if_neg (fun k=>k ⟨.inr rfl,⟨by omega,by omega⟩,hn⟩),if_pos ha]
theorem un_echo_len (b:List Int):(unEcho b).2.2.2.length<=b.length:=by
  unfold unEcho;split
  · simp only [List.length_drop];omega
  · simp
theorem un_tcp_rng {s d:Int} {b:List Int} (hb:bytes b):(0<=(unTCP s d b).2.1/\(unTCP s d b).2.1<=65535)/\(0<=(unTCP s d b).2.2.1/\(unTCP s d b).2.2.1<=4294967295)/\0<=(unTCP s d b).2.2.2.1/\(unTCP s d b).2.2.2.1<=4294967295:=by
  unfold unTCP;split
  · have h1:=bytes_word hb (Int.toNat 2)
    have h2:=bytes_word hb (Int.toNat 4)
    have h3:=bytes_word hb (Int.toNat 6)
    have h4:=bytes_word hb (Int.toNat 8)
    have h5:=bytes_word hb (Int.toNat 10)
    simp only
    omega
  · simp
theorem un_echo_flag {b:List Int} (h:b.getD 0 default=8):(unEcho b).1=false:=by
  unfold unEcho;split
  · exact decide_eq_false (by show ¬ b.getD 0 default=0;omega)
  · rfl
def blkP (k:Int):Pfx:=([(0,8),(2130706432,8),(167772160,8),(2886729728,12),(3232235520,16),(2851995648,16),(3758096384,4),(4026531840,4)]:List Pfx).getD k.toNat (0,0)
def ct_address_Special:Ct:=⟨[.val cU32],[.val cI],fun d=>[],fun d=>((special d.1,()),())⟩
def an_address_Special:PDs ct_address_Special.ps->Anns:=(fun d=>{cuts:=(fun n=>match n with|6=>some (fun S=>{ι:=Unit,inv:=fun i=>contains (blkP (S.i 6)) d.1=false,keep:=[0,5,6],slots:=fun i=>[],names:=fun i=>[]})|_=>none),unr:=fun n=>match n with|2=>9|_=>0})
def Qbm0 :=
 (2:Int)^IntKind.bits IntKind.i64
def Qbm6 :=
 (nat_lit 0+nat_lit 1)%Int.natAbs (Qbm0)+nat_lit 1
def Qbm1 :=
 ((Qbm6)%Int.natAbs (Qbm0)+nat_lit 1)%Int.natAbs (Qbm0)+nat_lit 1
def Qbm8 :=
 IntKind.wrap .i64 ((0:Int)+(1:Int))+(1:Int)
def Qbm2 :=
 IntKind.wrap .i64 (IntKind.wrap .i64 (Qbm8)+(1:Int))+(1:Int)
def Qbm5 :=
 ((Qbm1)%Int.natAbs (Qbm0)+nat_lit 1)%Int.natAbs (Qbm0)+nat_lit 1
def Qbm7 :=
 IntKind.wrap .i64 (IntKind.wrap .i64 (Qbm2)+(1:Int))+(1:Int)
def Qbm17 :=
 (2130706432:Int)
def Qbm18 :=
 (2886729728:Int)
def Qbm19 :=
 (3232235520:Int)
def Qbm20 :=
 (2851995648:Int)
def Qbm21 :=
 (3758096384:Int)
def Qbm22 :=
 (4026531840:Int)
def Qbm23 :=
 blkP (Int.ofNat (((Qbm6)%Int.natAbs (Qbm0)+nat_lit 1)%Int.natAbs (Qbm0)))
def Qbm24 :=
 blkP (Int.ofNat (((Qbm1)%Int.natAbs (Qbm0)+nat_lit 1)%Int.natAbs (Qbm0)))
def Qbm25 :=
 blkP (Int.ofNat (((Qbm5)%Int.natAbs (Qbm0)+nat_lit 1)%Int.natAbs (Qbm0)))
def Qbm27 :=
 (167772160:Int)
theorem vc_address_Special :
 ∀(a:Int),(0<=a/\a<=4294967295)/\True->True->ifP (contains ((0:Int),(8:Int)) a) ((1:Int)=special a) (∃(b:Unit),contains (blkP (0:Int)) a=false/\a=a/\(0:Int)=0/\(8:Int)=8/\(1:Int)=1/\(Qbm17)=2130706432/\(8:Int)=8/\(2:Int)=2/\(Qbm27)=167772160/\(8:Int)=8/\(3:Int)=3/\(Qbm18)=2886729728/\(12:Int)=12/\(3:Int)=3/\(Qbm19)=3232235520/\(16:Int)=16/\(3:Int)=3/\(Qbm20)=2851995648/\(16:Int)=16/\(4:Int)=4/\(Qbm21)=3758096384/\(4:Int)=4/\(5:Int)=5/\(Qbm22)=4026531840/\(4:Int)=4/\(6:Int)=6/\(0:Int)=0/\True)/\ ∀(b:Unit),contains (blkP (0:Int)) a=false->ifP (contains ((Qbm17),(8:Int)) a) ((2:Int)=special a) (∃(c:Unit),contains (blkP (Int.ofNat ((nat_lit 0+nat_lit 1)%Int.natAbs (Qbm0))))
 a=false/\a=a/\(0:Int)=0/\(8:Int)=8/\(1:Int)=1/\(Qbm17)=2130706432/\(8:Int)=8/\(2:Int)=2/\(Qbm27)=167772160/\(8:Int)=8/\(3:Int)=3/\(Qbm18)=2886729728/\(12:Int)=12/\(3:Int)=3/\(Qbm19)=3232235520/\(16:Int)=16/\(3:Int)=3/\(Qbm20)=2851995648/\(16:Int)=16/\(4:Int)=4/\(Qbm21)=3758096384/\(4:Int)=4/\(5:Int)=5/\(Qbm22)=4026531840/\(4:Int)=4/\(6:Int)=6/\IntKind.wrap .i64 ((0:Int)+(1:Int))=IntKind.wrap .i64 ((0:Int)+(1:Int))/\True)/\ ∀(c:Unit),contains (blkP (Int.ofNat ((nat_lit 0+nat_lit 1)%Int.natAbs (Qbm0)))) a=false->ifP (contains ((Qbm27),(8:Int)) a) ((3:Int)=special a) (∃(d:Unit),contains (blkP (Int.ofNat ((Qbm6)%Int.natAbs (Qbm0))))
 a=false/\a=a/\(0:Int)=0/\(8:Int)=8/\(1:Int)=1/\(Qbm17)=2130706432/\(8:Int)=8/\(2:Int)=2/\(Qbm27)=167772160/\(8:Int)=8/\(3:Int)=3/\(Qbm18)=2886729728/\(12:Int)=12/\(3:Int)=3/\(Qbm19)=3232235520/\(16:Int)=16/\(3:Int)=3/\(Qbm20)=2851995648/\(16:Int)=16/\(4:Int)=4/\(Qbm21)=3758096384/\(4:Int)=4/\(5:Int)=5/\(Qbm22)=4026531840/\(4:Int)=4/\(6:Int)=6/\IntKind.wrap .i64 (Qbm8)=IntKind.wrap .i64 (Qbm8)/\True)/\ ∀(d:Unit),contains (blkP (Int.ofNat ((Qbm6)%Int.natAbs (Qbm0)))) a=false->ifP (contains ((Qbm18),(12:Int)) a) ((3:Int)=special a) (∃(e:Unit),contains (Qbm23)
 a=false/\a=a/\(0:Int)=0/\(8:Int)=8/\(1:Int)=1/\(Qbm17)=2130706432/\(8:Int)=8/\(2:Int)=2/\(Qbm27)=167772160/\(8:Int)=8/\(3:Int)=3/\(Qbm18)=2886729728/\(12:Int)=12/\(3:Int)=3/\(Qbm19)=3232235520/\(16:Int)=16/\(3:Int)=3/\(Qbm20)=2851995648/\(16:Int)=16/\(4:Int)=4/\(Qbm21)=3758096384/\(4:Int)=4/\(5:Int)=5/\(Qbm22)=4026531840/\(4:Int)=4/\(6:Int)=6/\IntKind.wrap .i64 (IntKind.wrap .i64 (Qbm8)+(1:Int))=IntKind.wrap .i64 (IntKind.wrap .i64 (Qbm8)+(1:Int))/\True)/\ ∀(e:Unit),contains (Qbm23) a=false->ifP (contains ((Qbm19),(16:Int)) a) ((3:Int)=special a) (∃(f:Unit),contains (blkP (Int.ofNat ((Qbm1)%Int.natAbs (Qbm0))))
 a=false/\a=a/\(0:Int)=0/\(8:Int)=8/\(1:Int)=1/\(Qbm17)=2130706432/\(8:Int)=8/\(2:Int)=2/\(Qbm27)=167772160/\(8:Int)=8/\(3:Int)=3/\(Qbm18)=2886729728/\(12:Int)=12/\(3:Int)=3/\(Qbm19)=3232235520/\(16:Int)=16/\(3:Int)=3/\(Qbm20)=2851995648/\(16:Int)=16/\(4:Int)=4/\(Qbm21)=3758096384/\(4:Int)=4/\(5:Int)=5/\(Qbm22)=4026531840/\(4:Int)=4/\(6:Int)=6/\IntKind.wrap .i64 (Qbm2)=IntKind.wrap .i64 (Qbm2)/\True)/\ ∀(f:Unit),contains (blkP (Int.ofNat ((Qbm1)%Int.natAbs (Qbm0)))) a=false->ifP (contains ((Qbm20),(16:Int)) a) ((4:Int)=special a) (∃(g:Unit),contains (Qbm24)
 a=false/\a=a/\(0:Int)=0/\(8:Int)=8/\(1:Int)=1/\(Qbm17)=2130706432/\(8:Int)=8/\(2:Int)=2/\(Qbm27)=167772160/\(8:Int)=8/\(3:Int)=3/\(Qbm18)=2886729728/\(12:Int)=12/\(3:Int)=3/\(Qbm19)=3232235520/\(16:Int)=16/\(3:Int)=3/\(Qbm20)=2851995648/\(16:Int)=16/\(4:Int)=4/\(Qbm21)=3758096384/\(4:Int)=4/\(5:Int)=5/\(Qbm22)=4026531840/\(4:Int)=4/\(6:Int)=6/\IntKind.wrap .i64 (IntKind.wrap .i64 (Qbm2)+(1:Int))=IntKind.wrap .i64 (IntKind.wrap .i64 (Qbm2)+(1:Int))/\True)/\ ∀(g:Unit),contains (Qbm24) a=false->ifP (contains ((Qbm21),(4:Int)) a) ((5:Int)=special a) (∃(h:Unit),contains (blkP (Int.ofNat ((Qbm5)%Int.natAbs (Qbm0))))
 a=false/\a=a/\(0:Int)=0/\(8:Int)=8/\(1:Int)=1/\(Qbm17)=2130706432/\(8:Int)=8/\(2:Int)=2/\(Qbm27)=167772160/\(8:Int)=8/\(3:Int)=3/\(Qbm18)=2886729728/\(12:Int)=12/\(3:Int)=3/\(Qbm19)=3232235520/\(16:Int)=16/\(3:Int)=3/\(Qbm20)=2851995648/\(16:Int)=16/\(4:Int)=4/\(Qbm21)=3758096384/\(4:Int)=4/\(5:Int)=5/\(Qbm22)=4026531840/\(4:Int)=4/\(6:Int)=6/\IntKind.wrap .i64 (Qbm7)=IntKind.wrap .i64 (Qbm7)/\True)/\ ∀(h:Unit),contains (blkP (Int.ofNat ((Qbm5)%Int.natAbs (Qbm0)))) a=false->ifP (contains ((Qbm22),(4:Int)) a) ((6:Int)=special a) (∃(i:Unit),contains (Qbm25)
 a=false/\a=a/\(0:Int)=0/\(8:Int)=8/\(1:Int)=1/\(Qbm17)=2130706432/\(8:Int)=8/\(2:Int)=2/\(Qbm27)=167772160/\(8:Int)=8/\(3:Int)=3/\(Qbm18)=2886729728/\(12:Int)=12/\(3:Int)=3/\(Qbm19)=3232235520/\(16:Int)=16/\(3:Int)=3/\(Qbm20)=2851995648/\(16:Int)=16/\(4:Int)=4/\(Qbm21)=3758096384/\(4:Int)=4/\(5:Int)=5/\(Qbm22)=4026531840/\(4:Int)=4/\(6:Int)=6/\IntKind.wrap .i64 (IntKind.wrap .i64 (Qbm7)+(1:Int))=IntKind.wrap .i64 (IntKind.wrap .i64 (Qbm7)+(1:Int))/\True)/\ ∀(i:Unit),contains (Qbm25) a=false->(0:Int)=special a:=by
  delta Qbm0 Qbm1 Qbm2 Qbm5 Qbm6 Qbm7 Qbm8 Qbm17 Qbm18 Qbm19 Qbm20 Qbm21 Qbm22 Qbm23 Qbm24 Qbm25 Qbm27
  rintro a ⟨⟨a0,a1⟩,-⟩ -
  have q0:=ct_num (p:=0) (n:=8) (a:=a) (s:=16777216) rfl (by omega) (by omega)
  have q1:=ct_num (p:=2130706432) (n:=8) (a:=a) (s:=16777216) rfl (by omega) (by omega)
  have q2:=ct_num (p:=167772160) (n:=8) (a:=a) (s:=16777216) rfl (by omega) (by omega)
  have q3:=ct_num (p:=2886729728) (n:=12) (a:=a) (s:=1048576) rfl (by omega) (by omega)
  have q4:=ct_num (p:=3232235520) (n:=16) (a:=a) (s:=65536) rfl (by omega) (by omega)
  have q5:=ct_num (p:=2851995648) (n:=16) (a:=a) (s:=65536) rfl (by omega) (by omega)
  have q6:=ct_num (p:=3758096384) (n:=4) (a:=a) (s:=268435456) rfl (by omega) (by omega)
  have q7:=ct_num (p:=4026531840) (n:=4) (a:=a) (s:=268435456) rfl (by omega) (by omega)
  refine ⟨ifP_split (fun h => ?_) (fun h=>⟨(),h,(by repeat' first|exact trivial|refine ⟨trivial,?_⟩|refine ⟨(by with_reducible rfl),?_⟩|refine ⟨w64 (by omega) (by omega),?_⟩|refine ⟨rfl,?_⟩)⟩),?_⟩
  · rw [q0] at h
    have h:=of_decide_eq_true h
    unfold special;rw [if_pos (by omega)]
  rintro-h
  have h:contains (0,8) a=false:=h
  rw [q0] at h
  have h0:=of_decide_eq_false h
  refine ⟨ifP_split (fun h => ?_) (fun h=>⟨(),h,(by repeat' first|exact trivial|refine ⟨trivial,?_⟩|refine ⟨(by with_reducible rfl),?_⟩|refine ⟨w64 (by omega) (by omega),?_⟩|refine ⟨rfl,?_⟩)⟩),?_⟩
  · rw [q1] at h
    have h:=of_decide_eq_true h
    unfold special;rw [if_neg (by omega),if_pos (by omega)]
  rintro-h
  have h:contains (2130706432,8) a=false:=h
  rw [q1] at h
  have h1:=of_decide_eq_false h
  refine ⟨ifP_split (fun h => ?_) (fun h=>⟨(),h,(by repeat' first|exact trivial|refine ⟨trivial,?_⟩|refine ⟨(by with_reducible rfl),?_⟩|refine ⟨w64 (by omega) (by omega),?_⟩|refine ⟨rfl,?_⟩)⟩),?_⟩
  · rw [q2] at h
    have h:=of_decide_eq_true h
    unfold special;rw [if_neg (by omega),if_neg (by omega),if_pos (by omega)]
  rintro-h
  have h:contains (167772160,8) a=false:=h
  rw [q2] at h
  have h2:=of_decide_eq_false h
  refine ⟨ifP_split (fun h => ?_) (fun h=>⟨(),h,(by repeat' first|exact trivial|refine ⟨trivial,?_⟩|refine ⟨(by with_reducible rfl),?_⟩|refine ⟨w64 (by omega) (by omega),?_⟩|refine ⟨rfl,?_⟩)⟩),?_⟩
  · rw [q3] at h
    have h:=of_decide_eq_true h
    unfold special;rw [if_neg (by omega),if_neg (by omega),if_pos (by omega)]
  rintro-h
  have h:contains (2886729728,12) a=false:=h
  rw [q3] at h
  have h3:=of_decide_eq_false h
  refine ⟨ifP_split (fun h => ?_) (fun h=>⟨(),h,(by repeat' first|exact trivial|refine ⟨trivial,?_⟩|refine ⟨(by with_reducible rfl),?_⟩|refine ⟨w64 (by omega) (by omega),?_⟩|refine ⟨rfl,?_⟩)⟩),?_⟩
  · rw [q4] at h
    have h:=of_decide_eq_true h
    unfold special;rw [if_neg (by omega),if_neg (by omega),if_pos (by omega)]
  rintro-h
  have h:contains (3232235520,16) a=false:=h
  rw [q4] at h
  have h4:=of_decide_eq_false h
  refine ⟨ifP_split (fun h => ?_) (fun h=>⟨(),h,(by repeat' first|exact trivial|refine ⟨trivial,?_⟩|refine ⟨(by with_reducible rfl),?_⟩|refine ⟨w64 (by omega) (by omega),?_⟩|refine ⟨rfl,?_⟩)⟩),?_⟩
  · rw [q5] at h
    have h:=of_decide_eq_true h
    unfold special;rw [if_neg (by omega),if_neg (by omega),if_neg (by omega),if_pos (by omega)]
  rintro-h
  have h:contains (2851995648,16) a=false:=h
  rw [q5] at h
  have h5:=of_decide_eq_false h
  refine ⟨ifP_split (fun h => ?_) (fun h=>⟨(),h,(by repeat' first|exact trivial|refine ⟨trivial,?_⟩|refine ⟨(by with_reducible rfl),?_⟩|refine ⟨w64 (by omega) (by omega),?_⟩|refine ⟨rfl,?_⟩)⟩),?_⟩
  · rw [q6] at h
    have h:=of_decide_eq_true h
    unfold special;rw [if_neg (by omega),if_neg (by omega),if_neg (by omega),if_neg (by omega),if_pos (by omega)]
  rintro-h
  have h:contains (3758096384,4) a=false:=h
  rw [q6] at h
  have h6:=of_decide_eq_false h
  refine ⟨ifP_split (fun h => ?_) (fun h=>⟨(),h,(by repeat' first|exact trivial|refine ⟨trivial,?_⟩|refine ⟨(by with_reducible rfl),?_⟩|refine ⟨w64 (by omega) (by omega),?_⟩|refine ⟨rfl,?_⟩)⟩),?_⟩
  · rw [q7] at h
    have h:=of_decide_eq_true h
    unfold special;rw [if_neg (by omega),if_neg (by omega),if_neg (by omega),if_neg (by omega),if_neg (by omega),if_pos (by omega)]
  rintro-h
  have h:contains (4026531840,4) a=false:=h
  rw [q7] at h
  have h7:=of_decide_eq_false h
  unfold special;rw [if_neg (by omega),if_neg (by omega),if_neg (by omega),if_neg (by omega),if_neg (by omega),if_neg (by omega)]
theorem ok_address_Special:SpecOK Tryz.prog GL 94 ct_address_Special.spec:=Ct.okH _ Tryz.func94 (by kernel_rfl) (withConc_ok (withSpec_ok noSpecs_ok ok_address_Contains) (d:=8)) hmix an_address_Special (hideMp (by kernel_rfl) vc_address_Special)
def ct_ref01_Special:Ct:=⟨[.val cU32],[.val cI],fun d=>[],fun d=>((special d.1,()),())⟩
def an_ref01_Special:PDs ct_ref01_Special.ps->Anns:=(fun _=>{})
def Qbm9 (a:Int) :=
 IntKind.wrap .i64 a
def Qbm10 (e:Bool) :=
 (! e)->((! e)->(! e))/\True
def Qbm26 (a:Int) :=
 shrI IntKind.i64 (Qbm9 a) (16:Int)
theorem vc_ref01_Special :
 ∀(a:Int),(0<=a/\a<=4294967295)/\True->True->(0:Int)<=24/\(0:Int)<=16/\ifP (decide (shrI IntKind.i64 (Qbm9 a) (24:Int)=0)) ((1:Int)=special a) (ifP (decide (shrI IntKind.i64 (Qbm9 a) (24:Int)=127)) ((2:Int)=special a) (∀(b:Bool),b=decide (shrI IntKind.i64 (Qbm9 a) (24:Int)=10)->((! b)->((! b)->(! b))/\True)/\((! b)->((! b)->(! b))/\True)/\ ∀(c:Bool),c=decide (shrI IntKind.i64 (Qbm9 a) (24:Int)=172)->((! b&&c)->((! b&&c)->(! b&&c))/\True)/\((! b)->((! b)->(! b))/\(c->(! b&&c))/\True)/\((! b)->((! b)->(! b))/\True)/\ ∀(d:Bool),(d=bif c then decide (16<=bits BinOp.and IntKind.i64 (Qbm26 a) (255:Int)) else false)->((! b&&d)->((! b&&d)->(! b&&d))/\True)/\((! b)->((! b)->(! b))/\(d->(! b&&d))/\True)/\(b=false->(! b))/\ ∀(e:Bool),(e=bif b then true else bif d then decide (bits BinOp.and IntKind.i64 (Qbm26 a) (255:Int)<32) else false)->(Qbm10 e)/\(Qbm10 e)/\ ∀(f:Bool),f=decide (shrI IntKind.i64
 (Qbm9 a) (24:Int)=192)->((! e&&f)->((! e&&f)->(! e&&f))/\True)/\((! e)->((! e)->(! e))/\(f->(! e&&f))/\True)/\(e=false->(! e))/\ifP (bif e then true else bif f then decide (bits BinOp.and IntKind.i64 (Qbm26 a) (255:Int)=168) else false) ((3:Int)=special a) (∀(g:Bool),g=decide (shrI IntKind.i64 (Qbm9 a) (24:Int)=169)->(g->(g->g)/\True)/\(g->g)/\ifP (bif g then decide (bits BinOp.and IntKind.i64 (Qbm26 a) (255:Int)=254) else false) ((4:Int)=special a) (∀(h:Bool),h=decide (224<=shrI IntKind.i64 (Qbm9 a) (24:Int))->(h->(h->h)/\True)/\(h->h)/\ifP (bif h then decide (shrI IntKind.i64 (Qbm9 a) (24:Int)<240) else false) ((5:Int)=special a) (ifP (decide (240<=shrI IntKind.i64 (Qbm9 a) (24:Int))) ((6:Int)=special a) ((0:Int)=special a)))))):=by
  delta Qbm9 Qbm10 Qbm26
  rintro a ⟨⟨a0,a1⟩,-⟩ -
  rw [w64 (n:=a) (by omega) (by omega),shr24 a0,shr16 a0,i64_and255]
  refine ⟨by omega,by omega,ifP_split (fun h => ?_) (fun h => ?_)⟩
  · rw [special,if_pos (of_decide_eq_true h)]
  have h1:=of_decide_eq_false h
  refine ifP_split (fun h => ?_) (fun h => ?_)
  · rw [special,if_neg h1,if_pos (of_decide_eq_true h)]
  have h2:=of_decide_eq_false h
  rw [special,if_neg h1,if_neg h2]
  (repeat (intro (b_:Bool) (hb_:b_=_);(repeat refine ⟨(by first|(simp;done)|(rw [hb_];simp;done)|(rw [hb_];simp;omega)|(rw [hb_];simp;intros;omega)|(rw [hb_];simp +contextual;done)),?_⟩);subst hb_))
  refine ⟨fun h=>by rw [h];rfl,?_⟩
  refine ifP_split (fun h => ?_) (fun h => ?_)
  · rw [if_pos]
    simp [Bool.cond_eq_ite] at h;omega
  have h3:¬ (a/16777216=10∨(a/16777216=172/\16<=a/65536%256/\a/65536%256<32)∨(a/16777216=192/\a/65536%256=168)):=by
    simp [Bool.cond_eq_ite] at h;omega
  rw [if_neg h3]
  clear h
  (repeat (intro (b_:Bool) (hb_:b_=_);(repeat refine ⟨(by first|(simp;done)|(rw [hb_];simp;done)|(rw [hb_];simp;omega)|(rw [hb_];simp;intros;omega)|(rw [hb_];simp +contextual;done)),?_⟩);subst hb_))
  refine ifP_split (fun h => ?_) (fun h => ?_)
  · rw [if_pos]
    simp [Bool.cond_eq_ite] at h;omega
  have h4:¬ (a/16777216=169/\a/65536%256=254):=by
    simp [Bool.cond_eq_ite] at h;omega
  rw [if_neg h4]
  clear h
  (repeat (intro (b_:Bool) (hb_:b_=_);(repeat refine ⟨(by first|(simp;done)|(rw [hb_];simp;done)|(rw [hb_];simp;omega)|(rw [hb_];simp;intros;omega)|(rw [hb_];simp +contextual;done)),?_⟩);subst hb_))
  refine ifP_split (fun h => ?_) (fun h => ?_)
  · rw [if_pos]
    simp [Bool.cond_eq_ite] at h;omega
  have h5:¬ (224<=a/16777216/\a/16777216<240):=by
    simp [Bool.cond_eq_ite] at h;omega
  rw [if_neg h5]
  exact ifP_split (fun h=>by rw [if_pos (of_decide_eq_true h)]) (fun h=>by rw [if_neg (of_decide_eq_false h)])
theorem ok_ref01_Special:SpecOK Tryz.prog GL 100 ct_ref01_Special.spec:=Ct.okH _ Tryz.func100 (by kernel_rfl) noSpecs_ok hmix an_ref01_Special (hideMp (by kernel_rfl) vc_ref01_Special)
def ct_ref01_Usable:Ct:=⟨[.val cU32],[.val .bool],fun d=>[],fun d=>((decide (usable d.1),()),())⟩
def an_ref01_Usable:PDs ct_ref01_Usable.ps->Anns:=(fun _=>{})
theorem vc_ref01_Usable :
 ∀(a:Int),(0<=a/\a<=4294967295)/\True->True-> ∀(b:Bool),b=decide (special a=0)->((! b)->((! b)->(! b))/\True)/\((! b)->((! b)->(! b))/\True)/\(b=false->(! b))/\(bif b then true else decide (special a=3))=decide (usable a):=by
  rintro a - -
  (repeat (intro (b_:Bool) (hb_:b_=_);(repeat refine ⟨(by first|(simp;done)|(rw [hb_];simp;done)|(rw [hb_];simp;omega)|(rw [hb_];simp;intros;omega)|(rw [hb_];simp +contextual;done)),?_⟩);subst hb_))
  rw [Bool.eq_iff_iff,decide_eq_true_iff];simp [usable,Bool.cond_eq_ite]
theorem ok_ref01_Usable:SpecOK Tryz.prog GL 53 ct_ref01_Usable.spec:=Ct.okH _ Tryz.func53 (by kernel_rfl) (withSpec_ok noSpecs_ok ok_ref01_Special) hmix an_ref01_Usable (hideMp (by kernel_rfl) vc_ref01_Usable)
def ct_reply_answerable:Ct:=⟨[.val (.sl cU8)],[.agg cPacket,.val .bool],fun d=>[(d.1.length:Int)<=1099511627776],fun d=>((ansP' d.1,decide (ansOK d.1),()),())⟩
def an_reply_answerable:PDs ct_reply_answerable.ps->Anns:=(fun _=>{})
def Qbm4 :=
 (((0:Int),(0:Int),(0:Int),(0:Int),false,(0:Int),(0:Int)),([]:List Int))
def Qbm12 (a:List Int) (b:(Int×Int×Int×Int×Bool×Int×Int)×List Int) :=
 ∀(e:Bool),e=decide (special b.1.2.2.2.2.2.1=0)->(Qbm10 e)/\(e=false->(! e))/\b=ansP' a/\(bif e then true else decide (special b.1.2.2.2.2.2.1=3))=decide (ansOK a)
def Qbm14 (d:Bool) :=
 (! d)->((! d)->(! d))/\True
theorem vc_reply_answerable :
 ∀(a:List Int),(a.length<=maxLen/\ ∀(b:Int),b∈a->0<=b/\b<=255)/\True->(a.length:Int)<=1099511627776->(a.length:Int)<=1099511627776/\ ∀(b:(Int×Int×Int×Int×Bool×Int×Int)×List Int) (c:Int),b=decPkt a/\c=decErr a-> ∀(d:Bool),d= ! decide (c=0)->(Qbm14 d)/\(Qbm14 d)/\(Qbm14 d)/\(d=false->(! d))/\ifP (bif d then true else decide ((b.2.length:Int)<8)) ((Qbm4)=ansP' a/\false=decide (ansOK a)) (ifP (decide (b.1.2.2.2.1=1)) ((0:Int)<=0/\0<(b.2.length:Int)/\ifP (! decide (List.getD b.2 (Int.toNat (0:Int)) default=8)) ((Qbm4)=ansP' a/\false=decide (ansOK a)) (Qbm12 a b)) (ifP (decide (b.1.2.2.2.1=6)) (∀(e:Bool),e=decide (13<(b.2.length:Int))->(e->(e->e)/\True)/\(e->(e->e)/\(0:Int)<=13/\13<(b.2.length:Int)/\True)/\(e->(e->e)/\True)/\(e->(e->e)/\True)/\(e->(e->e)/\True)/\(e->e)/\ifP (bif e then ! decide (bits BinOp.and IntKind.u8 (List.getD b.2 (Int.toNat (13:Int)) default) (4:Int)=0) else false)
 ((Qbm4)=ansP' a/\false=decide (ansOK a)) (∀(f:Bool),f=decide (special b.1.2.2.2.2.2.1=0)->((! f)->((! f)->(! f))/\True)/\(f=false->(! f))/\b=ansP' a/\(bif f then true else decide (special b.1.2.2.2.2.2.1=3))=decide (ansOK a))) (Qbm12 a b))):=by
  delta Qbm4 Qbm10 Qbm12 Qbm14
  rintro b ⟨⟨-,hb⟩,-⟩ hl
  refine ⟨hl,?_⟩
  rintro d e ⟨rfl,rfl⟩
  have bad:¬ preAns b->(((0,0,0,0,false,0,0),[]):Packet)=ansP' b/\false=decide (ansOK b):=fun h=>by rw [ansP',if_neg h,decide_eq_false (fun k=>h (ans_pre.1 k).1)];exact ⟨rfl,rfl⟩
  have good:preAns b->decPkt b=ansP' b/\(bif decide (special (decPkt b).1.2.2.2.2.2.1=0) then true else decide (special (decPkt b).1.2.2.2.2.2.1=3))=decide (ansOK b):=by
    intro h
    refine ⟨by rw [ansP',if_pos h],?_⟩
    rw [Bool.eq_iff_iff,decide_eq_true_iff,ans_pre]
    simp [h,usable,Bool.cond_eq_ite]
  (repeat (intro (b_:Bool) (hb_:b_=_);(repeat refine ⟨(by first|(simp;done)|(rw [hb_];simp;done)|(rw [hb_];simp;omega)|(rw [hb_];simp;intros;omega)|(rw [hb_];simp +contextual;done)),?_⟩);subst hb_))
  refine ifP_split (fun h => ?_) (fun h => ?_)
  · refine bad (fun k => ?_)
    obtain ⟨k1,k2,-⟩:=k
    rw [k1] at h;simp at h;omega
  have h1:decErr b=0:=by
    refine Classical.byContradiction fun k => ?_
    simp [k] at h
  have h2:8<=(decPkt b).2.length:=by
    rw [h1] at h;simp at h;omega
  refine ifP_split (fun hp => ?_) (fun hp => ?_)
  · have hp:protoP (decPkt b)=1:=of_decide_eq_true hp
    refine ⟨by omega,by omega,ifP_split (fun h8 => ?_) (fun h8 => ?_)⟩
    · refine bad (fun k => ?_)
      have:=k.2.2.1 hp
      simp only [show Int.toNat 0=0 from rfl,this] at h8
      simp at h8
    · (repeat (intro (b_:Bool) (hb_:b_=_);(repeat refine ⟨(by first|(simp;done)|(rw [hb_];simp;done)|(rw [hb_];simp;omega)|(rw [hb_];simp;intros;omega)|(rw [hb_];simp +contextual;done)),?_⟩);subst hb_))
      exact good ⟨h1,h2,fun _=>by simpa using h8,fun k=>by omega⟩
  have hp:¬ protoP (decPkt b)=1:=of_decide_eq_false hp
  refine ifP_split (fun hq => ?_) (fun hq => ?_)
  · have hq:protoP (decPkt b)=6:=of_decide_eq_true hq
    (repeat (intro (b_:Bool) (hb_:b_=_);(repeat refine ⟨(by first|(simp;done)|(rw [hb_];simp;done)|(rw [hb_];simp;omega)|(rw [hb_];simp;intros;omega)|(rw [hb_];simp +contextual;done)),?_⟩);subst hb_))
    refine ifP_split (fun h8 => ?_) (fun h8 => ?_)
    · refine bad (fun k => ?_)
      have:=k.2.2.2 hq
      simp [Bool.cond_eq_ite] at h8
      exact h8.2 (this (by omega))
    · (repeat (intro (b_:Bool) (hb_:b_=_);(repeat refine ⟨(by first|(simp;done)|(rw [hb_];simp;done)|(rw [hb_];simp;omega)|(rw [hb_];simp;intros;omega)|(rw [hb_];simp +contextual;done)),?_⟩);subst hb_))
      refine good ⟨h1,h2,fun k=>absurd k hp,fun _ hk => ?_⟩
      refine Classical.byContradiction fun k => ?_
      have k:¬ bits .and .u8 ((decPkt b).2.getD (Int.toNat 13) default) 4=0:=k
      rw [decide_eq_true (show (13:Int)<((decPkt b).2.length:Int) by omega),decide_eq_false k] at h8
      cases h8
  · have hq:¬ protoP (decPkt b)=6:=of_decide_eq_false hq
    (repeat (intro (b_:Bool) (hb_:b_=_);(repeat refine ⟨(by first|(simp;done)|(rw [hb_];simp;done)|(rw [hb_];simp;omega)|(rw [hb_];simp;intros;omega)|(rw [hb_];simp +contextual;done)),?_⟩);subst hb_))
    exact good ⟨h1,h2,fun k=>absurd k hp,fun k=>absurd k hq⟩
theorem ok_reply_answerable:SpecOK Tryz.prog GL 187 ct_reply_answerable.spec:=Ct.okH _ Tryz.func187 (by kernel_rfl) (withSpec_ok (withSpec_ok noSpecs_ok (Ct.named ok_ipv4_Decode)) ok_address_Special) hmix an_reply_answerable (hideMp (by kernel_rfl) vc_reply_answerable)
def ct_ref08_Answerable:Ct:=⟨[.val (.sl cU8)],[.agg cPacket,.val .bool],fun d=>[(d.1.length:Int)<=1099511627776],fun d=>((ansP d.1,decide (ansOK d.1),()),())⟩
def an_ref08_Answerable:PDs ct_ref08_Answerable.ps->Anns:=(fun _=>{})
def Qbm11 (j:Bool) :=
 (! j)->((! j)->(! j))/\True
def Qbm15 (g:Bool) :=
 (! g)->((! g)->(! g))/\True
def Qbm28 (g i:Bool) :=
 (! g&&i)->((! g&&i)->(! g&&i))/\True
theorem vc_ref08_Answerable :
 ∀(a:List Int),(a.length<=maxLen/\ ∀(b:Int),b∈a->0<=b/\b<=255)/\True->(a.length:Int)<=1099511627776->(a.length:Int)<=1099511627776/\ ∀(b:(Int×Int×Int×Int×Bool×Int×Int)×List Int) (c:Int),b=decPkt a/\c=decErr a-> ∀(d:Bool),d= ! decide (c=0)->(Qbm14 d)/\(Qbm14 d)/\(Qbm14 d)/\(d=false->(! d))/\ ∀(e:Bool),(e=bif d then true else decide ((b.2.length:Int)<8))->(Qbm10 e)/\(Qbm10 e)/\(Qbm10 e)/\(Qbm10 e)/\ ∀(f:Bool),f=decide (b.1.2.2.2.1=1)->((! e&&f)->((! e&&f)->(! e&&f))/\True)/\((! e&&f)->((! e&&f)->(! e&&f))/\(0:Int)<=0/\0<(b.2.length:Int)/\True)/\((! e&&f)->((! e&&f)->(! e&&f))/\True)/\((! e&&f)->((! e&&f)->(! e&&f))/\True)/\((! e)->((! e)->(! e))/\(f->(! e&&f))/\True)/\(e=false->(! e))/\ ∀(g:Bool),(g=bif e then true else bif f then ! decide (List.getD b.2 (Int.toNat (0:Int)) default=8) else false)->(Qbm15 g)/\(Qbm15 g)/\(Qbm15 g)/\(Qbm15 g)/\ ∀(h:Bool),h=decide (b.1.2.2.2.1=6)->((! g&&h)->((!
 g&&h)->(! g&&h))/\True)/\((! g&&h)->((! g&&h)->(! g&&h))/\True)/\((! g&&h)->((! g&&h)->(! g&&h))/\True)/\((! g)->((! g)->(! g))/\(h->(! g&&h))/\True)/\(Qbm15 g)/\ ∀(i:Bool),(i=bif h then decide (14<=(b.2.length:Int)) else false)->(Qbm28 g i)/\((! g&&i)->((! g&&i)->(! g&&i))/\(0:Int)<=13/\13<(b.2.length:Int)/\True)/\(Qbm28 g i)/\(Qbm28 g i)/\(Qbm28 g i)/\((! g)->((! g)->(! g))/\(i->(! g&&i))/\True)/\(g=false->(! g))/\ ∀(j:Bool),(j=bif g then true else bif i then ! decide (bits BinOp.and IntKind.u8 (List.getD b.2 (Int.toNat (13:Int)) default) (4:Int)=0) else false)->(Qbm11 j)/\(Qbm11 j)/\(Qbm11 j)/\(Qbm11 j)/\(j=false->(! j))/\ifP (bif j then true else ! decide (usable b.1.2.2.2.2.2.1)) ((Qbm4)=ansP a/\false=decide (ansOK a)) (b=ansP a/\true=decide (ansOK a)):=by
  delta Qbm4 Qbm10 Qbm11 Qbm14 Qbm15 Qbm28
  rintro b ⟨⟨-,hb⟩,-⟩ hl
  refine ⟨hl,?_⟩
  rintro d e ⟨rfl,rfl⟩
  have bad:¬ ansOK b->(((0,0,0,0,false,0,0),[]):Packet)=ansP b/\false=decide (ansOK b):=fun h=>by rw [ansP,if_neg h,decide_eq_false h];exact ⟨rfl,rfl⟩
  (repeat (intro (b_:Bool) (hb_:b_=_);(repeat refine ⟨(by first|(simp +contextual;done)|(rw [hb_];simp +contextual;done)|(rw [hb_];simp;omega)|(rw [hb_];simp;intros;omega)|(rw [hb_];simp +contextual;intros;omega)|(intros;simp_all;done)|(intros;simp_all;omega)),?_⟩)));subst_vars
  refine ifP_split (fun h=>bad (fun k => ?_)) (fun h => ?_)
  · obtain ⟨k1,k2,k3,k4,k5⟩:=k
    simp [Bool.cond_eq_ite,k1,k5] at h
    rcases h with h|h
    · rcases h with h|h
      · omega
      · exact h.2 (k3 h.1)
    · exact h.2 (k4 h.1.1 (by omega))
  · have ha:ansOK b:=by
      simp [Bool.cond_eq_ite] at h
      refine ⟨h.1.1.1.1,by have:=h.1.1.1.2;omega,fun k => ?_,fun k1 k2 => ?_,h.2⟩
      · exact h.1.1.2 k
      · exact h.1.2 k1 (by omega)
    rw [ansP,if_pos ha,decide_eq_true ha];exact ⟨rfl,rfl⟩
theorem ok_ref08_Answerable:SpecOK Tryz.prog GL 108 ct_ref08_Answerable.spec:=Ct.okH _ Tryz.func108 (by kernel_rfl) (withSpec_ok (withSpec_ok noSpecs_ok (Ct.named ok_ref05_Decode)) ok_ref01_Usable) hmix an_ref08_Answerable (hideMp (by kernel_rfl) vc_ref08_Answerable)
def ct_reply_numbers:Ct:=⟨[.val cI,.val cI],[.val .bool],fun d=>[],fun d=>((decide (numOK d.1 d.2.1),()),())⟩
def an_reply_numbers:PDs ct_reply_numbers.ps->Anns:=(fun _=>{})
theorem vc_reply_numbers :
 ∀(a b:Int),R64 a/\R64 b/\True->True-> ∀(c:Bool),c=decide (0<=a)->(c->(c->c)/\True)/\(c->c)/\ ∀(d:Bool),(d=bif c then decide (a<=65535) else false)->(d->(d->d)/\True)/\(d->d)/\ ∀(e:Bool),(e=bif d then decide (0<=b) else false)->(e->(e->e)/\True)/\(e->e)/\(bif e then decide (b<=255) else false)=decide (numOK a b):=by
  rintro id ttl - -
  (repeat (intro (b_:Bool) (hb_:b_=_);(repeat refine ⟨(by first|(simp;done)|(rw [hb_];simp;done)|(rw [hb_];simp;omega)|(rw [hb_];simp;intros;omega)|(rw [hb_];simp +contextual;done)),?_⟩);subst hb_))
  rw [Bool.eq_iff_iff];simp [numOK,Bool.cond_eq_ite,and_assoc]
theorem ok_reply_numbers:SpecOK Tryz.prog GL 186 ct_reply_numbers.spec:=Ct.okH _ Tryz.func186 (by kernel_rfl) noSpecs_ok hmix an_reply_numbers (hideMp (by kernel_rfl) vc_reply_numbers)
def ct_reply_send:Ct:=⟨[.val cU32,.val cU32,.val cI,.val cI,.val cI,.val (.sl cU8)],[.own 5 cU8,.val cI],fun d=>[(d.2.2.2.2.2.1.length:Int)<=1073741824],fun d=>((ipEnc (sendP d.1 d.2.1 d.2.2.1 d.2.2.2.1 d.2.2.2.2.1 d.2.2.2.2.2.1),ipErr (sendP d.1 d.2.1 d.2.2.1 d.2.2.2.1 d.2.2.2.2.1 d.2.2.2.2.2.1),()),())⟩
def an_reply_send:PDs ct_reply_send.ps->Anns:=(fun _=>{})
theorem vc_reply_send :
 ∀(a b c d e:Int) (f:List Int),(0<=a/\a<=4294967295)/\(0<=b/\b<=4294967295)/\R64 c/\R64 d/\R64 e/\(f.length<=maxLen/\ ∀(g:Int),g∈f->0<=g/\g<=255)/\True->(f.length:Int)<=1073741824->(f.length:Int)<=1073741824/\ipEnc (((0:Int),d,e,c,false,a,b),f)=ipEnc (sendP a b c d e f)/\ipErr (((0:Int),d,e,c,false,a,b),f)=ipErr (sendP a b c d e f):=by
  rintro s d p i t data-hl
  exact ⟨hl,rfl,rfl⟩
theorem ok_reply_send:SpecOK Tryz.prog GL 188 ct_reply_send.spec:=Ct.okH _ Tryz.func188 (by kernel_rfl) (withSpec_ok noSpecs_ok ok_ipv4_Encode) hmix an_reply_send (hideMp (by kernel_rfl) vc_reply_send)
def ct_ref08_packet:Ct:=⟨[.val cU32,.val cU32,.val cI,.val cI,.val cI,.val (.sl cU8)],[.own 5 cU8],fun d=>[(d.2.2.2.2.2.1.length:Int)<=1073741824],fun d=>((ipEnc (sendP d.1 d.2.1 d.2.2.1 d.2.2.2.1 d.2.2.2.2.1 d.2.2.2.2.2.1),()),())⟩
def an_ref08_packet:PDs ct_ref08_packet.ps->Anns:=(fun _=>{})
theorem vc_ref08_packet :
 ∀(a b c d e:Int) (f:List Int),(0<=a/\a<=4294967295)/\(0<=b/\b<=4294967295)/\R64 c/\R64 d/\R64 e/\(f.length<=maxLen/\ ∀(g:Int),g∈f->0<=g/\g<=255)/\True->(f.length:Int)<=1073741824->(f.length:Int)<=1073741824/\ipEnc (((0:Int),d,e,c,false,a,b),f)=ipEnc (sendP a b c d e f):=by
  rintro s d p i t data-hl
  exact ⟨hl,rfl⟩
theorem ok_ref08_packet:SpecOK Tryz.prog GL 111 ct_ref08_packet.spec:=Ct.okH _ Tryz.func111 (by kernel_rfl) (withSpec_ok noSpecs_ok ok_ref05_Encode) hmix an_ref08_packet (hideMp (by kernel_rfl) vc_ref08_packet)
def ct_reply_Error:Ct:=⟨[.val (.sl cU8),.val cU32,.val cI,.val cI,.val cI,.val cI],[.own 5 cU8,.val cI],fun d=>[(d.1.length:Int)<=1099511627776],fun d=>((errB d.1 d.2.1 d.2.2.1 d.2.2.2.1 d.2.2.2.2.1 d.2.2.2.2.2.1,errE d.1 d.2.2.1 d.2.2.2.1 d.2.2.2.2.1 d.2.2.2.2.2.1,()),())⟩
def an_reply_Error:PDs ct_reply_Error.ps->Anns:=(fun _=>{})
def Qbm16 (a:List Int) (c d:Int) :=
 (c,d,subL a (Int.toNat (0:Int)) (Int.toNat (28:Int)))
theorem vc_reply_Error :
 ∀(a:List Int) (b c d e f:Int),(a.length<=maxLen/\ ∀(g:Int),g∈a->0<=g/\g<=255)/\(0<=b/\b<=4294967295)/\R64 c/\R64 d/\R64 e/\R64 f/\True->(a.length:Int)<=1099511627776-> ∀(g:Bool),g= ! decide (c=11)->(g->(g->g)/\True)/\(g->g)/\ ∀(h:Bool),(h=bif g then ! decide (c=3) else false)->((! h)->((! h)->(! h))/\True)/\(h=false->(! h))/\ ∀(i:Bool),(i=bif h then true else decide (d<0))->((! i)->((! i)->(! i))/\True)/\(i=false->(! i))/\ ∀(j:Bool),(j=bif i then true else decide (255<d))->((! j)->((! j)->(! j))/\((! j)->(! j))/\True)/\(Qbm11 j)/\(j=false->(! j))/\ifP (bif j then true else ! decide (numOK e f)) (([]:List Int)=errB a b c d e f/\(1:Int)=errE a c d e f) ((a.length:Int)<=1099511627776/\ ∀(k:(Int×Int×Int×Int×Bool×Int×Int)×List Int) (l:Bool),k=ansP' a/\l=decide (ansOK a)->ifP (! l) (([]:List Int)=errB a b c d e f/\(17:Int)=errE a c d e f)
 ((0:Int)<=0/\(0:Int)<=28/\28<=(a.length:Int)/\((List.length (subL a (Int.toNat (0:Int)) (Int.toNat (28:Int)))):Int)<=1073741824/\ ∀(m:List Int) (n:Int),m=noticeEnc (Qbm16 a c d)/\n=noticeErr (Qbm16 a c d)->ifP (! decide (n=0)) (([]:List Int)=errB a b c d e f/\n=errE a c d e f) ((m.length:Int)<=1073741824/\ipEnc (sendP b k.1.2.2.2.2.2.1 (1:Int) e f m)=errB a b c d e f/\ipErr (sendP b k.1.2.2.2.2.2.1 (1:Int) e f m)=errE a c d e f))):=by
  delta Qbm11 Qbm16
  rintro b src kind code id ttl ⟨⟨-,hb⟩,-⟩ hl
  (repeat (intro (b_:Bool) (hb_:b_=_);(repeat refine ⟨(by first|(simp;done)|(rw [hb_];simp;done)|(rw [hb_];simp;omega)|(rw [hb_];simp;intros;omega)|(rw [hb_];simp +contextual;done)),?_⟩);subst hb_))
  by_cases hg:errGood kind code id ttl
  rotate_left
  · refine ifP_split (fun _=>err_range hg) (fun h=>absurd ?_ hg)
    by_cases hn:numOK id ttl
    · rw [decide_eq_true hn] at h
      refine ⟨?_,?_,hn⟩ <;> simp [Bool.cond_eq_ite] at h <;> omega
    · rw [decide_eq_false hn] at h
      simp at h
  have hg':=hg
  obtain ⟨g1,g2,g3⟩:=hg'
  refine ifP_split (fun h => ?_) (fun _=>⟨hl,?_⟩)
  · exfalso
    rw [decide_eq_true g3] at h
    simp [Bool.cond_eq_ite] at h;omega
  rintro d e ⟨rfl,rfl⟩
  refine ifP_split (fun h=>err_bad hg (by simpa using h)) (fun h => ?_)
  have ha:ansOK b:=by simpa using h
  have hgd:=err_good (src:=src) hg ha
  obtain ⟨-,h28,-⟩:=ans_facts ha
  rw [ansP'_eq ha,sub28]
  refine ⟨by omega,by omega,by omega,by rw [List.length_take];omega,?_⟩
  rintro n e ⟨rfl,rfl⟩
  rw [hgd.2.2.1]
  refine ifP_split (fun h=>by simp at h) (fun _ => ?_)
  have:=notice_enc_len (kind,code,b.take 28)
  refine ⟨by omega,hgd.2.1.symm,?_⟩
  rw [hgd.1];exact hgd.2.2.2
theorem ok_reply_Error:SpecOK Tryz.prog GL 190 ct_reply_Error.spec:=Ct.okH _ Tryz.func190 (by kernel_rfl) (withSpec_ok (withSpec_ok (withSpec_ok (withSpec_ok noSpecs_ok ok_reply_numbers) (Ct.named ok_reply_answerable)) (Ct.named ok_transport_EncodeNotice)) ok_reply_send) hmix an_reply_Error (hideMp (by kernel_rfl) vc_reply_Error)
def ct_ref08_Error:Ct:=⟨[.val (.sl cU8),.val cU32,.val cI,.val cI,.val cI,.val cI],[.own 5 cU8,.val cI],fun d=>[(d.1.length:Int)<=1099511627776],fun d=>((errB d.1 d.2.1 d.2.2.1 d.2.2.2.1 d.2.2.2.2.1 d.2.2.2.2.2.1,errE d.1 d.2.2.1 d.2.2.2.1 d.2.2.2.2.1 d.2.2.2.2.2.1,()),())⟩
def an_ref08_Error:PDs ct_ref08_Error.ps->Anns:=(fun _=>{})
theorem vc_ref08_Error :
 ∀(a:List Int) (b c d e f:Int),(a.length<=maxLen/\ ∀(g:Int),g∈a->0<=g/\g<=255)/\(0<=b/\b<=4294967295)/\R64 c/\R64 d/\R64 e/\R64 f/\True->(a.length:Int)<=1099511627776-> ∀(g:Bool),g= ! decide (c=11)->(g->(g->g)/\True)/\(g->g)/\ ∀(h:Bool),(h=bif g then ! decide (c=3) else false)->((! h)->((! h)->(! h))/\True)/\(h=false->(! h))/\ ∀(i:Bool),(i=bif h then true else decide (d<0))->((! i)->((! i)->(! i))/\True)/\(i=false->(! i))/\ ∀(j:Bool),(j=bif i then true else decide (255<d))->(Qbm11 j)/\(j=false->(! j))/\ ∀(k:Bool),(k=bif j then true else decide (f<0))->((! k)->((! k)->(! k))/\True)/\(k=false->(! k))/\ ∀(l:Bool),(l=bif k then true else decide (255<f))->((! l)->((! l)->(! l))/\True)/\(l=false->(! l))/\ ∀(m:Bool),(m=bif l then true else decide (e<0))->((! m)->((! m)->(! m))/\True)/\(m=false->(! m))/\ifP (bif m then true else decide (65535<e)) (([]:List Int)=errB a b c d e f/\(1:Int)=errE a c d
 e f) ((a.length:Int)<=1099511627776/\ ∀(n:(Int×Int×Int×Int×Bool×Int×Int)×List Int) (o:Bool),n=ansP a/\o=decide (ansOK a)->ifP (! o) (([]:List Int)=errB a b c d e f/\(17:Int)=errE a c d e f) ((0:Int)<=0/\(0:Int)<=28/\28<=(a.length:Int)/\((List.length (subL a (Int.toNat (0:Int)) (Int.toNat (28:Int)))):Int)<=1073741824/\ ∀(p:List Int) (q:Int),p=noticeEnc (Qbm16 a c d)/\q=noticeErr (Qbm16 a c d)->(p.length:Int)<=1073741824/\ipEnc (sendP b n.1.2.2.2.2.2.1 (1:Int) e f p)=errB a b c d e f/\(0:Int)=errE a c d e f)):=by
  delta Qbm11 Qbm16
  rintro b src kind code id ttl ⟨⟨-,hb⟩,-⟩ hl
  (repeat (intro (b_:Bool) (hb_:b_=_);(repeat refine ⟨(by first|(simp;done)|(rw [hb_];simp;done)|(rw [hb_];simp;omega)|(rw [hb_];simp;intros;omega)|(rw [hb_];simp +contextual;done)),?_⟩);subst hb_))
  by_cases hg:errGood kind code id ttl
  rotate_left
  · refine ifP_split (fun _=>err_range hg) (fun h=>absurd ?_ hg)
    refine ⟨?_,?_,?_,?_⟩ <;> simp [Bool.cond_eq_ite] at h <;> omega
  have hg':=hg
  obtain ⟨g1,g2,g3,g4⟩:=hg'
  refine ifP_split (fun h => ?_) (fun _=>⟨hl,?_⟩)
  · exfalso
    simp [Bool.cond_eq_ite] at h;omega
  rintro d e ⟨rfl,rfl⟩
  refine ifP_split (fun h=>err_bad hg (by simpa using h)) (fun h => ?_)
  have ha:ansOK b:=by simpa using h
  have hgd:=err_good (src:=src) hg ha
  obtain ⟨-,h28,-⟩:=ans_facts ha
  rw [ansP_eq ha,sub28]
  refine ⟨by omega,by omega,by omega,by rw [List.length_take];omega,?_⟩
  rintro n e ⟨rfl,rfl⟩
  have:=notice_enc_len (kind,code,b.take 28)
  exact ⟨by omega,hgd.2.1.symm,hgd.1.symm⟩
theorem ok_ref08_Error:SpecOK Tryz.prog GL 80 ct_ref08_Error.spec:=Ct.okH _ Tryz.func80 (by kernel_rfl) (withSpec_ok (withSpec_ok (withSpec_ok noSpecs_ok (Ct.named ok_ref08_Answerable)) (Ct.named ok_ref06_EncodeNotice)) ok_ref08_packet) hmix an_ref08_Error (hideMp (by kernel_rfl) vc_ref08_Error)
def ct_reply_Host:Ct:=⟨[.val (.sl cU8),.val cU32,.val cI,.val cI],[.own 5 cU8,.val cI],fun d=>[(d.1.length:Int)<=1099511627776],fun d=>((hostB d.1 d.2.1 d.2.2.1 d.2.2.2.1,hostE d.1 d.2.2.1 d.2.2.2.1,()),())⟩
def an_reply_Host:PDs ct_reply_Host.ps->Anns:=(fun _=>{})
def Qbm3 (a:List Int) (b c d:Int) :=
 ([]:List Int)=hostB a b c d/\(17:Int)=hostE a c d
def Qbm13 (g:Int×Int×Int×Int×Int×Int×List Int) :=
 (g.2.1,g.1,(0:Int),bits BinOp.and IntKind.i64 (IntKind.wrap .i64 (g.2.2.1+(1:Int))) (4294967295:Int),(20:Int),(0:Int),([]:List Int))
theorem vc_reply_Host :
 ∀(a:List Int) (b c d:Int),(a.length<=maxLen/\ ∀(e:Int),e∈a->0<=e/\e<=255)/\(0<=b/\b<=4294967295)/\R64 c/\R64 d/\True->(a.length:Int)<=1099511627776->ifP (! decide (numOK c d)) (([]:List Int)=hostB a b c d/\(1:Int)=hostE a c d) ((a.length:Int)<=1099511627776/\ ∀(e:(Int×Int×Int×Int×Bool×Int×Int)×List Int) (f:Bool),e=ansP' a/\f=decide (ansOK a)->ifP (! f) (Qbm3 a b c d) (ifP (decide (e.1.2.2.2.1=1)) ((e.2.length:Int)<=1000000/\ ∀(g:Bool) (h i:Int) (j:List Int) (k:Int),(g,h,i,j)=unEcho e.2/\k=unEchoErr e.2->ifP (! decide (k=0)) (Qbm3 a b c d) ((j.length:Int)<=1073741824/\ ∀(l:List Int) (m:Int),l=echoEnc (true,h,i,j)/\m=echoErr (true,h,i,j)->(l.length:Int)<=1073741824/\ipEnc (sendP b e.1.2.2.2.2.2.1 e.1.2.2.2.1 c d l)=hostB a b c d/\ipErr (sendP b e.1.2.2.2.2.2.1 e.1.2.2.2.1 c d l)=hostE a c d)) (ifP (decide (e.1.2.2.2.1=17)) ((e.2.length:Int)<=1000000/\ ∀(g h:Int) (i:List Int)
 (j:Int),(g,h,i)=unUDP e.1.2.2.2.2.2.1 e.1.2.2.2.2.2.2 e.2/\j=unUDPErr e.1.2.2.2.2.2.1 e.1.2.2.2.2.2.2 e.2->ifP (! decide (j=0)) (Qbm3 a b c d) ((a.length:Int)<=1099511627776/\errB a b (3:Int) (3:Int) c d=hostB a b c d/\errE a (3:Int) (3:Int) c d=hostE a c d)) (ifP (decide (e.1.2.2.2.1=6)) ((e.2.length:Int)<=1000000/\ ∀(g:Int×Int×Int×Int×Int×Int×List Int) (h:Int),g=unTCP e.1.2.2.2.2.2.1 e.1.2.2.2.2.2.2 e.2/\h=unTCPErr e.1.2.2.2.2.2.1 e.1.2.2.2.2.2.2 e.2-> ∀(i:Bool),i= ! decide (h=0)->((! i)->((! i)->(! i))/\True)/\((! i)->((! i)->(! i))/\True)/\((! i)->((! i)->(! i))/\True)/\(i=false->(! i))/\ ∀(j:Bool),(j=bif i then true else decide (bits BinOp.and IntKind.i64 g.2.2.2.2.1 (2:Int)=0))->(Qbm11 j)/\(Qbm11 j)/\(Qbm11 j)/\(j=false->(! j))/\ifP (bif j then true else ! decide (bits BinOp.and IntKind.i64 g.2.2.2.2.1 (4:Int)=0)) (Qbm3 a b c d) ((↑(0:Nat):Int)<=1000000/\ ∀(k:List Int)
 (l:Int),k=tcpEnc b e.1.2.2.2.2.2.1 (Qbm13 g)/\l=tcpErr (Qbm13 g)->(k.length:Int)<=1073741824/\ipEnc (sendP b e.1.2.2.2.2.2.1 e.1.2.2.2.1 c d k)=hostB a b c d/\ipErr (sendP b e.1.2.2.2.2.2.1 e.1.2.2.2.1 c d k)=hostE a c d)) (Qbm3 a b c d))))):=by
  delta Qbm3 Qbm11 Qbm13
  rintro b src id ttl ⟨⟨-,hb⟩,-⟩ hl
  by_cases hn:numOK id ttl
  rotate_left
  · exact ifP_split (fun _=>host_range hn) (fun h=>absurd (by simpa using h) hn)
  refine ifP_split (fun h=>by simp [hn] at h) (fun _=>⟨hl,?_⟩)
  rintro _ _ ⟨rfl,rfl⟩
  refine ifP_split (fun h=>host_bad hn (fun k => ?_)) (fun h => ?_)
  · have:=k.1;simp [this] at h
  have ha:ansOK b:=by simpa using h
  obtain ⟨hd0,h28,hp1,hp6,-⟩:=ans_facts ha
  have hdl:=dec_len hd0
  rw [ansP'_eq ha]
  have hdb:bytes (b.drop 20):=bytes_drop hb
  have hdr:(b.drop 20).length<=1480:=by rw [List.length_drop];omega
  have nofit:∀ k:Prop,(k->hostGood b->False)->k->([]:List Int)=hostB b src id ttl/\(17:Int)=hostE b id ttl:=fun k hk h=>host_bad hn (hk h)
  refine ifP_split (fun h1 => ?_) (fun h1=>ifP_split (fun h17 => ?_) (fun h17=>ifP_split (fun h6 => ?_) (fun h6 => ?_)))
  · have h1:protoOf b=1:=of_decide_eq_true h1
    refine ⟨by show ((b.drop 20).length:Int)<=_;omega,?_⟩
    rintro r i q dt e ⟨hu,rfl⟩
    refine ifP_split (fun h => ?_) (fun h => ?_)
    · refine host_bad hn (fun k => ?_)
      obtain ⟨-,⟨-,k⟩|⟨k,-⟩|⟨k,-⟩⟩:=k
      · simp [k] at h
      · omega
      · omega
    have h:unEchoErr (b.drop 20)=0:=by simpa using h
    have hh:=host_1 (src:=src) hn ha h1 h
    have hlen:=un_echo_len (b.drop 20)
    have e2:(i,q,dt)=(unEcho (b.drop 20)).2:=congrArg Prod.snd hu
    have e3:dt=(unEcho (b.drop 20)).2.2.2:=by rw [← e2]
    refine ⟨by rw [e3];omega,?_⟩
    rintro o e ⟨rfl,rfl⟩
    rw [show ((true,i,q,dt):Echo)=(true,(i,q,dt)) from rfl,e2]
    have hle:=enc_len (true,(unEcho (b.drop 20)).2)
    refine ⟨by omega,?_,?_⟩
    · rw [hh.1,← h1];rfl
    · rw [hh.2];exact ip_send hn (by have:=h1;unfold protoOf at this;simp only;omega) hle
  · have h1:=of_decide_eq_false h1
    have h17:protoOf b=17:=of_decide_eq_true h17
    refine ⟨by show ((b.drop 20).length:Int)<=_;omega,?_⟩
    rintro sp dp dt e ⟨hu,rfl⟩
    refine ifP_split (fun h => ?_) (fun h => ?_)
    · refine host_bad hn (fun k => ?_)
      obtain ⟨-,⟨k,-⟩|⟨-,k⟩|⟨k,-⟩⟩:=k
      · omega
      · have k:unUDPErr (pkHdrF b).2.2.2.2.2.1 (pkHdrF b).2.2.2.2.2.2 (b.drop 20)=0:=k
        simp [k] at h
      · omega
    have h:unUDPErr (srcOf b) (dstOf b) (b.drop 20)=0:=by
      have:unUDPErr (pkHdrF b).2.2.2.2.2.1 (pkHdrF b).2.2.2.2.2.2 (b.drop 20)=0:=by simpa using h
      exact this
    have hh:=host_17 (src:=src) hn ha h17 h
    exact ⟨hl,hh.1.symm,by rw [hh.2,err_port hn ha]⟩
  · have h1:=of_decide_eq_false h1
    have h17:=of_decide_eq_false h17
    have h6:protoOf b=6:=of_decide_eq_true h6
    refine ⟨by show ((b.drop 20).length:Int)<=_;omega,?_⟩
    rintro t e ⟨ht,rfl⟩
    have ht:t=unTCP (srcOf b) (dstOf b) (b.drop 20):=ht
    have hr:=un_tcp_rng (s:=srcOf b) (d:=dstOf b) hdb
    rw [← ht] at hr
    have ee:unTCPErr (pkHdrF b).2.2.2.2.2.1 (pkHdrF b).2.2.2.2.2.2 (b.drop 20)=unTCPErr (srcOf b) (dstOf b) (b.drop 20):=rfl
    rw [ee]
    (repeat (intro (b_:Bool) (hb_:b_=_);(repeat refine ⟨(by first|(simp;done)|(rw [hb_];simp;done)|(rw [hb_];simp;omega)|(rw [hb_];simp;intros;omega)|(rw [hb_];simp +contextual;done)),?_⟩);subst hb_))
    refine ifP_split (fun h => ?_) (fun h => ?_)
    · refine host_bad hn (fun k => ?_)
      obtain ⟨-,⟨k,-⟩|⟨k,-⟩|⟨-,k1,k2,k3⟩⟩:=k
      · omega
      · omega
      · rw [← ht] at k2 k3
        simp [k1,k2,k3] at h
    have k1:unTCPErr (srcOf b) (dstOf b) (b.drop 20)=0:=Classical.byContradiction fun k=>by simp [k] at h
    have k2:bits .and .i64 t.2.2.2.2.1 2≠0:=fun k=>by simp [k1,k] at h
    have k3:bits .and .i64 t.2.2.2.2.1 4=0:=Classical.byContradiction fun k=>by simp [k1,k2,k] at h
    have hh:=host_6 (src:=src) hn ha h6 k1 (by rw [← ht];exact k2) (by rw [← ht];exact k3)
    refine ⟨by simp,?_⟩
    rintro o e ⟨rfl,rfl⟩
    rw [w64 (n:=t.2.2.1+1) (by omega) (by omega),i64_and32]
    have hle:=tcp_enc_len src (srcOf b) (rstOf t)
    have er:((t.2.1,t.1,0,(t.2.2.1+1)%4294967296,20,0,[]):Seg)=rstOf t:=rfl
    rw [er]
    refine ⟨by show ((tcpEnc src (srcOf b) (rstOf t)).length:Int)<=_;omega,?_,?_⟩
    · rw [hh.1,← ht,← h6];rfl
    · rw [hh.2];exact ip_send hn (by have:=h6;unfold protoOf at this;simp only;omega) hle
  · have h1:=of_decide_eq_false h1
    have h17:=of_decide_eq_false h17
    have h6:=of_decide_eq_false h6
    refine host_bad hn (fun k => ?_)
    obtain ⟨-,⟨k,-⟩|⟨k,-⟩|⟨k,-⟩⟩:=k
    · exact h1 k
    · exact h17 k
    · exact h6 k
theorem ok_reply_Host:SpecOK Tryz.prog GL 155 ct_reply_Host.spec:=Ct.okH _ Tryz.func155 (by kernel_rfl) (withSpec_ok (withSpec_ok (withSpec_ok (withSpec_ok (withSpec_ok (withSpec_ok (withSpec_ok (withSpec_ok (withSpec_ok noSpecs_ok ok_reply_numbers) (Ct.named ok_reply_answerable)) (Ct.named ok_transport_DecodeEcho)) (Ct.named ok_transport_EncodeEcho)) (Ct.named ok_transport_DecodeUDP)) (Ct.named ok_transport_DecodeTCP)) (Ct.named ok_transport_EncodeTCP)) ok_reply_Error) ok_reply_send) hmix an_reply_Host (hideMp (by kernel_rfl) vc_reply_Host)
def ct_ref08_Host:Ct:=⟨[.val (.sl cU8),.val cU32,.val cI,.val cI],[.own 5 cU8,.val cI],fun d=>[(d.1.length:Int)<=1099511627776],fun d=>((hostB d.1 d.2.1 d.2.2.1 d.2.2.2.1,hostE d.1 d.2.2.1 d.2.2.2.1,()),())⟩
def an_ref08_Host:PDs ct_ref08_Host.ps->Anns:=(fun _=>{})
def Qbm29 (j:Int×Int×Int×Int×Int×Int×List Int) :=
 (j.2.1,j.1,(0:Int),Int.tmod (IntKind.wrap .i64 (j.2.2.1+(1:Int))) (4294967296:Int),(20:Int),(0:Int),([]:List Int))
theorem vc_ref08_Host :
 ∀(a:List Int) (b c d:Int),(a.length<=maxLen/\ ∀(e:Int),e∈a->0<=e/\e<=255)/\(0<=b/\b<=4294967295)/\R64 c/\R64 d/\True->(a.length:Int)<=1099511627776-> ∀(e:Bool),e=decide (d<0)->(Qbm10 e)/\(e=false->(! e))/\ ∀(f:Bool),(f=bif e then true else decide (255<d))->((! f)->((! f)->(! f))/\True)/\(f=false->(! f))/\ ∀(g:Bool),(g=bif f then true else decide (c<0))->(Qbm15 g)/\(g=false->(! g))/\ifP (bif g then true else decide (65535<c)) (([]:List Int)=hostB a b c d/\(1:Int)=hostE a c d) ((a.length:Int)<=1099511627776/\ ∀(h:(Int×Int×Int×Int×Bool×Int×Int)×List Int) (i:Bool),h=ansP a/\i=decide (ansOK a)->ifP (! i) (Qbm3 a b c d) (ifP (decide (h.1.2.2.2.1=1)) ((h.2.length:Int)<=1000000/\ ∀(j:Bool) (k l:Int) (m:List Int) (n:Int),(j,k,l,m)=unEcho h.2/\n=unEchoErr h.2-> ∀(o:Bool),o=decide (n=0)->(o->(o->o)/\True)/\(o->(o->o)/\True)/\(o->o)/\ifP (bif o then ! j else false) ((m.length:Int)<=1073741824/\
 ∀(p:List Int) (q:Int),p=echoEnc (true,k,l,m)/\q=echoErr (true,k,l,m)->(p.length:Int)<=1073741824/\ipEnc (sendP b h.1.2.2.2.2.2.1 (1:Int) c d p)=hostB a b c d/\(0:Int)=hostE a c d) (Qbm3 a b c d)) (ifP (decide (h.1.2.2.2.1=17)) ((h.2.length:Int)<=1000000/\ ∀(j k:Int) (l:List Int) (m:Int),(j,k,l)=unUDP h.1.2.2.2.2.2.1 h.1.2.2.2.2.2.2 h.2/\m=unUDPErr h.1.2.2.2.2.2.1 h.1.2.2.2.2.2.2 h.2->ifP (decide (m=0)) ((a.length:Int)<=1099511627776/\errB a b (3:Int) (3:Int) c d=hostB a b c d/\errE a (3:Int) (3:Int) c d=hostE a c d) (Qbm3 a b c d)) (ifP (decide (h.1.2.2.2.1=6)) ((h.2.length:Int)<=1000000/\ ∀(j:Int×Int×Int×Int×Int×Int×List Int) (k:Int),j=unTCP h.1.2.2.2.2.2.1 h.1.2.2.2.2.2.2 h.2/\k=unTCPErr h.1.2.2.2.2.2.1 h.1.2.2.2.2.2.2 h.2-> ∀(l:Bool),l=decide (k=0)->(l->(l->l)/\True)/\(l->(l->l)/\True)/\(l->(l->l)/\True)/\(l->l)/\ ∀(m:Bool),(m=bif l then ! decide (bits BinOp.and IntKind.i64
 j.2.2.2.2.1 (2:Int)=0) else false)->(m->(m->m)/\True)/\(m->(m->m)/\True)/\(m->(m->m)/\True)/\(m->m)/\ifP (bif m then decide (bits BinOp.and IntKind.i64 j.2.2.2.2.1 (4:Int)=0) else false) ((4294967296:Int)≠(0:Int)/\(↑(0:Nat):Int)<=1000000/\ ∀(n:List Int) (o:Int),n=tcpEnc b h.1.2.2.2.2.2.1 (Qbm29 j)/\o=tcpErr (Qbm29 j)->(n.length:Int)<=1073741824/\ipEnc (sendP b h.1.2.2.2.2.2.1 (6:Int) c d n)=hostB a b c d/\(0:Int)=hostE a c d) (Qbm3 a b c d)) (Qbm3 a b c d))))):=by
  delta Qbm3 Qbm10 Qbm15 Qbm29
  rintro b src id ttl ⟨⟨-,hb⟩,-⟩ hl
  (repeat (intro (b_:Bool) (hb_:b_=_);(repeat refine ⟨(by first|(simp +contextual;done)|(rw [hb_];simp +contextual;done)|(rw [hb_];simp;omega)|(rw [hb_];simp;intros;omega)|(rw [hb_];simp +contextual;intros;omega)|(intros;simp_all;done)|(intros;simp_all;omega)),?_⟩)));subst_vars
  by_cases hn:numOK id ttl
  rotate_left
  · refine ifP_split (fun _=>host_range hn) (fun h=>absurd ?_ hn)
    refine ⟨?_,?_⟩ <;> simp [Bool.cond_eq_ite] at h <;> omega
  have hn':=hn
  obtain ⟨⟨n1,n2⟩,n3,n4⟩:=hn'
  refine ifP_split (fun h => ?_) (fun _=>⟨hl,?_⟩)
  · exfalso
    simp [Bool.cond_eq_ite] at h;omega
  rintro _ _ ⟨rfl,rfl⟩
  refine ifP_split (fun h=>host_bad hn (fun k => ?_)) (fun h => ?_)
  · have:=k.1;simp [this] at h
  have ha:ansOK b:=by simpa using h
  obtain ⟨hd0,h28,hp1,hp6,-⟩:=ans_facts ha
  have hdl:=dec_len hd0
  rw [ansP_eq ha]
  have hdb:bytes (b.drop 20):=bytes_drop hb
  have hdr:(b.drop 20).length<=1480:=by rw [List.length_drop];omega
  refine ifP_split (fun h1 => ?_) (fun h1=>ifP_split (fun h17 => ?_) (fun h17=>ifP_split (fun h6 => ?_) (fun h6 => ?_)))
  · have h1:protoOf b=1:=of_decide_eq_true h1
    refine ⟨by show ((b.drop 20).length:Int)<=_;omega,?_⟩
    rintro r i q dt e ⟨hu,rfl⟩
    have hr:r=false:=by
      have:=congrArg Prod.fst hu
      rw [un_echo_flag (hp1 h1)] at this;exact this
    subst hr
    (repeat (intro (b_:Bool) (hb_:b_=_);(repeat refine ⟨(by first|(simp +contextual;done)|(rw [hb_];simp +contextual;done)|(rw [hb_];simp;omega)|(rw [hb_];simp;intros;omega)|(rw [hb_];simp +contextual;intros;omega)|(intros;simp_all;done)|(intros;simp_all;omega)),?_⟩)));subst_vars
    refine ifP_split (fun h => ?_) (fun h => ?_)
    · have h:unEchoErr (b.drop 20)=0:=by simpa [Bool.cond_eq_ite] using h
      have hh:=host_1 (src:=src) hn ha h1 h
      have hlen:=un_echo_len (b.drop 20)
      have e2:(i,q,dt)=(unEcho (b.drop 20)).2:=congrArg Prod.snd hu
      have e3:dt=(unEcho (b.drop 20)).2.2.2:=by rw [← e2]
      refine ⟨by rw [e3];omega,?_⟩
      rintro o e ⟨rfl,rfl⟩
      rw [show ((true,i,q,dt):Echo)=(true,(i,q,dt)) from rfl,e2]
      have hle:=enc_len (true,(unEcho (b.drop 20)).2)
      exact ⟨by omega,hh.1.symm,hh.2.symm⟩
    · refine host_bad hn (fun k => ?_)
      obtain ⟨-,⟨-,k⟩|⟨k,-⟩|⟨k,-⟩⟩:=k
      · simp [k] at h
      · omega
      · omega
  · have h1:=of_decide_eq_false h1
    have h17:protoOf b=17:=of_decide_eq_true h17
    refine ⟨by show ((b.drop 20).length:Int)<=_;omega,?_⟩
    rintro sp dp dt e ⟨hu,rfl⟩
    refine ifP_split (fun h => ?_) (fun h => ?_)
    · have h:unUDPErr (srcOf b) (dstOf b) (b.drop 20)=0:=of_decide_eq_true h
      have hh:=host_17 (src:=src) hn ha h17 h
      exact ⟨hl,hh.1.symm,by rw [hh.2,err_port hn ha]⟩
    · refine host_bad hn (fun k => ?_)
      obtain ⟨-,⟨k,-⟩|⟨-,k⟩|⟨k,-⟩⟩:=k
      · omega
      · have k:unUDPErr (pkHdrF b).2.2.2.2.2.1 (pkHdrF b).2.2.2.2.2.2 (b.drop 20)=0:=k
        simp [k] at h
      · omega
  · have h1:=of_decide_eq_false h1
    have h17:=of_decide_eq_false h17
    have h6:protoOf b=6:=of_decide_eq_true h6
    refine ⟨by show ((b.drop 20).length:Int)<=_;omega,?_⟩
    rintro t e ⟨ht,rfl⟩
    have ht:t=unTCP (srcOf b) (dstOf b) (b.drop 20):=ht
    have hr:=un_tcp_rng (s:=srcOf b) (d:=dstOf b) hdb
    rw [← ht] at hr
    have ee:unTCPErr (pkHdrF b).2.2.2.2.2.1 (pkHdrF b).2.2.2.2.2.2 (b.drop 20)=unTCPErr (srcOf b) (dstOf b) (b.drop 20):=rfl
    rw [ee]
    (repeat (intro (b_:Bool) (hb_:b_=_);(repeat refine ⟨(by first|(simp;done)|(rw [hb_];simp;done)|(rw [hb_];simp;omega)|(rw [hb_];simp;intros;omega)|(rw [hb_];simp +contextual;done)),?_⟩);subst hb_))
    refine ifP_split (fun h => ?_) (fun h => ?_)
    · have k1:unTCPErr (srcOf b) (dstOf b) (b.drop 20)=0:=Classical.byContradiction fun k=>by simp [k] at h
      have k2:bits .and .i64 t.2.2.2.2.1 2≠0:=fun k=>by simp [k1,k] at h
      have k3:bits .and .i64 t.2.2.2.2.1 4=0:=Classical.byContradiction fun k=>by simp [k1,k2,k] at h
      have hh:=host_6 (src:=src) hn ha h6 k1 (by rw [← ht];exact k2) (by rw [← ht];exact k3)
      refine ⟨by omega,by simp,?_⟩
      rintro o e ⟨rfl,rfl⟩
      rw [w64 (n:=t.2.2.1+1) (by omega) (by omega),Int.tmod_eq_emod_of_nonneg (by omega)]
      have hle:=tcp_enc_len src (srcOf b) (rstOf t)
      have er:((t.2.1,t.1,0,(t.2.2.1+1)%4294967296,20,0,[]):Seg)=rstOf t:=rfl
      rw [er]
      refine ⟨by show ((tcpEnc src (srcOf b) (rstOf t)).length:Int)<=_;omega,?_,hh.2.symm⟩
      rw [hh.1,← ht];rfl
    · refine host_bad hn (fun k => ?_)
      obtain ⟨-,⟨k,-⟩|⟨k,-⟩|⟨-,k1,k2,k3⟩⟩:=k
      · omega
      · omega
      · rw [← ht] at k2 k3
        simp [k1,k2,k3] at h
  · have h1:=of_decide_eq_false h1
    have h17:=of_decide_eq_false h17
    have h6:=of_decide_eq_false h6
    refine host_bad hn (fun k => ?_)
    obtain ⟨-,⟨k,-⟩|⟨k,-⟩|⟨k,-⟩⟩:=k
    · exact h1 k
    · exact h17 k
    · exact h6 k
theorem ok_ref08_Host:SpecOK Tryz.prog GL 68 ct_ref08_Host.spec:=Ct.okH _ Tryz.func68 (by kernel_rfl) (withSpec_ok (withSpec_ok (withSpec_ok (withSpec_ok (withSpec_ok (withSpec_ok (withSpec_ok (withSpec_ok noSpecs_ok (Ct.named ok_ref08_Answerable)) (Ct.named ok_ref06_DecodeEcho)) (Ct.named ok_ref06_EncodeEcho)) (Ct.named ok_ref06_DecodeUDP)) (Ct.named ok_ref06_DecodeTCP)) (Ct.named ok_ref06_EncodeTCP)) ok_ref08_Error) ok_ref08_packet) hmix an_ref08_Host (hideMp (by kernel_rfl) vc_ref08_Host)
end Go.RS

/- Fib: forwarding tables. -/
namespace Go.RS
open Go.SX Go.Proofs
set_option maxRecDepth 100000
set_option linter.unusedVariables false
abbrev cRt:CT := .pair cPfx (.pair (.sl cI) cI)
abbrev Rt:Type:=Pfx×List Int×Int
def plt (p q:Pfx):Prop:=p.1<q.1∨p.1=q.1/\p.2<q.2
instance (p q:Pfx):Decidable (plt p q):=by unfold plt;infer_instance
theorem icmp_lt {a b:Int} (h:a<b):icmp a b = -1:=by unfold icmp;rw [if_pos h]
theorem icmp_gt {a b:Int} (h:b<a):icmp a b=1:=by unfold icmp;rw [if_neg (by omega),if_pos h]
theorem icmp_eq (a:Int):icmp a a=0:=by unfold icmp;simp
theorem pcmp_cases (p q:Pfx):(plt p q/\pcmp p q = -1)∨(p=q/\pcmp p q=0)∨(plt q p/\pcmp p q=1):=by
  obtain ⟨a,b⟩:=p;obtain ⟨c,e⟩:=q
  unfold pcmp plt
  rcases Int.lt_trichotomy a c with h|rfl|h
  · left;simp [icmp_lt h,h]
  · rcases Int.lt_trichotomy b e with h|rfl|h
    · left;simp [icmp_eq,icmp_lt h,h]
    · right;left;simp [icmp_eq]
    · right;right;simp [icmp_eq,icmp_gt h,h]
  · right;right;simp [icmp_gt h,h]
theorem plt_irrefl (p:Pfx):¬ plt p p:=by unfold plt;omega
theorem plt_trans {p q r:Pfx} (h:plt p q) (k:plt q r):plt p r:=by unfold plt at *;omega
theorem plt_asymm {p q:Pfx} (h:plt p q):¬ plt q p:=by unfold plt at *;omega
theorem plt_total {p q:Pfx} (h:¬ plt p q):p=q∨plt q p:=by rcases pcmp_cases p q with ⟨k,-⟩|⟨k,-⟩|⟨k,-⟩ <;> simp_all
theorem plt_of_not {p q r:Pfx} (h:¬ plt p q) (k:plt p r):¬ plt r q:=fun e=>h (plt_trans k e)
theorem pcmp_neg {p q:Pfx}:pcmp p q<0↔plt p q:=by
  rcases pcmp_cases p q with ⟨h,e⟩|⟨rfl,e⟩|⟨h,e⟩ <;> rw [e]
  · simp [h]
  · simp [plt_irrefl]
  · simp [plt_asymm h]
theorem pcmp_zero {p q:Pfx}:pcmp p q=0↔p=q:=by
  rcases pcmp_cases p q with ⟨h,e⟩|⟨h,e⟩|⟨h,e⟩ <;> rw [e]
  · simp;rintro rfl;exact plt_irrefl _ h
  · simp [h]
  · simp;rintro rfl;exact plt_irrefl _ h
theorem pcmp_nonneg {p q:Pfx}:0<=pcmp p q↔¬ plt p q:=by rw [← pcmp_neg];omega
def sortedR (l:List Rt):Prop:=l.Pairwise fun a b=>plt a.1 b.1
theorem place_lo {l:List Rt} {p:Pfx} {h:Int} (hs:sortedR l) (h0:0<=h) (h1:h<l.length) (hl:plt (l.getD h.toNat default).1 p):∀ y∈l.take (h+1).toNat,plt y.1 p:=by
  intro y hy
  have hj:h.toNat<l.length:=by omega
  rcases mem_take_succ h0 h1 hy with hy|rfl
  · obtain ⟨k,hk,rfl⟩:=List.mem_iff_getElem.1 hy
    rw [List.getD_eq_getElem?_getD,List.getElem?_eq_getElem hj,Option.getD_some] at hl
    simp at hk ⊢
    exact plt_trans (List.pairwise_iff_getElem.1 hs k h.toNat (by omega) hj (by omega)) hl
  · exact hl
theorem place_hi {l:List Rt} {p:Pfx} {h:Int} (hs:sortedR l) (h0:0<=h) (h1:h<l.length) (hl:¬ plt (l.getD h.toNat default).1 p):∀ y∈l.drop h.toNat,¬ plt y.1 p:=by
  intro y hy
  have hj:h.toNat<l.length:=by omega
  rw [List.getD_eq_getElem?_getD,List.getElem?_eq_getElem hj,Option.getD_some] at hl
  rw [List.drop_eq_getElem_cons hj] at hy
  rcases List.mem_cons.1 hy with rfl|hy
  · exact hl
  · have hp:((l.drop h.toNat)).Pairwise fun a b=>plt a.1 b.1:=List.Pairwise.drop hs
    rw [List.drop_eq_getElem_cons hj] at hp
    exact plt_of_not hl (List.rel_of_pairwise_cons hp hy)
def ct_slices_Clone_263e:Ct:=⟨[.val (.sl cI)],[.own 3 cI],fun d=>[(d.1.length:Int)<=1099511627776],fun d=>((d.1,()),())⟩
def an_slices_Clone_263e:PDs ct_slices_Clone_263e.ps->Anns:=(fun _=>{})
theorem vc_slices_Clone_263e :
 ∀(a:List Int),(a.length<=maxLen/\ ∀(b:Int),b∈a->R64 b)/\True->(a.length:Int)<=1099511627776-> ∀(b:Bool),(b=true->a.length=(0:Nat))->ifP b (([]:List Int)=a) (((0:Nat)+a.length)*(8:Nat)<=(140737488355328:Nat)/\a=a):=by
  rintro x ⟨⟨hl,-⟩,-⟩ h b hb
  refine ifP_split (fun h1 => ?_) (fun h1=>⟨by simp;omega,by simp⟩)
  have:=hb h1
  exact (List.eq_nil_of_length_eq_zero this).symm
theorem ok_slices_Clone_263e:SpecOK Tryz.prog GL 66 ct_slices_Clone_263e.spec:=Ct.okH _ Tryz.func66 (by kernel_rfl) noSpecs_ok hmix an_slices_Clone_263e (hideMp (by kernel_rfl) vc_slices_Clone_263e)
def ct_fib_copied:Ct:=⟨[.agg cRt],[.agg cRt],fun d=>[(d.1.2.1.length:Int)<=1099511627776],fun d=>((d.1,()),())⟩
def an_fib_copied:PDs ct_fib_copied.ps->Anns:=(fun _=>{})
theorem vc_fib_copied :
 ∀(a b:Int) (c:List Int) (d:Int),(((0<=a/\a<=4294967295)/\R64 b)/\(c.length<=maxLen/\ ∀(e:Int),e∈c->R64 e)/\R64 d)/\True->(c.length:Int)<=1099511627776->(c.length:Int)<=1099511627776/\((a,b),c,d)=((a,b),c,d):=by
  rintro a b c e-h
  exact ⟨h,rfl⟩
theorem ok_fib_copied:SpecOK Tryz.prog GL 215 ct_fib_copied.spec:=Ct.okH _ Tryz.func215 (by kernel_rfl) (withSpec_ok noSpecs_ok ok_slices_Clone_263e) hmix an_fib_copied (hideMp (by kernel_rfl) vc_fib_copied)
def ct_ref09_copied:Ct:=⟨[.agg cRt],[.agg cRt],fun d=>[(d.1.2.1.length:Int)<=1099511627776],fun d=>((d.1,()),())⟩
def an_ref09_copied:PDs ct_ref09_copied.ps->Anns:=(fun _=>{})
theorem vc_ref09_copied :
 ∀(a b:Int) (c:List Int) (d:Int),(((0<=a/\a<=4294967295)/\R64 b)/\(c.length<=maxLen/\ ∀(e:Int),e∈c->R64 e)/\R64 d)/\True->(c.length:Int)<=1099511627776->c.length*(8:Nat)<=(140737488355328:Nat)/\((a,b),c,d)=((a,b),c,d):=by
  rintro a b c e-h
  exact ⟨by omega,rfl⟩
theorem ok_ref09_copied:SpecOK Tryz.prog GL 93 ct_ref09_copied.spec:=Ct.okH _ Tryz.func93 (by kernel_rfl) noSpecs_ok hmix an_ref09_copied (hideMp (by kernel_rfl) vc_ref09_copied)
def ct_fib_place_1:Ct:=⟨[.agg cRt,.agg cPfx],[.val cI],fun _=>[],fun d=>((pcmp d.1.1 d.2.1,()),())⟩
def an_fib_place_1:PDs ct_fib_place_1.ps->Anns:=(fun _=>{})
theorem vc_fib_place_1 :
 ∀(a b:Int) (c:List Int) (d e f:Int),(((0<=a/\a<=4294967295)/\R64 b)/\(c.length<=maxLen/\ ∀(g:Int),g∈c->R64 g)/\R64 d)/\((0<=e/\e<=4294967295)/\R64 f)/\True->True->pcmp (a,b) (e,f)=pcmp (a,b) (e,f):=by
  intros;trivial
theorem ok_fib_place_1:SpecOK Tryz.prog GL 219 ct_fib_place_1.spec:=Ct.okH _ Tryz.func219 (by kernel_rfl) (withSpec_ok noSpecs_ok ok_address_Compare) hmix an_fib_place_1 (hideMp (by kernel_rfl) vc_fib_place_1)
theorem half {i j:Int} (h0:0<=i) (h1:i<=j) (h2:j<=9223372036854775807):IntKind.wrap IntKind.i64 (shrI IntKind.u64 (IntKind.wrap IntKind.u64 (IntKind.wrap IntKind.i64 (i+j))) (1:Int))=(i+j)/2:=by
  have hw:IntKind.wrap IntKind.u64 (IntKind.wrap IntKind.i64 (i+j))=i+j:=by
    rw [IntKind.wrap_i64,IntKind.wrap_u64];omega
  rw [hw]
  have:shrI IntKind.u64 (i+j) 1=(i+j)/2:=by
    unfold shrI
    rw [Int.fdiv_eq_ediv_of_nonneg _ (by decide)]
    rfl
  rw [this,w64 (by omega) (by omega)]
theorem place_ex (l:List Rt) (p:Pfx):∃ k:Int,0<=k/\k<=l.length/\(sortedR l->(∀ z∈l.take k.toNat,plt z.1 p)∧∀ z∈l.drop k.toNat,¬ plt z.1 p):=by
  induction l with
  | nil=>exact ⟨0,by simp,by simp,by simp⟩
  | cons a l ih =>
    obtain ⟨k,h0,h1,h2⟩:=ih
    by_cases ha:plt a.1 p
    · refine ⟨k+1,by omega,by simp;omega,fun hs => ?_⟩
      obtain ⟨q1,q2⟩:=h2 (List.pairwise_cons.1 hs).2
      have e:(k+1).toNat=k.toNat+1:=by omega
      rw [e]
      refine ⟨fun z hz => ?_,fun z hz=>q2 z (by simpa using hz)⟩
      rw [List.take_succ_cons] at hz
      rcases List.mem_cons.1 hz with rfl|hz
      · exact ha
      · exact q1 z hz
    · refine ⟨0,by omega,by simp only [List.length_cons];omega,fun hs=>⟨by simp,fun z hz => ?_⟩⟩
      rcases List.mem_cons.1 (show z∈a::l from hz) with rfl|hz
      · exact ha
      · exact plt_of_not ha ((List.pairwise_cons.1 hs).1 z hz)
def ct_slices_BinarySearchFunc_0367:Cn:=⟨[.val (.sl cRt),.agg cPfx,.fn 219 0],[.val cI,.val .bool],fun _=>[],fun d y=>0<=y.1.1/\y.1.1<=d.1.length/\(sortedR d.1->(∀ z∈d.1.take y.1.1.toNat,plt z.1 d.2.1)∧∀ z∈d.1.drop y.1.1.toNat,¬ plt z.1 d.2.1)/\y.1.2.1=decide (y.1.1<d.1.length/\(d.1.getD y.1.1.toNat default).1=d.2.1),fun d h=>let ⟨k,h0,h1,h2⟩:=place_ex d.1 d.2.1;⟨((k,decide (k<d.1.length/\(d.1.getD k.toNat default).1=d.2.1),()),()),h0,h1,h2,rfl⟩⟩
def an_slices_BinarySearchFunc_0367:PDs ct_slices_BinarySearchFunc_0367.ps->Anns:=(fun d=>{loops:=(fun n=>match n with|3=>some (fun S=>{ι:=Int×Int,qn:=⟨fun k_=>∀ (i:Int) (j:Int),k_ (i,j),fun k_ h_ i=>h_ i.1 i.2,fun k_=>∃ (i:Int) (j:Int),k_ (i,j),fun k_ ⟨i,j,h_⟩=>⟨_,h_⟩⟩,μ:=fun i=>(i.2-i.1).toNat,inv:=fun i=>0<=i.1/\i.1<=i.2/\i.2<=d.1.length/\(sortedR d.1->(∀ z∈d.1.take i.1.toNat,plt z.1 d.2.1)∧∀ z∈d.1.drop i.2.toNat,¬ plt z.1 d.2.1),keep:=[0,2,4,8],slots:=fun i=>[(9,.int .i64 i.1),(10,.int .i64 i.2)],keepN:=[80],names:=fun i=>[]})|_=>none)})
def Qbn1 (a:List Route) :=
 (a.length:Int)
def Qbn2 (a:List Route) :=
 a.length<=maxLen/\ ∀(d:Route),d∈a->((0<=d.1.1/\d.1.1<=4294967295)/\R64 d.1.2)/\(d.2.1.length<=maxLen/\ ∀(e:Int),e∈d.2.1->R64 e)/\R64 d.2.2
def Qbn3 (d e:Int) :=
 shrI IntKind.u64 (IntKind.wrap .u64 (IntKind.wrap .i64 (d+e))) (1:Int)
def Qbn12 (a:List Route) (b c f g:Int) :=
 0<=f/\f<=g/\g<=(Qbn1 a)/\(sortedR a->(∀(h:Route),h∈List.take f.toNat a->plt h.1 (b,c))/\ ∀(h:Route),h∈List.drop g.toNat a-> ¬plt h.1 (b,c))
def Qbn13 (a:List Route) (b c d e:Int) :=
 d<=e/\e<=(Qbn1 a)/\(sortedR a->(∀(f:Route),f∈List.take d.toNat a->plt f.1 (b,c))/\ ∀(f:Route),f∈List.drop e.toNat a-> ¬plt f.1 (b,c))
theorem vc_slices_BinarySearchFunc_0367 :
 ∀(a:List Route) (b c:Int),(Qbn2 a)/\((0<=b/\b<=4294967295)/\R64 c)/\True/\True->True->(∃(d:Int) (e:Int),(0<=d/\(Qbn13 a b c d e))/\a=a/\(Qbn1 a)=(Qbn1 a)/\(0:Int)=d/\(Qbn1 a)=e/\b=b/\c=c/\True)/\ ∀(d e:Int),0<=d/\(Qbn13 a b c d e)->ifP (decide (d<e)) ((0:Int)<=1/\0<=IntKind.wrap .i64 (Qbn3 d e)/\IntKind.wrap .i64 (Qbn3 d e)<(Qbn1 a)/\ifP (decide (pcmp (a.getD (Int.toNat (IntKind.wrap .i64 (Qbn3 d e))) default).1 (b,c)<0)) (∃(f:Int) (g:Int),(Qbn12 a b c f g)/\Int.toNat (g -f)<Int.toNat (e -d)/\a=a/\(Qbn1 a)=(Qbn1 a)/\IntKind.wrap .i64 (IntKind.wrap .i64 (Qbn3 d e)+(1:Int))=f/\e=g/\b=b/\c=c/\True) (∃(f:Int) (g:Int),(Qbn12 a b c f g)/\Int.toNat (g -f)<Int.toNat (e -d)/\a=a/\(Qbn1 a)=(Qbn1 a)/\d=f/\IntKind.wrap .i64 (Qbn3 d e)=g/\b=b/\c=c/\True)) (∀(f:Bool),f=decide (d<(Qbn1 a))->(f->(f->f)/\(f->f)/\0<=d/\d<(Qbn1
 a)/\True)/\(f->(f->f)/\True)/\(f->(f->f)/\(f->f)/\(f->f)/\True)/\(f->(f->f)/\True)/\(f->f)/\0<=d/\d<=(Qbn1 a)/\(sortedR a->(∀(g:Route),g∈List.take d.toNat a->plt g.1 (b,c))/\ ∀(g:Route),g∈List.drop d.toNat a-> ¬plt g.1 (b,c))/\(bif f then decide (pcmp (a.getD d.toNat default).1 (b,c)=0) else false)=decide (d<(Qbn1 a)/\(a.getD d.toNat default).1=(b,c))):=by
  delta Qbn1 Qbn2 Qbn3 Qbn12 Qbn13
  rintro x p q ⟨⟨hl,-⟩,-⟩ -
  simp only [maxLen] at hl
  refine ⟨⟨0,x.length,⟨by omega,by omega,by omega,fun _=>by simp⟩,(by repeat' first|exact trivial|refine ⟨trivial,?_⟩|refine ⟨(by with_reducible rfl),?_⟩|refine ⟨w64 (by omega) (by omega),?_⟩|refine ⟨rfl,?_⟩)⟩,?_⟩
  rintro i j ⟨h0,h1,h2,h3⟩
  refine ifP_split (fun hb => ?_) (fun hb => ?_)
  · have hb:=of_decide_eq_true hb
    rw [half h0 h1 (by omega)]
    refine ⟨by omega,by omega,by omega,ifP_split (fun hc => ?_) (fun hc => ?_)⟩
    · have hc:=pcmp_neg.1 (of_decide_eq_true hc)
      rw [w64 (by omega) (by omega)]
      refine ⟨(i+j)/2+1,j,⟨by omega,by omega,h2,fun hs=>⟨place_lo hs (by omega) (by omega) hc,(h3 hs).2⟩⟩,by omega,(by repeat' first|exact trivial|refine ⟨trivial,?_⟩|refine ⟨(by with_reducible rfl),?_⟩|refine ⟨w64 (by omega) (by omega),?_⟩|refine ⟨rfl,?_⟩)⟩
    · have hc:¬ plt _ _:=fun h=>absurd (pcmp_neg.2 h) (of_decide_eq_false hc)
      refine ⟨i,(i+j)/2,⟨h0,by omega,by omega,fun hs=>⟨(h3 hs).1,place_hi hs (by omega) (by omega) hc⟩⟩,by omega,(by repeat' first|exact trivial|refine ⟨trivial,?_⟩|refine ⟨(by with_reducible rfl),?_⟩|refine ⟨w64 (by omega) (by omega),?_⟩|refine ⟨rfl,?_⟩)⟩
  · have hb:=of_decide_eq_false hb
    have:i=j:=by omega
    subst this
    (repeat (intro (b_:Bool) (hb_:b_=_);(repeat refine ⟨(by first|(simp;done)|(rw [hb_];simp;done)|(rw [hb_];simp;omega)|(rw [hb_];simp;intros;omega)|(rw [hb_];simp +contextual;done)),?_⟩);subst hb_))
    refine ⟨h0,h2,h3,?_⟩
    rw [Bool.cond_eq_ite]
    by_cases h:i<x.length <;> simp [h,pcmp_zero]
theorem ok_slices_BinarySearchFunc_0367:SpecOK Tryz.prog GL 218 ct_slices_BinarySearchFunc_0367.spec:=Cn.okH _ Tryz.func218 (by kernel_rfl) (withSpec_ok noSpecs_ok ok_fib_place_1) hmix an_slices_BinarySearchFunc_0367 (hideMp (by kernel_rfl) vc_slices_BinarySearchFunc_0367)
theorem set_getD {α:Type} [Inhabited α] {l:List α} {j:Int} (h0:0<=j) (h1:j<l.length):l.set j.toNat (l.getD j.toNat default)=l:=by
  have hj:j.toNat<l.length:=by omega
  rw [List.getD_eq_getElem?_getD,List.getElem?_eq_getElem hj,Option.getD_some,List.set_getElem_self]
def ct_fib_place:Cn:=⟨[.val (.sl cRt),.agg cPfx],[.val cI,.val .bool],fun _=>[],fun d y=>0<=y.1.1/\y.1.1<=d.1.length/\(sortedR d.1->(∀ z∈d.1.take y.1.1.toNat,plt z.1 d.2.1)∧∀ z∈d.1.drop y.1.1.toNat,¬ plt z.1 d.2.1)/\y.1.2.1=decide (y.1.1<d.1.length/\(d.1.getD y.1.1.toNat default).1=d.2.1),fun d h=>let ⟨k,h0,h1,h2⟩:=place_ex d.1 d.2.1;⟨((k,decide (k<d.1.length/\(d.1.getD k.toNat default).1=d.2.1),()),()),h0,h1,h2,rfl⟩⟩
def an_fib_place:PDs ct_fib_place.ps->Anns:=(fun _=>{})
def Qbn9 (a:List Route) (b c d:Int) (e:Bool) :=
 d<=(Qbn1 a)/\(sortedR a->(∀(f:Route),f∈List.take d.toNat a->plt f.1 (b,c))/\ ∀(f:Route),f∈List.drop d.toNat a-> ¬plt f.1 (b,c))/\e=decide (d<(Qbn1 a)/\(a.getD d.toNat default).1=(b,c))
theorem vc_fib_place :
 ∀(a:List Route) (b c:Int),(Qbn2 a)/\((0<=b/\b<=4294967295)/\R64 c)/\True->True-> ∀(d:Int) (e:Bool),0<=d/\(Qbn9 a b c d e)->0<=d/\(Qbn9 a b c d e):=by
  delta Qbn1 Qbn2 Qbn9
  rintro l p q - - i b h
  exact h
theorem ok_fib_place:SpecOK Tryz.prog GL 214 ct_fib_place.spec:=Cn.okH _ Tryz.func214 (by kernel_rfl) (withSpec_ok noSpecs_ok ok_slices_BinarySearchFunc_0367) hmix an_fib_place (hideMp (by kernel_rfl) vc_fib_place)
def putL (l:List Rt) (r:Rt):List Rt:=l.filter (fun a=>decide (plt a.1 r.1))++r::l.filter (fun a=>decide (plt r.1 a.1))
def removeL (l:List Rt) (p:Pfx):List Rt:=l.filter (fun a=>decide (a.1≠p))
def okL (l:List Rt):Prop:=(l.length:Int)<=134217728∧∀ y∈l,(y.2.1.length:Int)<=1099511627776
def stepR (a:Int) (b:Option Rt) (r:Rt):Option Rt:=if contains r.1 a then match b with|none=>some r|some q=>if q.1.2<r.1.2 then some r else some q else b
def look (l:List Rt) (a:Int):Option Rt:=l.foldl (stepR a) none
def lookR (l:List Rt) (a:Int):Rt:=match look l a with|none=>((0,0),[],0)|some r=>r
def lookB (l:List Rt) (a:Int):Bool:=(look l a).isSome
theorem place_split {l:List Rt} {i:Int} (h0:0<=i) (h1:i<l.length):l=l.take i.toNat++l.getD i.toNat default::l.drop (i+1).toNat:=by
  have hj:i.toNat<l.length:=by omega
  rw [List.getD_eq_getElem?_getD,List.getElem?_eq_getElem hj,Option.getD_some,show (i+1).toNat=i.toNat+1 from by omega,← List.drop_eq_getElem_cons hj,List.take_append_drop]
theorem stepR_eq {l:List Rt} {a i:Int} (h0:0<=i) (h1:i<l.length):look (l.take (i+1).toNat) a=stepR a (look (l.take i.toNat) a) (l.getD i.toNat default):=by
  have hj:i.toNat<l.length:=by omega
  rw [show (i+1).toNat=i.toNat+1 from by omega,List.take_succ_eq_append_getElem hj,look,List.foldl_append,List.getD_eq_getElem?_getD,List.getElem?_eq_getElem hj,Option.getD_some]
  rfl
theorem look_step {l:List Rt} {a b i:Int} (h0:0<=i) (h1:i<l.length) (h:look (l.take i.toNat) a=if b<0 then none else some (l.getD b.toNat default)) (c:Bool)
    (hc:c=(bif contains (l.getD i.toNat default).1 a then bif decide (b<0) then true else decide ((l.getD b.toNat default).1.2<(l.getD i.toNat default).1.2) else false)) :
    look (l.take (i+1).toNat) a=if (if c then i else b)<0 then none else some (l.getD (if c then i else b).toNat default):=by
  rw [stepR_eq h0 h1,h]
  unfold stepR
  subst hc
  cases hx:contains (l.getD i.toNat default).1 a with
  | false=>simp
  | true =>
    by_cases hb:b<0
    · simp [hb,show ¬ i<0 from by omega]
    · by_cases hl:(l.getD b.toNat default).1.2<(l.getD i.toNat default).1.2
      · simp only [List.getD_eq_getElem?_getD] at hl
        simp [hb,hl,show ¬ i<0 from by omega]
      · simp only [List.getD_eq_getElem?_getD] at hl
        simp [hb,hl]
theorem look_skip {l:List Rt} {a:Int} {k:Nat} (h:∀ z∈l.drop k,contains z.1 a=false):look l a=look (l.take k) a:=by
  conv=>lhs;rw [← List.take_append_drop k l]
  unfold look
  rw [List.foldl_append]
  generalize List.foldl (stepR a) none (l.take k)=s
  generalize l.drop k=m at h
  induction m generalizing s with
  | nil=>rfl
  | cons z r ih =>
    rw [List.foldl_cons,show stepR a s z=s from by rw [stepR.eq_def,if_neg (by simp [h z List.mem_cons_self])]]
    exact ih (s:=s) (fun y hy=>h y (List.mem_cons_of_mem _ hy))
theorem contains_far {p:Pfx} {a:Int} (h:¬ plt p (a,33)):contains p a=false:=by
  unfold contains pValid
  unfold plt at h
  rw [Bool.and_eq_false_iff]
  simp only [decide_eq_false_iff_not]
  simp only at h
  omega
def ct_fib_Lookup:Ct:=⟨[.val (.sl cRt),.val cU32],[.agg cRt,.val .bool],fun d=>[sortedR d.1,okL d.1],fun d=>((lookR d.1 d.2.1,lookB d.1 d.2.1,()),())⟩
def an_fib_Lookup:PDs ct_fib_Lookup.ps->Anns:=(fun d=>{loops:=(fun n=>match n with|4=>some (fun S=>{ι:=Int×Int×Int,qn:=⟨fun k_=>∀ (i:Int) (b:Int) (n:Int),k_ (i,b,n),fun k_ h_ i=>h_ i.1 i.2.1 i.2.2,fun k_=>∃ (i:Int) (b:Int) (n:Int),k_ (i,b,n),fun k_ ⟨i,b,n,h_⟩=>⟨_,h_⟩⟩,μ:=fun i=>(i.2.2-i.1).toNat,inv:=fun i=>0<=i.1/\i.1<=i.2.2/\i.2.2<=d.1.length ∧ -1<=i.2.1/\i.2.1<i.1/\look (d.1.take i.1.toNat) d.2.1=(if i.2.1<0 then none else some (d.1.getD i.2.1.toNat default))/\(sortedR d.1→∀ z∈d.1.drop i.2.2.toNat,¬ plt z.1 (d.2.1,33)),keep:=[0,1,4],slots:=fun i=>[(8,.int .i64 i.2.1),(17,.int .i64 i.2.2),(18,.int .i64 i.1)],keepN:=[80],names:=fun i=>[]})|_=>none)})
def Qbn4 (a:List Route) :=
 a.length<=maxLen/\ ∀(c:Route),c∈a->((0<=c.1.1/\c.1.1<=4294967295)/\R64 c.1.2)/\(c.2.1.length<=maxLen/\ ∀(d:Int),d∈c.2.1->R64 d)/\R64 c.2.2
def Qbn5 (h i:Bool) :=
 (h&& ! i)->((h&& ! i)->(h&& ! i))/\True
def Qbn7 (a:List Route) (b j k l:Int) :=
 0<=j/\j<=l/\l<=(Qbn1 a)/\ -1<=k/\k<j/\(look (List.take j.toNat a) b=if k<0 then none else some (a.getD k.toNat default))/\(sortedR a-> ∀(m:Route),m∈List.drop l.toNat a-> ¬plt m.1 (b,(33:Int)))
def Qbn8 (a:List Route) (b e f g:Int) :=
 e<=g/\g<=(Qbn1 a)/\ -1<=f/\f<e/\(look (List.take e.toNat a) b=if f<0 then none else some (a.getD f.toNat default))/\(sortedR a-> ∀(h:Route),h∈List.drop g.toNat a-> ¬plt h.1 (b,(33:Int)))
theorem vc_fib_Lookup :
 ∀(a:List Route) (b:Int),(Qbn4 a)/\(0<=b/\b<=4294967295)/\True->(sortedR a/\(Qbn1 a)<=134217728/\ ∀(c:Rt),c∈a->(c.2.1.length:Int)<=1099511627776)-> ∀(c:Int) (d:Bool),0<=c/\c<=(Qbn1 a)/\(sortedR a->(∀(e:Route),e∈List.take c.toNat a->plt e.1 (b,(33:Int)))/\ ∀(e:Route),e∈List.drop c.toNat a-> ¬plt e.1 (b,(33:Int)))/\d=decide (c<(Qbn1 a)/\(a.getD c.toNat default).1=(b,(33:Int)))->(∃(e:Int) (f:Int),∃(g:Int),(0<=e/\(Qbn8 a b e f g))/\a=a/\b=b/\(-1:Int)=f/\c=g/\(0:Int)=e/\(0:Int)=0/\(0:Int)=0/\(0:Int)=0/\True)/\ ∀(e f g:Int),0<=e/\(Qbn8 a b e f g)->ifP (decide (e<g)) (0<=e/\e<(Qbn1 a)/\ ∀(h:Bool),h=contains (a.getD e.toNat default).1 b->(h->(h->h)/\True)/\(h->(h->h)/\True)/\ ∀(i:Bool),i=decide (f<0)->((h&& ! i)->((h&& ! i)->(h&& ! i))/\((h&& ! i)->(h&& ! i))/\0<=e/\e<(Qbn1 a)/\True)/\(Qbn5 h i)/\(Qbn5 h i)/\(Qbn5 h i)/\((h&& ! i)->((h&& ! i)->(h&& ! i))/\((h&& ! i)->(h&& ! i))/\0<=f/\f<(Qbn1
 a)/\True)/\(Qbn5 h i)/\(Qbn5 h i)/\(Qbn5 h i)/\((h&& ! i)->((h&& ! i)->(h&& ! i))/\((h&& ! i)->(h&& ! i))/\True)/\(h->(h->h)/\(i=false->(h&& ! i))/\True)/\(h->h)/\ifP (bif h then bif i then true else decide ((a.getD f.toNat default).1.2<(a.getD e.toNat default).1.2) else false) (∃(j:Int) (k:Int),∃(l:Int),(Qbn7 a b j k l)/\Int.toNat (l -j)<Int.toNat (g -e)/\a=a/\b=b/\e=k/\g=l/\IntKind.wrap .i64 (e+(1:Int))=j/\(0:Int)=0/\(0:Int)=0/\(0:Int)=0/\True) (∃(j:Int) (k:Int),∃(l:Int),(Qbn7 a b j k l)/\Int.toNat (l -j)<Int.toNat (g -e)/\a=a/\b=b/\f=k/\g=l/\IntKind.wrap .i64 (e+(1:Int))=j/\(0:Int)=0/\(0:Int)=0/\(0:Int)=0/\True)) (ifP (decide (f<0)) ((((0:Int),(0:Int)),([]:List Int),(0:Int))=lookR a b/\false=lookB a b) (0<=f/\f<(Qbn1 a)/\((List.length (a.getD f.toNat default).2.1):Int)<=1099511627776/\a.getD f.toNat default=lookR a b/\true=lookB a b)):=by
  delta Qbn1 Qbn4 Qbn5 Qbn7 Qbn8
  rintro l a ⟨⟨hl,-⟩,-⟩ ⟨hs,hk,hx⟩ n f ⟨n0,n1,n2,-⟩
  simp only [maxLen] at hl
  refine ⟨⟨0,-1,n,⟨by omega,by omega,by omega,by omega,by omega,by simp [look],fun _=>(n2 hs).2⟩,(by repeat' first|exact trivial|refine ⟨trivial,?_⟩|refine ⟨(by with_reducible rfl),?_⟩|refine ⟨w64 (by omega) (by omega),?_⟩|refine ⟨rfl,?_⟩)⟩,?_⟩
  rintro i b n ⟨h0,h1,h2,h3,h4,h5,h6⟩
  refine ifP_split (fun hi => ?_) (fun hi => ?_)
  · have hi:=of_decide_eq_true hi
    have hst:=look_step h0 (by omega) h5
    refine ⟨h0,by omega,?_⟩
    (repeat (intro (b_:Bool) (hb_:b_=_);(repeat refine ⟨(by first|(simp;done)|(rw [hb_];simp;done)|(rw [hb_];simp;omega)|(rw [hb_];simp;intros;omega)|(rw [hb_];simp +contextual;done)),?_⟩);subst hb_))
    refine ifP_split (fun hc => ?_) (fun hc => ?_)
    · have hst:=hst true hc.symm
      refine ⟨i+1,i,n,⟨by omega,by omega,h2,by omega,by omega,by simpa using hst,h6⟩,by omega,(by repeat' first|exact trivial|refine ⟨trivial,?_⟩|refine ⟨(by with_reducible rfl),?_⟩|refine ⟨w64 (by omega) (by omega),?_⟩|refine ⟨rfl,?_⟩)⟩
    · have hst:=hst false hc.symm
      refine ⟨i+1,b,n,⟨by omega,by omega,h2,by omega,by omega,by simpa using hst,h6⟩,by omega,(by repeat' first|exact trivial|refine ⟨trivial,?_⟩|refine ⟨(by with_reducible rfl),?_⟩|refine ⟨w64 (by omega) (by omega),?_⟩|refine ⟨rfl,?_⟩)⟩
  · have hi:=of_decide_eq_false hi
    have e:i=n:=by omega
    subst e
    have hlook:look l a=look (l.take i.toNat) a:=look_skip (fun z hz=>contains_far (h6 hs z hz))
    rw [h5] at hlook
    refine ifP_split (fun hb => ?_) (fun hb => ?_)
    · rw [if_pos (of_decide_eq_true hb)] at hlook
      simp [lookR,lookB,hlook]
    · have hb:=of_decide_eq_false hb
      rw [if_neg hb] at hlook
      refine ⟨by omega,by omega,hx _ (getD_mem (by omega) (by omega)),?_,?_⟩
      · rw [lookR,hlook]
      · rw [lookB,hlook];rfl
theorem ok_fib_Lookup:SpecOK Tryz.prog GL 197 ct_fib_Lookup.spec:=Ct.okH _ Tryz.func197 (by kernel_rfl) (withSpec_ok (withSpec_ok (withSpec_ok noSpecs_ok ok_fib_place) ok_fib_copied) ok_address_Contains) hmix an_fib_Lookup (hideMp (by kernel_rfl) vc_fib_Lookup)
def nextAt (l links:List Int) (j:Nat):Prop:=(0<j->l.getD (j-1) default<l.getD j default)/\l.getD j default∈links
instance (l links:List Int) (j:Nat):Decidable (nextAt l links j):=by unfold nextAt;infer_instance
def nextOK (l links:List Int):Prop:=l.length<=16∧∀ j:Nat,j<l.length->nextAt l links j
instance (l links:List Int):Decidable (nextOK l links):=by unfold nextOK;infer_instance
def rightR (r:Rt) (links:List Int):Prop:=nextOK r.2.1 links/\1<=r.2.2/\r.2.2<=3
instance (r:Rt) (links:List Int):Decidable (rightR r links):=by unfold rightR;infer_instance
def chk (links:List Int):Option Pfx->List Rt->Int
  | _,[]=>0
  | q,r::rs=>if pValid r.1=false then 10 else if q.any (fun q=>decide (0<=pcmp q r.1)) then 6 else if ¬ rightR r links then 12 else chk links (some r.1) rs
def check (l:List Rt) (links:List Int):Int:=if (64:Int)<l.length then 5 else chk links none l
def prevR (l:List Rt) (i:Int):Option Pfx:=if i=0 then none else some (l.getD (i-1).toNat default).1
theorem nextAt_int {l links:List Int} {i:Int} (h0:0<=i) (h:0<i->l.getD (i.toNat-1) default<l.getD i.toNat default) (h2:l.getD i.toNat default∈links):nextAt l links i.toNat :=
  ⟨fun hi=>h (by omega),h2⟩
theorem nextAt_succ {l links:List Int} {i:Int} (h0:0<=i) (h:∀ j:Nat,(j:Int)<i->nextAt l links j) (h2:nextAt l links i.toNat):∀ j:Nat,(j:Int)<i+1->nextAt l links j:=by
  intro j hj
  by_cases e:(j:Int)<i
  · exact h j e
  · rw [show j=i.toNat from by omega];exact h2
theorem chk_at {l:List Rt} {links:List Int} {i:Int} {q:Option Pfx} (h0:0<=i) (h1:i<l.length):chk links q (l.drop i.toNat)=if pValid (l.getD i.toNat default).1=false then 10 else if q.any (fun q=>decide (0<=pcmp q (l.getD i.toNat default).1)) then 6 else if ¬ rightR (l.getD i.toNat default) links then 12 else chk links (some (l.getD i.toNat default).1) (l.drop (i+1).toNat):=by
  have hj:i.toNat<l.length:=by omega
  have e:(i+1).toNat=i.toNat+1:=by omega
  rw [List.drop_eq_getElem_cons hj,chk,List.getD_eq_getElem?_getD,List.getElem?_eq_getElem hj,Option.getD_some,e]
def ct_fib_right:Ct:=⟨[.agg cRt,.val (.sl cI)],[.val .bool],fun _=>[],fun d=>((decide (rightR d.1 d.2.1),()),())⟩
def an_fib_right:PDs ct_fib_right.ps->Anns:=(fun d=>{loops:=(fun n=>match n with|4=>some (fun S=>{ι:=Int,μ:=fun i=>(d.1.2.1.length-i).toNat,inv:=fun i=>0<=i/\i<=d.1.2.1.length∧∀ j:Nat,(j:Int)<i->nextAt d.1.2.1 d.2.1 j,keep:=[1,2,22,23],slots:=fun i=>[(24,.int .i64 i)],keepN:=[48],names:=fun i=>[]})|_=>none)})
def Qbn6 (f:Bool) :=
 (! f)->((! f)->(! f))/\True
theorem vc_fib_right :
 ∀(a b:Int) (c:List Int) (d:Int) (e:List Int),(((0<=a/\a<=4294967295)/\R64 b)/\(c.length<=maxLen/\ ∀(f:Int),f∈c->R64 f)/\R64 d)/\(e.length<=maxLen/\ ∀(f:Int),f∈e->R64 f)/\True->True-> ∀(f:Bool),f=decide (16<(c.length:Int))->(Qbn6 f)/\(Qbn6 f)/\(f=false->(! f))/\ ∀(g:Bool),(g=bif f then true else decide (d<1))->((! g)->((! g)->(! g))/\True)/\((! g)->((! g)->(! g))/\True)/\(g=false->(! g))/\ifP (bif g then true else decide (3<d)) (false=decide (rightR ((a,b),c,d) e)) ((∃(h:Int),(0<=h/\h<=(c.length:Int)/\ ∀(i:Nat),(↑i:Int)<h->nextAt c e i)/\e=e/\c=c/\(c.length:Int)=(c.length:Int)/\(0:Int)=h/\a=a/\b=b/\c=c/\d=d/\True)/\ ∀(h:Int),(0<=h/\h<=(c.length:Int)/\ ∀(i:Nat),(↑i:Int)<h->nextAt c e i)->ifP (decide (h<(c.length:Int))) (0<=h/\h<(c.length:Int)/\ ∀(i:Bool),i=decide (0<h)->(i->(i->i)/\True)/\(i->(i->i)/\True)/\(i->(i->i)/\(i->i)/\0<=IntKind.wrap .i64 (h -(1:Int))/\IntKind.wrap .i64 (h
 -(1:Int))<(c.length:Int)/\True)/\(i->(i->i)/\True)/\(i->(i->i)/\(i->i)/\True)/\(i->i)/\ ∀(j:Bool),(j=bif i then decide (c.getD h.toNat default<=c.getD (Int.toNat (IntKind.wrap .i64 (h -(1:Int)))) default) else false)->((! j)->((! j)->(! j))/\((! j)->(! j))/\True)/\((! j)->((! j)->(! j))/\True)/\(j=false->(! j))/\ifP (bif j then true else ! decide (c.getD h.toNat default∈e)) (false=decide (rightR ((a,b),c,d) e)) (∃(k:Int),(0<=k/\k<=(c.length:Int)/\ ∀(l:Nat),(↑l:Int)<k->nextAt c e l)/\Int.toNat ((c.length:Int) -k)<Int.toNat ((c.length:Int) -h)/\e=e/\c=c/\(c.length:Int)=(c.length:Int)/\IntKind.wrap .i64 (h+(1:Int))=k/\a=a/\b=b/\c=c/\d=d/\True)) (true=decide (rightR ((a,b),c,d) e))):=by
  delta Qbn6
  rintro a n l b ks ⟨⟨⟨-,-⟩,⟨hl,-⟩,-⟩,-⟩ -
  simp only [maxLen] at hl
  (repeat (intro (b_:Bool) (hb_:b_=_);(repeat refine ⟨(by first|(simp;done)|(rw [hb_];simp;done)|(rw [hb_];simp;omega)|(rw [hb_];simp;intros;omega)|(rw [hb_];simp +contextual;done)),?_⟩);subst hb_))
  refine ifP_split (fun hb => ?_) (fun hb => ?_)
  · have hb:¬ (l.length<=16/\1<=b/\b<=3):=by simp [-List.getD_eq_getElem?_getD,-Int.default_eq_zero,Bool.cond_eq_ite] at hb;omega
    symm;apply decide_eq_false
    rintro ⟨⟨h1,-⟩,h2⟩;exact hb ⟨h1,h2⟩
  · have hb:l.length<=16/\1<=b/\b<=3:=by simp [-List.getD_eq_getElem?_getD,-Int.default_eq_zero,Bool.cond_eq_ite] at hb;omega
    refine ⟨⟨0,⟨by omega,by omega,by omega⟩,(by repeat' first|exact trivial|refine ⟨trivial,?_⟩|refine ⟨(by with_reducible rfl),?_⟩|refine ⟨w64 (by omega) (by omega),?_⟩|refine ⟨rfl,?_⟩)⟩,?_⟩
    rintro i ⟨h0,h1,h2⟩
    refine ifP_split (fun hi => ?_) (fun hi => ?_)
    · have hi:=of_decide_eq_true hi
      refine ⟨h0,hi,?_⟩
      rw [w64 (n:=i-1) (by omega) (by omega)]
      (repeat (intro (b_:Bool) (hb_:b_=_);(repeat refine ⟨(by first|(simp;done)|(rw [hb_];simp;done)|(rw [hb_];simp;omega)|(rw [hb_];simp;intros;omega)|(rw [hb_];simp +contextual;done)),?_⟩);subst hb_))
      refine ifP_split (fun hc => ?_) (fun hc => ?_)
      · have hc:¬ nextAt l ks i.toNat:=by
          rintro ⟨k1,k2⟩
          simp [-List.getD_eq_getElem?_getD,-Int.default_eq_zero,Bool.cond_eq_ite,k2] at hc
          have:=k1 (by omega);omega
        symm;apply decide_eq_false
        rintro ⟨⟨-,h3⟩,-⟩;exact hc (h3 _ (show i.toNat<l.length by omega))
      · have hc:nextAt l ks i.toNat:=by
          simp [-List.getD_eq_getElem?_getD,-Int.default_eq_zero,Bool.cond_eq_ite] at hc
          refine nextAt_int h0 (fun hp => ?_) hc.2
          have:=hc.1 hp;omega
        exact ⟨i+1,⟨by omega,by omega,nextAt_succ h0 h2 hc⟩,by omega,rfl,rfl,rfl,w64 (by omega) (by omega),(by repeat' first|exact trivial|refine ⟨trivial,?_⟩|refine ⟨(by with_reducible rfl),?_⟩|refine ⟨w64 (by omega) (by omega),?_⟩|refine ⟨rfl,?_⟩)⟩
    · have hi:=of_decide_eq_false hi
      symm;apply decide_eq_true
      exact ⟨⟨hb.1,fun j hj=>h2 j (by simp only at hj;omega)⟩,hb.2⟩
theorem ok_fib_right:SpecOK Tryz.prog GL 99 ct_fib_right.spec:=Ct.okH _ Tryz.func99 (by kernel_rfl) (withSpec_ok noSpecs_ok ok_slices_Contains_263e) hmix an_fib_right (hideMp (by kernel_rfl) vc_fib_right)
def ct_fib_Check:Ct:=⟨[.val (.sl cRt),.val (.sl cI)],[.val cI],fun _=>[],fun d=>((check d.1 d.2.1,()),())⟩
def an_fib_Check:PDs ct_fib_Check.ps->Anns:=(fun d=>{loops:=(fun n=>match n with|4=>some (fun S=>{ι:=Int,μ:=fun i=>(d.1.length-i).toNat,inv:=fun i=>0<=i/\i<=d.1.length/\check d.1 d.2.1=chk d.2.1 (prevR d.1 i) (d.1.drop i.toNat),keep:=[0,1,10,11],slots:=fun i=>[(12,.int .i64 i)],names:=fun i=>[]})|_=>none)})
def Qbn11 (a:List Route) (b:List Int) (c:Int) :=
 c<=(Qbn1 a)/\check a b=chk b (prevR a c) (List.drop c.toNat a)
def Qbn14 (a:List Route) (c:Int) (d:Bool) :=
 bif d then decide (0<=pcmp (a.getD (Int.toNat (IntKind.wrap .i64 (c -(1:Int)))) default).1 (a.getD c.toNat default).1) else false
theorem vc_fib_Check :
 ∀(a:List Route) (b:List Int),(Qbn4 a)/\(b.length<=maxLen/\ ∀(c:Int),c∈b->R64 c)/\True->True->ifP (decide (64<(Qbn1 a))) ((5:Int)=check a b) ((∃(c:Int),(0<=c/\(Qbn11 a b c))/\a=a/\b=b/\a=a/\(Qbn1 a)=(Qbn1 a)/\(0:Int)=c/\True)/\ ∀(c:Int),0<=c/\(Qbn11 a b c)->ifP (decide (c<(Qbn1 a))) (0<=c/\c<(Qbn1 a)/\ifP (! pValid (a.getD c.toNat default).1) ((10:Int)=check a b) (∀(d:Bool),d=decide (0<c)->(d->(d->d)/\True)/\(d->(d->d)/\(d->d)/\0<=IntKind.wrap .i64 (c -(1:Int))/\IntKind.wrap .i64 (c -(1:Int))<(Qbn1 a)/\True)/\(d->(d->d)/\True)/\(d->(d->d)/\True)/\(d->(d->d)/\True)/\(d->(d->d)/\(d->d)/\True)/\(d->(d->d)/\True)/\(d->d)/\ifP (Qbn14 a c d) ((6:Int)=check a b) (ifP (! decide (rightR (a.getD c.toNat default) b)) ((12:Int)=check a b) (∃(e:Int),(0<=e/\e<=(Qbn1 a)/\check a b=chk b (prevR a e) (List.drop e.toNat a))/\Int.toNat ((Qbn1 a) -e)<Int.toNat ((Qbn1 a) -c)/\a=a/\b=b/\a=a/\(Qbn1 a)=(Qbn1
 a)/\IntKind.wrap .i64 (c+(1:Int))=e/\True)))) ((0:Int)=check a b)):=by
  delta Qbn1 Qbn4 Qbn11 Qbn14
  rintro l ks ⟨⟨hl,-⟩,-⟩ -
  simp only [maxLen] at hl
  refine ifP_split (fun hb => ?_) (fun hb => ?_)
  · rw [check,if_pos (of_decide_eq_true hb)]
  · have hb:=of_decide_eq_false hb
    refine ⟨⟨0,⟨by omega,by omega,by rw [check,if_neg hb];rfl⟩,(by repeat' first|exact trivial|refine ⟨trivial,?_⟩|refine ⟨(by with_reducible rfl),?_⟩|refine ⟨w64 (by omega) (by omega),?_⟩|refine ⟨rfl,?_⟩)⟩,?_⟩
    rintro i ⟨h0,h1,h2⟩
    rw [h2]
    refine ifP_split (fun hi => ?_) (fun hi => ?_)
    · have hi:=of_decide_eq_true hi
      rw [chk_at h0 hi,w64 (n:=i-1) (by omega) (by omega)]
      refine ⟨h0,hi,ifP_split (fun hc => ?_) (fun hc => ?_)⟩
      · simp only [Bool.not_eq_true'] at hc
        rw [if_pos hc]
      · simp only [Bool.not_eq_false'] at hc
        rw [if_neg (by simp [-List.getD_eq_getElem?_getD,-Int.default_eq_zero,hc])]
        (repeat (intro (b_:Bool) (hb_:b_=_);(repeat refine ⟨(by first|(simp;done)|(rw [hb_];simp;done)|(rw [hb_];simp;omega)|(rw [hb_];simp;intros;omega)|(rw [hb_];simp +contextual;done)),?_⟩);subst hb_))
        have he:(Option.any (fun q=>decide (0<=pcmp q (l.getD i.toNat default).1)) (prevR l i))=(bif decide (0<i) then decide (0<=pcmp (l.getD (i-1).toNat default).1 (l.getD i.toNat default).1) else false):=by
          unfold prevR
          by_cases e:i=0
          · simp [e]
          · rw [if_neg e,Option.any_some];simp [show 0<i from by omega]
        rw [he]
        refine ifP_split (fun hd => ?_) (fun hd => ?_)
        · rw [if_pos hd]
        · rw [if_neg (by rw [hd];decide)]
          refine ifP_split (fun hr => ?_) (fun hr => ?_)
          · simp only [Bool.not_eq_true',decide_eq_false_iff_not] at hr
            rw [if_pos hr]
          · simp only [Bool.not_eq_false',decide_eq_true_eq] at hr
            rw [if_neg (fun h=>h hr)]
            refine ⟨i+1,⟨by omega,by omega,?_⟩,by omega,(by repeat' first|exact trivial|refine ⟨trivial,?_⟩|refine ⟨(by with_reducible rfl),?_⟩|refine ⟨w64 (by omega) (by omega),?_⟩|refine ⟨rfl,?_⟩)⟩
            rw [prevR,if_neg (by omega),show i+1-1=i from by omega]
    · have hi:=of_decide_eq_false hi
      rw [List.drop_eq_nil_of_le (by omega),chk]
theorem ok_fib_Check:SpecOK Tryz.prog GL 51 ct_fib_Check.spec:=Ct.okH _ Tryz.func51 (by kernel_rfl) (withSpec_ok (withSpec_ok (withSpec_ok noSpecs_ok ok_fib_right) ok_address_Valid) ok_address_Compare) hmix an_fib_Check (hideMp (by kernel_rfl) vc_fib_Check)
def ct_ref09_next:Ct:=⟨[.val (.sl cI),.val (.sl cI)],[.val .bool],fun _=>[],fun d=>((decide (nextOK d.1 d.2.1),()),())⟩
def an_ref09_next:PDs ct_ref09_next.ps->Anns:=(fun d=>{loops:=(fun n=>match n with|4=>some (fun S=>{ι:=Int,μ:=fun i=>(d.1.length-i).toNat,inv:=fun i=>0<=i/\i<=d.1.length∧∀ j:Nat,(j:Int)<i->nextAt d.1 d.2.1 j,keep:=[0,1],slots:=fun i=>[(5,.int .i64 i)],names:=fun i=>[]})|8=>some (fun S=>{ι:=Int×Bool,qn:=⟨fun k_=>∀ (k:Int) (f:Bool),k_ (k,f),fun k_ h_ i=>h_ i.1 i.2,fun k_=>∃ (k:Int) (f:Bool),k_ (k,f),fun k_ ⟨k,f,h_⟩=>⟨_,h_⟩⟩,μ:=fun i=>(d.2.1.length-i.1).toNat,inv:=fun i=>0<=i.1/\i.1<=d.2.1.length/\i.2=decide (d.1.getD (S.i 5).toNat default∈d.2.1.take i.1.toNat),keep:=[0,1,5],slots:=fun i=>[(6,.bool i.2),(7,.int .i64 i.1)],names:=fun i=>[]})|_=>none)})
theorem vc_ref09_next :
 ∀(a b:List Int),(a.length<=maxLen/\ ∀(c:Int),c∈a->R64 c)/\(b.length<=maxLen/\ ∀(c:Int),c∈b->R64 c)/\True->True->ifP (decide (16<(a.length:Int))) (false=decide (nextOK a b)) ((∃(c:Int),(0<=c/\c<=(a.length:Int)/\ ∀(d:Nat),(↑d:Int)<c->nextAt a b d)/\a=a/\b=b/\(0:Int)=c/\True)/\ ∀(c:Int),(0<=c/\c<=(a.length:Int)/\ ∀(d:Nat),(↑d:Int)<c->nextAt a b d)->ifP (decide (c<(a.length:Int))) ((∃(d:Int) (e:Bool),(0<=d/\d<=(b.length:Int)/\e=decide (a.getD c.toNat default∈List.take d.toNat b))/\a=a/\b=b/\c=c/\false=e/\(0:Int)=d/\True)/\ ∀(d:Int) (e:Bool),0<=d/\d<=(b.length:Int)/\e=decide (a.getD c.toNat default∈List.take d.toNat b)->ifP (decide (d<(b.length:Int))) (∀(f:Bool),f=e->((! f)->((! f)->(! f))/\((! f)->(! f))/\0<=d/\d<(b.length:Int)/\True)/\(Qbn6 f)/\((! f)->((! f)->(! f))/\((! f)->(! f))/\0<=c/\c<(a.length:Int)/\True)/\(Qbn6 f)/\((! f)->((! f)->(! f))/\((! f)->(! f))/\True)/\(f=false->(! f))/\
 ∃(g:Int) (h:Bool),(0<=g/\g<=(b.length:Int)/\h=decide (a.getD c.toNat default∈List.take g.toNat b))/\Int.toNat ((b.length:Int) -g)<Int.toNat ((b.length:Int) -d)/\a=a/\b=b/\c=c/\(bif f then true else decide (b.getD d.toNat default=a.getD c.toNat default))=h/\IntKind.wrap .i64 (d+(1:Int))=g/\True) (∀(f:Bool),f= ! e->(Qbn6 f)/\(Qbn6 f)/\ ∀(g:Bool),g=decide (0<c)->((! f&&g)->((! f&&g)->(! f&&g))/\True)/\((! f&&g)->((! f&&g)->(! f&&g))/\((! f&&g)->(! f&&g))/\0<=IntKind.wrap .i64 (c -(1:Int))/\IntKind.wrap .i64 (c -(1:Int))<(a.length:Int)/\True)/\((! f&&g)->((! f&&g)->(! f&&g))/\True)/\((! f&&g)->((! f&&g)->(! f&&g))/\((! f&&g)->(! f&&g))/\0<=c/\c<(a.length:Int)/\True)/\((! f&&g)->((! f&&g)->(! f&&g))/\True)/\((! f&&g)->((! f&&g)->(! f&&g))/\((! f&&g)->(! f&&g))/\True)/\((! f)->((! f)->(! f))/\(g->(! f&&g))/\True)/\(f=false->(! f))/\ifP (bif f then true else bif g then decide (a.getD c.toNat
 default<=a.getD (Int.toNat (IntKind.wrap .i64 (c -(1:Int)))) default) else false) (false=decide (nextOK a b)) (∃(h:Int),(0<=h/\h<=(a.length:Int)/\ ∀(i:Nat),(↑i:Int)<h->nextAt a b i)/\Int.toNat ((a.length:Int) -h)<Int.toNat ((a.length:Int) -c)/\a=a/\b=b/\IntKind.wrap .i64 (c+(1:Int))=h/\True))) (true=decide (nextOK a b))):=by
  delta Qbn6
  rintro l ks ⟨⟨hl,-⟩,⟨hk,-⟩,-⟩ -
  simp only [maxLen] at hl hk
  refine ifP_split (fun hb => ?_) (fun hb => ?_)
  · have hb:=of_decide_eq_true hb
    symm;apply decide_eq_false
    rintro ⟨h1,-⟩;omega
  · have hb:=of_decide_eq_false hb
    refine ⟨⟨0,⟨by omega,by omega,by omega⟩,(by repeat' first|exact trivial|refine ⟨trivial,?_⟩|refine ⟨(by with_reducible rfl),?_⟩|refine ⟨w64 (by omega) (by omega),?_⟩|refine ⟨rfl,?_⟩)⟩,?_⟩
    rintro i ⟨h0,h1,h2⟩
    refine ifP_split (fun hi => ?_) (fun hi => ?_)
    · have hi:=of_decide_eq_true hi
      refine ⟨⟨0,false,⟨by omega,by omega,by simp⟩,(by repeat' first|exact trivial|refine ⟨trivial,?_⟩|refine ⟨(by with_reducible rfl),?_⟩|refine ⟨w64 (by omega) (by omega),?_⟩|refine ⟨rfl,?_⟩)⟩,?_⟩
      rintro k f ⟨k0,k1,rfl⟩
      refine ifP_split (fun hc => ?_) (fun hc => ?_)
      · have hc:=of_decide_eq_true hc
        have e:(k+1).toNat=k.toNat+1:=by omega
        have hkk:k.toNat<ks.length:=by omega
        (repeat (intro (b_:Bool) (hb_:b_=_);(repeat refine ⟨(by first|(simp;done)|(rw [hb_];simp;done)|(rw [hb_];simp;omega)|(rw [hb_];simp;intros;omega)|(rw [hb_];simp +contextual;done)),?_⟩);subst hb_))
        refine ⟨k+1,_,⟨by omega,by omega,rfl⟩,by omega,rfl,rfl,rfl,?_,w64 (by omega) (by omega),(by repeat' first|exact trivial|refine ⟨trivial,?_⟩|refine ⟨(by with_reducible rfl),?_⟩|refine ⟨w64 (by omega) (by omega),?_⟩|refine ⟨rfl,?_⟩)⟩
        rw [e,List.take_succ_eq_append_getElem hkk,List.getD_eq_getElem?_getD (l:=ks),List.getElem?_eq_getElem hkk,Option.getD_some]
        generalize l.getD i.toNat default=v
        generalize ks[k.toNat]=u
        have:(v∈ks.take k.toNat++[u])↔(v∈ks.take k.toNat∨u=v):=by rw [List.mem_append,List.mem_singleton];exact or_congr Iff.rfl ⟨Eq.symm,Eq.symm⟩
        rw [show decide (v∈ks.take k.toNat++[u])=decide (v∈ks.take k.toNat∨u=v) from decide_eq_decide.2 this]
        by_cases hm:v∈ks.take k.toNat <;> simp [hm]
      · have hc:=of_decide_eq_false hc
        rw [List.take_of_length_le (by omega),w64 (n:=i-1) (by omega) (by omega)]
        (repeat (intro (b_:Bool) (hb_:b_=_);(repeat refine ⟨(by first|(simp;done)|(rw [hb_];simp;done)|(rw [hb_];simp;omega)|(rw [hb_];simp;intros;omega)|(rw [hb_];simp +contextual;done)),?_⟩);subst hb_))
        refine ifP_split (fun hc => ?_) (fun hc => ?_)
        · have hc:¬ nextAt l ks i.toNat:=by
            rintro ⟨k1,k2⟩
            simp [-List.getD_eq_getElem?_getD,-Int.default_eq_zero,Bool.cond_eq_ite] at hc
            rcases hc with hc|hc
            · exact hc k2
            · have:=k1 (by omega);omega
          symm;apply decide_eq_false
          rintro ⟨-,h3⟩;exact hc (h3 _ (by omega))
        · have hc:nextAt l ks i.toNat:=by
            simp [-List.getD_eq_getElem?_getD,-Int.default_eq_zero,Bool.cond_eq_ite] at hc
            refine nextAt_int h0 (fun hp => ?_) hc.1
            have:=hc.2 hp;omega
          exact ⟨i+1,⟨by omega,by omega,nextAt_succ h0 h2 hc⟩,by omega,(by repeat' first|exact trivial|refine ⟨trivial,?_⟩|refine ⟨(by with_reducible rfl),?_⟩|refine ⟨w64 (by omega) (by omega),?_⟩|refine ⟨rfl,?_⟩)⟩
    · have hi:=of_decide_eq_false hi
      symm;apply decide_eq_true
      exact ⟨by omega,fun j hj=>h2 j (by omega)⟩
theorem ok_ref09_next:SpecOK Tryz.prog GL 103 ct_ref09_next.spec:=Ct.okH _ Tryz.func103 (by kernel_rfl) noSpecs_ok hmix an_ref09_next (hideMp (by kernel_rfl) vc_ref09_next)
def ct_ref09_Check:Ct:=⟨[.val (.sl cRt),.val (.sl cI)],[.val cI],fun _=>[],fun d=>((check d.1 d.2.1,()),())⟩
def an_ref09_Check:PDs ct_ref09_Check.ps->Anns:=(fun d=>{loops:=(fun n=>match n with|4=>some (fun S=>{ι:=Int,μ:=fun i=>(d.1.length-i).toNat,inv:=fun i=>0<=i/\i<=d.1.length/\check d.1 d.2.1=chk d.2.1 (prevR d.1 i) (d.1.drop i.toNat),keep:=[0,1],slots:=fun i=>[(5,.int .i64 i)],names:=fun i=>[]})|_=>none)})
theorem vc_ref09_Check :
 ∀(a:List Route) (b:List Int),(Qbn4 a)/\(b.length<=maxLen/\ ∀(c:Int),c∈b->R64 c)/\True->True->ifP (decide (64<(Qbn1 a))) ((5:Int)=check a b) ((∃(c:Int),(0<=c/\(Qbn11 a b c))/\a=a/\b=b/\(0:Int)=c/\True)/\ ∀(c:Int),0<=c/\(Qbn11 a b c)->ifP (decide (c<(Qbn1 a))) (0<=c/\c<(Qbn1 a)/\ifP (! pValid (a.getD c.toNat default).1) ((10:Int)=check a b) (∀(d:Bool),d=decide (0<c)->(d->(d->d)/\True)/\(d->(d->d)/\(d->d)/\0<=IntKind.wrap .i64 (c -(1:Int))/\IntKind.wrap .i64 (c -(1:Int))<(Qbn1 a)/\True)/\(d->(d->d)/\True)/\(d->(d->d)/\True)/\(d->(d->d)/\(d->d)/\0<=c/\c<(Qbn1 a)/\True)/\(d->(d->d)/\True)/\(d->(d->d)/\True)/\(d->(d->d)/\(d->d)/\True)/\(d->(d->d)/\True)/\(d->d)/\ifP (Qbn14 a c d) ((6:Int)=check a b) (0<=c/\c<(Qbn1 a)/\ ∀(e:Bool),e= ! decide (nextOK (a.getD c.toNat default).2.1 b)->((! e)->((! e)->(! e))/\((! e)->(! e))/\0<=c/\c<(Qbn1 a)/\True)/\((! e)->((! e)->(! e))/\True)/\((! e)->((! e)->(!
 e))/\True)/\((! e)->((! e)->(! e))/\True)/\(e=false->(! e))/\ ∀(f:Bool),(f=bif e then true else decide ((a.getD c.toNat default).2.2<1))->((! f)->((! f)->(! f))/\((! f)->(! f))/\0<=c/\c<(Qbn1 a)/\True)/\(Qbn6 f)/\(Qbn6 f)/\(Qbn6 f)/\(f=false->(! f))/\ifP (bif f then true else decide (3<(a.getD c.toNat default).2.2)) ((12:Int)=check a b) (∃(g:Int),(0<=g/\g<=(Qbn1 a)/\check a b=chk b (prevR a g) (List.drop g.toNat a))/\Int.toNat ((Qbn1 a) -g)<Int.toNat ((Qbn1 a) -c)/\a=a/\b=b/\IntKind.wrap .i64 (c+(1:Int))=g/\True)))) ((0:Int)=check a b)):=by
  delta Qbn1 Qbn4 Qbn6 Qbn11 Qbn14
  rintro l ks ⟨⟨hl,-⟩,-⟩ -
  simp only [maxLen] at hl
  refine ifP_split (fun hb => ?_) (fun hb => ?_)
  · rw [check,if_pos (of_decide_eq_true hb)]
  · have hb:=of_decide_eq_false hb
    refine ⟨⟨0,⟨by omega,by omega,by rw [check,if_neg hb];rfl⟩,(by repeat' first|exact trivial|refine ⟨trivial,?_⟩|refine ⟨(by with_reducible rfl),?_⟩|refine ⟨w64 (by omega) (by omega),?_⟩|refine ⟨rfl,?_⟩)⟩,?_⟩
    rintro i ⟨h0,h1,h2⟩
    rw [h2]
    refine ifP_split (fun hi => ?_) (fun hi => ?_)
    · have hi:=of_decide_eq_true hi
      rw [chk_at h0 hi,w64 (n:=i-1) (by omega) (by omega)]
      refine ⟨h0,hi,ifP_split (fun hc => ?_) (fun hc => ?_)⟩
      · simp only [Bool.not_eq_true'] at hc
        rw [if_pos hc]
      · simp only [Bool.not_eq_false'] at hc
        rw [if_neg (by simp [-List.getD_eq_getElem?_getD,-Int.default_eq_zero,hc])]
        (repeat (intro (b_:Bool) (hb_:b_=_);(repeat refine ⟨(by first|(simp;done)|(rw [hb_];simp;done)|(rw [hb_];simp;omega)|(rw [hb_];simp;intros;omega)|(rw [hb_];simp +contextual;done)),?_⟩);subst hb_))
        have he:(Option.any (fun q=>decide (0<=pcmp q (l.getD i.toNat default).1)) (prevR l i))=(bif decide (0<i) then decide (0<=pcmp (l.getD (i-1).toNat default).1 (l.getD i.toNat default).1) else false):=by
          unfold prevR
          by_cases e:i=0
          · simp [e]
          · rw [if_neg e,Option.any_some];simp [show 0<i from by omega]
        rw [he]
        refine ifP_split (fun hd => ?_) (fun hd => ?_)
        · rw [if_pos hd]
        · rw [if_neg (by rw [hd];decide)]
          refine ⟨h0,hi,?_⟩
          (repeat (intro (b_:Bool) (hb_:b_=_);(repeat refine ⟨(by first|(simp;done)|(rw [hb_];simp;done)|(rw [hb_];simp;omega)|(rw [hb_];simp;intros;omega)|(rw [hb_];simp +contextual;done)),?_⟩);subst hb_))
          refine ifP_split (fun hr => ?_) (fun hr => ?_)
          · have hr:¬ rightR (l.getD i.toNat default) ks:=by
              rintro ⟨r1,r2,r3⟩
              simp [-List.getD_eq_getElem?_getD,-Int.default_eq_zero,Bool.cond_eq_ite] at hr
              rcases hr with (hr|hr)|hr
              · exact hr r1
              · omega
              · omega
            rw [if_pos hr]
          · have hr:rightR (l.getD i.toNat default) ks:=by
              simp [-List.getD_eq_getElem?_getD,-Int.default_eq_zero,Bool.cond_eq_ite] at hr
              exact ⟨hr.1.1,by omega,by omega⟩
            rw [if_neg (fun h=>h hr)]
            refine ⟨i+1,⟨by omega,by omega,?_⟩,by omega,(by repeat' first|exact trivial|refine ⟨trivial,?_⟩|refine ⟨(by with_reducible rfl),?_⟩|refine ⟨w64 (by omega) (by omega),?_⟩|refine ⟨rfl,?_⟩)⟩
            rw [prevR,if_neg (by omega),show i+1-1=i from by omega]
    · have hi:=of_decide_eq_false hi
      rw [List.drop_eq_nil_of_le (by omega),chk]
theorem ok_ref09_Check:SpecOK Tryz.prog GL 56 ct_ref09_Check.spec:=Ct.okH _ Tryz.func56 (by kernel_rfl) (withSpec_ok (withSpec_ok (withSpec_ok noSpecs_ok ok_ref09_next) ok_ref01_Valid) ok_ref01_Compare) hmix an_ref09_Check (hideMp (by kernel_rfl) vc_ref09_Check)
theorem take_at {l:List Rt} {i:Int} (h0:0<=i) (h1:i<l.length):l.take (i+1).toNat=l.take i.toNat++[l.getD i.toNat default]:=by
  have hj:i.toNat<l.length:=by omega
  rw [show (i+1).toNat=i.toNat+1 from by omega,List.take_succ_eq_append_getElem hj,List.getD_eq_getElem?_getD,List.getElem?_eq_getElem hj,Option.getD_some]
theorem putL_lo {m:List Rt} {r:Rt} (h:∀ z∈m,plt z.1 r.1):putL m r=m++[r]:=by
  rw [putL,List.filter_eq_self.2 (fun z hz=>decide_eq_true (h z hz)),List.filter_eq_nil_iff.2 (fun z hz=>by simpa using plt_asymm (h z hz))]
theorem putL_snoc {m:List Rt} {r e:Rt} (h:plt r.1 e.1):putL (m++[e]) r=putL m r++[e]:=by
  rw [putL,putL,List.filter_append,List.filter_append,List.filter_cons,if_neg (by simpa using plt_asymm h),List.filter_cons,if_pos (by simpa using h)]
  simp
theorem putL_same {m:List Rt} {r e:Rt} (h:∀ z∈m,plt z.1 r.1) (he:e.1=r.1):putL (m++[e]) r=m++[r]:=by
  have hi:¬ plt e.1 r.1:=by rw [he];exact plt_irrefl _
  have hj:¬ plt r.1 e.1:=by rw [he];exact plt_irrefl _
  have f1:m.filter (fun a=>decide (plt a.1 r.1))=m:=List.filter_eq_self.2 (fun z hz=>decide_eq_true (h z hz))
  have f2:m.filter (fun a=>decide (plt r.1 a.1))=[]:=List.filter_eq_nil_iff.2 (fun z hz=>by simpa using plt_asymm (h z hz))
  simp [putL,f1,f2,hi,hj]
theorem later {l:List Rt} {p:Pfx} {i:Int} (hs:sortedR l) (h0:0<=i) (h1:i<l.length) {z:Rt} (hz:z∈l.take i.toNat) (hp:¬ plt z.1 p):plt p (l.getD i.toNat default).1:=by
  have hsp:=place_split h0 h1
  unfold sortedR at hs
  rw [hsp] at hs
  have:=(List.pairwise_append.1 hs).2.2 z hz _ List.mem_cons_self
  rcases plt_total hp with e|h
  · rw [← e];exact this
  · exact plt_trans h this
def ct_ref09_Put:Ct:=⟨[.val (.sl cRt),.agg cRt],[.own 87 cRt],fun d=>[sortedR d.1,okL d.1,(d.2.1.2.1.length:Int)<=1099511627776],fun d=>((putL d.1 d.2.1,()),())⟩
def an_ref09_Put:PDs ct_ref09_Put.ps->Anns:=(fun d=>{loops:=(fun n=>match n with|4=>some (fun S=>{ι:=Int×Bool×(List Rt),qn:=⟨fun k_=>∀ (i:Int) (dn:Bool) (ys:(List Rt)),k_ (i,dn,ys),fun k_ h_ i=>h_ i.1 i.2.1 i.2.2,fun k_=>∃ (i:Int) (dn:Bool) (ys:(List Rt)),k_ (i,dn,ys),fun k_ ⟨i,dn,ys,h_⟩=>⟨_,h_⟩⟩,μ:=fun i=>(d.1.length-i.1).toNat,inv:=fun i=>0<=i.1/\i.1<=d.1.length/\(i.2.2.length:Int)<=i.1+1/\(i.2.1=false->(∀ z∈d.1.take i.1.toNat,plt z.1 d.2.1.1)/\i.2.2=d.1.take i.1.toNat)/\(i.2.1=true->(∃ z∈d.1.take i.1.toNat,¬ plt z.1 d.2.1.1)/\i.2.2=putL (d.1.take i.1.toNat) d.2.1),keep:=[0,3],slots:=fun i=>[(5,.own 524288 4),(6,.bool i.2.1),(7,.int .i64 i.1)],keepN:=[64],names:=fun i=>[(524288,.live (.row 87 cRt i.2.2))]})|_=>none)})
def Qbn0 (a:List Route) (b c:Int) (d:List Int) (e j:Int) (k:Bool) (l:List Rt) :=
 0<=j/\j<=(Qbn1 a)/\(l.length:Int)<=j+(1:Int)/\(k=false->(∀(m:Route),m∈List.take j.toNat a->plt m.1 (b,c))/\l=List.take j.toNat a)/\(k=true->(∃(m:Route),m∈List.take j.toNat a/\ ¬plt m.1 (b,c))/\l=putL (List.take j.toNat a) ((b,c),d,e))
def Qbn10 (a:List Route) (b c:Int) (d:List Int) (e f:Int) (g:Bool) (h:List Rt) :=
 f<=(Qbn1 a)/\(h.length:Int)<=f+(1:Int)/\(g=false->(∀(i:Route),i∈List.take f.toNat a->plt i.1 (b,c))/\h=List.take f.toNat a)/\(g=true->(∃(i:Route),i∈List.take f.toNat a/\ ¬plt i.1 (b,c))/\h=putL (List.take f.toNat a) ((b,c),d,e))
theorem vc_ref09_Put :
 ∀(a:List Route) (b c:Int) (d:List Int) (e:Int),(a.length<=maxLen/\ ∀(f:Route),f∈a->((0<=f.1.1/\f.1.1<=4294967295)/\R64 f.1.2)/\(f.2.1.length<=maxLen/\ ∀(g:Int),g∈f.2.1->R64 g)/\R64 f.2.2)/\(((0<=b/\b<=4294967295)/\R64 c)/\(d.length<=maxLen/\ ∀(f:Int),f∈d->R64 f)/\R64 e)/\True->sortedR a/\okL a/\(d.length:Int)<=1099511627776->(∃(f:Int) (g:Bool),∃(h:List Rt),(0<=f/\(Qbn10 a b c d e f g h))/\a=a/\false=g/\(0:Int)=f/\b=b/\c=c/\d=d/\e=e/\h=([]:List Route)/\True)/\ ∀(f:Int) (g:Bool) (h:List Rt),0<=f/\(Qbn10 a b c d e f g h)->ifP (decide (f<(Qbn1 a))) (0<=f/\f<(Qbn1 a)/\ ∀(i:Bool),i=decide (0<=pcmp (a.getD f.toNat default).1 (b,c))->(i->(i->i)/\True)/\(i->i)/\ifP (bif i then ! g else false) ((d.length:Int)<=1099511627776/\(h.length+List.length [((b,c),d,e)])*(48:Nat)<=(140737488355328:Nat)/\ifP (! decide (pcmp (a.getD f.toNat default).1 (b,c)=0)) (0<=f/\f<(Qbn1 a)/\((List.length (a.getD f.toNat
 default).2.1):Int)<=1099511627776/\(List.length (h++[((b,c),d,e)])+List.length [a.getD f.toNat default])*(48:Nat)<=(140737488355328:Nat)/\ ∃(j:Int) (k:Bool),∃(l:List Rt),(Qbn0 a b c d e j k l)/\Int.toNat ((Qbn1 a) -j)<Int.toNat ((Qbn1 a) -f)/\a=a/\true=k/\IntKind.wrap .i64 (f+(1:Int))=j/\b=b/\c=c/\d=d/\e=e/\h++[((b,c),d,e)]++[a.getD f.toNat default]=l/\True) (∃(j:Int) (k:Bool),∃(l:List Rt),(Qbn0 a b c d e j k l)/\Int.toNat ((Qbn1 a) -j)<Int.toNat ((Qbn1 a) -f)/\a=a/\true=k/\IntKind.wrap .i64 (f+(1:Int))=j/\b=b/\c=c/\d=d/\e=e/\h++[((b,c),d,e)]=l/\True)) (ifP (! decide (pcmp (a.getD f.toNat default).1 (b,c)=0)) (0<=f/\f<(Qbn1 a)/\((List.length (a.getD f.toNat default).2.1):Int)<=1099511627776/\(h.length+List.length [a.getD f.toNat default])*(48:Nat)<=(140737488355328:Nat)/\ ∃(j:Int) (k:Bool),∃(l:List Rt),(Qbn0 a b c d e j k l)/\Int.toNat ((Qbn1 a) -j)<Int.toNat ((Qbn1 a)
 -f)/\a=a/\g=k/\IntKind.wrap .i64 (f+(1:Int))=j/\b=b/\c=c/\d=d/\e=e/\h++[a.getD f.toNat default]=l/\True) (∃(j:Int) (k:Bool),∃(l:List Rt),(Qbn0 a b c d e j k l)/\Int.toNat ((Qbn1 a) -j)<Int.toNat ((Qbn1 a) -f)/\a=a/\g=k/\IntKind.wrap .i64 (f+(1:Int))=j/\b=b/\c=c/\d=d/\e=e/\h=l/\True))) (ifP (! g) ((d.length:Int)<=1099511627776/\(h.length+List.length [((b,c),d,e)])*(48:Nat)<=(140737488355328:Nat)/\h++[((b,c),d,e)]=putL a ((b,c),d,e)) (h=putL a ((b,c),d,e))):=by
  delta Qbn0 Qbn1 Qbn10
  rintro l a n nx b ⟨⟨hl0,-⟩,-⟩ ⟨hs,⟨hl,hx⟩,hn⟩
  refine ⟨⟨0,false,[],⟨by omega,by omega,by simp,fun _=>by simp,fun h=>by simp at h⟩,(by repeat' first|exact trivial|refine ⟨trivial,?_⟩|refine ⟨(by with_reducible rfl),?_⟩|refine ⟨w64 (by omega) (by omega),?_⟩|refine ⟨rfl,?_⟩)⟩,?_⟩
  rintro i dn ys ⟨h0,h1,h2,h3,h4⟩
  refine ifP_split (fun hi => ?_) (fun hi => ?_)
  · have hi:=of_decide_eq_true hi
    have ht:=take_at h0 hi
    have hxi:=hx _ (getD_mem h0 hi)
    have hlt:∀ (z:Rt),z∈l.take i.toNat->z∈l.take (i+1).toNat:=fun z hz=>by rw [ht];exact List.mem_append_left _ hz
    have hsi:l.getD i.toNat default∈l.take (i+1).toNat:=by rw [ht];simp [-List.getD_eq_getElem?_getD,-Int.default_eq_zero]
    have hlater:=fun z hz hp=>later (p:=(a,n)) (z:=z) hs h0 hi hz hp
    generalize l.getD i.toNat default=e at *
    refine ⟨h0,hi,?_⟩
    (repeat (intro (b_:Bool) (hb_:b_=_);(repeat refine ⟨(by first|(simp;done)|(rw [hb_];simp;done)|(rw [hb_];simp;omega)|(rw [hb_];simp;intros;omega)|(rw [hb_];simp +contextual;done)),?_⟩);subst hb_))
    refine ifP_split (fun hc => ?_) (fun hc => ?_)
    · have hq:¬ plt e.1 (a,n)/\dn=false:=by rw [← pcmp_nonneg];simpa [Bool.cond_eq_ite] using hc
      clear hc
      obtain ⟨hc,rfl⟩:=hq
      obtain ⟨k1,rfl⟩:=h3 rfl
      refine ⟨hn,by simp only [List.length_singleton];omega,ifP_split (fun hz => ?_) (fun hz => ?_)⟩
      · have hz:¬ pcmp e.1 (a,n)=0:=by simpa using hz
        have hgt:plt (a,n) e.1:=by
          rcases plt_total hc with h|h
          · exact absurd (pcmp_zero.2 h) hz
          · exact h
        refine ⟨h0,hi,hxi,by simp only [List.length_append,List.length_singleton];omega,i+1,true,_,⟨by omega,by omega,?_,by simp,fun _=>⟨⟨e,hsi,hc⟩,rfl⟩⟩,by omega,rfl,rfl,w64 (by omega) (by omega),rfl,rfl,rfl,rfl,?_,trivial⟩
        · rw [ht,putL_snoc hgt,putL_lo k1];simp only [List.length_append,List.length_singleton,List.length_take];omega
        · rw [ht,putL_snoc hgt,putL_lo k1]
      · have hz:pcmp e.1 (a,n)=0:=by simpa using hz
        have hz:=pcmp_zero.1 hz
        refine ⟨i+1,true,_,⟨by omega,by omega,?_,by simp,fun _=>⟨⟨e,hsi,hc⟩,rfl⟩⟩,by omega,rfl,rfl,w64 (by omega) (by omega),rfl,rfl,rfl,rfl,?_,trivial⟩
        · rw [ht,putL_same k1 hz];simp only [List.length_append,List.length_singleton,List.length_take];omega
        · rw [ht,putL_same k1 hz]
    · have hc:¬ (¬ plt e.1 (a,n)/\dn=false):=by rw [← pcmp_nonneg];simpa [Bool.cond_eq_ite] using hc
      cases dn with
      | false =>
        have hc:plt e.1 (a,n):=Classical.byContradiction fun h=>hc ⟨h,rfl⟩
        obtain ⟨k1,rfl⟩:=h3 rfl
        have hz:¬ pcmp e.1 (a,n)=0:=by have:=pcmp_neg.2 hc;omega
        rw [decide_eq_false hz]
        refine ⟨h0,hi,hxi,by simp only [List.length_singleton];omega,i+1,false,_,⟨by omega,by omega,?_,fun _=>⟨?_,rfl⟩,by simp⟩,by omega,rfl,rfl,w64 (by omega) (by omega),rfl,rfl,rfl,rfl,ht.symm,trivial⟩
        · simp only [List.length_take];omega
        · rw [ht];intro z hz
          rcases List.mem_append.1 hz with hz|hz
          · exact k1 z hz
          · rw [List.mem_singleton.1 hz];exact hc
      | true =>
        obtain ⟨⟨z,z1,z2⟩,rfl⟩:=h4 rfl
        have hgt:=hlater z z1 z2
        have hz:¬ pcmp e.1 (a,n)=0:=fun h=>by have h:=pcmp_zero.1 h;rw [h] at hgt;exact plt_irrefl _ hgt
        rw [decide_eq_false hz]
        have hp:=putL_snoc (m:=l.take i.toNat) (r:=((a,n),nx,b)) hgt
        refine ⟨h0,hi,hxi,by simp only [List.length_singleton];omega,i+1,true,_,⟨by omega,by omega,?_,by simp,fun _=>⟨⟨z,hlt z z1,z2⟩,rfl⟩⟩,by omega,rfl,rfl,w64 (by omega) (by omega),rfl,rfl,rfl,rfl,?_,trivial⟩
        · rw [ht,hp,List.length_append,List.length_singleton];omega
        · rw [ht,hp]
  · have hi:=of_decide_eq_false hi
    rw [List.take_of_length_le (by omega)] at h3 h4
    refine ifP_split (fun hd => ?_) (fun hd => ?_)
    · obtain ⟨k1,rfl⟩:=h3 (by simpa using hd)
      exact ⟨hn,by simp only [List.length_singleton];omega,(putL_lo k1).symm⟩
    · exact (h4 (by simpa using hd)).2
theorem ok_ref09_Put:SpecOK Tryz.prog GL 145 ct_ref09_Put.spec:=Ct.okH _ Tryz.func145 (by kernel_rfl) (withSpec_ok (withSpec_ok noSpecs_ok ok_ref09_copied) ok_ref01_Compare) hmix an_ref09_Put (hideMp (by kernel_rfl) vc_ref09_Put)
theorem removeL_snoc {m:List Rt} {p:Pfx} {e:Rt}:removeL (m++[e]) p=removeL m p++(if e.1=p then [] else [e]):=by
  rw [removeL,removeL,List.filter_append,List.filter_cons,List.filter_nil]
  by_cases h:e.1=p <;> simp [h]
theorem removeL_le (m:List Rt) (p:Pfx):(removeL m p).length<=m.length:=List.length_filter_le _ _
def ct_ref09_Remove:Ct:=⟨[.val (.sl cRt),.agg cPfx],[.own 87 cRt],fun d=>[okL d.1],fun d=>((removeL d.1 d.2.1,()),())⟩
def an_ref09_Remove:PDs ct_ref09_Remove.ps->Anns:=(fun d=>{loops:=(fun n=>match n with|3=>some (fun S=>{ι:=Int×(List Rt),qn:=⟨fun k_=>∀ (i:Int) (ys:(List Rt)),k_ (i,ys),fun k_ h_ i=>h_ i.1 i.2,fun k_=>∃ (i:Int) (ys:(List Rt)),k_ (i,ys),fun k_ ⟨i,ys,h_⟩=>⟨_,h_⟩⟩,μ:=fun i=>(d.1.length-i.1).toNat,inv:=fun i=>0<=i.1/\i.1<=d.1.length/\i.2=removeL (d.1.take i.1.toNat) d.2.1,keep:=[0,3],slots:=fun i=>[(5,.own 524288 4),(6,.int .i64 i.1)],keepN:=[64],names:=fun i=>[(524288,.live (.row 87 cRt i.2))]})|_=>none)})
theorem vc_ref09_Remove :
 ∀(a:List Route) (b c:Int),(Qbn2 a)/\((0<=b/\b<=4294967295)/\R64 c)/\True->((Qbn1 a)<=134217728/\ ∀(d:Rt),d∈a->(d.2.1.length:Int)<=1099511627776)->(∃(d:Int) (e:List Rt),(0<=d/\d<=(Qbn1 a)/\e=removeL (List.take d.toNat a) (b,c))/\a=a/\(0:Int)=d/\b=b/\c=c/\e=([]:List Route)/\True)/\ ∀(d:Int) (e:List Rt),0<=d/\d<=(Qbn1 a)/\e=removeL (List.take d.toNat a) (b,c)->ifP (decide (d<(Qbn1 a))) (0<=d/\d<(Qbn1 a)/\ifP (! (decide ((a.getD d.toNat default).1.1=b)&&(decide ((a.getD d.toNat default).1.2=c)&&true))) (0<=d/\d<(Qbn1 a)/\((List.length (a.getD d.toNat default).2.1):Int)<=1099511627776/\(e.length+List.length [a.getD d.toNat default])*(48:Nat)<=(140737488355328:Nat)/\ ∃(f:Int) (g:List Rt),(0<=f/\f<=(Qbn1 a)/\g=removeL (List.take f.toNat a) (b,c))/\Int.toNat ((Qbn1 a) -f)<Int.toNat ((Qbn1 a) -d)/\a=a/\IntKind.wrap .i64 (d+(1:Int))=f/\b=b/\c=c/\e++[a.getD d.toNat default]=g/\True) (∃(f:Int)
 (g:List Rt),(0<=f/\f<=(Qbn1 a)/\g=removeL (List.take f.toNat a) (b,c))/\Int.toNat ((Qbn1 a) -f)<Int.toNat ((Qbn1 a) -d)/\a=a/\IntKind.wrap .i64 (d+(1:Int))=f/\b=b/\c=c/\e=g/\True)) (e=removeL a (b,c)):=by
  delta Qbn1 Qbn2
  rintro l a n ⟨⟨hl0,-⟩,-⟩ ⟨hl,hx⟩
  refine ⟨⟨0,[],⟨by omega,by omega,by simp [removeL]⟩,(by repeat' first|exact trivial|refine ⟨trivial,?_⟩|refine ⟨(by with_reducible rfl),?_⟩|refine ⟨w64 (by omega) (by omega),?_⟩|refine ⟨rfl,?_⟩)⟩,?_⟩
  rintro i ys ⟨h0,h1,rfl⟩
  refine ifP_split (fun hi => ?_) (fun hi => ?_)
  · have hi:=of_decide_eq_true hi
    have ht:=take_at h0 hi
    have hxi:=hx _ (getD_mem h0 hi)
    have hle:=removeL_le (l.take i.toNat) (a,n)
    have hle2:(l.take i.toNat).length<=l.length:=by simp only [List.length_take];omega
    generalize l.getD i.toNat default=e at *
    obtain ⟨⟨c,f⟩,g⟩:=e
    refine ⟨h0,hi,ifP_split (fun hc => ?_) (fun hc => ?_)⟩
    · have hc:¬ (c,f)=(a,n):=by
        intro h;cases h;simp at hc
      refine ⟨h0,hi,hxi,by simp only [List.length_singleton];omega,i+1,_,⟨by omega,by omega,rfl⟩,by omega,rfl,w64 (by omega) (by omega),rfl,rfl,?_,trivial⟩
      rw [ht,removeL_snoc,if_neg hc]
    · have hc:(c,f)=(a,n):=by
        simp at hc;rw [hc.1,hc.2]
      refine ⟨i+1,_,⟨by omega,by omega,rfl⟩,by omega,rfl,w64 (by omega) (by omega),rfl,rfl,?_,trivial⟩
      rw [ht,removeL_snoc,if_pos hc,List.append_nil]
  · have hi:=of_decide_eq_false hi
    rw [List.take_of_length_le (by omega)]
theorem ok_ref09_Remove:SpecOK Tryz.prog GL 182 ct_ref09_Remove.spec:=Ct.okH _ Tryz.func182 (by kernel_rfl) (withSpec_ok noSpecs_ok ok_ref09_copied) hmix an_ref09_Remove (hideMp (by kernel_rfl) vc_ref09_Remove)
def hasL (l:List Rt) (p:Pfx):Bool:=decide ((removeL l p).length<l.length)
def ct_ref09_Has:Ct:=⟨[.val (.sl cRt),.agg cPfx],[.val .bool],fun d=>[okL d.1],fun d=>((hasL d.1 d.2.1,()),())⟩
def an_ref09_Has:PDs ct_ref09_Has.ps->Anns:=(fun _=>{})
theorem vc_ref09_Has :
 ∀(a:List Route) (b c:Int),(Qbn2 a)/\((0<=b/\b<=4294967295)/\R64 c)/\True->((Qbn1 a)<=134217728/\ ∀(d:Rt),d∈a->(d.2.1.length:Int)<=1099511627776)->okL a/\decide (((List.length (removeL a (b,c))):Int)<(Qbn1 a))=hasL a (b,c):=by
  delta Qbn1 Qbn2
  rintro l a n-h
  exact ⟨h,decide_eq_decide.2 Int.ofNat_lt⟩
theorem ok_ref09_Has:SpecOK Tryz.prog GL 144 ct_ref09_Has.spec:=Ct.okH _ Tryz.func144 (by kernel_rfl) (withSpec_ok noSpecs_ok ok_ref09_Remove) hmix an_ref09_Has (hideMp (by kernel_rfl) vc_ref09_Has)
end Go.RS

/- Law09: the laws of forwarding tables. -/
namespace Go.RS
open Go.SX Go.Proofs
set_option maxRecDepth 100000
set_option linter.unusedVariables false
theorem putL_mem {l:List Rt} {r z:Rt}:z∈putL l r↔z=r∨(z∈l/\z.1≠r.1):=by
  unfold putL
  simp only [List.mem_append,List.mem_cons,List.mem_filter,decide_eq_true_eq]
  constructor
  · rintro (⟨h,k⟩|h|⟨h,k⟩)
    · exact .inr ⟨h,fun e=>plt_irrefl _ (e▸k)⟩
    · exact .inl h
    · exact .inr ⟨h,fun e=>plt_irrefl _ (e▸k)⟩
  · rintro (h|⟨h,k⟩)
    · exact .inr (.inl h)
    · by_cases hp:plt z.1 r.1
      · exact .inl ⟨h,hp⟩
      · rcases plt_total hp with e|e
        · exact absurd e k
        · exact .inr (.inr ⟨h,e⟩)
theorem putL_sorted {l:List Rt} {r:Rt} (hs:sortedR l):sortedR (putL l r):=by
  unfold sortedR putL
  refine List.pairwise_append.2 ⟨List.Pairwise.filter _ hs,List.pairwise_cons.2 ⟨fun z hz => ?_,List.Pairwise.filter _ hs⟩,fun x hx y hy => ?_⟩
  · simpa using (List.mem_filter.1 hz).2
  · have hx:plt x.1 r.1:=by simpa using (List.mem_filter.1 hx).2
    rcases List.mem_cons.1 hy with rfl|hy
    · exact hx
    · exact plt_trans hx (by simpa using (List.mem_filter.1 hy).2)
end Go.RS

/- Bucket: buckets and their laws' times. -/
namespace Go.RS
open Go.SX Go.Proofs
set_option maxRecDepth 100000
set_option linter.unusedVariables false
abbrev w (n:Int):Int:=IntKind.i64.wrap n
def bFull (b:Int×Int) (at':Int):Int×Int:=(w (b.1*b.2),at')
def bCredit (b t:Int×Int) (at':Int):Int:=min (w (t.1+w (at'-t.2))) (w (b.1*b.2))
def bTake (b t:Int×Int) (at':Int):(Int×Int)×Bool :=
  if b=(0,0) then ((0,max at' t.2),true) else
    if bCredit b t (max at' t.2)<b.2 then ((bCredit b t (max at' t.2),max at' t.2),false) else ((w (bCredit b t (max at' t.2)-b.2),max at' t.2),true)
def ct_bucket_unlimited:Ct:=⟨[.agg cBucket],[.val .bool],fun _=>[],fun d=>((decide (d.1=(0,0)),()),())⟩
def an_bucket_unlimited:PDs ct_bucket_unlimited.ps->Anns:=(fun _=>{})
theorem vc_bucket_unlimited :
 ∀(a b:Int),(R64 a/\R64 b)/\True->True->(decide (a=0)&&(decide (b=0)&&true))=decide ((a,b)=((0:Int),(0:Int))):=by
  rintro x y - -
  simp
theorem ok_bucket_unlimited:SpecOK Tryz.prog GL 96 ct_bucket_unlimited.spec:=Ct.okH _ Tryz.func96 (by kernel_rfl) noSpecs_ok hmix an_bucket_unlimited (hideMp (by kernel_rfl) vc_bucket_unlimited)
def ct_bucket_credit:Ct:=⟨[.agg cBucket,.agg cTokens,.val cI],[.val cI],fun _=>[],fun d=>((bCredit d.1 d.2.1 d.2.2.1,()),())⟩
def an_bucket_credit:PDs ct_bucket_credit.ps->Anns:=(fun _=>{})
theorem vc_bucket_credit :
 ∀(a b c d e:Int),(R64 a/\R64 b)/\(R64 c/\R64 d)/\R64 e/\True->True->min (IntKind.wrap .i64 (c+IntKind.wrap .i64 (e -d))) (IntKind.wrap .i64 (a*b))=bCredit (a,b) (c,d) e:=by
  rintro x y a b c - -
  rfl
theorem ok_bucket_credit:SpecOK Tryz.prog GL 210 ct_bucket_credit.spec:=Ct.okH _ Tryz.func210 (by kernel_rfl) noSpecs_ok hmix an_bucket_credit (hideMp (by kernel_rfl) vc_bucket_credit)
def ct_bucket_Full:Ct:=⟨[.agg cBucket,.val cI],[.agg cTokens],fun _=>[],fun d=>((bFull d.1 d.2.1,()),())⟩
def an_bucket_Full:PDs ct_bucket_Full.ps->Anns:=(fun _=>{})
theorem vc_bucket_Full :
 ∀(a b c:Int),(R64 a/\R64 b)/\R64 c/\True->True->(IntKind.wrap .i64 (a*b),c)=(w (a*b),c):=by
  rintro x y a - -
  rfl
theorem ok_bucket_Full:SpecOK Tryz.prog GL 62 ct_bucket_Full.spec:=Ct.okH _ Tryz.func62 (by kernel_rfl) noSpecs_ok hmix an_bucket_Full (hideMp (by kernel_rfl) vc_bucket_Full)
def ct_bucket_Take:Ct:=⟨[.agg cBucket,.agg cTokens,.val cI],[.agg cTokens,.val .bool],fun _=>[],fun d=>(((bTake d.1 d.2.1 d.2.2.1).1,(bTake d.1 d.2.1 d.2.2.1).2,()),())⟩
def an_bucket_Take:PDs ct_bucket_Take.ps->Anns:=(fun _=>{})
theorem vc_bucket_Take :
 ∀(a b c d e:Int),(R64 a/\R64 b)/\(R64 c/\R64 d)/\R64 e/\True->True->ifP (decide ((a,b)=((0:Int),(0:Int)))) (((0:Int),max e d)=(bTake (a,b) (c,d) e).1/\true=(bTake (a,b) (c,d) e).2) (ifP (decide (bCredit (a,b) (c,d) (max e d)<b)) ((bCredit (a,b) (c,d) (max e d),max e d)=(bTake (a,b) (c,d) e).1/\false=(bTake (a,b) (c,d) e).2) ((IntKind.wrap .i64 (bCredit (a,b) (c,d) (max e d) -b),max e d)=(bTake (a,b) (c,d) e).1/\true=(bTake (a,b) (c,d) e).2)):=by
  rintro x y a b c - -
  simp only [bTake]
  refine ifP_split (fun hb => ?_) (fun hb => ?_)
  · have hb:=of_decide_eq_true hb
    rw [if_pos hb];exact ⟨rfl,rfl⟩
  · have hb:=of_decide_eq_false hb
    rw [if_neg hb]
    refine ifP_split (fun h => ?_) (fun h => ?_)
    · rw [if_pos (of_decide_eq_true h)];exact ⟨rfl,rfl⟩
    · rw [if_neg (of_decide_eq_false h)];exact ⟨rfl,rfl⟩
theorem ok_bucket_Take:SpecOK Tryz.prog GL 193 ct_bucket_Take.spec:=Ct.okH _ Tryz.func193 (by kernel_rfl) (withSpec_ok (withSpec_ok noSpecs_ok ok_bucket_unlimited) ok_bucket_credit) hmix an_bucket_Take (hideMp (by kernel_rfl) vc_bucket_Take)
end Go.RS
