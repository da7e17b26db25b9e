/- Reply: answers. -/
import Derived.Test.YtfgcoeablgoccaaGreatDoorAddr
import Derived.Test.YtfgcoeablgoccaaGreatDoorTransp
namespace Go.RS
open Go.SX Go.Proofs
set_option maxRecDepth 100000
set_option linter.unusedVariables false
abbrev Ans:Type:=Int×Int×Int×Int×Int×Int
def ans0:Ans:=(0,0,0,0,0,0)
def special (a:Int):Int :=
  if a/16777216=0 then 1 else if a/16777216=127 then 2
  else if a/16777216=10∨(a/16777216=172/\16<=a/65536%256/\a/65536%256<32)∨(a/16777216=192/\a/65536%256=168) then 3
  else if a/16777216=169/\a/65536%256=254 then 4
  else if 224<=a/16777216/\a/16777216<240 then 5 else if 240<=a/16777216 then 6 else 0
def usable (a:Int):Prop:=special a=0∨special a=3
instance (a:Int):Decidable (usable a):=by unfold usable;infer_instance
def protoP (x:Packet):Int:=x.1.2.2.2.1
def pktAns (x:Packet):Prop:=8<=x.2.length/\(x.1.2.2.2.1=1->x.2.getD 0 default=8)/\(x.1.2.2.2.1=6->14<=x.2.length->bits .and .u8 (x.2.getD 13 default) 4=0)/\usable x.1.2.2.2.2.2.1
instance (x:Packet):Decidable (pktAns x):=by unfold pktAns;infer_instance
def ansOK (b:List Int):Prop:=decErr b=0/\pktAns (decPkt b)
instance (b:List Int):Decidable (ansOK b):=by unfold ansOK;infer_instance
def preAns (b:List Int):Prop:=decErr b=0/\8<=(decPkt b).2.length/\(protoP (decPkt b)=1->(decPkt b).2.getD 0 default=8)/\(protoP (decPkt b)=6->14<=(decPkt b).2.length->bits .and .u8 ((decPkt b).2.getD 13 default) 4=0)
instance (b:List Int):Decidable (preAns b):=by unfold preAns;infer_instance
def ansP' (b:List Int):Packet:=if preAns b then decPkt b else (hdr0,[])
def numOK (id ttl:Int):Prop:=(0<=id/\id<=65535)/\0<=ttl/\ttl<=255
instance (i t:Int):Decidable (numOK i t):=by unfold numOK;infer_instance
def sendP (src dst proto id ttl:Int) (data:List Int):Packet:=((0,id,ttl,proto,false,src,dst),data)
def srcOf (b:List Int):Int:=(pkHdrF b).2.2.2.2.2.1
def dstOf (b:List Int):Int:=(pkHdrF b).2.2.2.2.2.2
def protoOf (b:List Int):Int:=(pkHdrF b).2.2.2.1
def errGood (kind code id ttl:Int):Prop:=(kind=11∨kind=3)/\(0<=code/\code<=255)/\numOK id ttl
instance (k c i t:Int):Decidable (errGood k c i t):=by unfold errGood;infer_instance
def errE (b:List Int) (kind code id ttl:Int):Int:=if ¬ errGood kind code id ttl then 1 else if ansOK b then 0 else 17
def errB (b:List Int) (src kind code id ttl:Int):List Int:=if errE b kind code id ttl=0 then ipEnc (sendP src (srcOf b) 1 id ttl (noticeEnc (kind,code,b.take 28))) else []
def rstOf (s:Seg):Seg:=(s.2.1,s.1,0,(s.2.2.1+1)%4294967296,20,0,[])
def hostGood (b:List Int):Prop:=ansOK b/\((protoOf b=1/\unEchoErr (b.drop 20)=0)∨(protoOf b=17/\unUDPErr (srcOf b) (dstOf b) (b.drop 20)=0) ∨
  (protoOf b=6/\unTCPErr (srcOf b) (dstOf b) (b.drop 20)=0/\bits .and .i64 (unTCP (srcOf b) (dstOf b) (b.drop 20)).2.2.2.2.1 2≠0/\bits .and .i64 (unTCP (srcOf b) (dstOf b) (b.drop 20)).2.2.2.2.1 4=0))
instance (b:List Int):Decidable (hostGood b):=by unfold hostGood;infer_instance
def hostE (b:List Int) (id ttl:Int):Int:=if ¬ numOK id ttl then 1 else if hostGood b then 0 else 17
def hostB (b:List Int) (src id ttl:Int):List Int :=
  if hostE b id ttl=0 then
    if protoOf b=1 then ipEnc (sendP src (srcOf b) 1 id ttl (echoEnc (true,(unEcho (b.drop 20)).2)))
    else if protoOf b=17 then errB b src 3 3 id ttl
    else ipEnc (sendP src (srcOf b) 6 id ttl (tcpEnc src (srcOf b) (rstOf (unTCP (srcOf b) (dstOf b) (b.drop 20)))))
  else []
def quHead (b:List Int):Prop:=pkErr b=0/\b.length=28/\(pkHdrF b).1=0/\(pkHdrF b).2.2.2.2.1=true
instance (b:List Int):Decidable (quHead b):=by unfold quHead;infer_instance
def quFlow (b:List Int):Int:=if protoOf b=1 then wordAt b 22-16384 else if protoOf b=17∨protoOf b=6 then wordAt b 20-20000 else 0
def quP (b:List Int):Probe:=(srcOf b,dstOf b,protoOf b,quFlow b,(pkHdrF b).2.1,(pkHdrF b).2.2.1)
def quRight (b:List Int):Prop :=
  (protoOf b=1/\wordAt b 2=30/\wordAt b 20=2048/\wordAt b 24=21075/\wordAt b 26=(pkHdrF b).2.1) ∨
  (protoOf b=17/\wordAt b 2=30/\wordAt b 22=33434/\wordAt b 24=wordAt b 2-20/\wordAt b 26=(pkHdrF b).2.1+1) ∨
  (protoOf b=6/\wordAt b 2=40/\wordAt b 22=80/\numB ((b.drop 24).take 4)=(pkHdrF b).2.1)
instance (b:List Int):Decidable (quRight b):=by unfold quRight;infer_instance
def quV (b:List Int):Probe×Bool:=if quHead b then (quP b,decide (quRight b/\probeErr (quP b)=0)) else (probe0,false)
def noT (p:Probe) (t:Int):Probe:=(p.1,p.2.1,p.2.2.1,p.2.2.2.1,p.2.2.2.2.1,t)
def kindN (ty code:Int):Int:=if ty=11 then 1 else if code=3 then 3 else 5
abbrev RdR:Type:=Probe×Ans×Bool
def noR:RdR:=(probe0,ans0,false)
def noticeR (dst:Int) (b:List Int):RdR :=
  if unNoticeErr b=0 then (noT (quV (unNotice b).2.2).1 0,(0,kindN (unNotice b).1 (unNotice b).2.1,(unNotice b).2.1,0,0,(quV (unNotice b).2.2).1.2.2.2.2.2),(quV (unNotice b).2.2).2&&decide ((quV (unNotice b).2.2).1.1=dst)) else noR
def echoGood (b:List Int):Prop:=unEchoErr b=0/\(unEcho b).1=true/\(unEcho b).2.1=21075/\(unEcho b).2.2.2.length=2
instance (b:List Int):Decidable (echoGood b):=by unfold echoGood;infer_instance
def echoR (src dst:Int) (b:List Int):RdR:=if echoGood b then ((dst,src,1,wordAt b 2-18432,(unEcho b).2.2.1,0),(0,2,0,0,0,0),true) else noR
def resetGood (src dst:Int) (b:List Int):Prop:=unTCPErr src dst b=0/\(unTCP src dst b).1=80/\(unTCP src dst b).2.2.1=0/\(unTCP src dst b).2.2.2.2.1=20/\(unTCP src dst b).2.2.2.2.2.1=0/\(unTCP src dst b).2.2.2.2.2.2=[]
instance (s d:Int) (b:List Int):Decidable (resetGood s d b):=by unfold resetGood;infer_instance
def resetR (src dst:Int) (b:List Int):RdR:=if resetGood src dst b then ((dst,src,6,(unTCP src dst b).2.1-20000,(unTCP src dst b).2.2.2.1-1,0),(0,4,0,0,0,0),true) else noR
def partR (b:List Int):RdR :=
  if protoOf b=1/\0<(b.drop 20).length/\(b.drop 20).getD 0 default=0 then echoR (srcOf b) (dstOf b) (b.drop 20)
  else if protoOf b=1 then noticeR (dstOf b) (b.drop 20) else if protoOf b=6 then resetR (srcOf b) (dstOf b) (b.drop 20) else noR
def readGood (b:List Int):Prop:=decErr b=0/\(partR b).2.2=true/\probeErr (noT (partR b).1 1)=0
instance (b:List Int):Decidable (readGood b):=by unfold readGood;infer_instance
def readA (b:List Int):Probe×Ans:=if readGood b then ((partR b).1,(srcOf b,(partR b).2.1.2.1,(partR b).2.1.2.2.1,(pkHdrF b).2.2.1,(pkHdrF b).2.1,(partR b).2.1.2.2.2.2.2)) else (probe0,ans0)
def readAE (b:List Int):Int:=if readGood b then 0 else 17
theorem i64_and32 (n:Int):bits .and .i64 n 4294967295=n%4294967296:=by
  have h127:(BitVec.ofInt 64 4294967295).toNat=2^32-1:=by decide
  have key:(BitVec.ofInt 64 n &&& BitVec.ofInt 64 4294967295).toNat=(n%((2^64:Nat):Int)).toNat%2^32:=by
    rw [BitVec.toNat_and,BitVec.toNat_ofInt,h127,Nat.and_two_pow_sub_one_eq_mod]
  show IntKind.i64.wrap ((BitVec.ofInt 64 n &&& BitVec.ofInt 64 4294967295).toNat:Nat)=n%4294967296
  rw [key,IntKind.wrap_i64]
  omega
theorem ct_num {p n a s:Int} (hs:sz n=s) (hn:0<=n/\n<=32) (hp:p%s=0):contains (p,n) a=decide (p<=a/\a<p+s):=by
  unfold contains pValid
  simp only
  rw [hs,decide_eq_true ⟨hn.1,hn.2,hp⟩,Bool.true_and]
theorem ans_pre {b:List Int}:ansOK b↔preAns b/\usable (decPkt b).1.2.2.2.2.2.1:=⟨fun h=>⟨⟨h.1,h.2.1,h.2.2.1,h.2.2.2.1⟩,h.2.2.2.2⟩,fun h=>⟨h.1.1,h.1.2.1,h.1.2.2.1,h.1.2.2.2,h.2⟩⟩
theorem ansP'_eq {b:List Int} (h:ansOK b):ansP' b=(pkHdrF b,b.drop 20):=by rw [ansP',if_pos (ans_pre.1 h).1,decPkt,if_pos h.1]
theorem ans_facts {b:List Int} (h:ansOK b):decErr b=0/\28<=b.length/\(protoOf b=1->(b.drop 20).getD 0 default=8)/\(protoOf b=6->14<=(b.drop 20).length->bits .and .u8 ((b.drop 20).getD 13 default) 4=0)/\usable (srcOf b):=by
  obtain ⟨h1,h2⟩:=h
  rw [decPkt,if_pos h1] at h2
  obtain ⟨k1,k2,k3,k4⟩:=h2
  simp only [List.length_drop] at k1
  exact ⟨h1,by omega,k2,k3,k4⟩
theorem ip_send {src dst proto id ttl:Int} {data:List Int} (hn:numOK id ttl) (hp:0<=proto/\proto<=255) (hl:(data.length:Int)<=1480):ipErr (sendP src dst proto id ttl data)=0:=by
  obtain ⟨⟨a,b⟩,c,d⟩:=hn
  rw [ipErr,if_neg,if_neg (by simp only [sendP];omega)]
  rw [Decidable.not_not]
  exact ⟨⟨Int.le_refl _,by simp only [sendP];omega⟩,⟨c,d⟩,hp,a,b⟩
theorem err_good {b:List Int} {src kind code id ttl:Int} (hg:errGood kind code id ttl) (ha:ansOK b) :
    errE b kind code id ttl=0/\errB b src kind code id ttl=ipEnc (sendP src (srcOf b) 1 id ttl (noticeEnc (kind,code,b.take 28)))/\noticeErr (kind,code,b.take 28)=0/\ipErr (sendP src (srcOf b) 1 id ttl (noticeEnc (kind,code,b.take 28)))=0:=by
  have he:errE b kind code id ttl=0:=by rw [errE,if_neg (fun k=>k hg),if_pos ha]
  obtain ⟨-,hl,-⟩:=ans_facts ha
  obtain ⟨h1,h2,h3⟩:=hg
  refine ⟨he,by rw [errB,if_pos he],?_,ip_send h3 (by omega) (notice_enc_len _)⟩
  have ht:(b.take 28).length=28:=by rw [List.length_take];omega
  rw [noticeErr,if_neg,if_neg,if_neg]
  · simp only;rw [ht];omega
  · simp only;rw [ht];omega
  · rw [Decidable.not_not];exact ⟨h1.symm,h2⟩
theorem err_range {b:List Int} {src kind code id ttl:Int} (hg:¬ errGood kind code id ttl):([]:List Int)=errB b src kind code id ttl/\1=errE b kind code id ttl:=by
  have he:errE b kind code id ttl=1:=by rw [errE,if_pos hg]
  rw [errB,he];exact ⟨rfl,rfl⟩
theorem err_bad {b:List Int} {src kind code id ttl:Int} (hg:errGood kind code id ttl) (ha:¬ ansOK b):([]:List Int)=errB b src kind code id ttl/\17=errE b kind code id ttl:=by
  have he:errE b kind code id ttl=17:=by rw [errE,if_neg (fun k=>k hg),if_neg ha]
  rw [errB,he];exact ⟨rfl,rfl⟩
theorem sub28 (b:List Int):subL b (Int.toNat 0) (Int.toNat 28)=b.take 28:=by
  show subL b 0 28=_
  simp [subL]
theorem host_range {b:List Int} {src id ttl:Int} (hn:¬ numOK id ttl):([]:List Int)=hostB b src id ttl/\1=hostE b id ttl:=by
  have he:hostE b id ttl=1:=by rw [hostE,if_pos hn]
  rw [hostB,he];exact ⟨rfl,rfl⟩
theorem host_bad {b:List Int} {src id ttl:Int} (hn:numOK id ttl) (ha:¬ hostGood b):([]:List Int)=hostB b src id ttl/\17=hostE b id ttl:=by
  have he:hostE b id ttl=17:=by rw [hostE,if_neg (fun k=>k hn),if_neg ha]
  rw [hostB,he];exact ⟨rfl,rfl⟩
theorem host_zero {b:List Int} {id ttl:Int} (hn:numOK id ttl) (ha:hostGood b):hostE b id ttl=0:=by rw [hostE,if_neg (fun k=>k hn),if_pos ha]
theorem host_1 {b:List Int} {src id ttl:Int} (hn:numOK id ttl) (ha:ansOK b) (h:protoOf b=1) (he:unEchoErr (b.drop 20)=0) :
    hostB b src id ttl=ipEnc (sendP src (srcOf b) 1 id ttl (echoEnc (true,(unEcho (b.drop 20)).2)))/\hostE b id ttl=0:=by
  have h0:=host_zero hn (b:=b) ⟨ha,.inl ⟨h,he⟩⟩
  rw [hostB,if_pos h0,if_pos h];exact ⟨rfl,h0⟩
theorem host_17 {b:List Int} {src id ttl:Int} (hn:numOK id ttl) (ha:ansOK b) (h:protoOf b=17) (he:unUDPErr (srcOf b) (dstOf b) (b.drop 20)=0) :
    hostB b src id ttl=errB b src 3 3 id ttl/\hostE b id ttl=0:=by
  have h0:=host_zero hn (b:=b) ⟨ha,.inr (.inl ⟨h,he⟩)⟩
  rw [hostB,if_pos h0,if_neg (by omega),if_pos h];exact ⟨rfl,h0⟩
theorem host_6 {b:List Int} {src id ttl:Int} (hn:numOK id ttl) (ha:ansOK b) (h:protoOf b=6) (he:unTCPErr (srcOf b) (dstOf b) (b.drop 20)=0)
    (h2:bits .and .i64 (unTCP (srcOf b) (dstOf b) (b.drop 20)).2.2.2.2.1 2≠0) (h4:bits .and .i64 (unTCP (srcOf b) (dstOf b) (b.drop 20)).2.2.2.2.1 4=0) :
    hostB b src id ttl=ipEnc (sendP src (srcOf b) 6 id ttl (tcpEnc src (srcOf b) (rstOf (unTCP (srcOf b) (dstOf b) (b.drop 20)))))/\hostE b id ttl=0:=by
  have h0:=host_zero hn (b:=b) ⟨ha,.inr (.inr ⟨h,he,h2,h4⟩)⟩
  rw [hostB,if_pos h0,if_neg (by omega),if_neg (by omega)];exact ⟨rfl,h0⟩
theorem err_port {b:List Int} {id ttl:Int} (hn:numOK id ttl) (ha:ansOK b):errE b 3 3 id ttl=0:=by
  rw [errE,if_neg (fun k=>k ⟨.inr rfl,⟨by omega,by omega⟩,hn⟩),if_pos ha]
theorem un_echo_len (b:List Int):(unEcho b).2.2.2.length<=b.length:=by
  unfold unEcho;split
  · simp only [List.length_drop];omega
  · simp
theorem un_tcp_rng {s d:Int} {b:List Int} (hb:bytes b):(0<=(unTCP s d b).2.1/\(unTCP s d b).2.1<=65535)/\(0<=(unTCP s d b).2.2.1/\(unTCP s d b).2.2.1<=4294967295)/\0<=(unTCP s d b).2.2.2.1/\(unTCP s d b).2.2.2.1<=4294967295:=by
  unfold unTCP;split
  · have h1:=bytes_word hb (Int.toNat 2)
    have h2:=bytes_word hb (Int.toNat 4)
    have h3:=bytes_word hb (Int.toNat 6)
    have h4:=bytes_word hb (Int.toNat 8)
    have h5:=bytes_word hb (Int.toNat 10)
    simp only
    omega
  · simp
def blkP (k:Int):Pfx:=([(0,8),(2130706432,8),(167772160,8),(2886729728,12),(3232235520,16),(2851995648,16),(3758096384,4),(4026531840,4)]:List Pfx).getD k.toNat (0,0)
def ct_address_Special:Ct:=⟨[.val cU32],[.val cI],fun d=>[],fun d=>((special d.1,()),())⟩
def an_address_Special:PDs ct_address_Special.ps->Anns:=(fun d=>{cuts:=(fun n=>match n with|6=>some (fun S=>{ι:=Unit,inv:=fun i=>contains (blkP (S.i 6)) d.1=false,keep:=[0,5,6],slots:=fun i=>[],names:=fun i=>[]})|_=>none),unr:=fun n=>match n with|2=>9|_=>0})
def Qbm0 :=
 (2:Int)^IntKind.bits IntKind.i64
def Qbm5 :=
 (nat_lit 0+nat_lit 1)%Int.natAbs (Qbm0)+nat_lit 1
def Qbm1 :=
 ((Qbm5)%Int.natAbs (Qbm0)+nat_lit 1)%Int.natAbs (Qbm0)+nat_lit 1
def Qbm7 :=
 IntKind.wrap .i64 ((0:Int)+(1:Int))+(1:Int)
def Qbm2 :=
 IntKind.wrap .i64 (IntKind.wrap .i64 (Qbm7)+(1:Int))+(1:Int)
def Qbm3 :=
 ((Qbm1)%Int.natAbs (Qbm0)+nat_lit 1)%Int.natAbs (Qbm0)+nat_lit 1
def Qbm6 :=
 IntKind.wrap .i64 (IntKind.wrap .i64 (Qbm2)+(1:Int))+(1:Int)
def Qbm11 :=
 (2130706432:Int)
def Qbm12 :=
 (2886729728:Int)
def Qbm13 :=
 (3232235520:Int)
def Qbm14 :=
 (2851995648:Int)
def Qbm15 :=
 (3758096384:Int)
def Qbm16 :=
 (4026531840:Int)
def Qbm17 :=
 blkP (Int.ofNat (((Qbm5)%Int.natAbs (Qbm0)+nat_lit 1)%Int.natAbs (Qbm0)))
def Qbm18 :=
 blkP (Int.ofNat (((Qbm1)%Int.natAbs (Qbm0)+nat_lit 1)%Int.natAbs (Qbm0)))
def Qbm19 :=
 blkP (Int.ofNat (((Qbm3)%Int.natAbs (Qbm0)+nat_lit 1)%Int.natAbs (Qbm0)))
def Qbm20 :=
 (167772160:Int)
theorem vc_address_Special :
 ∀(a:Int),(0<=a/\a<=4294967295)/\True->True->ifP (contains ((0:Int),(8:Int)) a) ((1:Int)=special a) (∃(b:Unit),contains (blkP (0:Int)) a=false/\a=a/\(0:Int)=0/\(8:Int)=8/\(1:Int)=1/\(Qbm11)=2130706432/\(8:Int)=8/\(2:Int)=2/\(Qbm20)=167772160/\(8:Int)=8/\(3:Int)=3/\(Qbm12)=2886729728/\(12:Int)=12/\(3:Int)=3/\(Qbm13)=3232235520/\(16:Int)=16/\(3:Int)=3/\(Qbm14)=2851995648/\(16:Int)=16/\(4:Int)=4/\(Qbm15)=3758096384/\(4:Int)=4/\(5:Int)=5/\(Qbm16)=4026531840/\(4:Int)=4/\(6:Int)=6/\(0:Int)=0/\True)/\ ∀(b:Unit),contains (blkP (0:Int)) a=false->ifP (contains ((Qbm11),(8:Int)) a) ((2:Int)=special a) (∃(c:Unit),contains (blkP (Int.ofNat ((nat_lit 0+nat_lit 1)%Int.natAbs (Qbm0))))
 a=false/\a=a/\(0:Int)=0/\(8:Int)=8/\(1:Int)=1/\(Qbm11)=2130706432/\(8:Int)=8/\(2:Int)=2/\(Qbm20)=167772160/\(8:Int)=8/\(3:Int)=3/\(Qbm12)=2886729728/\(12:Int)=12/\(3:Int)=3/\(Qbm13)=3232235520/\(16:Int)=16/\(3:Int)=3/\(Qbm14)=2851995648/\(16:Int)=16/\(4:Int)=4/\(Qbm15)=3758096384/\(4:Int)=4/\(5:Int)=5/\(Qbm16)=4026531840/\(4:Int)=4/\(6:Int)=6/\IntKind.wrap .i64 ((0:Int)+(1:Int))=IntKind.wrap .i64 ((0:Int)+(1:Int))/\True)/\ ∀(c:Unit),contains (blkP (Int.ofNat ((nat_lit 0+nat_lit 1)%Int.natAbs (Qbm0)))) a=false->ifP (contains ((Qbm20),(8:Int)) a) ((3:Int)=special a) (∃(d:Unit),contains (blkP (Int.ofNat ((Qbm5)%Int.natAbs (Qbm0))))
 a=false/\a=a/\(0:Int)=0/\(8:Int)=8/\(1:Int)=1/\(Qbm11)=2130706432/\(8:Int)=8/\(2:Int)=2/\(Qbm20)=167772160/\(8:Int)=8/\(3:Int)=3/\(Qbm12)=2886729728/\(12:Int)=12/\(3:Int)=3/\(Qbm13)=3232235520/\(16:Int)=16/\(3:Int)=3/\(Qbm14)=2851995648/\(16:Int)=16/\(4:Int)=4/\(Qbm15)=3758096384/\(4:Int)=4/\(5:Int)=5/\(Qbm16)=4026531840/\(4:Int)=4/\(6:Int)=6/\IntKind.wrap .i64 (Qbm7)=IntKind.wrap .i64 (Qbm7)/\True)/\ ∀(d:Unit),contains (blkP (Int.ofNat ((Qbm5)%Int.natAbs (Qbm0)))) a=false->ifP (contains ((Qbm12),(12:Int)) a) ((3:Int)=special a) (∃(e:Unit),contains (Qbm17)
 a=false/\a=a/\(0:Int)=0/\(8:Int)=8/\(1:Int)=1/\(Qbm11)=2130706432/\(8:Int)=8/\(2:Int)=2/\(Qbm20)=167772160/\(8:Int)=8/\(3:Int)=3/\(Qbm12)=2886729728/\(12:Int)=12/\(3:Int)=3/\(Qbm13)=3232235520/\(16:Int)=16/\(3:Int)=3/\(Qbm14)=2851995648/\(16:Int)=16/\(4:Int)=4/\(Qbm15)=3758096384/\(4:Int)=4/\(5:Int)=5/\(Qbm16)=4026531840/\(4:Int)=4/\(6:Int)=6/\IntKind.wrap .i64 (IntKind.wrap .i64 (Qbm7)+(1:Int))=IntKind.wrap .i64 (IntKind.wrap .i64 (Qbm7)+(1:Int))/\True)/\ ∀(e:Unit),contains (Qbm17) a=false->ifP (contains ((Qbm13),(16:Int)) a) ((3:Int)=special a) (∃(f:Unit),contains (blkP (Int.ofNat ((Qbm1)%Int.natAbs (Qbm0))))
 a=false/\a=a/\(0:Int)=0/\(8:Int)=8/\(1:Int)=1/\(Qbm11)=2130706432/\(8:Int)=8/\(2:Int)=2/\(Qbm20)=167772160/\(8:Int)=8/\(3:Int)=3/\(Qbm12)=2886729728/\(12:Int)=12/\(3:Int)=3/\(Qbm13)=3232235520/\(16:Int)=16/\(3:Int)=3/\(Qbm14)=2851995648/\(16:Int)=16/\(4:Int)=4/\(Qbm15)=3758096384/\(4:Int)=4/\(5:Int)=5/\(Qbm16)=4026531840/\(4:Int)=4/\(6:Int)=6/\IntKind.wrap .i64 (Qbm2)=IntKind.wrap .i64 (Qbm2)/\True)/\ ∀(f:Unit),contains (blkP (Int.ofNat ((Qbm1)%Int.natAbs (Qbm0)))) a=false->ifP (contains ((Qbm14),(16:Int)) a) ((4:Int)=special a) (∃(g:Unit),contains (Qbm18)
 a=false/\a=a/\(0:Int)=0/\(8:Int)=8/\(1:Int)=1/\(Qbm11)=2130706432/\(8:Int)=8/\(2:Int)=2/\(Qbm20)=167772160/\(8:Int)=8/\(3:Int)=3/\(Qbm12)=2886729728/\(12:Int)=12/\(3:Int)=3/\(Qbm13)=3232235520/\(16:Int)=16/\(3:Int)=3/\(Qbm14)=2851995648/\(16:Int)=16/\(4:Int)=4/\(Qbm15)=3758096384/\(4:Int)=4/\(5:Int)=5/\(Qbm16)=4026531840/\(4:Int)=4/\(6:Int)=6/\IntKind.wrap .i64 (IntKind.wrap .i64 (Qbm2)+(1:Int))=IntKind.wrap .i64 (IntKind.wrap .i64 (Qbm2)+(1:Int))/\True)/\ ∀(g:Unit),contains (Qbm18) a=false->ifP (contains ((Qbm15),(4:Int)) a) ((5:Int)=special a) (∃(h:Unit),contains (blkP (Int.ofNat ((Qbm3)%Int.natAbs (Qbm0))))
 a=false/\a=a/\(0:Int)=0/\(8:Int)=8/\(1:Int)=1/\(Qbm11)=2130706432/\(8:Int)=8/\(2:Int)=2/\(Qbm20)=167772160/\(8:Int)=8/\(3:Int)=3/\(Qbm12)=2886729728/\(12:Int)=12/\(3:Int)=3/\(Qbm13)=3232235520/\(16:Int)=16/\(3:Int)=3/\(Qbm14)=2851995648/\(16:Int)=16/\(4:Int)=4/\(Qbm15)=3758096384/\(4:Int)=4/\(5:Int)=5/\(Qbm16)=4026531840/\(4:Int)=4/\(6:Int)=6/\IntKind.wrap .i64 (Qbm6)=IntKind.wrap .i64 (Qbm6)/\True)/\ ∀(h:Unit),contains (blkP (Int.ofNat ((Qbm3)%Int.natAbs (Qbm0)))) a=false->ifP (contains ((Qbm16),(4:Int)) a) ((6:Int)=special a) (∃(i:Unit),contains (Qbm19)
 a=false/\a=a/\(0:Int)=0/\(8:Int)=8/\(1:Int)=1/\(Qbm11)=2130706432/\(8:Int)=8/\(2:Int)=2/\(Qbm20)=167772160/\(8:Int)=8/\(3:Int)=3/\(Qbm12)=2886729728/\(12:Int)=12/\(3:Int)=3/\(Qbm13)=3232235520/\(16:Int)=16/\(3:Int)=3/\(Qbm14)=2851995648/\(16:Int)=16/\(4:Int)=4/\(Qbm15)=3758096384/\(4:Int)=4/\(5:Int)=5/\(Qbm16)=4026531840/\(4:Int)=4/\(6:Int)=6/\IntKind.wrap .i64 (IntKind.wrap .i64 (Qbm6)+(1:Int))=IntKind.wrap .i64 (IntKind.wrap .i64 (Qbm6)+(1:Int))/\True)/\ ∀(i:Unit),contains (Qbm19) a=false->(0:Int)=special a:=by
  delta Qbm0 Qbm1 Qbm2 Qbm3 Qbm5 Qbm6 Qbm7 Qbm11 Qbm12 Qbm13 Qbm14 Qbm15 Qbm16 Qbm17 Qbm18 Qbm19 Qbm20
  rintro a ⟨⟨a0,a1⟩,-⟩ -
  have q0:=ct_num (p:=0) (n:=8) (a:=a) (s:=16777216) rfl (by omega) (by omega)
  have q1:=ct_num (p:=2130706432) (n:=8) (a:=a) (s:=16777216) rfl (by omega) (by omega)
  have q2:=ct_num (p:=167772160) (n:=8) (a:=a) (s:=16777216) rfl (by omega) (by omega)
  have q3:=ct_num (p:=2886729728) (n:=12) (a:=a) (s:=1048576) rfl (by omega) (by omega)
  have q4:=ct_num (p:=3232235520) (n:=16) (a:=a) (s:=65536) rfl (by omega) (by omega)
  have q5:=ct_num (p:=2851995648) (n:=16) (a:=a) (s:=65536) rfl (by omega) (by omega)
  have q6:=ct_num (p:=3758096384) (n:=4) (a:=a) (s:=268435456) rfl (by omega) (by omega)
  have q7:=ct_num (p:=4026531840) (n:=4) (a:=a) (s:=268435456) rfl (by omega) (by omega)
  refine ⟨ifP_split (fun h => ?_) (fun h=>⟨(),h,(by repeat' first|exact trivial|refine ⟨trivial,?_⟩|refine ⟨(by with_reducible rfl),?_⟩|refine ⟨w64 (by omega) (by omega),?_⟩|refine ⟨rfl,?_⟩)⟩),?_⟩
  · rw [q0] at h
    have h:=of_decide_eq_true h
    unfold special;rw [if_pos (by omega)]
  rintro-h
  have h:contains (0,8) a=false:=h
  rw [q0] at h
  have h0:=of_decide_eq_false h
  refine ⟨ifP_split (fun h => ?_) (fun h=>⟨(),h,(by repeat' first|exact trivial|refine ⟨trivial,?_⟩|refine ⟨(by with_reducible rfl),?_⟩|refine ⟨w64 (by omega) (by omega),?_⟩|refine ⟨rfl,?_⟩)⟩),?_⟩
  · rw [q1] at h
    have h:=of_decide_eq_true h
    unfold special;rw [if_neg (by omega),if_pos (by omega)]
  rintro-h
  have h:contains (2130706432,8) a=false:=h
  rw [q1] at h
  have h1:=of_decide_eq_false h
  refine ⟨ifP_split (fun h => ?_) (fun h=>⟨(),h,(by repeat' first|exact trivial|refine ⟨trivial,?_⟩|refine ⟨(by with_reducible rfl),?_⟩|refine ⟨w64 (by omega) (by omega),?_⟩|refine ⟨rfl,?_⟩)⟩),?_⟩
  · rw [q2] at h
    have h:=of_decide_eq_true h
    unfold special;rw [if_neg (by omega),if_neg (by omega),if_pos (by omega)]
  rintro-h
  have h:contains (167772160,8) a=false:=h
  rw [q2] at h
  have h2:=of_decide_eq_false h
  refine ⟨ifP_split (fun h => ?_) (fun h=>⟨(),h,(by repeat' first|exact trivial|refine ⟨trivial,?_⟩|refine ⟨(by with_reducible rfl),?_⟩|refine ⟨w64 (by omega) (by omega),?_⟩|refine ⟨rfl,?_⟩)⟩),?_⟩
  · rw [q3] at h
    have h:=of_decide_eq_true h
    unfold special;rw [if_neg (by omega),if_neg (by omega),if_pos (by omega)]
  rintro-h
  have h:contains (2886729728,12) a=false:=h
  rw [q3] at h
  have h3:=of_decide_eq_false h
  refine ⟨ifP_split (fun h => ?_) (fun h=>⟨(),h,(by repeat' first|exact trivial|refine ⟨trivial,?_⟩|refine ⟨(by with_reducible rfl),?_⟩|refine ⟨w64 (by omega) (by omega),?_⟩|refine ⟨rfl,?_⟩)⟩),?_⟩
  · rw [q4] at h
    have h:=of_decide_eq_true h
    unfold special;rw [if_neg (by omega),if_neg (by omega),if_pos (by omega)]
  rintro-h
  have h:contains (3232235520,16) a=false:=h
  rw [q4] at h
  have h4:=of_decide_eq_false h
  refine ⟨ifP_split (fun h => ?_) (fun h=>⟨(),h,(by repeat' first|exact trivial|refine ⟨trivial,?_⟩|refine ⟨(by with_reducible rfl),?_⟩|refine ⟨w64 (by omega) (by omega),?_⟩|refine ⟨rfl,?_⟩)⟩),?_⟩
  · rw [q5] at h
    have h:=of_decide_eq_true h
    unfold special;rw [if_neg (by omega),if_neg (by omega),if_neg (by omega),if_pos (by omega)]
  rintro-h
  have h:contains (2851995648,16) a=false:=h
  rw [q5] at h
  have h5:=of_decide_eq_false h
  refine ⟨ifP_split (fun h => ?_) (fun h=>⟨(),h,(by repeat' first|exact trivial|refine ⟨trivial,?_⟩|refine ⟨(by with_reducible rfl),?_⟩|refine ⟨w64 (by omega) (by omega),?_⟩|refine ⟨rfl,?_⟩)⟩),?_⟩
  · rw [q6] at h
    have h:=of_decide_eq_true h
    unfold special;rw [if_neg (by omega),if_neg (by omega),if_neg (by omega),if_neg (by omega),if_pos (by omega)]
  rintro-h
  have h:contains (3758096384,4) a=false:=h
  rw [q6] at h
  have h6:=of_decide_eq_false h
  refine ⟨ifP_split (fun h => ?_) (fun h=>⟨(),h,(by repeat' first|exact trivial|refine ⟨trivial,?_⟩|refine ⟨(by with_reducible rfl),?_⟩|refine ⟨w64 (by omega) (by omega),?_⟩|refine ⟨rfl,?_⟩)⟩),?_⟩
  · rw [q7] at h
    have h:=of_decide_eq_true h
    unfold special;rw [if_neg (by omega),if_neg (by omega),if_neg (by omega),if_neg (by omega),if_neg (by omega),if_pos (by omega)]
  rintro-h
  have h:contains (4026531840,4) a=false:=h
  rw [q7] at h
  have h7:=of_decide_eq_false h
  unfold special;rw [if_neg (by omega),if_neg (by omega),if_neg (by omega),if_neg (by omega),if_neg (by omega),if_neg (by omega)]
theorem ok_address_Special:SpecOK Tryz.prog GL 94 ct_address_Special.spec:=Ct.okH _ Tryz.func94 (by kernel_rfl) (withConc_ok (withSpec_ok noSpecs_ok ok_address_Contains) (d:=8)) hmix an_address_Special (hideMp (by kernel_rfl) vc_address_Special)
def ct_reply_answerable:Ct:=⟨[.val (.sl cU8)],[.agg cPacket,.val .bool],fun d=>[(d.1.length:Int)<=1099511627776],fun d=>((ansP' d.1,decide (ansOK d.1),()),())⟩
def an_reply_answerable:PDs ct_reply_answerable.ps->Anns:=(fun _=>{})
def Qbm4 (a:List Int) :=
 (((0:Int),(0:Int),(0:Int),(0:Int),false,(0:Int),(0:Int)),([]:List Int))=ansP' a/\false=decide (ansOK a)
def Qbm9 (a:List Int) (b:(Int×Int×Int×Int×Bool×Int×Int)×List Int) :=
 ∀(e:Bool),e=decide (special b.1.2.2.2.2.2.1=0)->((! e)->((! e)->(! e))/\True)/\(e=false->(! e))/\b=ansP' a/\(bif e then true else decide (special b.1.2.2.2.2.2.1=3))=decide (ansOK a)
theorem vc_reply_answerable :
 ∀(a:List Int),(a.length<=maxLen/\ ∀(b:Int),b∈a->0<=b/\b<=255)/\True->(a.length:Int)<=1099511627776->(a.length:Int)<=1099511627776/\ ∀(b:(Int×Int×Int×Int×Bool×Int×Int)×List Int) (c:Int),b=decPkt a/\c=decErr a-> ∀(d:Bool),d= ! decide (c=0)->((! d)->((! d)->(! d))/\True)/\((! d)->((! d)->(! d))/\True)/\((! d)->((! d)->(! d))/\True)/\(d=false->(! d))/\ifP (bif d then true else decide ((b.2.length:Int)<8)) (Qbm4 a) (ifP (decide (b.1.2.2.2.1=1)) ((0:Int)<=0/\0<(b.2.length:Int)/\ifP (! decide (List.getD b.2 (Int.toNat (0:Int)) default=8)) (Qbm4 a) (Qbm9 a b)) (ifP (decide (b.1.2.2.2.1=6)) (∀(e:Bool),e=decide (13<(b.2.length:Int))->(e->(e->e)/\True)/\(e->(e->e)/\(0:Int)<=13/\13<(b.2.length:Int)/\True)/\(e->(e->e)/\True)/\(e->(e->e)/\True)/\(e->(e->e)/\True)/\(e->e)/\ifP (bif e then ! decide (bits BinOp.and IntKind.u8 (List.getD b.2 (Int.toNat (13:Int)) default) (4:Int)=0) else false) (Qbm4 a)
 (∀(f:Bool),f=decide (special b.1.2.2.2.2.2.1=0)->((! f)->((! f)->(! f))/\True)/\(f=false->(! f))/\b=ansP' a/\(bif f then true else decide (special b.1.2.2.2.2.2.1=3))=decide (ansOK a))) (Qbm9 a b))):=by
  delta Qbm4 Qbm9
  rintro b ⟨⟨-,hb⟩,-⟩ hl
  refine ⟨hl,?_⟩
  rintro d e ⟨rfl,rfl⟩
  have bad:¬ preAns b->(((0,0,0,0,false,0,0),[]):Packet)=ansP' b/\false=decide (ansOK b):=fun h=>by rw [ansP',if_neg h,decide_eq_false (fun k=>h (ans_pre.1 k).1)];exact ⟨rfl,rfl⟩
  have good:preAns b->decPkt b=ansP' b/\(bif decide (special (decPkt b).1.2.2.2.2.2.1=0) then true else decide (special (decPkt b).1.2.2.2.2.2.1=3))=decide (ansOK b):=by
    intro h
    refine ⟨by rw [ansP',if_pos h],?_⟩
    rw [Bool.eq_iff_iff,decide_eq_true_iff,ans_pre]
    simp [h,usable,Bool.cond_eq_ite]
  (repeat (intro (b_:Bool) (hb_:b_=_);(repeat refine ⟨(by first|(simp;done)|(rw [hb_];simp;done)|(rw [hb_];simp;omega)|(rw [hb_];simp;intros;omega)|(rw [hb_];simp +contextual;done)),?_⟩);subst hb_))
  refine ifP_split (fun h => ?_) (fun h => ?_)
  · refine bad (fun k => ?_)
    obtain ⟨k1,k2,-⟩:=k
    rw [k1] at h;simp at h;omega
  have h1:decErr b=0:=by
    refine Classical.byContradiction fun k => ?_
    simp [k] at h
  have h2:8<=(decPkt b).2.length:=by
    rw [h1] at h;simp at h;omega
  refine ifP_split (fun hp => ?_) (fun hp => ?_)
  · have hp:protoP (decPkt b)=1:=of_decide_eq_true hp
    refine ⟨by omega,by omega,ifP_split (fun h8 => ?_) (fun h8 => ?_)⟩
    · refine bad (fun k => ?_)
      have:=k.2.2.1 hp
      simp only [show Int.toNat 0=0 from rfl,this] at h8
      simp at h8
    · (repeat (intro (b_:Bool) (hb_:b_=_);(repeat refine ⟨(by first|(simp;done)|(rw [hb_];simp;done)|(rw [hb_];simp;omega)|(rw [hb_];simp;intros;omega)|(rw [hb_];simp +contextual;done)),?_⟩);subst hb_))
      exact good ⟨h1,h2,fun _=>by simpa using h8,fun k=>by omega⟩
  have hp:¬ protoP (decPkt b)=1:=of_decide_eq_false hp
  refine ifP_split (fun hq => ?_) (fun hq => ?_)
  · have hq:protoP (decPkt b)=6:=of_decide_eq_true hq
    (repeat (intro (b_:Bool) (hb_:b_=_);(repeat refine ⟨(by first|(simp;done)|(rw [hb_];simp;done)|(rw [hb_];simp;omega)|(rw [hb_];simp;intros;omega)|(rw [hb_];simp +contextual;done)),?_⟩);subst hb_))
    refine ifP_split (fun h8 => ?_) (fun h8 => ?_)
    · refine bad (fun k => ?_)
      have:=k.2.2.2 hq
      simp [Bool.cond_eq_ite] at h8
      exact h8.2 (this (by omega))
    · (repeat (intro (b_:Bool) (hb_:b_=_);(repeat refine ⟨(by first|(simp;done)|(rw [hb_];simp;done)|(rw [hb_];simp;omega)|(rw [hb_];simp;intros;omega)|(rw [hb_];simp +contextual;done)),?_⟩);subst hb_))
      refine good ⟨h1,h2,fun k=>absurd k hp,fun _ hk => ?_⟩
      refine Classical.byContradiction fun k => ?_
      have k:¬ bits .and .u8 ((decPkt b).2.getD (Int.toNat 13) default) 4=0:=k
      rw [decide_eq_true (show (13:Int)<((decPkt b).2.length:Int) by omega),decide_eq_false k] at h8
      cases h8
  · have hq:¬ protoP (decPkt b)=6:=of_decide_eq_false hq
    (repeat (intro (b_:Bool) (hb_:b_=_);(repeat refine ⟨(by first|(simp;done)|(rw [hb_];simp;done)|(rw [hb_];simp;omega)|(rw [hb_];simp;intros;omega)|(rw [hb_];simp +contextual;done)),?_⟩);subst hb_))
    exact good ⟨h1,h2,fun k=>absurd k hp,fun k=>absurd k hq⟩
theorem ok_reply_answerable:SpecOK Tryz.prog GL 187 ct_reply_answerable.spec:=Ct.okH _ Tryz.func187 (by kernel_rfl) (withSpec_ok (withSpec_ok noSpecs_ok (Ct.named ok_ipv4_Decode)) ok_address_Special) hmix an_reply_answerable (hideMp (by kernel_rfl) vc_reply_answerable)
def ct_reply_numbers:Ct:=⟨[.val cI,.val cI],[.val .bool],fun d=>[],fun d=>((decide (numOK d.1 d.2.1),()),())⟩
def an_reply_numbers:PDs ct_reply_numbers.ps->Anns:=(fun _=>{})
theorem vc_reply_numbers :
 ∀(a b:Int),R64 a/\R64 b/\True->True-> ∀(c:Bool),c=decide (0<=a)->(c->(c->c)/\True)/\(c->c)/\ ∀(d:Bool),(d=bif c then decide (a<=65535) else false)->(d->(d->d)/\True)/\(d->d)/\ ∀(e:Bool),(e=bif d then decide (0<=b) else false)->(e->(e->e)/\True)/\(e->e)/\(bif e then decide (b<=255) else false)=decide (numOK a b):=by
  rintro id ttl - -
  (repeat (intro (b_:Bool) (hb_:b_=_);(repeat refine ⟨(by first|(simp;done)|(rw [hb_];simp;done)|(rw [hb_];simp;omega)|(rw [hb_];simp;intros;omega)|(rw [hb_];simp +contextual;done)),?_⟩);subst hb_))
  rw [Bool.eq_iff_iff];simp [numOK,Bool.cond_eq_ite,and_assoc]
theorem ok_reply_numbers:SpecOK Tryz.prog GL 186 ct_reply_numbers.spec:=Ct.okH _ Tryz.func186 (by kernel_rfl) noSpecs_ok hmix an_reply_numbers (hideMp (by kernel_rfl) vc_reply_numbers)
def ct_reply_send:Ct:=⟨[.val cU32,.val cU32,.val cI,.val cI,.val cI,.val (.sl cU8)],[.own 5 cU8,.val cI],fun d=>[(d.2.2.2.2.2.1.length:Int)<=1073741824],fun d=>((ipEnc (sendP d.1 d.2.1 d.2.2.1 d.2.2.2.1 d.2.2.2.2.1 d.2.2.2.2.2.1),ipErr (sendP d.1 d.2.1 d.2.2.1 d.2.2.2.1 d.2.2.2.2.1 d.2.2.2.2.2.1),()),())⟩
def an_reply_send:PDs ct_reply_send.ps->Anns:=(fun _=>{})
theorem vc_reply_send :
 ∀(a b c d e:Int) (f:List Int),(0<=a/\a<=4294967295)/\(0<=b/\b<=4294967295)/\R64 c/\R64 d/\R64 e/\(f.length<=maxLen/\ ∀(g:Int),g∈f->0<=g/\g<=255)/\True->(f.length:Int)<=1073741824->(f.length:Int)<=1073741824/\ipEnc (((0:Int),d,e,c,false,a,b),f)=ipEnc (sendP a b c d e f)/\ipErr (((0:Int),d,e,c,false,a,b),f)=ipErr (sendP a b c d e f):=by
  rintro s d p i t data-hl
  exact ⟨hl,rfl,rfl⟩
theorem ok_reply_send:SpecOK Tryz.prog GL 188 ct_reply_send.spec:=Ct.okH _ Tryz.func188 (by kernel_rfl) (withSpec_ok noSpecs_ok ok_ipv4_Encode) hmix an_reply_send (hideMp (by kernel_rfl) vc_reply_send)
def ct_reply_Error:Ct:=⟨[.val (.sl cU8),.val cU32,.val cI,.val cI,.val cI,.val cI],[.own 5 cU8,.val cI],fun d=>[(d.1.length:Int)<=1099511627776],fun d=>((errB d.1 d.2.1 d.2.2.1 d.2.2.2.1 d.2.2.2.2.1 d.2.2.2.2.2.1,errE d.1 d.2.2.1 d.2.2.2.1 d.2.2.2.2.1 d.2.2.2.2.2.1,()),())⟩
def an_reply_Error:PDs ct_reply_Error.ps->Anns:=(fun _=>{})
theorem vc_reply_Error :
 ∀(a:List Int) (b c d e f:Int),(a.length<=maxLen/\ ∀(g:Int),g∈a->0<=g/\g<=255)/\(0<=b/\b<=4294967295)/\R64 c/\R64 d/\R64 e/\R64 f/\True->(a.length:Int)<=1099511627776-> ∀(g:Bool),g= ! decide (c=11)->(g->(g->g)/\True)/\(g->g)/\ ∀(h:Bool),(h=bif g then ! decide (c=3) else false)->((! h)->((! h)->(! h))/\True)/\(h=false->(! h))/\ ∀(i:Bool),(i=bif h then true else decide (d<0))->((! i)->((! i)->(! i))/\True)/\(i=false->(! i))/\ ∀(j:Bool),(j=bif i then true else decide (255<d))->((! j)->((! j)->(! j))/\((! j)->(! j))/\True)/\((! j)->((! j)->(! j))/\True)/\(j=false->(! j))/\ifP (bif j then true else ! decide (numOK e f)) (([]:List Int)=errB a b c d e f/\(1:Int)=errE a c d e f) ((a.length:Int)<=1099511627776/\ ∀(k:(Int×Int×Int×Int×Bool×Int×Int)×List Int) (l:Bool),k=ansP' a/\l=decide (ansOK a)->ifP (! l) (([]:List Int)=errB a b c d e f/\(17:Int)=errE a c d e f)
 ((0:Int)<=0/\(0:Int)<=28/\28<=(a.length:Int)/\((List.length (subL a (Int.toNat (0:Int)) (Int.toNat (28:Int)))):Int)<=1073741824/\ ∀(m:List Int) (n:Int),m=noticeEnc (c,d,subL a (Int.toNat (0:Int)) (Int.toNat (28:Int)))/\n=noticeErr (c,d,subL a (Int.toNat (0:Int)) (Int.toNat (28:Int)))->ifP (! decide (n=0)) (([]:List Int)=errB a b c d e f/\n=errE a c d e f) ((m.length:Int)<=1073741824/\ipEnc (sendP b k.1.2.2.2.2.2.1 (1:Int) e f m)=errB a b c d e f/\ipErr (sendP b k.1.2.2.2.2.2.1 (1:Int) e f m)=errE a c d e f))):=by
  rintro b src kind code id ttl ⟨⟨-,hb⟩,-⟩ hl
  (repeat (intro (b_:Bool) (hb_:b_=_);(repeat refine ⟨(by first|(simp;done)|(rw [hb_];simp;done)|(rw [hb_];simp;omega)|(rw [hb_];simp;intros;omega)|(rw [hb_];simp +contextual;done)),?_⟩);subst hb_))
  by_cases hg:errGood kind code id ttl
  rotate_left
  · refine ifP_split (fun _=>err_range hg) (fun h=>absurd ?_ hg)
    by_cases hn:numOK id ttl
    · rw [decide_eq_true hn] at h
      refine ⟨?_,?_,hn⟩ <;> simp [Bool.cond_eq_ite] at h <;> omega
    · rw [decide_eq_false hn] at h
      simp at h
  have hg':=hg
  obtain ⟨g1,g2,g3⟩:=hg'
  refine ifP_split (fun h => ?_) (fun _=>⟨hl,?_⟩)
  · exfalso
    rw [decide_eq_true g3] at h
    simp [Bool.cond_eq_ite] at h;omega
  rintro d e ⟨rfl,rfl⟩
  refine ifP_split (fun h=>err_bad hg (by simpa using h)) (fun h => ?_)
  have ha:ansOK b:=by simpa using h
  have hgd:=err_good (src:=src) hg ha
  obtain ⟨-,h28,-⟩:=ans_facts ha
  rw [ansP'_eq ha,sub28]
  refine ⟨by omega,by omega,by omega,by rw [List.length_take];omega,?_⟩
  rintro n e ⟨rfl,rfl⟩
  rw [hgd.2.2.1]
  refine ifP_split (fun h=>by simp at h) (fun _ => ?_)
  have:=notice_enc_len (kind,code,b.take 28)
  refine ⟨by omega,hgd.2.1.symm,?_⟩
  rw [hgd.1];exact hgd.2.2.2
theorem ok_reply_Error:SpecOK Tryz.prog GL 190 ct_reply_Error.spec:=Ct.okH _ Tryz.func190 (by kernel_rfl) (withSpec_ok (withSpec_ok (withSpec_ok (withSpec_ok noSpecs_ok ok_reply_numbers) (Ct.named ok_reply_answerable)) (Ct.named ok_transport_EncodeNotice)) ok_reply_send) hmix an_reply_Error (hideMp (by kernel_rfl) vc_reply_Error)
def ct_reply_Host:Ct:=⟨[.val (.sl cU8),.val cU32,.val cI,.val cI],[.own 5 cU8,.val cI],fun d=>[(d.1.length:Int)<=1099511627776],fun d=>((hostB d.1 d.2.1 d.2.2.1 d.2.2.2.1,hostE d.1 d.2.2.1 d.2.2.2.1,()),())⟩
def an_reply_Host:PDs ct_reply_Host.ps->Anns:=(fun _=>{})
def Qbm8 (a:List Int) (b c d:Int) :=
 ([]:List Int)=hostB a b c d/\(17:Int)=hostE a c d
def Qbm10 (g:Int×Int×Int×Int×Int×Int×List Int) :=
 (g.2.1,g.1,(0:Int),bits BinOp.and IntKind.i64 (IntKind.wrap .i64 (g.2.2.1+(1:Int))) (4294967295:Int),(20:Int),(0:Int),([]:List Int))
theorem vc_reply_Host :
 ∀(a:List Int) (b c d:Int),(a.length<=maxLen/\ ∀(e:Int),e∈a->0<=e/\e<=255)/\(0<=b/\b<=4294967295)/\R64 c/\R64 d/\True->(a.length:Int)<=1099511627776->ifP (! decide (numOK c d)) (([]:List Int)=hostB a b c d/\(1:Int)=hostE a c d) ((a.length:Int)<=1099511627776/\ ∀(e:(Int×Int×Int×Int×Bool×Int×Int)×List Int) (f:Bool),e=ansP' a/\f=decide (ansOK a)->ifP (! f) (Qbm8 a b c d) (ifP (decide (e.1.2.2.2.1=1)) ((e.2.length:Int)<=1000000/\ ∀(g:Bool) (h i:Int) (j:List Int) (k:Int),(g,h,i,j)=unEcho e.2/\k=unEchoErr e.2->ifP (! decide (k=0)) (Qbm8 a b c d) ((j.length:Int)<=1073741824/\ ∀(l:List Int) (m:Int),l=echoEnc (true,h,i,j)/\m=echoErr (true,h,i,j)->(l.length:Int)<=1073741824/\ipEnc (sendP b e.1.2.2.2.2.2.1 e.1.2.2.2.1 c d l)=hostB a b c d/\ipErr (sendP b e.1.2.2.2.2.2.1 e.1.2.2.2.1 c d l)=hostE a c d)) (ifP (decide (e.1.2.2.2.1=17)) ((e.2.length:Int)<=1000000/\ ∀(g h:Int) (i:List Int)
 (j:Int),(g,h,i)=unUDP e.1.2.2.2.2.2.1 e.1.2.2.2.2.2.2 e.2/\j=unUDPErr e.1.2.2.2.2.2.1 e.1.2.2.2.2.2.2 e.2->ifP (! decide (j=0)) (Qbm8 a b c d) ((a.length:Int)<=1099511627776/\errB a b (3:Int) (3:Int) c d=hostB a b c d/\errE a (3:Int) (3:Int) c d=hostE a c d)) (ifP (decide (e.1.2.2.2.1=6)) ((e.2.length:Int)<=1000000/\ ∀(g:Int×Int×Int×Int×Int×Int×List Int) (h:Int),g=unTCP e.1.2.2.2.2.2.1 e.1.2.2.2.2.2.2 e.2/\h=unTCPErr e.1.2.2.2.2.2.1 e.1.2.2.2.2.2.2 e.2-> ∀(i:Bool),i= ! decide (h=0)->((! i)->((! i)->(! i))/\True)/\((! i)->((! i)->(! i))/\True)/\((! i)->((! i)->(! i))/\True)/\(i=false->(! i))/\ ∀(j:Bool),(j=bif i then true else decide (bits BinOp.and IntKind.i64 g.2.2.2.2.1 (2:Int)=0))->((! j)->((! j)->(! j))/\True)/\((! j)->((! j)->(! j))/\True)/\((! j)->((! j)->(! j))/\True)/\(j=false->(! j))/\ifP (bif j then true else ! decide (bits BinOp.and IntKind.i64 g.2.2.2.2.1 (4:Int)=0)) (Qbm8 a
 b c d) ((↑(0:Nat):Int)<=1000000/\ ∀(k:List Int) (l:Int),k=tcpEnc b e.1.2.2.2.2.2.1 (Qbm10 g)/\l=tcpErr (Qbm10 g)->(k.length:Int)<=1073741824/\ipEnc (sendP b e.1.2.2.2.2.2.1 e.1.2.2.2.1 c d k)=hostB a b c d/\ipErr (sendP b e.1.2.2.2.2.2.1 e.1.2.2.2.1 c d k)=hostE a c d)) (Qbm8 a b c d))))):=by
  delta Qbm8 Qbm10
  rintro b src id ttl ⟨⟨-,hb⟩,-⟩ hl
  by_cases hn:numOK id ttl
  rotate_left
  · exact ifP_split (fun _=>host_range hn) (fun h=>absurd (by simpa using h) hn)
  refine ifP_split (fun h=>by simp [hn] at h) (fun _=>⟨hl,?_⟩)
  rintro _ _ ⟨rfl,rfl⟩
  refine ifP_split (fun h=>host_bad hn (fun k => ?_)) (fun h => ?_)
  · have:=k.1;simp [this] at h
  have ha:ansOK b:=by simpa using h
  obtain ⟨hd0,h28,hp1,hp6,-⟩:=ans_facts ha
  have hdl:=dec_len hd0
  rw [ansP'_eq ha]
  have hdb:bytes (b.drop 20):=bytes_drop hb
  have hdr:(b.drop 20).length<=1480:=by rw [List.length_drop];omega
  have nofit:∀ k:Prop,(k->hostGood b->False)->k->([]:List Int)=hostB b src id ttl/\(17:Int)=hostE b id ttl:=fun k hk h=>host_bad hn (hk h)
  refine ifP_split (fun h1 => ?_) (fun h1=>ifP_split (fun h17 => ?_) (fun h17=>ifP_split (fun h6 => ?_) (fun h6 => ?_)))
  · have h1:protoOf b=1:=of_decide_eq_true h1
    refine ⟨by show ((b.drop 20).length:Int)<=_;omega,?_⟩
    rintro r i q dt e ⟨hu,rfl⟩
    refine ifP_split (fun h => ?_) (fun h => ?_)
    · refine host_bad hn (fun k => ?_)
      obtain ⟨-,⟨-,k⟩|⟨k,-⟩|⟨k,-⟩⟩:=k
      · simp [k] at h
      · omega
      · omega
    have h:unEchoErr (b.drop 20)=0:=by simpa using h
    have hh:=host_1 (src:=src) hn ha h1 h
    have hlen:=un_echo_len (b.drop 20)
    have e2:(i,q,dt)=(unEcho (b.drop 20)).2:=congrArg Prod.snd hu
    have e3:dt=(unEcho (b.drop 20)).2.2.2:=by rw [← e2]
    refine ⟨by rw [e3];omega,?_⟩
    rintro o e ⟨rfl,rfl⟩
    rw [show ((true,i,q,dt):Echo)=(true,(i,q,dt)) from rfl,e2]
    have hle:=enc_len (true,(unEcho (b.drop 20)).2)
    refine ⟨by omega,?_,?_⟩
    · rw [hh.1,← h1];rfl
    · rw [hh.2];exact ip_send hn (by have:=h1;unfold protoOf at this;simp only;omega) hle
  · have h1:=of_decide_eq_false h1
    have h17:protoOf b=17:=of_decide_eq_true h17
    refine ⟨by show ((b.drop 20).length:Int)<=_;omega,?_⟩
    rintro sp dp dt e ⟨hu,rfl⟩
    refine ifP_split (fun h => ?_) (fun h => ?_)
    · refine host_bad hn (fun k => ?_)
      obtain ⟨-,⟨k,-⟩|⟨-,k⟩|⟨k,-⟩⟩:=k
      · omega
      · have k:unUDPErr (pkHdrF b).2.2.2.2.2.1 (pkHdrF b).2.2.2.2.2.2 (b.drop 20)=0:=k
        simp [k] at h
      · omega
    have h:unUDPErr (srcOf b) (dstOf b) (b.drop 20)=0:=by
      have:unUDPErr (pkHdrF b).2.2.2.2.2.1 (pkHdrF b).2.2.2.2.2.2 (b.drop 20)=0:=by simpa using h
      exact this
    have hh:=host_17 (src:=src) hn ha h17 h
    exact ⟨hl,hh.1.symm,by rw [hh.2,err_port hn ha]⟩
  · have h1:=of_decide_eq_false h1
    have h17:=of_decide_eq_false h17
    have h6:protoOf b=6:=of_decide_eq_true h6
    refine ⟨by show ((b.drop 20).length:Int)<=_;omega,?_⟩
    rintro t e ⟨ht,rfl⟩
    have ht:t=unTCP (srcOf b) (dstOf b) (b.drop 20):=ht
    have hr:=un_tcp_rng (s:=srcOf b) (d:=dstOf b) hdb
    rw [← ht] at hr
    have ee:unTCPErr (pkHdrF b).2.2.2.2.2.1 (pkHdrF b).2.2.2.2.2.2 (b.drop 20)=unTCPErr (srcOf b) (dstOf b) (b.drop 20):=rfl
    rw [ee]
    (repeat (intro (b_:Bool) (hb_:b_=_);(repeat refine ⟨(by first|(simp;done)|(rw [hb_];simp;done)|(rw [hb_];simp;omega)|(rw [hb_];simp;intros;omega)|(rw [hb_];simp +contextual;done)),?_⟩);subst hb_))
    refine ifP_split (fun h => ?_) (fun h => ?_)
    · refine host_bad hn (fun k => ?_)
      obtain ⟨-,⟨k,-⟩|⟨k,-⟩|⟨-,k1,k2,k3⟩⟩:=k
      · omega
      · omega
      · rw [← ht] at k2 k3
        simp [k1,k2,k3] at h
    have k1:unTCPErr (srcOf b) (dstOf b) (b.drop 20)=0:=Classical.byContradiction fun k=>by simp [k] at h
    have k2:bits .and .i64 t.2.2.2.2.1 2≠0:=fun k=>by simp [k1,k] at h
    have k3:bits .and .i64 t.2.2.2.2.1 4=0:=Classical.byContradiction fun k=>by simp [k1,k2,k] at h
    have hh:=host_6 (src:=src) hn ha h6 k1 (by rw [← ht];exact k2) (by rw [← ht];exact k3)
    refine ⟨by simp,?_⟩
    rintro o e ⟨rfl,rfl⟩
    rw [w64 (n:=t.2.2.1+1) (by omega) (by omega),i64_and32]
    have hle:=tcp_enc_len src (srcOf b) (rstOf t)
    have er:((t.2.1,t.1,0,(t.2.2.1+1)%4294967296,20,0,[]):Seg)=rstOf t:=rfl
    rw [er]
    refine ⟨by show ((tcpEnc src (srcOf b) (rstOf t)).length:Int)<=_;omega,?_,?_⟩
    · rw [hh.1,← ht,← h6];rfl
    · rw [hh.2];exact ip_send hn (by have:=h6;unfold protoOf at this;simp only;omega) hle
  · have h1:=of_decide_eq_false h1
    have h17:=of_decide_eq_false h17
    have h6:=of_decide_eq_false h6
    refine host_bad hn (fun k => ?_)
    obtain ⟨-,⟨k,-⟩|⟨k,-⟩|⟨k,-⟩⟩:=k
    · exact h1 k
    · exact h17 k
    · exact h6 k
theorem ok_reply_Host:SpecOK Tryz.prog GL 155 ct_reply_Host.spec:=Ct.okH _ Tryz.func155 (by kernel_rfl) (withSpec_ok (withSpec_ok (withSpec_ok (withSpec_ok (withSpec_ok (withSpec_ok (withSpec_ok (withSpec_ok (withSpec_ok noSpecs_ok ok_reply_numbers) (Ct.named ok_reply_answerable)) (Ct.named ok_transport_DecodeEcho)) (Ct.named ok_transport_EncodeEcho)) (Ct.named ok_transport_DecodeUDP)) (Ct.named ok_transport_DecodeTCP)) (Ct.named ok_transport_EncodeTCP)) ok_reply_Error) ok_reply_send) hmix an_reply_Host (hideMp (by kernel_rfl) vc_reply_Host)
end Go.RS

/- Fib: forwarding tables. -/
namespace Go.RS
open Go.SX Go.Proofs
set_option maxRecDepth 100000
set_option linter.unusedVariables false
abbrev cRt:CT := .pair cPfx (.pair (.sl cI) cI)
abbrev Rt:Type:=Pfx×List Int×Int
def plt (p q:Pfx):Prop:=p.1<q.1∨p.1=q.1/\p.2<q.2
instance (p q:Pfx):Decidable (plt p q):=by unfold plt;infer_instance
theorem icmp_lt {a b:Int} (h:a<b):icmp a b = -1:=by unfold icmp;rw [if_pos h]
theorem icmp_gt {a b:Int} (h:b<a):icmp a b=1:=by unfold icmp;rw [if_neg (by omega),if_pos h]
theorem icmp_eq (a:Int):icmp a a=0:=by unfold icmp;simp
theorem pcmp_cases (p q:Pfx):(plt p q/\pcmp p q = -1)∨(p=q/\pcmp p q=0)∨(plt q p/\pcmp p q=1):=by
  obtain ⟨a,b⟩:=p;obtain ⟨c,e⟩:=q
  unfold pcmp plt
  rcases Int.lt_trichotomy a c with h|rfl|h
  · left;simp [icmp_lt h,h]
  · rcases Int.lt_trichotomy b e with h|rfl|h
    · left;simp [icmp_eq,icmp_lt h,h]
    · right;left;simp [icmp_eq]
    · right;right;simp [icmp_eq,icmp_gt h,h]
  · right;right;simp [icmp_gt h,h]
theorem plt_irrefl (p:Pfx):¬ plt p p:=by unfold plt;omega
theorem plt_trans {p q r:Pfx} (h:plt p q) (k:plt q r):plt p r:=by unfold plt at *;omega
theorem plt_asymm {p q:Pfx} (h:plt p q):¬ plt q p:=by unfold plt at *;omega
theorem plt_total {p q:Pfx} (h:¬ plt p q):p=q∨plt q p:=by rcases pcmp_cases p q with ⟨k,-⟩|⟨k,-⟩|⟨k,-⟩ <;> simp_all
theorem plt_of_not {p q r:Pfx} (h:¬ plt p q) (k:plt p r):¬ plt r q:=fun e=>h (plt_trans k e)
theorem pcmp_neg {p q:Pfx}:pcmp p q<0↔plt p q:=by
  rcases pcmp_cases p q with ⟨h,e⟩|⟨rfl,e⟩|⟨h,e⟩ <;> rw [e]
  · simp [h]
  · simp [plt_irrefl]
  · simp [plt_asymm h]
theorem pcmp_zero {p q:Pfx}:pcmp p q=0↔p=q:=by
  rcases pcmp_cases p q with ⟨h,e⟩|⟨h,e⟩|⟨h,e⟩ <;> rw [e]
  · simp;rintro rfl;exact plt_irrefl _ h
  · simp [h]
  · simp;rintro rfl;exact plt_irrefl _ h
def sortedR (l:List Rt):Prop:=l.Pairwise fun a b=>plt a.1 b.1
theorem place_lo {l:List Rt} {p:Pfx} {h:Int} (hs:sortedR l) (h0:0<=h) (h1:h<l.length) (hl:plt (l.getD h.toNat default).1 p):∀ y∈l.take (h+1).toNat,plt y.1 p:=by
  intro y hy
  have hj:h.toNat<l.length:=by omega
  rcases mem_take_succ h0 h1 hy with hy|rfl
  · obtain ⟨k,hk,rfl⟩:=List.mem_iff_getElem.1 hy
    rw [List.getD_eq_getElem?_getD,List.getElem?_eq_getElem hj,Option.getD_some] at hl
    simp at hk ⊢
    exact plt_trans (List.pairwise_iff_getElem.1 hs k h.toNat (by omega) hj (by omega)) hl
  · exact hl
theorem place_hi {l:List Rt} {p:Pfx} {h:Int} (hs:sortedR l) (h0:0<=h) (h1:h<l.length) (hl:¬ plt (l.getD h.toNat default).1 p):∀ y∈l.drop h.toNat,¬ plt y.1 p:=by
  intro y hy
  have hj:h.toNat<l.length:=by omega
  rw [List.getD_eq_getElem?_getD,List.getElem?_eq_getElem hj,Option.getD_some] at hl
  rw [List.drop_eq_getElem_cons hj] at hy
  rcases List.mem_cons.1 hy with rfl|hy
  · exact hl
  · have hp:((l.drop h.toNat)).Pairwise fun a b=>plt a.1 b.1:=List.Pairwise.drop hs
    rw [List.drop_eq_getElem_cons hj] at hp
    exact plt_of_not hl (List.rel_of_pairwise_cons hp hy)
def ct_slices_Clone_263e:Ct:=⟨[.val (.sl cI)],[.own 3 cI],fun d=>[(d.1.length:Int)<=1099511627776],fun d=>((d.1,()),())⟩
def an_slices_Clone_263e:PDs ct_slices_Clone_263e.ps->Anns:=(fun _=>{})
theorem vc_slices_Clone_263e :
 ∀(a:List Int),(a.length<=maxLen/\ ∀(b:Int),b∈a->R64 b)/\True->(a.length:Int)<=1099511627776-> ∀(b:Bool),(b=true->a.length=(0:Nat))->ifP b (([]:List Int)=a) (((0:Nat)+a.length)*(8:Nat)<=(140737488355328:Nat)/\a=a):=by
  rintro x ⟨⟨hl,-⟩,-⟩ h b hb
  refine ifP_split (fun h1 => ?_) (fun h1=>⟨by simp;omega,by simp⟩)
  have:=hb h1
  exact (List.eq_nil_of_length_eq_zero this).symm
theorem ok_slices_Clone_263e:SpecOK Tryz.prog GL 66 ct_slices_Clone_263e.spec:=Ct.okH _ Tryz.func66 (by kernel_rfl) noSpecs_ok hmix an_slices_Clone_263e (hideMp (by kernel_rfl) vc_slices_Clone_263e)
def ct_fib_copied:Ct:=⟨[.agg cRt],[.agg cRt],fun d=>[(d.1.2.1.length:Int)<=1099511627776],fun d=>((d.1,()),())⟩
def an_fib_copied:PDs ct_fib_copied.ps->Anns:=(fun _=>{})
theorem vc_fib_copied :
 ∀(a b:Int) (c:List Int) (d:Int),(((0<=a/\a<=4294967295)/\R64 b)/\(c.length<=maxLen/\ ∀(e:Int),e∈c->R64 e)/\R64 d)/\True->(c.length:Int)<=1099511627776->(c.length:Int)<=1099511627776/\((a,b),c,d)=((a,b),c,d):=by
  rintro a b c e-h
  exact ⟨h,rfl⟩
theorem ok_fib_copied:SpecOK Tryz.prog GL 215 ct_fib_copied.spec:=Ct.okH _ Tryz.func215 (by kernel_rfl) (withSpec_ok noSpecs_ok ok_slices_Clone_263e) hmix an_fib_copied (hideMp (by kernel_rfl) vc_fib_copied)
def ct_fib_place_1:Ct:=⟨[.agg cRt,.agg cPfx],[.val cI],fun _=>[],fun d=>((pcmp d.1.1 d.2.1,()),())⟩
def an_fib_place_1:PDs ct_fib_place_1.ps->Anns:=(fun _=>{})
theorem vc_fib_place_1 :
 ∀(a b:Int) (c:List Int) (d e f:Int),(((0<=a/\a<=4294967295)/\R64 b)/\(c.length<=maxLen/\ ∀(g:Int),g∈c->R64 g)/\R64 d)/\((0<=e/\e<=4294967295)/\R64 f)/\True->True->pcmp (a,b) (e,f)=pcmp (a,b) (e,f):=by
  intros;trivial
theorem ok_fib_place_1:SpecOK Tryz.prog GL 219 ct_fib_place_1.spec:=Ct.okH _ Tryz.func219 (by kernel_rfl) (withSpec_ok noSpecs_ok ok_address_Compare) hmix an_fib_place_1 (hideMp (by kernel_rfl) vc_fib_place_1)
theorem half {i j:Int} (h0:0<=i) (h1:i<=j) (h2:j<=9223372036854775807):IntKind.wrap IntKind.i64 (shrI IntKind.u64 (IntKind.wrap IntKind.u64 (IntKind.wrap IntKind.i64 (i+j))) (1:Int))=(i+j)/2:=by
  have hw:IntKind.wrap IntKind.u64 (IntKind.wrap IntKind.i64 (i+j))=i+j:=by
    rw [IntKind.wrap_i64,IntKind.wrap_u64];omega
  rw [hw]
  have:shrI IntKind.u64 (i+j) 1=(i+j)/2:=by
    unfold shrI
    rw [Int.fdiv_eq_ediv_of_nonneg _ (by decide)]
    rfl
  rw [this,w64 (by omega) (by omega)]
theorem place_ex (l:List Rt) (p:Pfx):∃ k:Int,0<=k/\k<=l.length/\(sortedR l->(∀ z∈l.take k.toNat,plt z.1 p)∧∀ z∈l.drop k.toNat,¬ plt z.1 p):=by
  induction l with
  | nil=>exact ⟨0,by simp,by simp,by simp⟩
  | cons a l ih =>
    obtain ⟨k,h0,h1,h2⟩:=ih
    by_cases ha:plt a.1 p
    · refine ⟨k+1,by omega,by simp;omega,fun hs => ?_⟩
      obtain ⟨q1,q2⟩:=h2 (List.pairwise_cons.1 hs).2
      have e:(k+1).toNat=k.toNat+1:=by omega
      rw [e]
      refine ⟨fun z hz => ?_,fun z hz=>q2 z (by simpa using hz)⟩
      rw [List.take_succ_cons] at hz
      rcases List.mem_cons.1 hz with rfl|hz
      · exact ha
      · exact q1 z hz
    · refine ⟨0,by omega,by simp only [List.length_cons];omega,fun hs=>⟨by simp,fun z hz => ?_⟩⟩
      rcases List.mem_cons.1 (show z∈a::l from hz) with rfl|hz
      · exact ha
      · exact plt_of_not ha ((List.pairwise_cons.1 hs).1 z hz)
def ct_slices_BinarySearchFunc_0367:Cn:=⟨[.val (.sl cRt),.agg cPfx,.fn 219 0],[.val cI,.val .bool],fun _=>[],fun d y=>0<=y.1.1/\y.1.1<=d.1.length/\(sortedR d.1->(∀ z∈d.1.take y.1.1.toNat,plt z.1 d.2.1)∧∀ z∈d.1.drop y.1.1.toNat,¬ plt z.1 d.2.1)/\y.1.2.1=decide (y.1.1<d.1.length/\(d.1.getD y.1.1.toNat default).1=d.2.1),fun d h=>let ⟨k,h0,h1,h2⟩:=place_ex d.1 d.2.1;⟨((k,decide (k<d.1.length/\(d.1.getD k.toNat default).1=d.2.1),()),()),h0,h1,h2,rfl⟩⟩
def an_slices_BinarySearchFunc_0367:PDs ct_slices_BinarySearchFunc_0367.ps->Anns:=(fun d=>{loops:=(fun n=>match n with|3=>some (fun S=>{ι:=Int×Int,qn:=⟨fun k_=>∀ (i:Int) (j:Int),k_ (i,j),fun k_ h_ i=>h_ i.1 i.2,fun k_=>∃ (i:Int) (j:Int),k_ (i,j),fun k_ ⟨i,j,h_⟩=>⟨_,h_⟩⟩,μ:=fun i=>(i.2-i.1).toNat,inv:=fun i=>0<=i.1/\i.1<=i.2/\i.2<=d.1.length/\(sortedR d.1->(∀ z∈d.1.take i.1.toNat,plt z.1 d.2.1)∧∀ z∈d.1.drop i.2.toNat,¬ plt z.1 d.2.1),keep:=[0,2,4,8],slots:=fun i=>[(9,.int .i64 i.1),(10,.int .i64 i.2)],keepN:=[80],names:=fun i=>[]})|_=>none)})
def Qbn0 (d e:Int) :=
 shrI IntKind.u64 (IntKind.wrap .u64 (IntKind.wrap .i64 (d+e))) (1:Int)
def Qbn1 (a:List Route) :=
 (a.length:Int)
def Qbn6 (a:List Route) :=
 a.length<=maxLen/\ ∀(d:Route),d∈a->((0<=d.1.1/\d.1.1<=4294967295)/\R64 d.1.2)/\(d.2.1.length<=maxLen/\ ∀(e:Int),e∈d.2.1->R64 e)/\R64 d.2.2
def Qbn8 (a:List Route) (b c f g:Int) :=
 0<=f/\f<=g/\g<=(Qbn1 a)/\(sortedR a->(∀(h:Route),h∈List.take f.toNat a->plt h.1 (b,c))/\ ∀(h:Route),h∈List.drop g.toNat a-> ¬plt h.1 (b,c))
def Qbn9 (a:List Route) (b c d e:Int) :=
 d<=e/\e<=(Qbn1 a)/\(sortedR a->(∀(f:Route),f∈List.take d.toNat a->plt f.1 (b,c))/\ ∀(f:Route),f∈List.drop e.toNat a-> ¬plt f.1 (b,c))
theorem vc_slices_BinarySearchFunc_0367 :
 ∀(a:List Route) (b c:Int),(Qbn6 a)/\((0<=b/\b<=4294967295)/\R64 c)/\True/\True->True->(∃(d:Int) (e:Int),(0<=d/\(Qbn9 a b c d e))/\a=a/\(Qbn1 a)=(Qbn1 a)/\(0:Int)=d/\(Qbn1 a)=e/\b=b/\c=c/\True)/\ ∀(d e:Int),0<=d/\(Qbn9 a b c d e)->ifP (decide (d<e)) ((0:Int)<=1/\0<=IntKind.wrap .i64 (Qbn0 d e)/\IntKind.wrap .i64 (Qbn0 d e)<(Qbn1 a)/\ifP (decide (pcmp (a.getD (Int.toNat (IntKind.wrap .i64 (Qbn0 d e))) default).1 (b,c)<0)) (∃(f:Int) (g:Int),(Qbn8 a b c f g)/\Int.toNat (g -f)<Int.toNat (e -d)/\a=a/\(Qbn1 a)=(Qbn1 a)/\IntKind.wrap .i64 (IntKind.wrap .i64 (Qbn0 d e)+(1:Int))=f/\e=g/\b=b/\c=c/\True) (∃(f:Int) (g:Int),(Qbn8 a b c f g)/\Int.toNat (g -f)<Int.toNat (e -d)/\a=a/\(Qbn1 a)=(Qbn1 a)/\d=f/\IntKind.wrap .i64 (Qbn0 d e)=g/\b=b/\c=c/\True)) (∀(f:Bool),f=decide (d<(Qbn1 a))->(f->(f->f)/\(f->f)/\0<=d/\d<(Qbn1
 a)/\True)/\(f->(f->f)/\True)/\(f->(f->f)/\(f->f)/\(f->f)/\True)/\(f->(f->f)/\True)/\(f->f)/\0<=d/\d<=(Qbn1 a)/\(sortedR a->(∀(g:Route),g∈List.take d.toNat a->plt g.1 (b,c))/\ ∀(g:Route),g∈List.drop d.toNat a-> ¬plt g.1 (b,c))/\(bif f then decide (pcmp (a.getD d.toNat default).1 (b,c)=0) else false)=decide (d<(Qbn1 a)/\(a.getD d.toNat default).1=(b,c))):=by
  delta Qbn0 Qbn1 Qbn6 Qbn8 Qbn9
  rintro x p q ⟨⟨hl,-⟩,-⟩ -
  simp only [maxLen] at hl
  refine ⟨⟨0,x.length,⟨by omega,by omega,by omega,fun _=>by simp⟩,(by repeat' first|exact trivial|refine ⟨trivial,?_⟩|refine ⟨(by with_reducible rfl),?_⟩|refine ⟨w64 (by omega) (by omega),?_⟩|refine ⟨rfl,?_⟩)⟩,?_⟩
  rintro i j ⟨h0,h1,h2,h3⟩
  refine ifP_split (fun hb => ?_) (fun hb => ?_)
  · have hb:=of_decide_eq_true hb
    rw [half h0 h1 (by omega)]
    refine ⟨by omega,by omega,by omega,ifP_split (fun hc => ?_) (fun hc => ?_)⟩
    · have hc:=pcmp_neg.1 (of_decide_eq_true hc)
      rw [w64 (by omega) (by omega)]
      refine ⟨(i+j)/2+1,j,⟨by omega,by omega,h2,fun hs=>⟨place_lo hs (by omega) (by omega) hc,(h3 hs).2⟩⟩,by omega,(by repeat' first|exact trivial|refine ⟨trivial,?_⟩|refine ⟨(by with_reducible rfl),?_⟩|refine ⟨w64 (by omega) (by omega),?_⟩|refine ⟨rfl,?_⟩)⟩
    · have hc:¬ plt _ _:=fun h=>absurd (pcmp_neg.2 h) (of_decide_eq_false hc)
      refine ⟨i,(i+j)/2,⟨h0,by omega,by omega,fun hs=>⟨(h3 hs).1,place_hi hs (by omega) (by omega) hc⟩⟩,by omega,(by repeat' first|exact trivial|refine ⟨trivial,?_⟩|refine ⟨(by with_reducible rfl),?_⟩|refine ⟨w64 (by omega) (by omega),?_⟩|refine ⟨rfl,?_⟩)⟩
  · have hb:=of_decide_eq_false hb
    have:i=j:=by omega
    subst this
    (repeat (intro (b_:Bool) (hb_:b_=_);(repeat refine ⟨(by first|(simp;done)|(rw [hb_];simp;done)|(rw [hb_];simp;omega)|(rw [hb_];simp;intros;omega)|(rw [hb_];simp +contextual;done)),?_⟩);subst hb_))
    refine ⟨h0,h2,h3,?_⟩
    rw [Bool.cond_eq_ite]
    by_cases h:i<x.length <;> simp [h,pcmp_zero]
theorem ok_slices_BinarySearchFunc_0367:SpecOK Tryz.prog GL 218 ct_slices_BinarySearchFunc_0367.spec:=Cn.okH _ Tryz.func218 (by kernel_rfl) (withSpec_ok noSpecs_ok ok_fib_place_1) hmix an_slices_BinarySearchFunc_0367 (hideMp (by kernel_rfl) vc_slices_BinarySearchFunc_0367)
theorem set_getD {α:Type} [Inhabited α] {l:List α} {j:Int} (h0:0<=j) (h1:j<l.length):l.set j.toNat (l.getD j.toNat default)=l:=by
  have hj:j.toNat<l.length:=by omega
  rw [List.getD_eq_getElem?_getD,List.getElem?_eq_getElem hj,Option.getD_some,List.set_getElem_self]
def ct_fib_place:Cn:=⟨[.val (.sl cRt),.agg cPfx],[.val cI,.val .bool],fun _=>[],fun d y=>0<=y.1.1/\y.1.1<=d.1.length/\(sortedR d.1->(∀ z∈d.1.take y.1.1.toNat,plt z.1 d.2.1)∧∀ z∈d.1.drop y.1.1.toNat,¬ plt z.1 d.2.1)/\y.1.2.1=decide (y.1.1<d.1.length/\(d.1.getD y.1.1.toNat default).1=d.2.1),fun d h=>let ⟨k,h0,h1,h2⟩:=place_ex d.1 d.2.1;⟨((k,decide (k<d.1.length/\(d.1.getD k.toNat default).1=d.2.1),()),()),h0,h1,h2,rfl⟩⟩
def an_fib_place:PDs ct_fib_place.ps->Anns:=(fun _=>{})
def Qbn5 (a:List Route) (b c d:Int) (e:Bool) :=
 d<=(Qbn1 a)/\(sortedR a->(∀(f:Route),f∈List.take d.toNat a->plt f.1 (b,c))/\ ∀(f:Route),f∈List.drop d.toNat a-> ¬plt f.1 (b,c))/\e=decide (d<(Qbn1 a)/\(a.getD d.toNat default).1=(b,c))
theorem vc_fib_place :
 ∀(a:List Route) (b c:Int),(Qbn6 a)/\((0<=b/\b<=4294967295)/\R64 c)/\True->True-> ∀(d:Int) (e:Bool),0<=d/\(Qbn5 a b c d e)->0<=d/\(Qbn5 a b c d e):=by
  delta Qbn1 Qbn5 Qbn6
  rintro l p q - - i b h
  exact h
theorem ok_fib_place:SpecOK Tryz.prog GL 214 ct_fib_place.spec:=Cn.okH _ Tryz.func214 (by kernel_rfl) (withSpec_ok noSpecs_ok ok_slices_BinarySearchFunc_0367) hmix an_fib_place (hideMp (by kernel_rfl) vc_fib_place)
def putL (l:List Rt) (r:Rt):List Rt:=l.filter (fun a=>decide (plt a.1 r.1))++r::l.filter (fun a=>decide (plt r.1 a.1))
def removeL (l:List Rt) (p:Pfx):List Rt:=l.filter (fun a=>decide (a.1≠p))
def okL (l:List Rt):Prop:=(l.length:Int)<=134217728∧∀ y∈l,(y.2.1.length:Int)<=1099511627776
def stepR (a:Int) (b:Option Rt) (r:Rt):Option Rt:=if contains r.1 a then match b with|none=>some r|some q=>if q.1.2<r.1.2 then some r else some q else b
def look (l:List Rt) (a:Int):Option Rt:=l.foldl (stepR a) none
def lookR (l:List Rt) (a:Int):Rt:=match look l a with|none=>((0,0),[],0)|some r=>r
def lookB (l:List Rt) (a:Int):Bool:=(look l a).isSome
theorem place_split {l:List Rt} {i:Int} (h0:0<=i) (h1:i<l.length):l=l.take i.toNat++l.getD i.toNat default::l.drop (i+1).toNat:=by
  have hj:i.toNat<l.length:=by omega
  rw [List.getD_eq_getElem?_getD,List.getElem?_eq_getElem hj,Option.getD_some,show (i+1).toNat=i.toNat+1 from by omega,← List.drop_eq_getElem_cons hj,List.take_append_drop]
theorem stepR_eq {l:List Rt} {a i:Int} (h0:0<=i) (h1:i<l.length):look (l.take (i+1).toNat) a=stepR a (look (l.take i.toNat) a) (l.getD i.toNat default):=by
  have hj:i.toNat<l.length:=by omega
  rw [show (i+1).toNat=i.toNat+1 from by omega,List.take_succ_eq_append_getElem hj,look,List.foldl_append,List.getD_eq_getElem?_getD,List.getElem?_eq_getElem hj,Option.getD_some]
  rfl
theorem look_step {l:List Rt} {a b i:Int} (h0:0<=i) (h1:i<l.length) (h:look (l.take i.toNat) a=if b<0 then none else some (l.getD b.toNat default)) (c:Bool)
    (hc:c=(bif contains (l.getD i.toNat default).1 a then bif decide (b<0) then true else decide ((l.getD b.toNat default).1.2<(l.getD i.toNat default).1.2) else false)) :
    look (l.take (i+1).toNat) a=if (if c then i else b)<0 then none else some (l.getD (if c then i else b).toNat default):=by
  rw [stepR_eq h0 h1,h]
  unfold stepR
  subst hc
  cases hx:contains (l.getD i.toNat default).1 a with
  | false=>simp
  | true =>
    by_cases hb:b<0
    · simp [hb,show ¬ i<0 from by omega]
    · by_cases hl:(l.getD b.toNat default).1.2<(l.getD i.toNat default).1.2
      · simp only [List.getD_eq_getElem?_getD] at hl
        simp [hb,hl,show ¬ i<0 from by omega]
      · simp only [List.getD_eq_getElem?_getD] at hl
        simp [hb,hl]
theorem look_skip {l:List Rt} {a:Int} {k:Nat} (h:∀ z∈l.drop k,contains z.1 a=false):look l a=look (l.take k) a:=by
  conv=>lhs;rw [← List.take_append_drop k l]
  unfold look
  rw [List.foldl_append]
  generalize List.foldl (stepR a) none (l.take k)=s
  generalize l.drop k=m at h
  induction m generalizing s with
  | nil=>rfl
  | cons z r ih =>
    rw [List.foldl_cons,show stepR a s z=s from by rw [stepR.eq_def,if_neg (by simp [h z List.mem_cons_self])]]
    exact ih (s:=s) (fun y hy=>h y (List.mem_cons_of_mem _ hy))
theorem contains_far {p:Pfx} {a:Int} (h:¬ plt p (a,33)):contains p a=false:=by
  unfold contains pValid
  unfold plt at h
  rw [Bool.and_eq_false_iff]
  simp only [decide_eq_false_iff_not]
  simp only at h
  omega
def ct_fib_Lookup:Ct:=⟨[.val (.sl cRt),.val cU32],[.agg cRt,.val .bool],fun d=>[sortedR d.1,okL d.1],fun d=>((lookR d.1 d.2.1,lookB d.1 d.2.1,()),())⟩
def an_fib_Lookup:PDs ct_fib_Lookup.ps->Anns:=(fun d=>{loops:=(fun n=>match n with|4=>some (fun S=>{ι:=Int×Int×Int,qn:=⟨fun k_=>∀ (i:Int) (b:Int) (n:Int),k_ (i,b,n),fun k_ h_ i=>h_ i.1 i.2.1 i.2.2,fun k_=>∃ (i:Int) (b:Int) (n:Int),k_ (i,b,n),fun k_ ⟨i,b,n,h_⟩=>⟨_,h_⟩⟩,μ:=fun i=>(i.2.2-i.1).toNat,inv:=fun i=>0<=i.1/\i.1<=i.2.2/\i.2.2<=d.1.length ∧ -1<=i.2.1/\i.2.1<i.1/\look (d.1.take i.1.toNat) d.2.1=(if i.2.1<0 then none else some (d.1.getD i.2.1.toNat default))/\(sortedR d.1→∀ z∈d.1.drop i.2.2.toNat,¬ plt z.1 (d.2.1,33)),keep:=[0,1,4],slots:=fun i=>[(8,.int .i64 i.2.1),(17,.int .i64 i.2.2),(18,.int .i64 i.1)],keepN:=[80],names:=fun i=>[]})|_=>none)})
def Qbn2 (h i:Bool) :=
 (h&& ! i)->((h&& ! i)->(h&& ! i))/\True
def Qbn3 (a:List Route) (b j k l:Int) :=
 0<=j/\j<=l/\l<=(Qbn1 a)/\ -1<=k/\k<j/\(look (List.take j.toNat a) b=if k<0 then none else some (a.getD k.toNat default))/\(sortedR a-> ∀(m:Route),m∈List.drop l.toNat a-> ¬plt m.1 (b,(33:Int)))
def Qbn4 (a:List Route) (b e f g:Int) :=
 e<=g/\g<=(Qbn1 a)/\ -1<=f/\f<e/\(look (List.take e.toNat a) b=if f<0 then none else some (a.getD f.toNat default))/\(sortedR a-> ∀(h:Route),h∈List.drop g.toNat a-> ¬plt h.1 (b,(33:Int)))
def Qbn7 (a:List Route) :=
 a.length<=maxLen/\ ∀(c:Route),c∈a->((0<=c.1.1/\c.1.1<=4294967295)/\R64 c.1.2)/\(c.2.1.length<=maxLen/\ ∀(d:Int),d∈c.2.1->R64 d)/\R64 c.2.2
theorem vc_fib_Lookup :
 ∀(a:List Route) (b:Int),(Qbn7 a)/\(0<=b/\b<=4294967295)/\True->(sortedR a/\(Qbn1 a)<=134217728/\ ∀(c:Rt),c∈a->(c.2.1.length:Int)<=1099511627776)-> ∀(c:Int) (d:Bool),0<=c/\c<=(Qbn1 a)/\(sortedR a->(∀(e:Route),e∈List.take c.toNat a->plt e.1 (b,(33:Int)))/\ ∀(e:Route),e∈List.drop c.toNat a-> ¬plt e.1 (b,(33:Int)))/\d=decide (c<(Qbn1 a)/\(a.getD c.toNat default).1=(b,(33:Int)))->(∃(e:Int) (f:Int),∃(g:Int),(0<=e/\(Qbn4 a b e f g))/\a=a/\b=b/\(-1:Int)=f/\c=g/\(0:Int)=e/\(0:Int)=0/\(0:Int)=0/\(0:Int)=0/\True)/\ ∀(e f g:Int),0<=e/\(Qbn4 a b e f g)->ifP (decide (e<g)) (0<=e/\e<(Qbn1 a)/\ ∀(h:Bool),h=contains (a.getD e.toNat default).1 b->(h->(h->h)/\True)/\(h->(h->h)/\True)/\ ∀(i:Bool),i=decide (f<0)->((h&& ! i)->((h&& ! i)->(h&& ! i))/\((h&& ! i)->(h&& ! i))/\0<=e/\e<(Qbn1 a)/\True)/\(Qbn2 h i)/\(Qbn2 h i)/\(Qbn2 h i)/\((h&& ! i)->((h&& ! i)->(h&& ! i))/\((h&& ! i)->(h&& ! i))/\0<=f/\f<(Qbn1
 a)/\True)/\(Qbn2 h i)/\(Qbn2 h i)/\(Qbn2 h i)/\((h&& ! i)->((h&& ! i)->(h&& ! i))/\((h&& ! i)->(h&& ! i))/\True)/\(h->(h->h)/\(i=false->(h&& ! i))/\True)/\(h->h)/\ifP (bif h then bif i then true else decide ((a.getD f.toNat default).1.2<(a.getD e.toNat default).1.2) else false) (∃(j:Int) (k:Int),∃(l:Int),(Qbn3 a b j k l)/\Int.toNat (l -j)<Int.toNat (g -e)/\a=a/\b=b/\e=k/\g=l/\IntKind.wrap .i64 (e+(1:Int))=j/\(0:Int)=0/\(0:Int)=0/\(0:Int)=0/\True) (∃(j:Int) (k:Int),∃(l:Int),(Qbn3 a b j k l)/\Int.toNat (l -j)<Int.toNat (g -e)/\a=a/\b=b/\f=k/\g=l/\IntKind.wrap .i64 (e+(1:Int))=j/\(0:Int)=0/\(0:Int)=0/\(0:Int)=0/\True)) (ifP (decide (f<0)) ((((0:Int),(0:Int)),([]:List Int),(0:Int))=lookR a b/\false=lookB a b) (0<=f/\f<(Qbn1 a)/\((List.length (a.getD f.toNat default).2.1):Int)<=1099511627776/\a.getD f.toNat default=lookR a b/\true=lookB a b)):=by
  delta Qbn1 Qbn2 Qbn3 Qbn4 Qbn7
  rintro l a ⟨⟨hl,-⟩,-⟩ ⟨hs,hk,hx⟩ n f ⟨n0,n1,n2,-⟩
  simp only [maxLen] at hl
  refine ⟨⟨0,-1,n,⟨by omega,by omega,by omega,by omega,by omega,by simp [look],fun _=>(n2 hs).2⟩,(by repeat' first|exact trivial|refine ⟨trivial,?_⟩|refine ⟨(by with_reducible rfl),?_⟩|refine ⟨w64 (by omega) (by omega),?_⟩|refine ⟨rfl,?_⟩)⟩,?_⟩
  rintro i b n ⟨h0,h1,h2,h3,h4,h5,h6⟩
  refine ifP_split (fun hi => ?_) (fun hi => ?_)
  · have hi:=of_decide_eq_true hi
    have hst:=look_step h0 (by omega) h5
    refine ⟨h0,by omega,?_⟩
    (repeat (intro (b_:Bool) (hb_:b_=_);(repeat refine ⟨(by first|(simp;done)|(rw [hb_];simp;done)|(rw [hb_];simp;omega)|(rw [hb_];simp;intros;omega)|(rw [hb_];simp +contextual;done)),?_⟩);subst hb_))
    refine ifP_split (fun hc => ?_) (fun hc => ?_)
    · have hst:=hst true hc.symm
      refine ⟨i+1,i,n,⟨by omega,by omega,h2,by omega,by omega,by simpa using hst,h6⟩,by omega,(by repeat' first|exact trivial|refine ⟨trivial,?_⟩|refine ⟨(by with_reducible rfl),?_⟩|refine ⟨w64 (by omega) (by omega),?_⟩|refine ⟨rfl,?_⟩)⟩
    · have hst:=hst false hc.symm
      refine ⟨i+1,b,n,⟨by omega,by omega,h2,by omega,by omega,by simpa using hst,h6⟩,by omega,(by repeat' first|exact trivial|refine ⟨trivial,?_⟩|refine ⟨(by with_reducible rfl),?_⟩|refine ⟨w64 (by omega) (by omega),?_⟩|refine ⟨rfl,?_⟩)⟩
  · have hi:=of_decide_eq_false hi
    have e:i=n:=by omega
    subst e
    have hlook:look l a=look (l.take i.toNat) a:=look_skip (fun z hz=>contains_far (h6 hs z hz))
    rw [h5] at hlook
    refine ifP_split (fun hb => ?_) (fun hb => ?_)
    · rw [if_pos (of_decide_eq_true hb)] at hlook
      simp [lookR,lookB,hlook]
    · have hb:=of_decide_eq_false hb
      rw [if_neg hb] at hlook
      refine ⟨by omega,by omega,hx _ (getD_mem (by omega) (by omega)),?_,?_⟩
      · rw [lookR,hlook]
      · rw [lookB,hlook];rfl
theorem ok_fib_Lookup:SpecOK Tryz.prog GL 197 ct_fib_Lookup.spec:=Ct.okH _ Tryz.func197 (by kernel_rfl) (withSpec_ok (withSpec_ok (withSpec_ok noSpecs_ok ok_fib_place) ok_fib_copied) ok_address_Contains) hmix an_fib_Lookup (hideMp (by kernel_rfl) vc_fib_Lookup)
def nextAt (l links:List Int) (j:Nat):Prop:=(0<j->l.getD (j-1) default<l.getD j default)/\l.getD j default∈links
instance (l links:List Int) (j:Nat):Decidable (nextAt l links j):=by unfold nextAt;infer_instance
def nextOK (l links:List Int):Prop:=l.length<=16∧∀ j:Nat,j<l.length->nextAt l links j
instance (l links:List Int):Decidable (nextOK l links):=by unfold nextOK;infer_instance
def rightR (r:Rt) (links:List Int):Prop:=nextOK r.2.1 links/\1<=r.2.2/\r.2.2<=3
instance (r:Rt) (links:List Int):Decidable (rightR r links):=by unfold rightR;infer_instance
def chk (links:List Int):Option Pfx->List Rt->Int
  | _,[]=>0
  | q,r::rs=>if pValid r.1=false then 10 else if q.any (fun q=>decide (0<=pcmp q r.1)) then 6 else if ¬ rightR r links then 12 else chk links (some r.1) rs
def check (l:List Rt) (links:List Int):Int:=if (64:Int)<l.length then 5 else chk links none l
def prevR (l:List Rt) (i:Int):Option Pfx:=if i=0 then none else some (l.getD (i-1).toNat default).1
theorem nextAt_int {l links:List Int} {i:Int} (h0:0<=i) (h:0<i->l.getD (i.toNat-1) default<l.getD i.toNat default) (h2:l.getD i.toNat default∈links):nextAt l links i.toNat :=
  ⟨fun hi=>h (by omega),h2⟩
theorem nextAt_succ {l links:List Int} {i:Int} (h0:0<=i) (h:∀ j:Nat,(j:Int)<i->nextAt l links j) (h2:nextAt l links i.toNat):∀ j:Nat,(j:Int)<i+1->nextAt l links j:=by
  intro j hj
  by_cases e:(j:Int)<i
  · exact h j e
  · rw [show j=i.toNat from by omega];exact h2
theorem chk_at {l:List Rt} {links:List Int} {i:Int} {q:Option Pfx} (h0:0<=i) (h1:i<l.length):chk links q (l.drop i.toNat)=if pValid (l.getD i.toNat default).1=false then 10 else if q.any (fun q=>decide (0<=pcmp q (l.getD i.toNat default).1)) then 6 else if ¬ rightR (l.getD i.toNat default) links then 12 else chk links (some (l.getD i.toNat default).1) (l.drop (i+1).toNat):=by
  have hj:i.toNat<l.length:=by omega
  have e:(i+1).toNat=i.toNat+1:=by omega
  rw [List.drop_eq_getElem_cons hj,chk,List.getD_eq_getElem?_getD,List.getElem?_eq_getElem hj,Option.getD_some,e]
def ct_fib_right:Ct:=⟨[.agg cRt,.val (.sl cI)],[.val .bool],fun _=>[],fun d=>((decide (rightR d.1 d.2.1),()),())⟩
def an_fib_right:PDs ct_fib_right.ps->Anns:=(fun d=>{loops:=(fun n=>match n with|4=>some (fun S=>{ι:=Int,μ:=fun i=>(d.1.2.1.length-i).toNat,inv:=fun i=>0<=i/\i<=d.1.2.1.length∧∀ j:Nat,(j:Int)<i->nextAt d.1.2.1 d.2.1 j,keep:=[1,2,22,23],slots:=fun i=>[(24,.int .i64 i)],keepN:=[48],names:=fun i=>[]})|_=>none)})
theorem vc_fib_right :
 ∀(a b:Int) (c:List Int) (d:Int) (e:List Int),(((0<=a/\a<=4294967295)/\R64 b)/\(c.length<=maxLen/\ ∀(f:Int),f∈c->R64 f)/\R64 d)/\(e.length<=maxLen/\ ∀(f:Int),f∈e->R64 f)/\True->True-> ∀(f:Bool),f=decide (16<(c.length:Int))->((! f)->((! f)->(! f))/\True)/\((! f)->((! f)->(! f))/\True)/\(f=false->(! f))/\ ∀(g:Bool),(g=bif f then true else decide (d<1))->((! g)->((! g)->(! g))/\True)/\((! g)->((! g)->(! g))/\True)/\(g=false->(! g))/\ifP (bif g then true else decide (3<d)) (false=decide (rightR ((a,b),c,d) e)) ((∃(h:Int),(0<=h/\h<=(c.length:Int)/\ ∀(i:Nat),(↑i:Int)<h->nextAt c e i)/\e=e/\c=c/\(c.length:Int)=(c.length:Int)/\(0:Int)=h/\a=a/\b=b/\c=c/\d=d/\True)/\ ∀(h:Int),(0<=h/\h<=(c.length:Int)/\ ∀(i:Nat),(↑i:Int)<h->nextAt c e i)->ifP (decide (h<(c.length:Int))) (0<=h/\h<(c.length:Int)/\ ∀(i:Bool),i=decide (0<h)->(i->(i->i)/\True)/\(i->(i->i)/\True)/\(i->(i->i)/\(i->i)/\0<=IntKind.wrap .i64
 (h -(1:Int))/\IntKind.wrap .i64 (h -(1:Int))<(c.length:Int)/\True)/\(i->(i->i)/\True)/\(i->(i->i)/\(i->i)/\True)/\(i->i)/\ ∀(j:Bool),(j=bif i then decide (c.getD h.toNat default<=c.getD (Int.toNat (IntKind.wrap .i64 (h -(1:Int)))) default) else false)->((! j)->((! j)->(! j))/\((! j)->(! j))/\True)/\((! j)->((! j)->(! j))/\True)/\(j=false->(! j))/\ifP (bif j then true else ! decide (c.getD h.toNat default∈e)) (false=decide (rightR ((a,b),c,d) e)) (∃(k:Int),(0<=k/\k<=(c.length:Int)/\ ∀(l:Nat),(↑l:Int)<k->nextAt c e l)/\Int.toNat ((c.length:Int) -k)<Int.toNat ((c.length:Int) -h)/\e=e/\c=c/\(c.length:Int)=(c.length:Int)/\IntKind.wrap .i64 (h+(1:Int))=k/\a=a/\b=b/\c=c/\d=d/\True)) (true=decide (rightR ((a,b),c,d) e))):=by
  rintro a n l b ks ⟨⟨⟨-,-⟩,⟨hl,-⟩,-⟩,-⟩ -
  simp only [maxLen] at hl
  (repeat (intro (b_:Bool) (hb_:b_=_);(repeat refine ⟨(by first|(simp;done)|(rw [hb_];simp;done)|(rw [hb_];simp;omega)|(rw [hb_];simp;intros;omega)|(rw [hb_];simp +contextual;done)),?_⟩);subst hb_))
  refine ifP_split (fun hb => ?_) (fun hb => ?_)
  · have hb:¬ (l.length<=16/\1<=b/\b<=3):=by simp [-List.getD_eq_getElem?_getD,-Int.default_eq_zero,Bool.cond_eq_ite] at hb;omega
    symm;apply decide_eq_false
    rintro ⟨⟨h1,-⟩,h2⟩;exact hb ⟨h1,h2⟩
  · have hb:l.length<=16/\1<=b/\b<=3:=by simp [-List.getD_eq_getElem?_getD,-Int.default_eq_zero,Bool.cond_eq_ite] at hb;omega
    refine ⟨⟨0,⟨by omega,by omega,by omega⟩,(by repeat' first|exact trivial|refine ⟨trivial,?_⟩|refine ⟨(by with_reducible rfl),?_⟩|refine ⟨w64 (by omega) (by omega),?_⟩|refine ⟨rfl,?_⟩)⟩,?_⟩
    rintro i ⟨h0,h1,h2⟩
    refine ifP_split (fun hi => ?_) (fun hi => ?_)
    · have hi:=of_decide_eq_true hi
      refine ⟨h0,hi,?_⟩
      rw [w64 (n:=i-1) (by omega) (by omega)]
      (repeat (intro (b_:Bool) (hb_:b_=_);(repeat refine ⟨(by first|(simp;done)|(rw [hb_];simp;done)|(rw [hb_];simp;omega)|(rw [hb_];simp;intros;omega)|(rw [hb_];simp +contextual;done)),?_⟩);subst hb_))
      refine ifP_split (fun hc => ?_) (fun hc => ?_)
      · have hc:¬ nextAt l ks i.toNat:=by
          rintro ⟨k1,k2⟩
          simp [-List.getD_eq_getElem?_getD,-Int.default_eq_zero,Bool.cond_eq_ite,k2] at hc
          have:=k1 (by omega);omega
        symm;apply decide_eq_false
        rintro ⟨⟨-,h3⟩,-⟩;exact hc (h3 _ (show i.toNat<l.length by omega))
      · have hc:nextAt l ks i.toNat:=by
          simp [-List.getD_eq_getElem?_getD,-Int.default_eq_zero,Bool.cond_eq_ite] at hc
          refine nextAt_int h0 (fun hp => ?_) hc.2
          have:=hc.1 hp;omega
        exact ⟨i+1,⟨by omega,by omega,nextAt_succ h0 h2 hc⟩,by omega,rfl,rfl,rfl,w64 (by omega) (by omega),(by repeat' first|exact trivial|refine ⟨trivial,?_⟩|refine ⟨(by with_reducible rfl),?_⟩|refine ⟨w64 (by omega) (by omega),?_⟩|refine ⟨rfl,?_⟩)⟩
    · have hi:=of_decide_eq_false hi
      symm;apply decide_eq_true
      exact ⟨⟨hb.1,fun j hj=>h2 j (by simp only at hj;omega)⟩,hb.2⟩
theorem ok_fib_right:SpecOK Tryz.prog GL 99 ct_fib_right.spec:=Ct.okH _ Tryz.func99 (by kernel_rfl) (withSpec_ok noSpecs_ok ok_slices_Contains_263e) hmix an_fib_right (hideMp (by kernel_rfl) vc_fib_right)
def ct_fib_Check:Ct:=⟨[.val (.sl cRt),.val (.sl cI)],[.val cI],fun _=>[],fun d=>((check d.1 d.2.1,()),())⟩
def an_fib_Check:PDs ct_fib_Check.ps->Anns:=(fun d=>{loops:=(fun n=>match n with|4=>some (fun S=>{ι:=Int,μ:=fun i=>(d.1.length-i).toNat,inv:=fun i=>0<=i/\i<=d.1.length/\check d.1 d.2.1=chk d.2.1 (prevR d.1 i) (d.1.drop i.toNat),keep:=[0,1,10,11],slots:=fun i=>[(12,.int .i64 i)],names:=fun i=>[]})|_=>none)})
theorem vc_fib_Check :
 ∀(a:List Route) (b:List Int),(Qbn7 a)/\(b.length<=maxLen/\ ∀(c:Int),c∈b->R64 c)/\True->True->ifP (decide (64<(Qbn1 a))) ((5:Int)=check a b) ((∃(c:Int),(0<=c/\c<=(Qbn1 a)/\check a b=chk b (prevR a c) (List.drop c.toNat a))/\a=a/\b=b/\a=a/\(Qbn1 a)=(Qbn1 a)/\(0:Int)=c/\True)/\ ∀(c:Int),0<=c/\c<=(Qbn1 a)/\check a b=chk b (prevR a c) (List.drop c.toNat a)->ifP (decide (c<(Qbn1 a))) (0<=c/\c<(Qbn1 a)/\ifP (! pValid (a.getD c.toNat default).1) ((10:Int)=check a b) (∀(d:Bool),d=decide (0<c)->(d->(d->d)/\True)/\(d->(d->d)/\(d->d)/\0<=IntKind.wrap .i64 (c -(1:Int))/\IntKind.wrap .i64 (c -(1:Int))<(Qbn1 a)/\True)/\(d->(d->d)/\True)/\(d->(d->d)/\True)/\(d->(d->d)/\True)/\(d->(d->d)/\(d->d)/\True)/\(d->(d->d)/\True)/\(d->d)/\ifP (bif d then decide (0<=pcmp (a.getD (Int.toNat (IntKind.wrap .i64 (c -(1:Int)))) default).1 (a.getD c.toNat default).1) else false) ((6:Int)=check a b) (ifP (! decide (rightR
 (a.getD c.toNat default) b)) ((12:Int)=check a b) (∃(e:Int),(0<=e/\e<=(Qbn1 a)/\check a b=chk b (prevR a e) (List.drop e.toNat a))/\Int.toNat ((Qbn1 a) -e)<Int.toNat ((Qbn1 a) -c)/\a=a/\b=b/\a=a/\(Qbn1 a)=(Qbn1 a)/\IntKind.wrap .i64 (c+(1:Int))=e/\True)))) ((0:Int)=check a b)):=by
  delta Qbn1 Qbn7
  rintro l ks ⟨⟨hl,-⟩,-⟩ -
  simp only [maxLen] at hl
  refine ifP_split (fun hb => ?_) (fun hb => ?_)
  · rw [check,if_pos (of_decide_eq_true hb)]
  · have hb:=of_decide_eq_false hb
    refine ⟨⟨0,⟨by omega,by omega,by rw [check,if_neg hb];rfl⟩,(by repeat' first|exact trivial|refine ⟨trivial,?_⟩|refine ⟨(by with_reducible rfl),?_⟩|refine ⟨w64 (by omega) (by omega),?_⟩|refine ⟨rfl,?_⟩)⟩,?_⟩
    rintro i ⟨h0,h1,h2⟩
    rw [h2]
    refine ifP_split (fun hi => ?_) (fun hi => ?_)
    · have hi:=of_decide_eq_true hi
      rw [chk_at h0 hi,w64 (n:=i-1) (by omega) (by omega)]
      refine ⟨h0,hi,ifP_split (fun hc => ?_) (fun hc => ?_)⟩
      · simp only [Bool.not_eq_true'] at hc
        rw [if_pos hc]
      · simp only [Bool.not_eq_false'] at hc
        rw [if_neg (by simp [-List.getD_eq_getElem?_getD,-Int.default_eq_zero,hc])]
        (repeat (intro (b_:Bool) (hb_:b_=_);(repeat refine ⟨(by first|(simp;done)|(rw [hb_];simp;done)|(rw [hb_];simp;omega)|(rw [hb_];simp;intros;omega)|(rw [hb_];simp +contextual;done)),?_⟩);subst hb_))
        have he:(Option.any (fun q=>decide (0<=pcmp q (l.getD i.toNat default).1)) (prevR l i))=(bif decide (0<i) then decide (0<=pcmp (l.getD (i-1).toNat default).1 (l.getD i.toNat default).1) else false):=by
          unfold prevR
          by_cases e:i=0
          · simp [e]
          · rw [if_neg e,Option.any_some];simp [show 0<i from by omega]
        rw [he]
        refine ifP_split (fun hd => ?_) (fun hd => ?_)
        · rw [if_pos hd]
        · rw [if_neg (by rw [hd];decide)]
          refine ifP_split (fun hr => ?_) (fun hr => ?_)
          · simp only [Bool.not_eq_true',decide_eq_false_iff_not] at hr
            rw [if_pos hr]
          · simp only [Bool.not_eq_false',decide_eq_true_eq] at hr
            rw [if_neg (fun h=>h hr)]
            refine ⟨i+1,⟨by omega,by omega,?_⟩,by omega,(by repeat' first|exact trivial|refine ⟨trivial,?_⟩|refine ⟨(by with_reducible rfl),?_⟩|refine ⟨w64 (by omega) (by omega),?_⟩|refine ⟨rfl,?_⟩)⟩
            rw [prevR,if_neg (by omega),show i+1-1=i from by omega]
    · have hi:=of_decide_eq_false hi
      rw [List.drop_eq_nil_of_le (by omega),chk]
theorem ok_fib_Check:SpecOK Tryz.prog GL 51 ct_fib_Check.spec:=Ct.okH _ Tryz.func51 (by kernel_rfl) (withSpec_ok (withSpec_ok (withSpec_ok noSpecs_ok ok_fib_right) ok_address_Valid) ok_address_Compare) hmix an_fib_Check (hideMp (by kernel_rfl) vc_fib_Check)
theorem later {l:List Rt} {p:Pfx} {i:Int} (hs:sortedR l) (h0:0<=i) (h1:i<l.length) {z:Rt} (hz:z∈l.take i.toNat) (hp:¬ plt z.1 p):plt p (l.getD i.toNat default).1:=by
  have hsp:=place_split h0 h1
  unfold sortedR at hs
  rw [hsp] at hs
  have:=(List.pairwise_append.1 hs).2.2 z hz _ List.mem_cons_self
  rcases plt_total hp with e|h
  · rw [← e];exact this
  · exact plt_trans h this
def hasL (l:List Rt) (p:Pfx):Bool:=decide ((removeL l p).length<l.length)
end Go.RS

/- Law09: the laws of forwarding tables. -/
namespace Go.RS
open Go.SX Go.Proofs
set_option maxRecDepth 100000
set_option linter.unusedVariables false
theorem putL_mem {l:List Rt} {r z:Rt}:z∈putL l r↔z=r∨(z∈l/\z.1≠r.1):=by
  unfold putL
  simp only [List.mem_append,List.mem_cons,List.mem_filter,decide_eq_true_eq]
  constructor
  · rintro (⟨h,k⟩|h|⟨h,k⟩)
    · exact .inr ⟨h,fun e=>plt_irrefl _ (e▸k)⟩
    · exact .inl h
    · exact .inr ⟨h,fun e=>plt_irrefl _ (e▸k)⟩
  · rintro (h|⟨h,k⟩)
    · exact .inr (.inl h)
    · by_cases hp:plt z.1 r.1
      · exact .inl ⟨h,hp⟩
      · rcases plt_total hp with e|e
        · exact absurd e k
        · exact .inr (.inr ⟨h,e⟩)
theorem putL_sorted {l:List Rt} {r:Rt} (hs:sortedR l):sortedR (putL l r):=by
  unfold sortedR putL
  refine List.pairwise_append.2 ⟨List.Pairwise.filter _ hs,List.pairwise_cons.2 ⟨fun z hz => ?_,List.Pairwise.filter _ hs⟩,fun x hx y hy => ?_⟩
  · simpa using (List.mem_filter.1 hz).2
  · have hx:plt x.1 r.1:=by simpa using (List.mem_filter.1 hx).2
    rcases List.mem_cons.1 hy with rfl|hy
    · exact hx
    · exact plt_trans hx (by simpa using (List.mem_filter.1 hy).2)
end Go.RS

/- Bucket: buckets and their laws' times. -/
namespace Go.RS
open Go.SX Go.Proofs
set_option maxRecDepth 100000
set_option linter.unusedVariables false
abbrev w (n:Int):Int:=IntKind.i64.wrap n
def bFull (b:Int×Int) (at':Int):Int×Int:=(w (b.1*b.2),at')
def bCredit (b t:Int×Int) (at':Int):Int:=min (w (t.1+w (at'-t.2))) (w (b.1*b.2))
def bTake (b t:Int×Int) (at':Int):(Int×Int)×Bool :=
  if b=(0,0) then ((0,max at' t.2),true) else
    if bCredit b t (max at' t.2)<b.2 then ((bCredit b t (max at' t.2),max at' t.2),false) else ((w (bCredit b t (max at' t.2)-b.2),max at' t.2),true)
def bMost (b:Int×Int) (n:Int):Int:=if b=(0,0)∨n<0∨b.2<1 then -1 else w (b.1+w (n.tdiv b.2))
def ct_bucket_unlimited:Ct:=⟨[.agg cBucket],[.val .bool],fun _=>[],fun d=>((decide (d.1=(0,0)),()),())⟩
def an_bucket_unlimited:PDs ct_bucket_unlimited.ps->Anns:=(fun _=>{})
theorem vc_bucket_unlimited :
 ∀(a b:Int),(R64 a/\R64 b)/\True->True->(decide (a=0)&&(decide (b=0)&&true))=decide ((a,b)=((0:Int),(0:Int))):=by
  rintro x y - -
  simp
theorem ok_bucket_unlimited:SpecOK Tryz.prog GL 96 ct_bucket_unlimited.spec:=Ct.okH _ Tryz.func96 (by kernel_rfl) noSpecs_ok hmix an_bucket_unlimited (hideMp (by kernel_rfl) vc_bucket_unlimited)
def ct_bucket_credit:Ct:=⟨[.agg cBucket,.agg cTokens,.val cI],[.val cI],fun _=>[],fun d=>((bCredit d.1 d.2.1 d.2.2.1,()),())⟩
def an_bucket_credit:PDs ct_bucket_credit.ps->Anns:=(fun _=>{})
theorem vc_bucket_credit :
 ∀(a b c d e:Int),(R64 a/\R64 b)/\(R64 c/\R64 d)/\R64 e/\True->True->min (IntKind.wrap .i64 (c+IntKind.wrap .i64 (e -d))) (IntKind.wrap .i64 (a*b))=bCredit (a,b) (c,d) e:=by
  rintro x y a b c - -
  rfl
theorem ok_bucket_credit:SpecOK Tryz.prog GL 210 ct_bucket_credit.spec:=Ct.okH _ Tryz.func210 (by kernel_rfl) noSpecs_ok hmix an_bucket_credit (hideMp (by kernel_rfl) vc_bucket_credit)
def ct_bucket_Full:Ct:=⟨[.agg cBucket,.val cI],[.agg cTokens],fun _=>[],fun d=>((bFull d.1 d.2.1,()),())⟩
def an_bucket_Full:PDs ct_bucket_Full.ps->Anns:=(fun _=>{})
theorem vc_bucket_Full :
 ∀(a b c:Int),(R64 a/\R64 b)/\R64 c/\True->True->(IntKind.wrap .i64 (a*b),c)=(w (a*b),c):=by
  rintro x y a - -
  rfl
theorem ok_bucket_Full:SpecOK Tryz.prog GL 62 ct_bucket_Full.spec:=Ct.okH _ Tryz.func62 (by kernel_rfl) noSpecs_ok hmix an_bucket_Full (hideMp (by kernel_rfl) vc_bucket_Full)
def ct_bucket_Take:Ct:=⟨[.agg cBucket,.agg cTokens,.val cI],[.agg cTokens,.val .bool],fun _=>[],fun d=>(((bTake d.1 d.2.1 d.2.2.1).1,(bTake d.1 d.2.1 d.2.2.1).2,()),())⟩
def an_bucket_Take:PDs ct_bucket_Take.ps->Anns:=(fun _=>{})
theorem vc_bucket_Take :
 ∀(a b c d e:Int),(R64 a/\R64 b)/\(R64 c/\R64 d)/\R64 e/\True->True->ifP (decide ((a,b)=((0:Int),(0:Int)))) (((0:Int),max e d)=(bTake (a,b) (c,d) e).1/\true=(bTake (a,b) (c,d) e).2) (ifP (decide (bCredit (a,b) (c,d) (max e d)<b)) ((bCredit (a,b) (c,d) (max e d),max e d)=(bTake (a,b) (c,d) e).1/\false=(bTake (a,b) (c,d) e).2) ((IntKind.wrap .i64 (bCredit (a,b) (c,d) (max e d) -b),max e d)=(bTake (a,b) (c,d) e).1/\true=(bTake (a,b) (c,d) e).2)):=by
  rintro x y a b c - -
  simp only [bTake]
  refine ifP_split (fun hb => ?_) (fun hb => ?_)
  · have hb:=of_decide_eq_true hb
    rw [if_pos hb];exact ⟨rfl,rfl⟩
  · have hb:=of_decide_eq_false hb
    rw [if_neg hb]
    refine ifP_split (fun h => ?_) (fun h => ?_)
    · rw [if_pos (of_decide_eq_true h)];exact ⟨rfl,rfl⟩
    · rw [if_neg (of_decide_eq_false h)];exact ⟨rfl,rfl⟩
theorem ok_bucket_Take:SpecOK Tryz.prog GL 193 ct_bucket_Take.spec:=Ct.okH _ Tryz.func193 (by kernel_rfl) (withSpec_ok (withSpec_ok noSpecs_ok ok_bucket_unlimited) ok_bucket_credit) hmix an_bucket_Take (hideMp (by kernel_rfl) vc_bucket_Take)
def okBk (b:Int×Int):Prop:=b=(0,0)∨(1<=b.1/\b.1<=4/\1<=b.2/\b.2<=1000)
end Go.RS

/- Nodec: the parts and the errors of a node. -/
namespace Go.RS
open Go.SX Go.Proofs
set_option maxRecDepth 100000
set_option linter.unusedVariables false
def bCheck (b:Int×Int):Int:=if b=(0,0)∨(1<=b.1/\b.1<=65536/\1<=b.2/\b.2<=1073741824) then 0 else 1
def pLinks (x:Node):List Int:=(nPorts x).map (·.2)
def pAddrs (x:Node):List Int:=(nPorts x).map (·.1)
def findP (q:Int×Int->Bool) (l:List (Int×Int)):Int:=if l.findIdx q<l.length then (l.findIdx q:Int) else -1
def isA (a:Int) (p:Int×Int):Bool:=decide (p.1=a)
def isL (k:Int) (p:Int×Int):Bool:=decide (p.2=k)
def portA (x:Node) (a:Int):Int:=findP (isA a) (nPorts x)
def portL (x:Node) (k:Int):Int:=findP (isL k) (nPorts x)
def ownsA (x:Node) (a:Int):Bool:=decide (0<=portA x a)||(!decide (nLoop x=0)&&decide (nLoop x=a))
theorem take_step {α:Type} [Inhabited α] {l:List α} {k:Int} (h0:0<=k) (h1:k<l.length):l.take (k+1).toNat=l.take k.toNat++[l.getD k.toNat default]:=by
  rw [show (k+1).toNat=k.toNat+1 by omega,List.take_add_one,List.getElem?_eq_getElem (by omega),List.getD_eq_getElem?_getD,List.getElem?_eq_getElem (by omega)];rfl
def ct_bucket_Check:Ct:=⟨[.agg cBucket],[.val cI],fun _=>[],fun d=>((bCheck d.1,()),())⟩
def an_bucket_Check:PDs ct_bucket_Check.ps->Anns:=(fun _=>{})
theorem vc_bucket_Check :
 ∀(a b:Int),(R64 a/\R64 b)/\True->True-> ∀(c:Bool),c= ! decide ((a,b)=((0:Int),(0:Int)))->(c->(c->c)/\True)/\(c->(c->c)/\True)/\(c->(c->c)/\True)/\ ∀(d:Bool),d=decide (a<1)->((c&& ! d)->((c&& ! d)->(c&& ! d))/\True)/\((c&& ! d)->((c&& ! d)->(c&& ! d))/\True)/\(c->(c->c)/\(d=false->(c&& ! d))/\True)/\(c->(c->c)/\True)/\ ∀(e:Bool),(e=bif d then true else decide (65536<a))->((c&& ! e)->((c&& ! e)->(c&& ! e))/\True)/\((c&& ! e)->((c&& ! e)->(c&& ! e))/\True)/\(c->(c->c)/\(e=false->(c&& ! e))/\True)/\(c->(c->c)/\True)/\ ∀(f:Bool),(f=bif e then true else decide (b<1))->((c&& ! f)->((c&& ! f)->(c&& ! f))/\True)/\((c&& ! f)->((c&& ! f)->(c&& ! f))/\True)/\(c->(c->c)/\(f=false->(c&& ! f))/\True)/\(c->c)/\ifP (bif c then bif f then true else decide (1073741824<b) else false) ((1:Int)=bCheck (a,b)) ((0:Int)=bCheck (a,b)):=by
  rintro a b - -
  (repeat (intro (b_:Bool) (hb_:b_=_);(repeat refine ⟨(by first|(simp;done)|(rw [hb_];simp;done)|(rw [hb_];simp;omega)|(rw [hb_];simp;intros;omega)|(rw [hb_];simp +contextual;done)),?_⟩);subst hb_))
  unfold bCheck
  refine ifP_split (fun h => ?_) (fun h => ?_)
  · simp at h
    rw [if_neg (by simp;omega)]
  · simp at h
    rw [if_pos (by simp;omega)]
theorem ok_bucket_Check:SpecOK Tryz.prog GL 50 ct_bucket_Check.spec:=Ct.okH _ Tryz.func50 (by kernel_rfl) (withSpec_ok noSpecs_ok ok_bucket_unlimited) hmix an_bucket_Check (hideMp (by kernel_rfl) vc_bucket_Check)
def ct_node_usable:Ct:=⟨[.val cU32],[.val .bool],fun d=>[],fun d=>((decide (usable d.1),()),())⟩
def an_node_usable:PDs ct_node_usable.ps->Anns:=(fun _=>{})
theorem vc_node_usable :
 ∀(a:Int),(0<=a/\a<=4294967295)/\True->True-> ∀(b:Bool),b=decide (special a=0)->((! b)->((! b)->(! b))/\True)/\(b=false->(! b))/\(bif b then true else decide (special a=3))=decide (usable a):=by
  rintro a - -
  (repeat (intro (b_:Bool) (hb_:b_=_);(repeat refine ⟨(by first|(simp;done)|(rw [hb_];simp;done)|(rw [hb_];simp;omega)|(rw [hb_];simp;intros;omega)|(rw [hb_];simp +contextual;done)),?_⟩);subst hb_))
  rw [Bool.eq_iff_iff,decide_eq_true_iff];simp [usable,Bool.cond_eq_ite]
theorem ok_node_usable:SpecOK Tryz.prog GL 47 ct_node_usable.spec:=Ct.okH _ Tryz.func47 (by kernel_rfl) (withSpec_ok noSpecs_ok ok_address_Special) hmix an_node_usable (hideMp (by kernel_rfl) vc_node_usable)
def ct_node_port_1:Ct:=⟨[.agg cPort,.box 25 cU32],[.val .bool],fun d=>[],fun d=>((isA d.2.1 d.1,()),(d.2.1,()))⟩
def an_node_port_1:PDs ct_node_port_1.ps->Anns:=(fun _=>{})
theorem vc_node_port_1 :
 ∀(a b c:Int),((0<=a/\a<=4294967295)/\R64 b)/\(0<=c/\c<=4294967295)/\True->True->decide (a=c)=isA c (a,b)/\c=c:=by
  rintro a b c - -
  exact ⟨rfl,rfl⟩
theorem ok_node_port_1:SpecOK Tryz.prog GL 95 ct_node_port_1.spec:=Ct.okH _ Tryz.func95 (by kernel_rfl) noSpecs_ok hmix an_node_port_1 (hideMp (by kernel_rfl) vc_node_port_1)
def ct_node_PortOf_1:Ct:=⟨[.agg cPort,.box 3 cI],[.val .bool],fun d=>[],fun d=>((isL d.2.1 d.1,()),(d.2.1,()))⟩
def an_node_PortOf_1:PDs ct_node_PortOf_1.ps->Anns:=(fun _=>{})
theorem vc_node_PortOf_1 :
 ∀(a b c:Int),((0<=a/\a<=4294967295)/\R64 b)/\R64 c/\True->True->decide (b=c)=isL c (a,b)/\c=c:=by
  rintro a b c - -
  exact ⟨rfl,rfl⟩
theorem ok_node_PortOf_1:SpecOK Tryz.prog GL 59 ct_node_PortOf_1.spec:=Ct.okH _ Tryz.func59 (by kernel_rfl) noSpecs_ok hmix an_node_PortOf_1 (hideMp (by kernel_rfl) vc_node_PortOf_1)
def ct_IndexA:Ct:=⟨[.val (.sl cPort),.fn 95 1,.box 25 cU32],[.val cI],fun d=>[],fun d=>((findP (isA d.2.2.1) d.1,()),(d.2.2.1,()))⟩
def an_IndexA:PDs ct_IndexA.ps->Anns:=(fun d=>{loops:=(fun n=>match n with|2=>some (fun S=>{ι:=Int,μ:=fun i=>(d.1.length-i).toNat,inv:=fun i=>0<=i/\i<=d.1.length∧∀ x∈d.1.take i.toNat,isA d.2.2.1 x=false,keep:=[0,1,6,7],slots:=fun i=>[(8,.int .i64 i)],keepN:=[1048576],names:=fun i=>[]})|_=>none)})
def Qbq0 (a:List (Int×Int)) :=
 (a.length:Int)
theorem vc_IndexA :
 ∀(a:List (Int×Int)) (b:Int),(a.length<=maxLen/\ ∀(c:Int×Int),c∈a->(0<=c.1/\c.1<=4294967295)/\R64 c.2)/\True/\(0<=b/\b<=4294967295)/\True->True->(∃(c:Int),(0<=c/\c<=(Qbq0 a)/\ ∀(d:Int×Int),d∈List.take c.toNat a->isA b d=false)/\a=a/\a=a/\(Qbq0 a)=(Qbq0 a)/\(0:Int)=c/\b=b/\True)/\ ∀(c:Int),(0<=c/\c<=(Qbq0 a)/\ ∀(d:Int×Int),d∈List.take c.toNat a->isA b d=false)->ifP (decide (c<(Qbq0 a))) (0<=c/\c<(Qbq0 a)/\ifP (isA b (a.getD c.toNat default)) (c=findP (isA b) a/\b=b) (∃(d:Int),(0<=d/\d<=(Qbq0 a)/\ ∀(e:Int×Int),e∈List.take d.toNat a->isA b e=false)/\Int.toNat ((Qbq0 a) -d)<Int.toNat ((Qbq0 a) -c)/\a=a/\a=a/\(Qbq0 a)=(Qbq0 a)/\IntKind.wrap .i64 (c+(1:Int))=d/\b=b/\True)) ((-1:Int)=findP (isA b) a/\b=b):=by
  delta Qbq0
  rintro l a ⟨⟨hl,-⟩,-⟩ -
  simp only [maxLen] at hl
  refine ⟨⟨0,⟨by omega,by omega,by simp⟩,(by repeat' first|exact trivial|refine ⟨trivial,?_⟩|refine ⟨(by with_reducible rfl),?_⟩|refine ⟨w64 (by omega) (by omega),?_⟩|refine ⟨rfl,?_⟩)⟩,?_⟩
  rintro j ⟨j0,j1,hj⟩
  refine ifP_split (fun hk => ?_) (fun hk => ?_)
  · have hk:=of_decide_eq_true hk
    refine ⟨j0,hk,ifP_split (fun hm => ?_) (fun hm => ?_)⟩
    · exact ⟨findI_at j0 hk hj hm,rfl⟩
    · exact ⟨j+1,⟨by omega,by omega,all_next j0 hk hj hm⟩,by omega,(by repeat' first|exact trivial|refine ⟨trivial,?_⟩|refine ⟨(by with_reducible rfl),?_⟩|refine ⟨w64 (by omega) (by omega),?_⟩|refine ⟨rfl,?_⟩)⟩
  · exact ⟨findI_none (of_decide_eq_false hk) hj,rfl⟩
theorem ok_IndexA:SpecOK Tryz.prog GL 58 ct_IndexA.spec:=Ct.okH _ Tryz.func58 (by kernel_rfl) (withSpec_ok noSpecs_ok ok_node_port_1) hmix an_IndexA (hideMp (by kernel_rfl) vc_IndexA)
def ct_IndexL:Ct:=⟨[.val (.sl cPort),.fn 59 1,.box 3 cI],[.val cI],fun d=>[],fun d=>((findP (isL d.2.2.1) d.1,()),(d.2.2.1,()))⟩
def an_IndexL:PDs ct_IndexL.ps->Anns:=(fun d=>{loops:=(fun n=>match n with|2=>some (fun S=>{ι:=Int,μ:=fun i=>(d.1.length-i).toNat,inv:=fun i=>0<=i/\i<=d.1.length∧∀ x∈d.1.take i.toNat,isL d.2.2.1 x=false,keep:=[0,1,6,7],slots:=fun i=>[(8,.int .i64 i)],keepN:=[1048576],names:=fun i=>[]})|_=>none)})
theorem vc_IndexL :
 ∀(a:List (Int×Int)) (b:Int),(a.length<=maxLen/\ ∀(c:Int×Int),c∈a->(0<=c.1/\c.1<=4294967295)/\R64 c.2)/\True/\R64 b/\True->True->(∃(c:Int),(0<=c/\c<=(Qbq0 a)/\ ∀(d:Int×Int),d∈List.take c.toNat a->isL b d=false)/\a=a/\a=a/\(Qbq0 a)=(Qbq0 a)/\(0:Int)=c/\b=b/\True)/\ ∀(c:Int),(0<=c/\c<=(Qbq0 a)/\ ∀(d:Int×Int),d∈List.take c.toNat a->isL b d=false)->ifP (decide (c<(Qbq0 a))) (0<=c/\c<(Qbq0 a)/\ifP (isL b (a.getD c.toNat default)) (c=findP (isL b) a/\b=b) (∃(d:Int),(0<=d/\d<=(Qbq0 a)/\ ∀(e:Int×Int),e∈List.take d.toNat a->isL b e=false)/\Int.toNat ((Qbq0 a) -d)<Int.toNat ((Qbq0 a) -c)/\a=a/\a=a/\(Qbq0 a)=(Qbq0 a)/\IntKind.wrap .i64 (c+(1:Int))=d/\b=b/\True)) ((-1:Int)=findP (isL b) a/\b=b):=by
  delta Qbq0
  rintro l a ⟨⟨hl,-⟩,-⟩ -
  simp only [maxLen] at hl
  refine ⟨⟨0,⟨by omega,by omega,by simp⟩,(by repeat' first|exact trivial|refine ⟨trivial,?_⟩|refine ⟨(by with_reducible rfl),?_⟩|refine ⟨w64 (by omega) (by omega),?_⟩|refine ⟨rfl,?_⟩)⟩,?_⟩
  rintro j ⟨j0,j1,hj⟩
  refine ifP_split (fun hk => ?_) (fun hk => ?_)
  · have hk:=of_decide_eq_true hk
    refine ⟨j0,hk,ifP_split (fun hm => ?_) (fun hm => ?_)⟩
    · exact ⟨findI_at j0 hk hj hm,rfl⟩
    · exact ⟨j+1,⟨by omega,by omega,all_next j0 hk hj hm⟩,by omega,(by repeat' first|exact trivial|refine ⟨trivial,?_⟩|refine ⟨(by with_reducible rfl),?_⟩|refine ⟨w64 (by omega) (by omega),?_⟩|refine ⟨rfl,?_⟩)⟩
  · exact ⟨findI_none (of_decide_eq_false hk) hj,rfl⟩
theorem ok_IndexL:SpecOK Tryz.prog GL 58 ct_IndexL.spec:=Ct.okH _ Tryz.func58 (by kernel_rfl) (withSpec_ok noSpecs_ok ok_node_PortOf_1) hmix an_IndexL (hideMp (by kernel_rfl) vc_IndexL)
def ct_node_port:Ct:=⟨[.agg cNode,.val cU32],[.val cI],fun d=>[],fun d=>((portA d.1 d.2.1,()),())⟩
def an_node_port:PDs ct_node_port.ps->Anns:=(fun _=>{})
theorem vc_node_port :
 ∀(a:Node) (b:Int),CT.wf cNode a/\(0<=b/\b<=4294967295)/\True->True->findP (isA b) a.1=portA a b:=by
  rintro d x - -
  rfl
theorem ok_node_port:SpecOK Tryz.prog GL 48 ct_node_port.spec:=Ct.okH _ Tryz.func48 (by kernel_rfl) (withSpec_ok noSpecs_ok ok_IndexA) hmix an_node_port (hideMp (by kernel_rfl) vc_node_port)
def ct_node_PortOf:Ct:=⟨[.agg cNode,.val cI],[.val cI],fun d=>[],fun d=>((portL d.1 d.2.1,()),())⟩
def an_node_PortOf:PDs ct_node_PortOf.ps->Anns:=(fun _=>{})
theorem vc_node_PortOf :
 ∀(a:Node) (b:Int),CT.wf cNode a/\R64 b/\True->True->findP (isL b) a.1=portL a b:=by
  rintro d x - -
  rfl
theorem ok_node_PortOf:SpecOK Tryz.prog GL 18 ct_node_PortOf.spec:=Ct.okH _ Tryz.func18 (by kernel_rfl) (withSpec_ok noSpecs_ok ok_IndexL) hmix an_node_PortOf (hideMp (by kernel_rfl) vc_node_PortOf)
def ct_node_Owns:Ct:=⟨[.agg cNode,.val cU32],[.val .bool],fun d=>[],fun d=>((ownsA d.1 d.2.1,()),())⟩
def an_node_Owns:PDs ct_node_Owns.ps->Anns:=(fun _=>{})
theorem vc_node_Owns :
 ∀(a:Node) (b:Int),CT.wf cNode a/\(0<=b/\b<=4294967295)/\True->True-> ∀(c:Int),c=portA a b-> ∀(d:Bool),d=decide (0<=c)->((! d)->((! d)->(! d))/\True)/\((! d)->((! d)->(! d))/\True)/\((! d)->((! d)->(! d))/\True)/\ ∀(e:Bool),e= ! decide (a.2.1=0)->((! d&&e)->((! d&&e)->(! d&&e))/\True)/\((! d&&e)->((! d&&e)->(! d&&e))/\((! d&&e)->(! d&&e))/\True)/\((! d)->((! d)->(! d))/\(e->(! d&&e))/\True)/\(d=false->(! d))/\(bif d then true else bif e then decide (a.2.1=b) else false)=ownsA a b:=by
  rintro d x - - q hq
  unfold ownsA
  rw [show nLoop d=d.2.1 from rfl,← hq]
  generalize d.2.1=z
  intro b hb
  refine ⟨by simp,by simp,by simp,?_⟩
  intro b1 hb1
  (repeat refine ⟨(by cases b <;> cases b1 <;> simp),?_⟩)
  rw [hb,hb1]
  cases decide (0<=q) <;> cases decide (z=0) <;> cases decide (z=x) <;> rfl
theorem ok_node_Owns:SpecOK Tryz.prog GL 16 ct_node_Owns.spec:=Ct.okH _ Tryz.func16 (by kernel_rfl) (withSpec_ok noSpecs_ok (Ct.named ok_node_port)) hmix an_node_Owns (hideMp (by kernel_rfl) vc_node_Owns)
def ct_node_links:Ct:=⟨[.agg cNode],[.own 3 cI],fun d=>[(nPorts d.1).length<=100000],fun d=>((pLinks d.1,()),())⟩
def an_node_links:PDs ct_node_links.ps->Anns:=(fun d=>{loops:=(fun n=>match n with|3=>some (fun S=>{ι:=Int×(List Int),qn:=⟨fun k_=>∀ (j:Int) (l:(List Int)),k_ (j,l),fun k_ h_ i=>h_ i.1 i.2,fun k_=>∃ (j:Int) (l:(List Int)),k_ (j,l),fun k_ ⟨j,l,h_⟩=>⟨_,h_⟩⟩,μ:=fun i=>((nPorts d.1).length-i.1).toNat,inv:=fun i=>0<=i.1/\i.1<=(nPorts d.1).length/\i.2=(pLinks d.1).take i.1.toNat,keep:=[1,7,8],slots:=fun i=>[(3,.own 524288 1),(9,.int .i64 i.1)],keepN:=[32],names:=fun i=>[(524288,.live (.row 3 cI i.2))]})|_=>none)})
def Qbq1 (a:Node) :=
 ((List.length (nPorts a)):Int)
theorem vc_node_links :
 ∀(a:Node),CT.wf cNode a/\True->List.length (nPorts a)<=(100000:Nat)->(∃(b:Int) (c:List Int),(0<=b/\b<=(Qbq1 a)/\c=List.take b.toNat (pLinks a))/\a.1=a.1/\(a.1.length:Int)=(a.1.length:Int)/\(0:Int)=b/\a.1=a.1/\a.2.1=a.2.1/\a.2.2.1=a.2.2.1/\a.2.2.2.1=a.2.2.2.1/\a.2.2.2.2.1=a.2.2.2.2.1/\a.2.2.2.2.2.1=a.2.2.2.2.2.1/\a.2.2.2.2.2.2.1=a.2.2.2.2.2.2.1/\a.2.2.2.2.2.2.2.1=a.2.2.2.2.2.2.2.1/\a.2.2.2.2.2.2.2.2.1=a.2.2.2.2.2.2.2.2.1/\a.2.2.2.2.2.2.2.2.2.1=a.2.2.2.2.2.2.2.2.2.1/\a.2.2.2.2.2.2.2.2.2.2.1.1=a.2.2.2.2.2.2.2.2.2.2.1.1/\a.2.2.2.2.2.2.2.2.2.2.1.2=a.2.2.2.2.2.2.2.2.2.2.1.2/\a.2.2.2.2.2.2.2.2.2.2.2.1=a.2.2.2.2.2.2.2.2.2.2.2.1/\a.2.2.2.2.2.2.2.2.2.2.2.2.1=a.2.2.2.2.2.2.2.2.2.2.2.2.1/\a.2.2.2.2.2.2.2.2.2.2.2.2.2.1=a.2.2.2.2.2.2.2.2.2.2.2.2.2.1/\a.2.2.2.2.2.2.2.2.2.2.2.2.2.2=a.2.2.2.2.2.2.2.2.2.2.2.2.2.2/\c=([]:List Int)/\True)/\ ∀(b:Int) (c:List Int),0<=b/\b<=(Qbq1 a)/\c=List.take b.toNat (pLinks
 a)->ifP (decide (b<(a.1.length:Int))) (0<=b/\b<(a.1.length:Int)/\(c.length+List.length [(List.getD a.1 b.toNat default).2])*(8:Nat)<=(140737488355328:Nat)/\ ∃(d:Int) (e:List Int),(0<=d/\d<=(Qbq1 a)/\e=List.take d.toNat (pLinks a))/\Int.toNat ((Qbq1 a) -d)<Int.toNat ((Qbq1 a) -b)/\a.1=a.1/\(a.1.length:Int)=(a.1.length:Int)/\IntKind.wrap .i64
 (b+(1:Int))=d/\a.1=a.1/\a.2.1=a.2.1/\a.2.2.1=a.2.2.1/\a.2.2.2.1=a.2.2.2.1/\a.2.2.2.2.1=a.2.2.2.2.1/\a.2.2.2.2.2.1=a.2.2.2.2.2.1/\a.2.2.2.2.2.2.1=a.2.2.2.2.2.2.1/\a.2.2.2.2.2.2.2.1=a.2.2.2.2.2.2.2.1/\a.2.2.2.2.2.2.2.2.1=a.2.2.2.2.2.2.2.2.1/\a.2.2.2.2.2.2.2.2.2.1=a.2.2.2.2.2.2.2.2.2.1/\a.2.2.2.2.2.2.2.2.2.2.1.1=a.2.2.2.2.2.2.2.2.2.2.1.1/\a.2.2.2.2.2.2.2.2.2.2.1.2=a.2.2.2.2.2.2.2.2.2.2.1.2/\a.2.2.2.2.2.2.2.2.2.2.2.1=a.2.2.2.2.2.2.2.2.2.2.2.1/\a.2.2.2.2.2.2.2.2.2.2.2.2.1=a.2.2.2.2.2.2.2.2.2.2.2.2.1/\a.2.2.2.2.2.2.2.2.2.2.2.2.2.1=a.2.2.2.2.2.2.2.2.2.2.2.2.2.1/\a.2.2.2.2.2.2.2.2.2.2.2.2.2.2=a.2.2.2.2.2.2.2.2.2.2.2.2.2.2/\c++[(List.getD a.1 b.toNat default).2]=e/\True) (c=pLinks a):=by
  delta Qbq1
  rintro d-hl
  have hlen:(pLinks d).length=(nPorts d).length:=by simp [pLinks]
  refine ⟨⟨0,[],⟨by omega,by omega,rfl⟩,(by repeat' first|exact trivial|refine ⟨trivial,?_⟩|refine ⟨(by with_reducible rfl),?_⟩|refine ⟨w64 (by omega) (by omega),?_⟩|refine ⟨rfl,?_⟩)⟩,?_⟩
  rintro j l ⟨j0,j1,rfl⟩
  have hd:d.1=nPorts d:=rfl
  rw [hd]
  refine ifP_split (fun hk => ?_) (fun hk => ?_)
  · have hk:=of_decide_eq_true hk
    refine ⟨j0,hk,by simp only [List.length_take,List.length_cons,List.length_nil];omega,j+1,_,⟨by omega,by omega,rfl⟩,by omega,?_⟩
    (repeat first|refine ⟨trivial,?_⟩|refine ⟨(by with_reducible rfl),?_⟩|refine ⟨w64 (by omega) (by omega),?_⟩)
    refine ⟨?_,trivial⟩
    rw [take_step j0 (by rw [hlen];exact hk)]
    unfold pLinks
    rw [List.getD_eq_getElem?_getD,List.getD_eq_getElem?_getD,List.getElem?_map,List.getElem?_eq_getElem (by omega)]
    rfl
  · have hk:=of_decide_eq_false hk
    rw [List.take_of_length_le (by omega)]
theorem ok_node_links:SpecOK Tryz.prog GL 52 ct_node_links.spec:=Ct.okH _ Tryz.func52 (by kernel_rfl) noSpecs_ok hmix an_node_links (hideMp (by kernel_rfl) vc_node_links)
end Go.RS

/- Nodek: the first error of a node, in the program and in the reference; the reference's parts of a node. -/
namespace Go.RS
open Go.SX Go.Proofs
set_option maxRecDepth 100000
set_option linter.unusedVariables false
def first (f:Nat->Int):Nat->Int
  | 0=>0
  | n+1=>if first f n≠0 then first f n else f n
theorem first_next {f:Nat->Int} {i:Int} (h0:0<=i) (h:first f i.toNat=0) (hf:f i.toNat=0):first f (i+1).toNat=0:=by
  rw [show (i+1).toNat=i.toNat+1 by omega,first,if_neg (by simp [h]),hf]
theorem first_keep {f:Nat->Int} {a:Nat} (h:first f a≠0):∀ k,first f (a+k)=first f a
  | 0=>rfl
  | k+1=>by rw [← Nat.add_assoc,first,if_pos (by rw [first_keep h k];exact h),first_keep h k]
theorem first_hit {f:Nat->Int} {i:Int} {n:Nat} (h0:0<=i) (h1:i<n) (h:first f i.toNat=0) (hf:f i.toNat≠0):f i.toNat=first f n:=by
  have e:first f (i.toNat+1)=f i.toNat:=by rw [first,if_neg (by simp [h])]
  have k:=first_keep (a:=i.toNat+1) (by rw [e];exact hf) (n-(i.toNat+1))
  rw [show i.toNat+1+(n-(i.toNat+1))=n by omega] at k
  rw [k,e]
theorem first_zero {f:Nat->Int}:∀ {n:Nat},first f n=0→∀ i,i<n->f i=0
  | 0,_,i,hi=>by omega
  | n+1,h,i,hi=>by
    by_cases k:first f n=0
    · rw [first,if_neg (by simp [k])] at h
      by_cases e:i=n
      · rw [e];exact h
      · exact first_zero k i (by omega)
    · rw [first,if_pos k] at h;exact absurd h k
def portBad (x:Node) (i:Nat):Int :=
  if ¬ usable ((nPorts x).getD i default).1∨portA x ((nPorts x).getD i default).1<i then 10
  else if ((nPorts x).getD i default).2<0∨portL x ((nPorts x).getD i default).2<i then 11 else 0
def loopBad (x:Node):Prop:=nLoop x≠0/\(¬ usable (nLoop x)∨0<=portA x (nLoop x))
instance (x:Node):Decidable (loopBad x):=by unfold loopBad;infer_instance
def formBad (x:Node):Prop:=nOwner x<0∨(nSource x<1∨4<nSource x)∨(nSource x=3/\nLoop x=0)∨(nFixed x≠0∧¬ usable (nFixed x))∨(nSource x=4/\nFixed x=0)∨(nFirst x<1∨255<nFirst x)∨(nPorts x).length=0
instance (x:Node):Decidable (formBad x):=by unfold formBad;infer_instance
def nodeV (x:Node):Int :=
  if 32<(nPorts x).length then 5
  else if first (portBad x) (nPorts x).length≠0 then first (portBad x) (nPorts x).length
  else if loopBad x then 10
  else if formBad x then 13
  else if idCheck x≠0 then idCheck x
  else if bCheck (nLimit x)≠0 then bCheck (nLimit x)
  else check (nRoutes x) (pLinks x)
theorem ifP_twice {c:Bool} {y n m:Prop} (hy:c=true->y) (hm:c=false->m):ifP c (ifP c y n) m:=by
  cases c with
  | true=>exact hy rfl
  | false=>exact hm rfl
theorem nodeV_bad {x:Node} (h:(nPorts x).length<=32) {i:Int} (h0:0<=i) (h1:i<(nPorts x).length) (hf:first (portBad x) i.toNat=0) (hb:portBad x i.toNat≠0):portBad x i.toNat=nodeV x:=by
  have e:=first_hit h0 h1 hf hb
  unfold nodeV
  rw [if_neg (by omega),← e,if_pos hb]
theorem nodeV_loop {x:Node} (h:(nPorts x).length<=32) (hf:first (portBad x) (nPorts x).length=0) (hl:loopBad x):10=nodeV x:=by
  unfold nodeV
  rw [if_neg (by omega),if_neg (by simp [hf]),if_pos hl]
theorem nodeV_form {x:Node} (h:(nPorts x).length<=32) (hf:first (portBad x) (nPorts x).length=0) (hl:¬ loopBad x) (hb:formBad x):13=nodeV x:=by
  unfold nodeV
  rw [if_neg (by omega),if_neg (by simp [hf]),if_neg hl,if_pos hb]
theorem nodeV_rest {x:Node} (h:(nPorts x).length<=32) (hf:first (portBad x) (nPorts x).length=0) (hl:¬ loopBad x) (hb:¬ formBad x):nodeV x=if idCheck x≠0 then idCheck x else if bCheck (nLimit x)≠0 then bCheck (nLimit x) else check (nRoutes x) (pLinks x):=by
  unfold nodeV
  rw [if_neg (by omega),if_neg (by simp [hf]),if_neg hl,if_neg hb]
theorem portBad_a {x:Node} {i:Int} (h0:0<=i) (h:¬ usable ((nPorts x).getD i.toNat default).1∨portA x ((nPorts x).getD i.toNat default).1<i):portBad x i.toNat=10:=by
  unfold portBad
  rw [show ((i.toNat:Nat):Int)=i by omega,if_pos h]
theorem portBad_l {x:Node} {i:Int} (h0:0<=i) (h:¬ (¬ usable ((nPorts x).getD i.toNat default).1∨portA x ((nPorts x).getD i.toNat default).1<i)) (k:((nPorts x).getD i.toNat default).2<0∨portL x ((nPorts x).getD i.toNat default).2<i):portBad x i.toNat=11:=by
  unfold portBad
  rw [show ((i.toNat:Nat):Int)=i by omega,if_neg h,if_pos k]
theorem portBad_n {x:Node} {i:Int} (h0:0<=i) (h:¬ (¬ usable ((nPorts x).getD i.toNat default).1∨portA x ((nPorts x).getD i.toNat default).1<i)) (k:¬ (((nPorts x).getD i.toNat default).2<0∨portL x ((nPorts x).getD i.toNat default).2<i)):portBad x i.toNat=0:=by
  unfold portBad
  rw [show ((i.toNat:Nat):Int)=i by omega,if_neg h,if_neg k]
def ct_node_Check:Ct:=⟨[.agg cNode],[.val cI],fun d=>[],fun d=>((nodeV d.1,()),())⟩
def an_node_Check:PDs ct_node_Check.ps->Anns:=(fun d=>{loops:=(fun n=>match n with|4=>some (fun S=>{ι:=Int,μ:=fun i=>((nPorts d.1).length-i).toNat,inv:=fun i=>0<=i/\i<=(nPorts d.1).length/\first (portBad d.1) i.toNat=0,keep:=[1,12,13],slots:=fun i=>[(14,.int .i64 i)],keepN:=[32],names:=fun i=>[]})|_=>none),cuts:=(fun n=>match n with|21=>some (fun S=>{ι:=Unit,inv:=fun i=>(nPorts d.1).length<=32/\first (portBad d.1) (nPorts d.1).length=0∧¬ loopBad d.1∧¬ formBad d.1,keep:=[1],slots:=fun i=>[],keepN:=[32],names:=fun i=>[]})|_=>none),unr:=fun n=>match n with|22=>4|_=>0})
def Qbr0 (a:Node) :=
 a.1=a.1/\a.2.1=a.2.1/\a.2.2.1=a.2.2.1/\a.2.2.2.1=a.2.2.2.1/\a.2.2.2.2.1=a.2.2.2.2.1/\a.2.2.2.2.2.1=a.2.2.2.2.2.1/\a.2.2.2.2.2.2.1=a.2.2.2.2.2.2.1/\a.2.2.2.2.2.2.2.1=a.2.2.2.2.2.2.2.1/\a.2.2.2.2.2.2.2.2.1=a.2.2.2.2.2.2.2.2.1/\a.2.2.2.2.2.2.2.2.2.1=a.2.2.2.2.2.2.2.2.2.1/\a.2.2.2.2.2.2.2.2.2.2.1.1=a.2.2.2.2.2.2.2.2.2.2.1.1/\a.2.2.2.2.2.2.2.2.2.2.1.2=a.2.2.2.2.2.2.2.2.2.2.1.2/\a.2.2.2.2.2.2.2.2.2.2.2.1=a.2.2.2.2.2.2.2.2.2.2.2.1/\a.2.2.2.2.2.2.2.2.2.2.2.2.1=a.2.2.2.2.2.2.2.2.2.2.2.2.1/\a.2.2.2.2.2.2.2.2.2.2.2.2.2.1=a.2.2.2.2.2.2.2.2.2.2.2.2.2.1/\a.2.2.2.2.2.2.2.2.2.2.2.2.2.2=a.2.2.2.2.2.2.2.2.2.2.2.2.2.2/\True
def Qbr1 (a:Node) :=
 (List.length (nPorts a)<=(32:Nat)/\first (portBad a) (List.length (nPorts a))=0/\ ¬loopBad a/\ ¬formBad a)/\(Qbr0 a)
def Qbr2 (a:Node) :=
 ((List.length [idCheck a,bCheck a.2.2.2.2.2.2.2.2.2.2.1,check a.2.2.2.2.1 (pLinks a)]):Int)
def Qbr3 :=
 IntKind.wrap .i64 ((0:Int)+(1:Int))+(1:Int)
def Qbr4 (a:Node) :=
 ((List.length (nPorts a)):Int)
theorem vc_node_Check :
 ∀(a:Node),CT.wf cNode a/\True->True->ifP (decide (32<(a.1.length:Int))) ((5:Int)=nodeV a) ((∃(b:Int),(0<=b/\b<=(Qbr4 a)/\first (portBad a) b.toNat=0)/\a.1=a.1/\(a.1.length:Int)=(a.1.length:Int)/\(0:Int)=b/\(Qbr0 a))/\ ∀(b:Int),0<=b/\b<=(Qbr4 a)/\first (portBad a) b.toNat=0->ifP (decide (b<(a.1.length:Int))) (0<=b/\b<(a.1.length:Int)/\ ∀(c:Bool),c= ! decide (usable (List.getD a.1 b.toNat default).1)->((! c)->((! c)->(! c))/\True)/\((! c)->((! c)->(! c))/\((! c)->(! c))/\True)/\((! c)->((! c)->(! c))/\((! c)->(! c))/\True)/\(c=false->(! c))/\ifP (bif c then true else decide (portA a (List.getD a.1 b.toNat default).1<b)) ((10:Int)=nodeV a) (∀(d:Bool),d=decide ((List.getD a.1 b.toNat default).2<0)->((! d)->((! d)->(! d))/\True)/\((! d)->((! d)->(! d))/\((! d)->(! d))/\True)/\((! d)->((! d)->(! d))/\((! d)->(! d))/\True)/\(d=false->(! d))/\ifP (bif d then true else decide (portL a (List.getD
 a.1 b.toNat default).2<b)) ((11:Int)=nodeV a) (∃(e:Int),(0<=e/\e<=(Qbr4 a)/\first (portBad a) e.toNat=0)/\Int.toNat ((Qbr4 a) -e)<Int.toNat ((Qbr4 a) -b)/\a.1=a.1/\(a.1.length:Int)=(a.1.length:Int)/\IntKind.wrap .i64 (b+(1:Int))=e/\(Qbr0 a)))) (∀(c:Bool),c= ! decide (a.2.1=0)->(c->(c->c)/\True)/\(c->(c->c)/\True)/\(c->(c->c)/\True)/\(c->(c->c)/\True)/\ ∀(d:Bool),d= ! decide (usable a.2.1)->((c&& ! d)->((c&& ! d)->(c&& ! d))/\True)/\((c&& ! d)->((c&& ! d)->(c&& ! d))/\((c&& ! d)->(c&& ! d))/\True)/\((c&& ! d)->((c&& ! d)->(c&& ! d))/\True)/\(c->(c->c)/\(d=false->(c&& ! d))/\True)/\(c->c)/\ifP (bif c then bif d then true else decide (0<=portA a a.2.1) else false) ((10:Int)=nodeV a) (ifP (decide (a.2.2.1<0)) (ifP (decide (a.2.2.1<0)) ((13:Int)=nodeV a) (∃(e:Unit),(Qbr1 a))) (∀(e:Bool),e=decide (a.2.2.2.2.2.1<1)->((! e)->((! e)->(! e))/\True)/\((! e)->((! e)->(! e))/\True)/\(e=false->(!
 e))/\ifP (bif e then true else decide (4<a.2.2.2.2.2.1)) (ifP (bif e then true else decide (4<a.2.2.2.2.2.1)) ((13:Int)=nodeV a) (∃(f:Unit),(Qbr1 a))) (∀(f:Bool),f=decide (a.2.2.2.2.2.1=3)->(f->(f->f)/\True)/\(f->(f->f)/\True)/\(f->f)/\ifP (bif f then decide (a.2.1=0) else false) (ifP (bif f then decide (a.2.1=0) else false) ((13:Int)=nodeV a) (∃(g:Unit),(Qbr1 a))) (∀(g:Bool),g= ! decide (a.2.2.2.2.2.2.1=0)->(g->(g->g)/\True)/\(g->(g->g)/\True)/\(g->(g->g)/\True)/\(g->g)/\ifP (bif g then ! decide (usable a.2.2.2.2.2.2.1) else false) (ifP (bif g then ! decide (usable a.2.2.2.2.2.2.1) else false) ((13:Int)=nodeV a) (∃(h:Unit),(Qbr1 a))) (∀(h:Bool),h=decide (a.2.2.2.2.2.1=4)->(h->(h->h)/\True)/\(h->(h->h)/\True)/\(h->h)/\ifP (bif h then decide (a.2.2.2.2.2.2.1=0) else false) (ifP (bif h then decide (a.2.2.2.2.2.2.1=0) else false) ((13:Int)=nodeV a) (∃(i:Unit),(Qbr1 a))) (∀(i:Bool),i=decide
 (a.2.2.2.2.2.2.2.2.2.2.2.2.2.1<1)->((! i)->((! i)->(! i))/\True)/\((! i)->((! i)->(! i))/\True)/\(i=false->(! i))/\ifP (bif i then true else decide (255<a.2.2.2.2.2.2.2.2.2.2.2.2.2.1)) (ifP (bif i then true else decide (255<a.2.2.2.2.2.2.2.2.2.2.2.2.2.1)) ((13:Int)=nodeV a) (∃(j:Unit),(Qbr1 a))) (ifP (decide ((a.1.length:Int)=0)) ((13:Int)=nodeV a) (∃(j:Unit),(Qbr1 a))))))))/\ ∀(e:Unit),List.length (nPorts a)<=(32:Nat)/\first (portBad a) (List.length (nPorts a))=0/\ ¬loopBad a/\ ¬formBad a->List.length (nPorts a)<=(100000:Nat)/\(0:Int)<=0/\0<(Qbr2 a)/\ifP (! decide (List.getD [idCheck a,bCheck a.2.2.2.2.2.2.2.2.2.2.1,check a.2.2.2.2.1 (pLinks a)] (Int.toNat (0:Int)) default=0)) (List.getD [idCheck a,bCheck a.2.2.2.2.2.2.2.2.2.2.1,check a.2.2.2.2.1 (pLinks a)] (Int.toNat (0:Int)) default=nodeV a) (0<=IntKind.wrap .i64 ((0:Int)+(1:Int))/\IntKind.wrap .i64 ((0:Int)+(1:Int))<(Qbr2 a)/\ifP (!
 decide (List.getD [idCheck a,bCheck a.2.2.2.2.2.2.2.2.2.2.1,check a.2.2.2.2.1 (pLinks a)] (Int.toNat (IntKind.wrap .i64 ((0:Int)+(1:Int)))) default=0)) (List.getD [idCheck a,bCheck a.2.2.2.2.2.2.2.2.2.2.1,check a.2.2.2.2.1 (pLinks a)] (Int.toNat (IntKind.wrap .i64 ((0:Int)+(1:Int)))) default=nodeV a) (0<=IntKind.wrap .i64 (Qbr3)/\IntKind.wrap .i64 (Qbr3)<(Qbr2 a)/\ifP (! decide (List.getD [idCheck a,bCheck a.2.2.2.2.2.2.2.2.2.2.1,check a.2.2.2.2.1 (pLinks a)] (Int.toNat (IntKind.wrap .i64 (Qbr3))) default=0)) (List.getD [idCheck a,bCheck a.2.2.2.2.2.2.2.2.2.2.1,check a.2.2.2.2.1 (pLinks a)] (Int.toNat (IntKind.wrap .i64 (Qbr3))) default=nodeV a) ((0:Int)=nodeV a)))))):=by
  delta Qbr0 Qbr1 Qbr2 Qbr3 Qbr4
  rintro d - -
  have hd:d.1=nPorts d:=rfl
  rw [hd]
  refine ifP_split (fun h => ?_) (fun h => ?_)
  · unfold nodeV;rw [if_pos (by have:=of_decide_eq_true h;omega)]
  have h32:(nPorts d).length<=32:=by have:=of_decide_eq_false h;omega
  clear h
  refine ⟨⟨0,⟨by omega,by omega,rfl⟩,(by repeat' first|exact trivial|refine ⟨trivial,?_⟩|refine ⟨(by with_reducible rfl),?_⟩|refine ⟨w64 (by omega) (by omega),?_⟩|refine ⟨rfl,?_⟩)⟩,?_⟩
  rintro x ⟨x0,x1,hf⟩
  refine ifP_split (fun hx => ?_) (fun hx => ?_)
  · have hx:=of_decide_eq_true hx
    refine ⟨x0,hx,?_⟩
    (repeat (intro (b_:Bool) (hb_:b_=_);(repeat refine ⟨(by first|(simp;done)|(rw [hb_];simp;done)|(rw [hb_];simp;omega)|(rw [hb_];simp;intros;omega)|(rw [hb_];simp +contextual;done)),?_⟩);subst hb_))
    refine ifP_or (fun ho => ?_) (fun h1 h2 => ?_)
    · have e:=portBad_a (x:=d) x0 (ho.imp nd_t of_decide_eq_true)
      rw [← nodeV_bad h32 x0 hx hf (by rw [e];decide),e]
    have hn:¬ (¬ usable ((nPorts d).getD x.toNat default).1∨portA d ((nPorts d).getD x.toNat default).1<x):=by
      rintro (k|k)
      · exact k (nd_f h1)
      · exact of_decide_eq_false h2 k
    (repeat (intro (b_:Bool) (hb_:b_=_);(repeat refine ⟨(by first|(simp;done)|(rw [hb_];simp;done)|(rw [hb_];simp;omega)|(rw [hb_];simp;intros;omega)|(rw [hb_];simp +contextual;done)),?_⟩);subst hb_))
    refine ifP_or (fun ho => ?_) (fun h1 h2 => ?_)
    · have e:=portBad_l (x:=d) x0 hn (ho.imp of_decide_eq_true of_decide_eq_true)
      rw [← nodeV_bad h32 x0 hx hf (by rw [e];decide),e]
    · have e:=portBad_n (x:=d) x0 hn (by
        rintro (k|k)
        · exact of_decide_eq_false h1 k
        · exact of_decide_eq_false h2 k)
      exact ⟨x+1,⟨by omega,by omega,first_next x0 hf e⟩,by omega,(by repeat' first|exact trivial|refine ⟨trivial,?_⟩|refine ⟨(by with_reducible rfl),?_⟩|refine ⟨w64 (by omega) (by omega),?_⟩|refine ⟨rfl,?_⟩)⟩
  have hx:=of_decide_eq_false hx
  rw [show x.toNat=(nPorts d).length by omega] at hf
  rw [show d.2.1=nLoop d from rfl]
  intro b hb
  refine ⟨by simp,by simp,by simp,by simp,?_⟩
  intro b1 hb1
  (repeat refine ⟨(by cases b <;> cases b1 <;> simp),?_⟩)
  have hL:(bif b then bif b1 then true else decide (0<=portA d (nLoop d)) else false)=decide (loopBad d):=by
    rw [hb,hb1]
    unfold loopBad
    by_cases k1:nLoop d=0 <;> by_cases k2:usable (nLoop d) <;> by_cases k3:0<=portA d (nLoop d) <;> simp [k1,k2,k3]
  rw [hL]
  refine ifP_split (fun h=>nodeV_loop h32 hf (of_decide_eq_true h)) (fun hl => ?_)
  have hl:=of_decide_eq_false hl
  clear hL hb hb1
  refine ⟨?_,?_⟩
  · have bad:=fun h=>nodeV_form (x:=d) h32 hf hl h
    refine ifP_twice (fun h=>bad (.inl (of_decide_eq_true h))) (fun c1 => ?_)
    (repeat (intro (b_:Bool) (hb_:b_=_);(repeat refine ⟨(by first|(simp;done)|(rw [hb_];simp;done)|(rw [hb_];simp;omega)|(rw [hb_];simp;intros;omega)|(rw [hb_];simp +contextual;done)),?_⟩);subst hb_))
    rw [bor_d]
    refine ifP_twice (fun h=>bad (.inr (.inl (of_decide_eq_true h)))) (fun c2 => ?_)
    (repeat (intro (b_:Bool) (hb_:b_=_);(repeat refine ⟨(by first|(simp;done)|(rw [hb_];simp;done)|(rw [hb_];simp;omega)|(rw [hb_];simp;intros;omega)|(rw [hb_];simp +contextual;done)),?_⟩);subst hb_))
    rw [band_d]
    refine ifP_twice (fun h=>bad (.inr (.inr (.inl (of_decide_eq_true h))))) (fun c3 => ?_)
    (repeat (intro (b_:Bool) (hb_:b_=_);(repeat refine ⟨(by first|(simp;done)|(rw [hb_];simp;done)|(rw [hb_];simp;omega)|(rw [hb_];simp;intros;omega)|(rw [hb_];simp +contextual;done)),?_⟩);subst hb_))
    rw [band_nn]
    refine ifP_twice (fun h=>bad (.inr (.inr (.inr (.inl (of_decide_eq_true h)))))) (fun c4 => ?_)
    (repeat (intro (b_:Bool) (hb_:b_=_);(repeat refine ⟨(by first|(simp;done)|(rw [hb_];simp;done)|(rw [hb_];simp;omega)|(rw [hb_];simp;intros;omega)|(rw [hb_];simp +contextual;done)),?_⟩);subst hb_))
    rw [band_d]
    refine ifP_twice (fun h=>bad (.inr (.inr (.inr (.inr (.inl (of_decide_eq_true h))))))) (fun c5 => ?_)
    (repeat (intro (b_:Bool) (hb_:b_=_);(repeat refine ⟨(by first|(simp;done)|(rw [hb_];simp;done)|(rw [hb_];simp;omega)|(rw [hb_];simp;intros;omega)|(rw [hb_];simp +contextual;done)),?_⟩);subst hb_))
    rw [bor_d]
    refine ifP_twice (fun h=>bad (.inr (.inr (.inr (.inr (.inr (.inl (of_decide_eq_true h)))))))) (fun c6 => ?_)
    refine ifP_split (fun h=>bad (.inr (.inr (.inr (.inr (.inr (.inr ?_))))))) (fun c7 => ?_)
    · have:=of_decide_eq_true h;omega
    refine ⟨(),⟨h32,hf,hl,?_⟩,(by repeat' first|exact trivial|refine ⟨trivial,?_⟩|refine ⟨(by with_reducible rfl),?_⟩|refine ⟨w64 (by omega) (by omega),?_⟩|refine ⟨rfl,?_⟩)⟩
    rintro (k|k|k|k|k|k|k)
    · exact of_decide_eq_false c1 k
    · exact of_decide_eq_false c2 k
    · exact of_decide_eq_false c3 k
    · exact of_decide_eq_false c4 k
    · exact of_decide_eq_false c5 k
    · exact of_decide_eq_false c6 k
    · have:=of_decide_eq_false c7;omega
  rintro-⟨-,-,-,hb⟩
  have e:=nodeV_rest h32 hf hl hb
  rw [show IntKind.wrap IntKind.i64 (IntKind.wrap IntKind.i64 ((0:Int)+1)+1)=2 by decide,show IntKind.wrap IntKind.i64 ((0:Int)+1)=1 by decide,e]
  refine ⟨by omega,by omega,by simp,ifP_split (fun h => ?_) (fun h => ?_)⟩
  · rw [if_pos (show idCheck d≠0 from nd_t h)];rfl
  rw [if_neg (show ¬ idCheck d≠0 from fun k=>k (nd_f h))]
  refine ⟨by omega,by simp,ifP_split (fun h => ?_) (fun h => ?_)⟩
  · rw [if_pos (show bCheck (nLimit d)≠0 from nd_t h)];rfl
  rw [if_neg (show ¬ bCheck (nLimit d)≠0 from fun k=>k (nd_f h))]
  refine ⟨by omega,by simp,ifP_split (fun h => ?_) (fun h => ?_)⟩
  · rfl
  · exact (show check (nRoutes d) (pLinks d)=0 from nd_f h).symm
theorem ok_node_Check:SpecOK Tryz.prog GL 13 ct_node_Check.spec:=Ct.okH _ Tryz.func13 (by kernel_rfl) (withSpec_ok (withSpec_ok (withSpec_ok (withSpec_ok (withSpec_ok (withSpec_ok (withSpec_ok noSpecs_ok ok_node_usable) ok_node_port) ok_node_PortOf) ok_identifier_Check) ok_bucket_Check) ok_fib_Check) ok_node_links) hmix an_node_Check (hideMp (by kernel_rfl) vc_node_Check)
end Go.RS
