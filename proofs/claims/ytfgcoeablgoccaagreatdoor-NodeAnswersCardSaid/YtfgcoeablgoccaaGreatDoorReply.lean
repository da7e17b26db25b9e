/- Reply: answers. -/
import Derived.Test.YtfgcoeablgoccaaGreatDoorAddr
namespace Go.RS
open Go.SX Go.Proofs
set_option maxRecDepth 100000
set_option linter.unusedVariables false
abbrev cAns:CT := .pair cU32 (.pair cI (.pair cI (.pair cI (.pair cI cI))))
abbrev Ans:Type:=Int×Int×Int×Int×Int×Int
def ans0:Ans:=(0,0,0,0,0,0)
def special (a:Int):Int :=
  if a/16777216=0 then 1 else if a/16777216=127 then 2
  else if a/16777216=10∨(a/16777216=172/\16<=a/65536%256/\a/65536%256<32)∨(a/16777216=192/\a/65536%256=168) then 3
  else if a/16777216=169/\a/65536%256=254 then 4
  else if 224<=a/16777216/\a/16777216<240 then 5 else if 240<=a/16777216 then 6 else 0
def usable (a:Int):Prop:=special a=0∨special a=3
instance (a:Int):Decidable (usable a):=by unfold usable;infer_instance
def protoP (x:Packet):Int:=x.1.2.2.2.1
def pktAns (x:Packet):Prop:=8<=x.2.length/\(x.1.2.2.2.1=1->x.2.getD 0 default=8)/\(x.1.2.2.2.1=6->14<=x.2.length->bits .and .u8 (x.2.getD 13 default) 4=0)/\usable x.1.2.2.2.2.2.1
instance (x:Packet):Decidable (pktAns x):=by unfold pktAns;infer_instance
def ansOK (b:List Int):Prop:=decErr b=0/\pktAns (decPkt b)
instance (b:List Int):Decidable (ansOK b):=by unfold ansOK;infer_instance
def ansP (b:List Int):Packet:=if ansOK b then decPkt b else (hdr0,[])
def preAns (b:List Int):Prop:=decErr b=0/\8<=(decPkt b).2.length/\(protoP (decPkt b)=1->(decPkt b).2.getD 0 default=8)/\(protoP (decPkt b)=6->14<=(decPkt b).2.length->bits .and .u8 ((decPkt b).2.getD 13 default) 4=0)
instance (b:List Int):Decidable (preAns b):=by unfold preAns;infer_instance
def ansP' (b:List Int):Packet:=if preAns b then decPkt b else (hdr0,[])
def numOK (id ttl:Int):Prop:=(0<=id/\id<=65535)/\0<=ttl/\ttl<=255
instance (i t:Int):Decidable (numOK i t):=by unfold numOK;infer_instance
def sendP (src dst proto id ttl:Int) (data:List Int):Packet:=((0,id,ttl,proto,false,src,dst),data)
def srcOf (b:List Int):Int:=(pkHdrF b).2.2.2.2.2.1
def dstOf (b:List Int):Int:=(pkHdrF b).2.2.2.2.2.2
def protoOf (b:List Int):Int:=(pkHdrF b).2.2.2.1
def errGood (kind code id ttl:Int):Prop:=(kind=11∨kind=3)/\(0<=code/\code<=255)/\numOK id ttl
instance (k c i t:Int):Decidable (errGood k c i t):=by unfold errGood;infer_instance
def errE (b:List Int) (kind code id ttl:Int):Int:=if ¬ errGood kind code id ttl then 1 else if ansOK b then 0 else 17
def errB (b:List Int) (src kind code id ttl:Int):List Int:=if errE b kind code id ttl=0 then ipEnc (sendP src (srcOf b) 1 id ttl (noticeEnc (kind,code,b.take 28))) else []
def rstOf (s:Seg):Seg:=(s.2.1,s.1,0,(s.2.2.1+1)%4294967296,20,0,[])
def hostGood (b:List Int):Prop:=ansOK b/\((protoOf b=1/\unEchoErr (b.drop 20)=0)∨(protoOf b=17/\unUDPErr (srcOf b) (dstOf b) (b.drop 20)=0) ∨
  (protoOf b=6/\unTCPErr (srcOf b) (dstOf b) (b.drop 20)=0/\bits .and .i64 (unTCP (srcOf b) (dstOf b) (b.drop 20)).2.2.2.2.1 2≠0/\bits .and .i64 (unTCP (srcOf b) (dstOf b) (b.drop 20)).2.2.2.2.1 4=0))
instance (b:List Int):Decidable (hostGood b):=by unfold hostGood;infer_instance
def hostE (b:List Int) (id ttl:Int):Int:=if ¬ numOK id ttl then 1 else if hostGood b then 0 else 17
def hostB (b:List Int) (src id ttl:Int):List Int :=
  if hostE b id ttl=0 then
    if protoOf b=1 then ipEnc (sendP src (srcOf b) 1 id ttl (echoEnc (true,(unEcho (b.drop 20)).2)))
    else if protoOf b=17 then errB b src 3 3 id ttl
    else ipEnc (sendP src (srcOf b) 6 id ttl (tcpEnc src (srcOf b) (rstOf (unTCP (srcOf b) (dstOf b) (b.drop 20)))))
  else []
def quHead (b:List Int):Prop:=pkErr b=0/\b.length=28/\(pkHdrF b).1=0/\(pkHdrF b).2.2.2.2.1=true
instance (b:List Int):Decidable (quHead b):=by unfold quHead;infer_instance
def quFlow (b:List Int):Int:=if protoOf b=1 then wordAt b 22-16384 else if protoOf b=17∨protoOf b=6 then wordAt b 20-20000 else 0
def quP (b:List Int):Probe:=(srcOf b,dstOf b,protoOf b,quFlow b,(pkHdrF b).2.1,(pkHdrF b).2.2.1)
def quRight (b:List Int):Prop :=
  (protoOf b=1/\wordAt b 2=30/\wordAt b 20=2048/\wordAt b 24=21075/\wordAt b 26=(pkHdrF b).2.1) ∨
  (protoOf b=17/\wordAt b 2=30/\wordAt b 22=33434/\wordAt b 24=wordAt b 2-20/\wordAt b 26=(pkHdrF b).2.1+1) ∨
  (protoOf b=6/\wordAt b 2=40/\wordAt b 22=80/\numB ((b.drop 24).take 4)=(pkHdrF b).2.1)
instance (b:List Int):Decidable (quRight b):=by unfold quRight;infer_instance
def quV (b:List Int):Probe×Bool:=if quHead b then (quP b,decide (quRight b/\probeErr (quP b)=0)) else (probe0,false)
def noT (p:Probe) (t:Int):Probe:=(p.1,p.2.1,p.2.2.1,p.2.2.2.1,p.2.2.2.2.1,t)
def kindN (ty code:Int):Int:=if ty=11 then 1 else if code=3 then 3 else 5
abbrev RdR:Type:=Probe×Ans×Bool
def noR:RdR:=(probe0,ans0,false)
def noticeR (dst:Int) (b:List Int):RdR :=
  if unNoticeErr b=0 then (noT (quV (unNotice b).2.2).1 0,(0,kindN (unNotice b).1 (unNotice b).2.1,(unNotice b).2.1,0,0,(quV (unNotice b).2.2).1.2.2.2.2.2),(quV (unNotice b).2.2).2&&decide ((quV (unNotice b).2.2).1.1=dst)) else noR
def echoGood (b:List Int):Prop:=unEchoErr b=0/\(unEcho b).1=true/\(unEcho b).2.1=21075/\(unEcho b).2.2.2.length=2
instance (b:List Int):Decidable (echoGood b):=by unfold echoGood;infer_instance
def echoR (src dst:Int) (b:List Int):RdR:=if echoGood b then ((dst,src,1,wordAt b 2-18432,(unEcho b).2.2.1,0),(0,2,0,0,0,0),true) else noR
def resetGood (src dst:Int) (b:List Int):Prop:=unTCPErr src dst b=0/\(unTCP src dst b).1=80/\(unTCP src dst b).2.2.1=0/\(unTCP src dst b).2.2.2.2.1=20/\(unTCP src dst b).2.2.2.2.2.1=0/\(unTCP src dst b).2.2.2.2.2.2=[]
instance (s d:Int) (b:List Int):Decidable (resetGood s d b):=by unfold resetGood;infer_instance
def resetR (src dst:Int) (b:List Int):RdR:=if resetGood src dst b then ((dst,src,6,(unTCP src dst b).2.1-20000,(unTCP src dst b).2.2.2.1-1,0),(0,4,0,0,0,0),true) else noR
def partR (b:List Int):RdR :=
  if protoOf b=1/\0<(b.drop 20).length/\(b.drop 20).getD 0 default=0 then echoR (srcOf b) (dstOf b) (b.drop 20)
  else if protoOf b=1 then noticeR (dstOf b) (b.drop 20) else if protoOf b=6 then resetR (srcOf b) (dstOf b) (b.drop 20) else noR
def readGood (b:List Int):Prop:=decErr b=0/\(partR b).2.2=true/\probeErr (noT (partR b).1 1)=0
instance (b:List Int):Decidable (readGood b):=by unfold readGood;infer_instance
def readA (b:List Int):Probe×Ans:=if readGood b then ((partR b).1,(srcOf b,(partR b).2.1.2.1,(partR b).2.1.2.2.1,(pkHdrF b).2.2.1,(pkHdrF b).2.1,(partR b).2.1.2.2.2.2.2)) else (probe0,ans0)
def readAE (b:List Int):Int:=if readGood b then 0 else 17
theorem shr24 {n:Int} (h0:0<=n):shrI .i64 n 24=n/16777216:=by
  have e:=shr_pow (n:=n) (k:=3) h0 (by omega)
  exact e
theorem i64_and255 (n:Int):bits .and .i64 n 255=n%256:=by
  have h127:(BitVec.ofInt 64 255).toNat=2^8-1:=by decide
  have key:(BitVec.ofInt 64 n &&& BitVec.ofInt 64 255).toNat=(n%((2^64:Nat):Int)).toNat%2^8:=by
    rw [BitVec.toNat_and,BitVec.toNat_ofInt,h127,Nat.and_two_pow_sub_one_eq_mod]
  show IntKind.i64.wrap ((BitVec.ofInt 64 n &&& BitVec.ofInt 64 255).toNat:Nat)=n%256
  rw [key,IntKind.wrap_i64]
  omega
theorem i64_and32 (n:Int):bits .and .i64 n 4294967295=n%4294967296:=by
  have h127:(BitVec.ofInt 64 4294967295).toNat=2^32-1:=by decide
  have key:(BitVec.ofInt 64 n &&& BitVec.ofInt 64 4294967295).toNat=(n%((2^64:Nat):Int)).toNat%2^32:=by
    rw [BitVec.toNat_and,BitVec.toNat_ofInt,h127,Nat.and_two_pow_sub_one_eq_mod]
  show IntKind.i64.wrap ((BitVec.ofInt 64 n &&& BitVec.ofInt 64 4294967295).toNat:Nat)=n%4294967296
  rw [key,IntKind.wrap_i64]
  omega
theorem ct_num {p n a s:Int} (hs:sz n=s) (hn:0<=n/\n<=32) (hp:p%s=0):contains (p,n) a=decide (p<=a/\a<p+s):=by
  unfold contains pValid
  simp only
  rw [hs,decide_eq_true ⟨hn.1,hn.2,hp⟩,Bool.true_and]
theorem ansP_eq {b:List Int} (h:ansOK b):ansP b=(pkHdrF b,b.drop 20):=by rw [ansP,if_pos h,decPkt,if_pos h.1]
theorem ans_pre {b:List Int}:ansOK b↔preAns b/\usable (decPkt b).1.2.2.2.2.2.1:=⟨fun h=>⟨⟨h.1,h.2.1,h.2.2.1,h.2.2.2.1⟩,h.2.2.2.2⟩,fun h=>⟨h.1.1,h.1.2.1,h.1.2.2.1,h.1.2.2.2,h.2⟩⟩
theorem ansP'_eq {b:List Int} (h:ansOK b):ansP' b=(pkHdrF b,b.drop 20):=by rw [ansP',if_pos (ans_pre.1 h).1,decPkt,if_pos h.1]
theorem ans_facts {b:List Int} (h:ansOK b):decErr b=0/\28<=b.length/\(protoOf b=1->(b.drop 20).getD 0 default=8)/\(protoOf b=6->14<=(b.drop 20).length->bits .and .u8 ((b.drop 20).getD 13 default) 4=0)/\usable (srcOf b):=by
  obtain ⟨h1,h2⟩:=h
  rw [decPkt,if_pos h1] at h2
  obtain ⟨k1,k2,k3,k4⟩:=h2
  simp only [List.length_drop] at k1
  exact ⟨h1,by omega,k2,k3,k4⟩
theorem ans_mk {b:List Int} (h1:decErr b=0) (h2:28<=b.length) (h3:protoOf b=1->(b.drop 20).getD 0 default=8) (h4:protoOf b=6->14<=(b.drop 20).length->bits .and .u8 ((b.drop 20).getD 13 default) 4=0) (h5:usable (srcOf b)):ansOK b:=by
  refine ⟨h1,?_⟩
  rw [decPkt,if_pos h1]
  exact ⟨by simp only [List.length_drop];omega,h3,h4,h5⟩
theorem ip_send {src dst proto id ttl:Int} {data:List Int} (hn:numOK id ttl) (hp:0<=proto/\proto<=255) (hl:(data.length:Int)<=1480):ipErr (sendP src dst proto id ttl data)=0:=by
  obtain ⟨⟨a,b⟩,c,d⟩:=hn
  rw [ipErr,if_neg,if_neg (by simp only [sendP];omega)]
  rw [Decidable.not_not]
  exact ⟨⟨Int.le_refl _,by simp only [sendP];omega⟩,⟨c,d⟩,hp,a,b⟩
theorem err_good {b:List Int} {src kind code id ttl:Int} (hg:errGood kind code id ttl) (ha:ansOK b) :
    errE b kind code id ttl=0/\errB b src kind code id ttl=ipEnc (sendP src (srcOf b) 1 id ttl (noticeEnc (kind,code,b.take 28)))/\noticeErr (kind,code,b.take 28)=0/\ipErr (sendP src (srcOf b) 1 id ttl (noticeEnc (kind,code,b.take 28)))=0:=by
  have he:errE b kind code id ttl=0:=by rw [errE,if_neg (fun k=>k hg),if_pos ha]
  obtain ⟨-,hl,-⟩:=ans_facts ha
  obtain ⟨h1,h2,h3⟩:=hg
  refine ⟨he,by rw [errB,if_pos he],?_,ip_send h3 (by omega) (notice_enc_len _)⟩
  have ht:(b.take 28).length=28:=by rw [List.length_take];omega
  rw [noticeErr,if_neg,if_neg,if_neg]
  · simp only;rw [ht];omega
  · simp only;rw [ht];omega
  · rw [Decidable.not_not];exact ⟨h1.symm,h2⟩
theorem err_range {b:List Int} {src kind code id ttl:Int} (hg:¬ errGood kind code id ttl):([]:List Int)=errB b src kind code id ttl/\1=errE b kind code id ttl:=by
  have he:errE b kind code id ttl=1:=by rw [errE,if_pos hg]
  rw [errB,he];exact ⟨rfl,rfl⟩
theorem err_bad {b:List Int} {src kind code id ttl:Int} (hg:errGood kind code id ttl) (ha:¬ ansOK b):([]:List Int)=errB b src kind code id ttl/\17=errE b kind code id ttl:=by
  have he:errE b kind code id ttl=17:=by rw [errE,if_neg (fun k=>k hg),if_neg ha]
  rw [errB,he];exact ⟨rfl,rfl⟩
theorem sub28 (b:List Int):subL b (Int.toNat 0) (Int.toNat 28)=b.take 28:=by
  show subL b 0 28=_
  simp [subL]
theorem host_range {b:List Int} {src id ttl:Int} (hn:¬ numOK id ttl):([]:List Int)=hostB b src id ttl/\1=hostE b id ttl:=by
  have he:hostE b id ttl=1:=by rw [hostE,if_pos hn]
  rw [hostB,he];exact ⟨rfl,rfl⟩
theorem host_bad {b:List Int} {src id ttl:Int} (hn:numOK id ttl) (ha:¬ hostGood b):([]:List Int)=hostB b src id ttl/\17=hostE b id ttl:=by
  have he:hostE b id ttl=17:=by rw [hostE,if_neg (fun k=>k hn),if_neg ha]
  rw [hostB,he];exact ⟨rfl,rfl⟩
theorem host_zero {b:List Int} {id ttl:Int} (hn:numOK id ttl) (ha:hostGood b):hostE b id ttl=0:=by rw [hostE,if_neg (fun k=>k hn),if_pos ha]
theorem host_1 {b:List Int} {src id ttl:Int} (hn:numOK id ttl) (ha:ansOK b) (h:protoOf b=1) (he:unEchoErr (b.drop 20)=0) :
    hostB b src id ttl=ipEnc (sendP src (srcOf b) 1 id ttl (echoEnc (true,(unEcho (b.drop 20)).2)))/\hostE b id ttl=0:=by
  have h0:=host_zero hn (b:=b) ⟨ha,.inl ⟨h,he⟩⟩
  rw [hostB,if_pos h0,if_pos h];exact ⟨rfl,h0⟩
theorem host_17 {b:List Int} {src id ttl:Int} (hn:numOK id ttl) (ha:ansOK b) (h:protoOf b=17) (he:unUDPErr (srcOf b) (dstOf b) (b.drop 20)=0) :
    hostB b src id ttl=errB b src 3 3 id ttl/\hostE b id ttl=0:=by
  have h0:=host_zero hn (b:=b) ⟨ha,.inr (.inl ⟨h,he⟩)⟩
  rw [hostB,if_pos h0,if_neg (by omega),if_pos h];exact ⟨rfl,h0⟩
theorem host_6 {b:List Int} {src id ttl:Int} (hn:numOK id ttl) (ha:ansOK b) (h:protoOf b=6) (he:unTCPErr (srcOf b) (dstOf b) (b.drop 20)=0)
    (h2:bits .and .i64 (unTCP (srcOf b) (dstOf b) (b.drop 20)).2.2.2.2.1 2≠0) (h4:bits .and .i64 (unTCP (srcOf b) (dstOf b) (b.drop 20)).2.2.2.2.1 4=0) :
    hostB b src id ttl=ipEnc (sendP src (srcOf b) 6 id ttl (tcpEnc src (srcOf b) (rstOf (unTCP (srcOf b) (dstOf b) (b.drop 20)))))/\hostE b id ttl=0:=by
  have h0:=host_zero hn (b:=b) ⟨ha,.inr (.inr ⟨h,he,h2,h4⟩)⟩
  rw [hostB,if_pos h0,if_neg (by omega),if_neg (by omega)];exact ⟨rfl,h0⟩
theorem err_port {b:List Int} {id ttl:Int} (hn:numOK id ttl) (ha:ansOK b):errE b 3 3 id ttl=0:=by
  rw [errE,if_neg (fun k=>k ⟨.inr rfl,⟨by omega,by omega⟩,hn⟩),if_pos ha]
theorem un_echo_len (b:List Int):(unEcho b).2.2.2.length<=b.length:=by
  unfold unEcho;split
  · simp only [List.length_drop];omega
  · simp
theorem un_notice_len (b:List Int):(unNotice b).2.2.length<=b.length:=by
  unfold unNotice;split
  · simp only [List.length_drop];omega
  · simp
theorem un_tcp_rng {s d:Int} {b:List Int} (hb:bytes b):(0<=(unTCP s d b).2.1/\(unTCP s d b).2.1<=65535)/\(0<=(unTCP s d b).2.2.1/\(unTCP s d b).2.2.1<=4294967295)/\0<=(unTCP s d b).2.2.2.1/\(unTCP s d b).2.2.2.1<=4294967295:=by
  unfold unTCP;split
  · have h1:=bytes_word hb (Int.toNat 2)
    have h2:=bytes_word hb (Int.toNat 4)
    have h3:=bytes_word hb (Int.toNat 6)
    have h4:=bytes_word hb (Int.toNat 8)
    have h5:=bytes_word hb (Int.toNat 10)
    simp only
    omega
  · simp
theorem un_echo_flag {b:List Int} (h:b.getD 0 default=8):(unEcho b).1=false:=by
  unfold unEcho;split
  · exact decide_eq_false (by show ¬ b.getD 0 default=0;omega)
  · rfl
def blkP (k:Int):Pfx:=([(0,8),(2130706432,8),(167772160,8),(2886729728,12),(3232235520,16),(2851995648,16),(3758096384,4),(4026531840,4)]:List Pfx).getD k.toNat (0,0)
def ct_address_Special:Ct:=⟨[.val cU32],[.val cI],fun d=>[],fun d=>((special d.1,()),())⟩
def an_address_Special:PDs ct_address_Special.ps->Anns:=(fun d=>{cuts:=(fun n=>match n with|6=>some (fun S=>{ι:=Unit,inv:=fun i=>contains (blkP (S.i 6)) d.1=false,keep:=[0,5,6],slots:=fun i=>[],names:=fun i=>[]})|_=>none),unr:=fun n=>match n with|2=>9|_=>0})
def Qbm2 :=
 (2:Int)^IntKind.bits IntKind.i64
def Qbm17 :=
 (nat_lit 0+nat_lit 1)%Int.natAbs (Qbm2)+nat_lit 1
def Qbm4 :=
 ((Qbm17)%Int.natAbs (Qbm2)+nat_lit 1)%Int.natAbs (Qbm2)+nat_lit 1
def Qbm20 :=
 IntKind.wrap .i64 ((0:Int)+(1:Int))+(1:Int)
def Qbm6 :=
 IntKind.wrap .i64 (IntKind.wrap .i64 (Qbm20)+(1:Int))+(1:Int)
def Qbm14 :=
 ((Qbm4)%Int.natAbs (Qbm2)+nat_lit 1)%Int.natAbs (Qbm2)+nat_lit 1
def Qbm18 :=
 IntKind.wrap .i64 (IntKind.wrap .i64 (Qbm6)+(1:Int))+(1:Int)
def Qbm35 :=
 (2130706432:Int)
def Qbm36 :=
 (2886729728:Int)
def Qbm37 :=
 (3232235520:Int)
def Qbm38 :=
 (2851995648:Int)
def Qbm39 :=
 (3758096384:Int)
def Qbm40 :=
 (4026531840:Int)
def Qbm42 :=
 blkP (Int.ofNat (((Qbm17)%Int.natAbs (Qbm2)+nat_lit 1)%Int.natAbs (Qbm2)))
def Qbm43 :=
 blkP (Int.ofNat (((Qbm14)%Int.natAbs (Qbm2)+nat_lit 1)%Int.natAbs (Qbm2)))
def Qbm45 :=
 blkP (Int.ofNat (((Qbm4)%Int.natAbs (Qbm2)+nat_lit 1)%Int.natAbs (Qbm2)))
def Qbm46 :=
 (167772160:Int)
theorem vc_address_Special :
 ∀(a:Int),(0<=a/\a<=4294967295)/\True->True->ifP (contains ((0:Int),(8:Int)) a) ((1:Int)=special a) (∃(b:Unit),contains (blkP (0:Int)) a=false/\a=a/\(0:Int)=0/\(8:Int)=8/\(1:Int)=1/\(Qbm35)=2130706432/\(8:Int)=8/\(2:Int)=2/\(Qbm46)=167772160/\(8:Int)=8/\(3:Int)=3/\(Qbm36)=2886729728/\(12:Int)=12/\(3:Int)=3/\(Qbm37)=3232235520/\(16:Int)=16/\(3:Int)=3/\(Qbm38)=2851995648/\(16:Int)=16/\(4:Int)=4/\(Qbm39)=3758096384/\(4:Int)=4/\(5:Int)=5/\(Qbm40)=4026531840/\(4:Int)=4/\(6:Int)=6/\(0:Int)=0/\True)/\ ∀(b:Unit),contains (blkP (0:Int)) a=false->ifP (contains ((Qbm35),(8:Int)) a) ((2:Int)=special a) (∃(c:Unit),contains (blkP (Int.ofNat ((nat_lit 0+nat_lit 1)%Int.natAbs (Qbm2))))
 a=false/\a=a/\(0:Int)=0/\(8:Int)=8/\(1:Int)=1/\(Qbm35)=2130706432/\(8:Int)=8/\(2:Int)=2/\(Qbm46)=167772160/\(8:Int)=8/\(3:Int)=3/\(Qbm36)=2886729728/\(12:Int)=12/\(3:Int)=3/\(Qbm37)=3232235520/\(16:Int)=16/\(3:Int)=3/\(Qbm38)=2851995648/\(16:Int)=16/\(4:Int)=4/\(Qbm39)=3758096384/\(4:Int)=4/\(5:Int)=5/\(Qbm40)=4026531840/\(4:Int)=4/\(6:Int)=6/\IntKind.wrap .i64 ((0:Int)+(1:Int))=IntKind.wrap .i64 ((0:Int)+(1:Int))/\True)/\ ∀(c:Unit),contains (blkP (Int.ofNat ((nat_lit 0+nat_lit 1)%Int.natAbs (Qbm2)))) a=false->ifP (contains ((Qbm46),(8:Int)) a) ((3:Int)=special a) (∃(d:Unit),contains (blkP (Int.ofNat ((Qbm17)%Int.natAbs (Qbm2))))
 a=false/\a=a/\(0:Int)=0/\(8:Int)=8/\(1:Int)=1/\(Qbm35)=2130706432/\(8:Int)=8/\(2:Int)=2/\(Qbm46)=167772160/\(8:Int)=8/\(3:Int)=3/\(Qbm36)=2886729728/\(12:Int)=12/\(3:Int)=3/\(Qbm37)=3232235520/\(16:Int)=16/\(3:Int)=3/\(Qbm38)=2851995648/\(16:Int)=16/\(4:Int)=4/\(Qbm39)=3758096384/\(4:Int)=4/\(5:Int)=5/\(Qbm40)=4026531840/\(4:Int)=4/\(6:Int)=6/\IntKind.wrap .i64 (Qbm20)=IntKind.wrap .i64 (Qbm20)/\True)/\ ∀(d:Unit),contains (blkP (Int.ofNat ((Qbm17)%Int.natAbs (Qbm2)))) a=false->ifP (contains ((Qbm36),(12:Int)) a) ((3:Int)=special a) (∃(e:Unit),contains (Qbm42)
 a=false/\a=a/\(0:Int)=0/\(8:Int)=8/\(1:Int)=1/\(Qbm35)=2130706432/\(8:Int)=8/\(2:Int)=2/\(Qbm46)=167772160/\(8:Int)=8/\(3:Int)=3/\(Qbm36)=2886729728/\(12:Int)=12/\(3:Int)=3/\(Qbm37)=3232235520/\(16:Int)=16/\(3:Int)=3/\(Qbm38)=2851995648/\(16:Int)=16/\(4:Int)=4/\(Qbm39)=3758096384/\(4:Int)=4/\(5:Int)=5/\(Qbm40)=4026531840/\(4:Int)=4/\(6:Int)=6/\IntKind.wrap .i64 (IntKind.wrap .i64 (Qbm20)+(1:Int))=IntKind.wrap .i64 (IntKind.wrap .i64 (Qbm20)+(1:Int))/\True)/\ ∀(e:Unit),contains (Qbm42) a=false->ifP (contains ((Qbm37),(16:Int)) a) ((3:Int)=special a) (∃(f:Unit),contains (blkP (Int.ofNat ((Qbm4)%Int.natAbs (Qbm2))))
 a=false/\a=a/\(0:Int)=0/\(8:Int)=8/\(1:Int)=1/\(Qbm35)=2130706432/\(8:Int)=8/\(2:Int)=2/\(Qbm46)=167772160/\(8:Int)=8/\(3:Int)=3/\(Qbm36)=2886729728/\(12:Int)=12/\(3:Int)=3/\(Qbm37)=3232235520/\(16:Int)=16/\(3:Int)=3/\(Qbm38)=2851995648/\(16:Int)=16/\(4:Int)=4/\(Qbm39)=3758096384/\(4:Int)=4/\(5:Int)=5/\(Qbm40)=4026531840/\(4:Int)=4/\(6:Int)=6/\IntKind.wrap .i64 (Qbm6)=IntKind.wrap .i64 (Qbm6)/\True)/\ ∀(f:Unit),contains (blkP (Int.ofNat ((Qbm4)%Int.natAbs (Qbm2)))) a=false->ifP (contains ((Qbm38),(16:Int)) a) ((4:Int)=special a) (∃(g:Unit),contains (Qbm45)
 a=false/\a=a/\(0:Int)=0/\(8:Int)=8/\(1:Int)=1/\(Qbm35)=2130706432/\(8:Int)=8/\(2:Int)=2/\(Qbm46)=167772160/\(8:Int)=8/\(3:Int)=3/\(Qbm36)=2886729728/\(12:Int)=12/\(3:Int)=3/\(Qbm37)=3232235520/\(16:Int)=16/\(3:Int)=3/\(Qbm38)=2851995648/\(16:Int)=16/\(4:Int)=4/\(Qbm39)=3758096384/\(4:Int)=4/\(5:Int)=5/\(Qbm40)=4026531840/\(4:Int)=4/\(6:Int)=6/\IntKind.wrap .i64 (IntKind.wrap .i64 (Qbm6)+(1:Int))=IntKind.wrap .i64 (IntKind.wrap .i64 (Qbm6)+(1:Int))/\True)/\ ∀(g:Unit),contains (Qbm45) a=false->ifP (contains ((Qbm39),(4:Int)) a) ((5:Int)=special a) (∃(h:Unit),contains (blkP (Int.ofNat ((Qbm14)%Int.natAbs (Qbm2))))
 a=false/\a=a/\(0:Int)=0/\(8:Int)=8/\(1:Int)=1/\(Qbm35)=2130706432/\(8:Int)=8/\(2:Int)=2/\(Qbm46)=167772160/\(8:Int)=8/\(3:Int)=3/\(Qbm36)=2886729728/\(12:Int)=12/\(3:Int)=3/\(Qbm37)=3232235520/\(16:Int)=16/\(3:Int)=3/\(Qbm38)=2851995648/\(16:Int)=16/\(4:Int)=4/\(Qbm39)=3758096384/\(4:Int)=4/\(5:Int)=5/\(Qbm40)=4026531840/\(4:Int)=4/\(6:Int)=6/\IntKind.wrap .i64 (Qbm18)=IntKind.wrap .i64 (Qbm18)/\True)/\ ∀(h:Unit),contains (blkP (Int.ofNat ((Qbm14)%Int.natAbs (Qbm2)))) a=false->ifP (contains ((Qbm40),(4:Int)) a) ((6:Int)=special a) (∃(i:Unit),contains (Qbm43)
 a=false/\a=a/\(0:Int)=0/\(8:Int)=8/\(1:Int)=1/\(Qbm35)=2130706432/\(8:Int)=8/\(2:Int)=2/\(Qbm46)=167772160/\(8:Int)=8/\(3:Int)=3/\(Qbm36)=2886729728/\(12:Int)=12/\(3:Int)=3/\(Qbm37)=3232235520/\(16:Int)=16/\(3:Int)=3/\(Qbm38)=2851995648/\(16:Int)=16/\(4:Int)=4/\(Qbm39)=3758096384/\(4:Int)=4/\(5:Int)=5/\(Qbm40)=4026531840/\(4:Int)=4/\(6:Int)=6/\IntKind.wrap .i64 (IntKind.wrap .i64 (Qbm18)+(1:Int))=IntKind.wrap .i64 (IntKind.wrap .i64 (Qbm18)+(1:Int))/\True)/\ ∀(i:Unit),contains (Qbm43) a=false->(0:Int)=special a:=by
  delta Qbm2 Qbm4 Qbm6 Qbm14 Qbm17 Qbm18 Qbm20 Qbm35 Qbm36 Qbm37 Qbm38 Qbm39 Qbm40 Qbm42 Qbm43 Qbm45 Qbm46
  rintro a ⟨⟨a0,a1⟩,-⟩ -
  have q0:=ct_num (p:=0) (n:=8) (a:=a) (s:=16777216) rfl (by omega) (by omega)
  have q1:=ct_num (p:=2130706432) (n:=8) (a:=a) (s:=16777216) rfl (by omega) (by omega)
  have q2:=ct_num (p:=167772160) (n:=8) (a:=a) (s:=16777216) rfl (by omega) (by omega)
  have q3:=ct_num (p:=2886729728) (n:=12) (a:=a) (s:=1048576) rfl (by omega) (by omega)
  have q4:=ct_num (p:=3232235520) (n:=16) (a:=a) (s:=65536) rfl (by omega) (by omega)
  have q5:=ct_num (p:=2851995648) (n:=16) (a:=a) (s:=65536) rfl (by omega) (by omega)
  have q6:=ct_num (p:=3758096384) (n:=4) (a:=a) (s:=268435456) rfl (by omega) (by omega)
  have q7:=ct_num (p:=4026531840) (n:=4) (a:=a) (s:=268435456) rfl (by omega) (by omega)
  refine ⟨ifP_split (fun h => ?_) (fun h=>⟨(),h,(by repeat' first|exact trivial|refine ⟨trivial,?_⟩|refine ⟨(by with_reducible rfl),?_⟩|refine ⟨w64 (by omega) (by omega),?_⟩|refine ⟨rfl,?_⟩)⟩),?_⟩
  · rw [q0] at h
    have h:=of_decide_eq_true h
    unfold special;rw [if_pos (by omega)]
  rintro-h
  have h:contains (0,8) a=false:=h
  rw [q0] at h
  have h0:=of_decide_eq_false h
  refine ⟨ifP_split (fun h => ?_) (fun h=>⟨(),h,(by repeat' first|exact trivial|refine ⟨trivial,?_⟩|refine ⟨(by with_reducible rfl),?_⟩|refine ⟨w64 (by omega) (by omega),?_⟩|refine ⟨rfl,?_⟩)⟩),?_⟩
  · rw [q1] at h
    have h:=of_decide_eq_true h
    unfold special;rw [if_neg (by omega),if_pos (by omega)]
  rintro-h
  have h:contains (2130706432,8) a=false:=h
  rw [q1] at h
  have h1:=of_decide_eq_false h
  refine ⟨ifP_split (fun h => ?_) (fun h=>⟨(),h,(by repeat' first|exact trivial|refine ⟨trivial,?_⟩|refine ⟨(by with_reducible rfl),?_⟩|refine ⟨w64 (by omega) (by omega),?_⟩|refine ⟨rfl,?_⟩)⟩),?_⟩
  · rw [q2] at h
    have h:=of_decide_eq_true h
    unfold special;rw [if_neg (by omega),if_neg (by omega),if_pos (by omega)]
  rintro-h
  have h:contains (167772160,8) a=false:=h
  rw [q2] at h
  have h2:=of_decide_eq_false h
  refine ⟨ifP_split (fun h => ?_) (fun h=>⟨(),h,(by repeat' first|exact trivial|refine ⟨trivial,?_⟩|refine ⟨(by with_reducible rfl),?_⟩|refine ⟨w64 (by omega) (by omega),?_⟩|refine ⟨rfl,?_⟩)⟩),?_⟩
  · rw [q3] at h
    have h:=of_decide_eq_true h
    unfold special;rw [if_neg (by omega),if_neg (by omega),if_pos (by omega)]
  rintro-h
  have h:contains (2886729728,12) a=false:=h
  rw [q3] at h
  have h3:=of_decide_eq_false h
  refine ⟨ifP_split (fun h => ?_) (fun h=>⟨(),h,(by repeat' first|exact trivial|refine ⟨trivial,?_⟩|refine ⟨(by with_reducible rfl),?_⟩|refine ⟨w64 (by omega) (by omega),?_⟩|refine ⟨rfl,?_⟩)⟩),?_⟩
  · rw [q4] at h
    have h:=of_decide_eq_true h
    unfold special;rw [if_neg (by omega),if_neg (by omega),if_pos (by omega)]
  rintro-h
  have h:contains (3232235520,16) a=false:=h
  rw [q4] at h
  have h4:=of_decide_eq_false h
  refine ⟨ifP_split (fun h => ?_) (fun h=>⟨(),h,(by repeat' first|exact trivial|refine ⟨trivial,?_⟩|refine ⟨(by with_reducible rfl),?_⟩|refine ⟨w64 (by omega) (by omega),?_⟩|refine ⟨rfl,?_⟩)⟩),?_⟩
  · rw [q5] at h
    have h:=of_decide_eq_true h
    unfold special;rw [if_neg (by omega),if_neg (by omega),if_neg (by omega),if_pos (by omega)]
  rintro-h
  have h:contains (2851995648,16) a=false:=h
  rw [q5] at h
  have h5:=of_decide_eq_false h
  refine ⟨ifP_split (fun h => ?_) (fun h=>⟨(),h,(by repeat' first|exact trivial|refine ⟨trivial,?_⟩|refine ⟨(by with_reducible rfl),?_⟩|refine ⟨w64 (by omega) (by omega),?_⟩|refine ⟨rfl,?_⟩)⟩),?_⟩
  · rw [q6] at h
    have h:=of_decide_eq_true h
    unfold special;rw [if_neg (by omega),if_neg (by omega),if_neg (by omega),if_neg (by omega),if_pos (by omega)]
  rintro-h
  have h:contains (3758096384,4) a=false:=h
  rw [q6] at h
  have h6:=of_decide_eq_false h
  refine ⟨ifP_split (fun h => ?_) (fun h=>⟨(),h,(by repeat' first|exact trivial|refine ⟨trivial,?_⟩|refine ⟨(by with_reducible rfl),?_⟩|refine ⟨w64 (by omega) (by omega),?_⟩|refine ⟨rfl,?_⟩)⟩),?_⟩
  · rw [q7] at h
    have h:=of_decide_eq_true h
    unfold special;rw [if_neg (by omega),if_neg (by omega),if_neg (by omega),if_neg (by omega),if_neg (by omega),if_pos (by omega)]
  rintro-h
  have h:contains (4026531840,4) a=false:=h
  rw [q7] at h
  have h7:=of_decide_eq_false h
  unfold special;rw [if_neg (by omega),if_neg (by omega),if_neg (by omega),if_neg (by omega),if_neg (by omega),if_neg (by omega)]
theorem ok_address_Special:SpecOK Tryz.prog GL 94 ct_address_Special.spec:=Ct.okH _ Tryz.func94 (by kernel_rfl) (withConc_ok (withSpec_ok noSpecs_ok ok_address_Contains) (d:=8)) hmix an_address_Special (hideMp (by kernel_rfl) vc_address_Special)
def ct_ref01_Special:Ct:=⟨[.val cU32],[.val cI],fun d=>[],fun d=>((special d.1,()),())⟩
def an_ref01_Special:PDs ct_ref01_Special.ps->Anns:=(fun _=>{})
def Qbm13 (e:Bool) :=
 (! e)->((! e)->(! e))/\True
def Qbm22 (a:Int) :=
 IntKind.wrap .i64 a
def Qbm41 (a:Int) :=
 shrI IntKind.i64 (Qbm22 a) (16:Int)
theorem vc_ref01_Special :
 ∀(a:Int),(0<=a/\a<=4294967295)/\True->True->(0:Int)<=24/\(0:Int)<=16/\ifP (decide (shrI IntKind.i64 (Qbm22 a) (24:Int)=0)) ((1:Int)=special a) (ifP (decide (shrI IntKind.i64 (Qbm22 a) (24:Int)=127)) ((2:Int)=special a) (∀(b:Bool),b=decide (shrI IntKind.i64 (Qbm22 a) (24:Int)=10)->((! b)->((! b)->(! b))/\True)/\((! b)->((! b)->(! b))/\True)/\ ∀(c:Bool),c=decide (shrI IntKind.i64 (Qbm22 a) (24:Int)=172)->((! b&&c)->((! b&&c)->(! b&&c))/\True)/\((! b)->((! b)->(! b))/\(c->(! b&&c))/\True)/\((! b)->((! b)->(! b))/\True)/\ ∀(d:Bool),(d=bif c then decide (16<=bits BinOp.and IntKind.i64 (Qbm41 a) (255:Int)) else false)->((! b&&d)->((! b&&d)->(! b&&d))/\True)/\((! b)->((! b)->(! b))/\(d->(! b&&d))/\True)/\(b=false->(! b))/\ ∀(e:Bool),(e=bif b then true else bif d then decide (bits BinOp.and IntKind.i64 (Qbm41 a) (255:Int)<32) else false)->(Qbm13 e)/\(Qbm13 e)/\ ∀(f:Bool),f=decide (shrI
 IntKind.i64 (Qbm22 a) (24:Int)=192)->((! e&&f)->((! e&&f)->(! e&&f))/\True)/\((! e)->((! e)->(! e))/\(f->(! e&&f))/\True)/\(e=false->(! e))/\ifP (bif e then true else bif f then decide (bits BinOp.and IntKind.i64 (Qbm41 a) (255:Int)=168) else false) ((3:Int)=special a) (∀(g:Bool),g=decide (shrI IntKind.i64 (Qbm22 a) (24:Int)=169)->(g->(g->g)/\True)/\(g->g)/\ifP (bif g then decide (bits BinOp.and IntKind.i64 (Qbm41 a) (255:Int)=254) else false) ((4:Int)=special a) (∀(h:Bool),h=decide (224<=shrI IntKind.i64 (Qbm22 a) (24:Int))->(h->(h->h)/\True)/\(h->h)/\ifP (bif h then decide (shrI IntKind.i64 (Qbm22 a) (24:Int)<240) else false) ((5:Int)=special a) (ifP (decide (240<=shrI IntKind.i64 (Qbm22 a) (24:Int))) ((6:Int)=special a) ((0:Int)=special a)))))):=by
  delta Qbm13 Qbm22 Qbm41
  rintro a ⟨⟨a0,a1⟩,-⟩ -
  rw [w64 (n:=a) (by omega) (by omega),shr24 a0,shr16 a0,i64_and255]
  refine ⟨by omega,by omega,ifP_split (fun h => ?_) (fun h => ?_)⟩
  · rw [special,if_pos (of_decide_eq_true h)]
  have h1:=of_decide_eq_false h
  refine ifP_split (fun h => ?_) (fun h => ?_)
  · rw [special,if_neg h1,if_pos (of_decide_eq_true h)]
  have h2:=of_decide_eq_false h
  rw [special,if_neg h1,if_neg h2]
  (repeat (intro (b_:Bool) (hb_:b_=_);(repeat refine ⟨(by first|(simp;done)|(rw [hb_];simp;done)|(rw [hb_];simp;omega)|(rw [hb_];simp;intros;omega)|(rw [hb_];simp +contextual;done)),?_⟩);subst hb_))
  refine ⟨fun h=>by rw [h];rfl,?_⟩
  refine ifP_split (fun h => ?_) (fun h => ?_)
  · rw [if_pos]
    simp [Bool.cond_eq_ite] at h;omega
  have h3:¬ (a/16777216=10∨(a/16777216=172/\16<=a/65536%256/\a/65536%256<32)∨(a/16777216=192/\a/65536%256=168)):=by
    simp [Bool.cond_eq_ite] at h;omega
  rw [if_neg h3]
  clear h
  (repeat (intro (b_:Bool) (hb_:b_=_);(repeat refine ⟨(by first|(simp;done)|(rw [hb_];simp;done)|(rw [hb_];simp;omega)|(rw [hb_];simp;intros;omega)|(rw [hb_];simp +contextual;done)),?_⟩);subst hb_))
  refine ifP_split (fun h => ?_) (fun h => ?_)
  · rw [if_pos]
    simp [Bool.cond_eq_ite] at h;omega
  have h4:¬ (a/16777216=169/\a/65536%256=254):=by
    simp [Bool.cond_eq_ite] at h;omega
  rw [if_neg h4]
  clear h
  (repeat (intro (b_:Bool) (hb_:b_=_);(repeat refine ⟨(by first|(simp;done)|(rw [hb_];simp;done)|(rw [hb_];simp;omega)|(rw [hb_];simp;intros;omega)|(rw [hb_];simp +contextual;done)),?_⟩);subst hb_))
  refine ifP_split (fun h => ?_) (fun h => ?_)
  · rw [if_pos]
    simp [Bool.cond_eq_ite] at h;omega
  have h5:¬ (224<=a/16777216/\a/16777216<240):=by
    simp [Bool.cond_eq_ite] at h;omega
  rw [if_neg h5]
  exact ifP_split (fun h=>by rw [if_pos (of_decide_eq_true h)]) (fun h=>by rw [if_neg (of_decide_eq_false h)])
theorem ok_ref01_Special:SpecOK Tryz.prog GL 100 ct_ref01_Special.spec:=Ct.okH _ Tryz.func100 (by kernel_rfl) noSpecs_ok hmix an_ref01_Special (hideMp (by kernel_rfl) vc_ref01_Special)
def ct_ref01_Usable:Ct:=⟨[.val cU32],[.val .bool],fun d=>[],fun d=>((decide (usable d.1),()),())⟩
def an_ref01_Usable:PDs ct_ref01_Usable.ps->Anns:=(fun _=>{})
theorem vc_ref01_Usable :
 ∀(a:Int),(0<=a/\a<=4294967295)/\True->True-> ∀(b:Bool),b=decide (special a=0)->((! b)->((! b)->(! b))/\True)/\((! b)->((! b)->(! b))/\True)/\(b=false->(! b))/\(bif b then true else decide (special a=3))=decide (usable a):=by
  rintro a - -
  (repeat (intro (b_:Bool) (hb_:b_=_);(repeat refine ⟨(by first|(simp;done)|(rw [hb_];simp;done)|(rw [hb_];simp;omega)|(rw [hb_];simp;intros;omega)|(rw [hb_];simp +contextual;done)),?_⟩);subst hb_))
  rw [Bool.eq_iff_iff,decide_eq_true_iff];simp [usable,Bool.cond_eq_ite]
theorem ok_ref01_Usable:SpecOK Tryz.prog GL 53 ct_ref01_Usable.spec:=Ct.okH _ Tryz.func53 (by kernel_rfl) (withSpec_ok noSpecs_ok ok_ref01_Special) hmix an_ref01_Usable (hideMp (by kernel_rfl) vc_ref01_Usable)
def ct_reply_answerable:Ct:=⟨[.val (.sl cU8)],[.agg cPacket,.val .bool],fun d=>[(d.1.length:Int)<=1099511627776],fun d=>((ansP' d.1,decide (ansOK d.1),()),())⟩
def an_reply_answerable:PDs ct_reply_answerable.ps->Anns:=(fun _=>{})
def Qbm12 :=
 (((0:Int),(0:Int),(0:Int),(0:Int),false,(0:Int),(0:Int)),([]:List Int))
def Qbm28 (f:Bool) :=
 (! f)->((! f)->(! f))/\True
def Qbm30 (a:List Int) (b:(Int×Int×Int×Int×Bool×Int×Int)×List Int) :=
 ∀(e:Bool),e=decide (special b.1.2.2.2.2.2.1=0)->(Qbm13 e)/\(e=false->(! e))/\b=ansP' a/\(bif e then true else decide (special b.1.2.2.2.2.2.1=3))=decide (ansOK a)
def Qbm32 (d:Bool) :=
 (! d)->((! d)->(! d))/\True
def Qbm44 (a:List Int) :=
 a.length<=maxLen/\ ∀(b:Int),b∈a->0<=b/\b<=255
theorem vc_reply_answerable :
 ∀(a:List Int),(Qbm44 a)/\True->(a.length:Int)<=1099511627776->(a.length:Int)<=1099511627776/\ ∀(b:(Int×Int×Int×Int×Bool×Int×Int)×List Int) (c:Int),b=decPkt a/\c=decErr a-> ∀(d:Bool),d= ! decide (c=0)->(Qbm32 d)/\(Qbm32 d)/\(Qbm32 d)/\(d=false->(! d))/\ifP (bif d then true else decide ((b.2.length:Int)<8)) ((Qbm12)=ansP' a/\false=decide (ansOK a)) (ifP (decide (b.1.2.2.2.1=1)) ((0:Int)<=0/\0<(b.2.length:Int)/\ifP (! decide (List.getD b.2 (Int.toNat (0:Int)) default=8)) ((Qbm12)=ansP' a/\false=decide (ansOK a)) (Qbm30 a b)) (ifP (decide (b.1.2.2.2.1=6)) (∀(e:Bool),e=decide (13<(b.2.length:Int))->(e->(e->e)/\True)/\(e->(e->e)/\(0:Int)<=13/\13<(b.2.length:Int)/\True)/\(e->(e->e)/\True)/\(e->(e->e)/\True)/\(e->(e->e)/\True)/\(e->e)/\ifP (bif e then ! decide (bits BinOp.and IntKind.u8 (List.getD b.2 (Int.toNat (13:Int)) default) (4:Int)=0) else false) ((Qbm12)=ansP' a/\false=decide (ansOK a))
 (∀(f:Bool),f=decide (special b.1.2.2.2.2.2.1=0)->(Qbm28 f)/\(f=false->(! f))/\b=ansP' a/\(bif f then true else decide (special b.1.2.2.2.2.2.1=3))=decide (ansOK a))) (Qbm30 a b))):=by
  delta Qbm12 Qbm13 Qbm28 Qbm30 Qbm32 Qbm44
  rintro b ⟨⟨-,hb⟩,-⟩ hl
  refine ⟨hl,?_⟩
  rintro d e ⟨rfl,rfl⟩
  have bad:¬ preAns b->(((0,0,0,0,false,0,0),[]):Packet)=ansP' b/\false=decide (ansOK b):=fun h=>by rw [ansP',if_neg h,decide_eq_false (fun k=>h (ans_pre.1 k).1)];exact ⟨rfl,rfl⟩
  have good:preAns b->decPkt b=ansP' b/\(bif decide (special (decPkt b).1.2.2.2.2.2.1=0) then true else decide (special (decPkt b).1.2.2.2.2.2.1=3))=decide (ansOK b):=by
    intro h
    refine ⟨by rw [ansP',if_pos h],?_⟩
    rw [Bool.eq_iff_iff,decide_eq_true_iff,ans_pre]
    simp [h,usable,Bool.cond_eq_ite]
  (repeat (intro (b_:Bool) (hb_:b_=_);(repeat refine ⟨(by first|(simp;done)|(rw [hb_];simp;done)|(rw [hb_];simp;omega)|(rw [hb_];simp;intros;omega)|(rw [hb_];simp +contextual;done)),?_⟩);subst hb_))
  refine ifP_split (fun h => ?_) (fun h => ?_)
  · refine bad (fun k => ?_)
    obtain ⟨k1,k2,-⟩:=k
    rw [k1] at h;simp at h;omega
  have h1:decErr b=0:=by
    refine Classical.byContradiction fun k => ?_
    simp [k] at h
  have h2:8<=(decPkt b).2.length:=by
    rw [h1] at h;simp at h;omega
  refine ifP_split (fun hp => ?_) (fun hp => ?_)
  · have hp:protoP (decPkt b)=1:=of_decide_eq_true hp
    refine ⟨by omega,by omega,ifP_split (fun h8 => ?_) (fun h8 => ?_)⟩
    · refine bad (fun k => ?_)
      have:=k.2.2.1 hp
      simp only [show Int.toNat 0=0 from rfl,this] at h8
      simp at h8
    · (repeat (intro (b_:Bool) (hb_:b_=_);(repeat refine ⟨(by first|(simp;done)|(rw [hb_];simp;done)|(rw [hb_];simp;omega)|(rw [hb_];simp;intros;omega)|(rw [hb_];simp +contextual;done)),?_⟩);subst hb_))
      exact good ⟨h1,h2,fun _=>by simpa using h8,fun k=>by omega⟩
  have hp:¬ protoP (decPkt b)=1:=of_decide_eq_false hp
  refine ifP_split (fun hq => ?_) (fun hq => ?_)
  · have hq:protoP (decPkt b)=6:=of_decide_eq_true hq
    (repeat (intro (b_:Bool) (hb_:b_=_);(repeat refine ⟨(by first|(simp;done)|(rw [hb_];simp;done)|(rw [hb_];simp;omega)|(rw [hb_];simp;intros;omega)|(rw [hb_];simp +contextual;done)),?_⟩);subst hb_))
    refine ifP_split (fun h8 => ?_) (fun h8 => ?_)
    · refine bad (fun k => ?_)
      have:=k.2.2.2 hq
      simp [Bool.cond_eq_ite] at h8
      exact h8.2 (this (by omega))
    · (repeat (intro (b_:Bool) (hb_:b_=_);(repeat refine ⟨(by first|(simp;done)|(rw [hb_];simp;done)|(rw [hb_];simp;omega)|(rw [hb_];simp;intros;omega)|(rw [hb_];simp +contextual;done)),?_⟩);subst hb_))
      refine good ⟨h1,h2,fun k=>absurd k hp,fun _ hk => ?_⟩
      refine Classical.byContradiction fun k => ?_
      have k:¬ bits .and .u8 ((decPkt b).2.getD (Int.toNat 13) default) 4=0:=k
      rw [decide_eq_true (show (13:Int)<((decPkt b).2.length:Int) by omega),decide_eq_false k] at h8
      cases h8
  · have hq:¬ protoP (decPkt b)=6:=of_decide_eq_false hq
    (repeat (intro (b_:Bool) (hb_:b_=_);(repeat refine ⟨(by first|(simp;done)|(rw [hb_];simp;done)|(rw [hb_];simp;omega)|(rw [hb_];simp;intros;omega)|(rw [hb_];simp +contextual;done)),?_⟩);subst hb_))
    exact good ⟨h1,h2,fun k=>absurd k hp,fun k=>absurd k hq⟩
theorem ok_reply_answerable:SpecOK Tryz.prog GL 187 ct_reply_answerable.spec:=Ct.okH _ Tryz.func187 (by kernel_rfl) (withSpec_ok (withSpec_ok noSpecs_ok (Ct.named ok_ipv4_Decode)) ok_address_Special) hmix an_reply_answerable (hideMp (by kernel_rfl) vc_reply_answerable)
def ct_ref08_Answerable:Ct:=⟨[.val (.sl cU8)],[.agg cPacket,.val .bool],fun d=>[(d.1.length:Int)<=1099511627776],fun d=>((ansP d.1,decide (ansOK d.1),()),())⟩
def an_ref08_Answerable:PDs ct_ref08_Answerable.ps->Anns:=(fun _=>{})
def Qbm16 (j:Bool) :=
 (! j)->((! j)->(! j))/\True
def Qbm21 (g:Bool) :=
 (! g)->((! g)->(! g))/\True
def Qbm47 (g i:Bool) :=
 (! g&&i)->((! g&&i)->(! g&&i))/\True
theorem vc_ref08_Answerable :
 ∀(a:List Int),(Qbm44 a)/\True->(a.length:Int)<=1099511627776->(a.length:Int)<=1099511627776/\ ∀(b:(Int×Int×Int×Int×Bool×Int×Int)×List Int) (c:Int),b=decPkt a/\c=decErr a-> ∀(d:Bool),d= ! decide (c=0)->(Qbm32 d)/\(Qbm32 d)/\(Qbm32 d)/\(d=false->(! d))/\ ∀(e:Bool),(e=bif d then true else decide ((b.2.length:Int)<8))->(Qbm13 e)/\(Qbm13 e)/\(Qbm13 e)/\(Qbm13 e)/\ ∀(f:Bool),f=decide (b.1.2.2.2.1=1)->((! e&&f)->((! e&&f)->(! e&&f))/\True)/\((! e&&f)->((! e&&f)->(! e&&f))/\(0:Int)<=0/\0<(b.2.length:Int)/\True)/\((! e&&f)->((! e&&f)->(! e&&f))/\True)/\((! e&&f)->((! e&&f)->(! e&&f))/\True)/\((! e)->((! e)->(! e))/\(f->(! e&&f))/\True)/\(e=false->(! e))/\ ∀(g:Bool),(g=bif e then true else bif f then ! decide (List.getD b.2 (Int.toNat (0:Int)) default=8) else false)->(Qbm21 g)/\(Qbm21 g)/\(Qbm21 g)/\(Qbm21 g)/\ ∀(h:Bool),h=decide (b.1.2.2.2.1=6)->((! g&&h)->((! g&&h)->(! g&&h))/\True)/\((!
 g&&h)->((! g&&h)->(! g&&h))/\True)/\((! g&&h)->((! g&&h)->(! g&&h))/\True)/\((! g)->((! g)->(! g))/\(h->(! g&&h))/\True)/\(Qbm21 g)/\ ∀(i:Bool),(i=bif h then decide (14<=(b.2.length:Int)) else false)->(Qbm47 g i)/\((! g&&i)->((! g&&i)->(! g&&i))/\(0:Int)<=13/\13<(b.2.length:Int)/\True)/\(Qbm47 g i)/\(Qbm47 g i)/\(Qbm47 g i)/\((! g)->((! g)->(! g))/\(i->(! g&&i))/\True)/\(g=false->(! g))/\ ∀(j:Bool),(j=bif g then true else bif i then ! decide (bits BinOp.and IntKind.u8 (List.getD b.2 (Int.toNat (13:Int)) default) (4:Int)=0) else false)->(Qbm16 j)/\(Qbm16 j)/\(Qbm16 j)/\(Qbm16 j)/\(j=false->(! j))/\ifP (bif j then true else ! decide (usable b.1.2.2.2.2.2.1)) ((Qbm12)=ansP a/\false=decide (ansOK a)) (b=ansP a/\true=decide (ansOK a)):=by
  delta Qbm12 Qbm13 Qbm16 Qbm21 Qbm32 Qbm44 Qbm47
  rintro b ⟨⟨-,hb⟩,-⟩ hl
  refine ⟨hl,?_⟩
  rintro d e ⟨rfl,rfl⟩
  have bad:¬ ansOK b->(((0,0,0,0,false,0,0),[]):Packet)=ansP b/\false=decide (ansOK b):=fun h=>by rw [ansP,if_neg h,decide_eq_false h];exact ⟨rfl,rfl⟩
  (repeat (intro (b_:Bool) (hb_:b_=_);(repeat refine ⟨(by first|(simp +contextual;done)|(rw [hb_];simp +contextual;done)|(rw [hb_];simp;omega)|(rw [hb_];simp;intros;omega)|(rw [hb_];simp +contextual;intros;omega)|(intros;simp_all;done)|(intros;simp_all;omega)),?_⟩)));subst_vars
  refine ifP_split (fun h=>bad (fun k => ?_)) (fun h => ?_)
  · obtain ⟨k1,k2,k3,k4,k5⟩:=k
    simp [Bool.cond_eq_ite,k1,k5] at h
    rcases h with h|h
    · rcases h with h|h
      · omega
      · exact h.2 (k3 h.1)
    · exact h.2 (k4 h.1.1 (by omega))
  · have ha:ansOK b:=by
      simp [Bool.cond_eq_ite] at h
      refine ⟨h.1.1.1.1,by have:=h.1.1.1.2;omega,fun k => ?_,fun k1 k2 => ?_,h.2⟩
      · exact h.1.1.2 k
      · exact h.1.2 k1 (by omega)
    rw [ansP,if_pos ha,decide_eq_true ha];exact ⟨rfl,rfl⟩
theorem ok_ref08_Answerable:SpecOK Tryz.prog GL 108 ct_ref08_Answerable.spec:=Ct.okH _ Tryz.func108 (by kernel_rfl) (withSpec_ok (withSpec_ok noSpecs_ok (Ct.named ok_ref05_Decode)) ok_ref01_Usable) hmix an_ref08_Answerable (hideMp (by kernel_rfl) vc_ref08_Answerable)
def ct_reply_numbers:Ct:=⟨[.val cI,.val cI],[.val .bool],fun d=>[],fun d=>((decide (numOK d.1 d.2.1),()),())⟩
def an_reply_numbers:PDs ct_reply_numbers.ps->Anns:=(fun _=>{})
theorem vc_reply_numbers :
 ∀(a b:Int),R64 a/\R64 b/\True->True-> ∀(c:Bool),c=decide (0<=a)->(c->(c->c)/\True)/\(c->c)/\ ∀(d:Bool),(d=bif c then decide (a<=65535) else false)->(d->(d->d)/\True)/\(d->d)/\ ∀(e:Bool),(e=bif d then decide (0<=b) else false)->(e->(e->e)/\True)/\(e->e)/\(bif e then decide (b<=255) else false)=decide (numOK a b):=by
  rintro id ttl - -
  (repeat (intro (b_:Bool) (hb_:b_=_);(repeat refine ⟨(by first|(simp;done)|(rw [hb_];simp;done)|(rw [hb_];simp;omega)|(rw [hb_];simp;intros;omega)|(rw [hb_];simp +contextual;done)),?_⟩);subst hb_))
  rw [Bool.eq_iff_iff];simp [numOK,Bool.cond_eq_ite,and_assoc]
theorem ok_reply_numbers:SpecOK Tryz.prog GL 186 ct_reply_numbers.spec:=Ct.okH _ Tryz.func186 (by kernel_rfl) noSpecs_ok hmix an_reply_numbers (hideMp (by kernel_rfl) vc_reply_numbers)
def ct_reply_send:Ct:=⟨[.val cU32,.val cU32,.val cI,.val cI,.val cI,.val (.sl cU8)],[.own 5 cU8,.val cI],fun d=>[(d.2.2.2.2.2.1.length:Int)<=1073741824],fun d=>((ipEnc (sendP d.1 d.2.1 d.2.2.1 d.2.2.2.1 d.2.2.2.2.1 d.2.2.2.2.2.1),ipErr (sendP d.1 d.2.1 d.2.2.1 d.2.2.2.1 d.2.2.2.2.1 d.2.2.2.2.2.1),()),())⟩
def an_reply_send:PDs ct_reply_send.ps->Anns:=(fun _=>{})
theorem vc_reply_send :
 ∀(a b c d e:Int) (f:List Int),(0<=a/\a<=4294967295)/\(0<=b/\b<=4294967295)/\R64 c/\R64 d/\R64 e/\(f.length<=maxLen/\ ∀(g:Int),g∈f->0<=g/\g<=255)/\True->(f.length:Int)<=1073741824->(f.length:Int)<=1073741824/\ipEnc (((0:Int),d,e,c,false,a,b),f)=ipEnc (sendP a b c d e f)/\ipErr (((0:Int),d,e,c,false,a,b),f)=ipErr (sendP a b c d e f):=by
  rintro s d p i t data-hl
  exact ⟨hl,rfl,rfl⟩
theorem ok_reply_send:SpecOK Tryz.prog GL 188 ct_reply_send.spec:=Ct.okH _ Tryz.func188 (by kernel_rfl) (withSpec_ok noSpecs_ok ok_ipv4_Encode) hmix an_reply_send (hideMp (by kernel_rfl) vc_reply_send)
def ct_ref08_packet:Ct:=⟨[.val cU32,.val cU32,.val cI,.val cI,.val cI,.val (.sl cU8)],[.own 5 cU8],fun d=>[(d.2.2.2.2.2.1.length:Int)<=1073741824],fun d=>((ipEnc (sendP d.1 d.2.1 d.2.2.1 d.2.2.2.1 d.2.2.2.2.1 d.2.2.2.2.2.1),()),())⟩
def an_ref08_packet:PDs ct_ref08_packet.ps->Anns:=(fun _=>{})
theorem vc_ref08_packet :
 ∀(a b c d e:Int) (f:List Int),(0<=a/\a<=4294967295)/\(0<=b/\b<=4294967295)/\R64 c/\R64 d/\R64 e/\(f.length<=maxLen/\ ∀(g:Int),g∈f->0<=g/\g<=255)/\True->(f.length:Int)<=1073741824->(f.length:Int)<=1073741824/\ipEnc (((0:Int),d,e,c,false,a,b),f)=ipEnc (sendP a b c d e f):=by
  rintro s d p i t data-hl
  exact ⟨hl,rfl⟩
theorem ok_ref08_packet:SpecOK Tryz.prog GL 111 ct_ref08_packet.spec:=Ct.okH _ Tryz.func111 (by kernel_rfl) (withSpec_ok noSpecs_ok ok_ref05_Encode) hmix an_ref08_packet (hideMp (by kernel_rfl) vc_ref08_packet)
def ct_reply_Error:Ct:=⟨[.val (.sl cU8),.val cU32,.val cI,.val cI,.val cI,.val cI],[.own 5 cU8,.val cI],fun d=>[(d.1.length:Int)<=1099511627776],fun d=>((errB d.1 d.2.1 d.2.2.1 d.2.2.2.1 d.2.2.2.2.1 d.2.2.2.2.2.1,errE d.1 d.2.2.1 d.2.2.2.1 d.2.2.2.2.1 d.2.2.2.2.2.1,()),())⟩
def an_reply_Error:PDs ct_reply_Error.ps->Anns:=(fun _=>{})
def Qbm23 (i:Bool) :=
 (! i)->((! i)->(! i))/\True
def Qbm33 (a:List Int) (c d:Int) :=
 (c,d,subL a (Int.toNat (0:Int)) (Int.toNat (28:Int)))
theorem vc_reply_Error :
 ∀(a:List Int) (b c d e f:Int),(a.length<=maxLen/\ ∀(g:Int),g∈a->0<=g/\g<=255)/\(0<=b/\b<=4294967295)/\R64 c/\R64 d/\R64 e/\R64 f/\True->(a.length:Int)<=1099511627776-> ∀(g:Bool),g= ! decide (c=11)->(g->(g->g)/\True)/\(g->g)/\ ∀(h:Bool),(h=bif g then ! decide (c=3) else false)->((! h)->((! h)->(! h))/\True)/\(h=false->(! h))/\ ∀(i:Bool),(i=bif h then true else decide (d<0))->(Qbm23 i)/\(i=false->(! i))/\ ∀(j:Bool),(j=bif i then true else decide (255<d))->((! j)->((! j)->(! j))/\((! j)->(! j))/\True)/\(Qbm16 j)/\(j=false->(! j))/\ifP (bif j then true else ! decide (numOK e f)) (([]:List Int)=errB a b c d e f/\(1:Int)=errE a c d e f) ((a.length:Int)<=1099511627776/\ ∀(k:(Int×Int×Int×Int×Bool×Int×Int)×List Int) (l:Bool),k=ansP' a/\l=decide (ansOK a)->ifP (! l) (([]:List Int)=errB a b c d e f/\(17:Int)=errE a c d e f) ((0:Int)<=0/\(0:Int)<=28/\28<=(a.length:Int)/\((List.length (subL a
 (Int.toNat (0:Int)) (Int.toNat (28:Int)))):Int)<=1073741824/\ ∀(m:List Int) (n:Int),m=noticeEnc (Qbm33 a c d)/\n=noticeErr (Qbm33 a c d)->ifP (! decide (n=0)) (([]:List Int)=errB a b c d e f/\n=errE a c d e f) ((m.length:Int)<=1073741824/\ipEnc (sendP b k.1.2.2.2.2.2.1 (1:Int) e f m)=errB a b c d e f/\ipErr (sendP b k.1.2.2.2.2.2.1 (1:Int) e f m)=errE a c d e f))):=by
  delta Qbm16 Qbm23 Qbm33
  rintro b src kind code id ttl ⟨⟨-,hb⟩,-⟩ hl
  (repeat (intro (b_:Bool) (hb_:b_=_);(repeat refine ⟨(by first|(simp;done)|(rw [hb_];simp;done)|(rw [hb_];simp;omega)|(rw [hb_];simp;intros;omega)|(rw [hb_];simp +contextual;done)),?_⟩);subst hb_))
  by_cases hg:errGood kind code id ttl
  rotate_left
  · refine ifP_split (fun _=>err_range hg) (fun h=>absurd ?_ hg)
    by_cases hn:numOK id ttl
    · rw [decide_eq_true hn] at h
      refine ⟨?_,?_,hn⟩ <;> simp [Bool.cond_eq_ite] at h <;> omega
    · rw [decide_eq_false hn] at h
      simp at h
  have hg':=hg
  obtain ⟨g1,g2,g3⟩:=hg'
  refine ifP_split (fun h => ?_) (fun _=>⟨hl,?_⟩)
  · exfalso
    rw [decide_eq_true g3] at h
    simp [Bool.cond_eq_ite] at h;omega
  rintro d e ⟨rfl,rfl⟩
  refine ifP_split (fun h=>err_bad hg (by simpa using h)) (fun h => ?_)
  have ha:ansOK b:=by simpa using h
  have hgd:=err_good (src:=src) hg ha
  obtain ⟨-,h28,-⟩:=ans_facts ha
  rw [ansP'_eq ha,sub28]
  refine ⟨by omega,by omega,by omega,by rw [List.length_take];omega,?_⟩
  rintro n e ⟨rfl,rfl⟩
  rw [hgd.2.2.1]
  refine ifP_split (fun h=>by simp at h) (fun _ => ?_)
  have:=notice_enc_len (kind,code,b.take 28)
  refine ⟨by omega,hgd.2.1.symm,?_⟩
  rw [hgd.1];exact hgd.2.2.2
theorem ok_reply_Error:SpecOK Tryz.prog GL 190 ct_reply_Error.spec:=Ct.okH _ Tryz.func190 (by kernel_rfl) (withSpec_ok (withSpec_ok (withSpec_ok (withSpec_ok noSpecs_ok ok_reply_numbers) (Ct.named ok_reply_answerable)) (Ct.named ok_transport_EncodeNotice)) ok_reply_send) hmix an_reply_Error (hideMp (by kernel_rfl) vc_reply_Error)
def ct_ref08_Error:Ct:=⟨[.val (.sl cU8),.val cU32,.val cI,.val cI,.val cI,.val cI],[.own 5 cU8,.val cI],fun d=>[(d.1.length:Int)<=1099511627776],fun d=>((errB d.1 d.2.1 d.2.2.1 d.2.2.2.1 d.2.2.2.2.1 d.2.2.2.2.2.1,errE d.1 d.2.2.1 d.2.2.2.1 d.2.2.2.2.1 d.2.2.2.2.2.1,()),())⟩
def an_ref08_Error:PDs ct_ref08_Error.ps->Anns:=(fun _=>{})
theorem vc_ref08_Error :
 ∀(a:List Int) (b c d e f:Int),(a.length<=maxLen/\ ∀(g:Int),g∈a->0<=g/\g<=255)/\(0<=b/\b<=4294967295)/\R64 c/\R64 d/\R64 e/\R64 f/\True->(a.length:Int)<=1099511627776-> ∀(g:Bool),g= ! decide (c=11)->(g->(g->g)/\True)/\(g->g)/\ ∀(h:Bool),(h=bif g then ! decide (c=3) else false)->((! h)->((! h)->(! h))/\True)/\(h=false->(! h))/\ ∀(i:Bool),(i=bif h then true else decide (d<0))->(Qbm23 i)/\(i=false->(! i))/\ ∀(j:Bool),(j=bif i then true else decide (255<d))->(Qbm16 j)/\(j=false->(! j))/\ ∀(k:Bool),(k=bif j then true else decide (f<0))->((! k)->((! k)->(! k))/\True)/\(k=false->(! k))/\ ∀(l:Bool),(l=bif k then true else decide (255<f))->((! l)->((! l)->(! l))/\True)/\(l=false->(! l))/\ ∀(m:Bool),(m=bif l then true else decide (e<0))->((! m)->((! m)->(! m))/\True)/\(m=false->(! m))/\ifP (bif m then true else decide (65535<e)) (([]:List Int)=errB a b c d e f/\(1:Int)=errE a c d e f)
 ((a.length:Int)<=1099511627776/\ ∀(n:(Int×Int×Int×Int×Bool×Int×Int)×List Int) (o:Bool),n=ansP a/\o=decide (ansOK a)->ifP (! o) (([]:List Int)=errB a b c d e f/\(17:Int)=errE a c d e f) ((0:Int)<=0/\(0:Int)<=28/\28<=(a.length:Int)/\((List.length (subL a (Int.toNat (0:Int)) (Int.toNat (28:Int)))):Int)<=1073741824/\ ∀(p:List Int) (q:Int),p=noticeEnc (Qbm33 a c d)/\q=noticeErr (Qbm33 a c d)->(p.length:Int)<=1073741824/\ipEnc (sendP b n.1.2.2.2.2.2.1 (1:Int) e f p)=errB a b c d e f/\(0:Int)=errE a c d e f)):=by
  delta Qbm16 Qbm23 Qbm33
  rintro b src kind code id ttl ⟨⟨-,hb⟩,-⟩ hl
  (repeat (intro (b_:Bool) (hb_:b_=_);(repeat refine ⟨(by first|(simp;done)|(rw [hb_];simp;done)|(rw [hb_];simp;omega)|(rw [hb_];simp;intros;omega)|(rw [hb_];simp +contextual;done)),?_⟩);subst hb_))
  by_cases hg:errGood kind code id ttl
  rotate_left
  · refine ifP_split (fun _=>err_range hg) (fun h=>absurd ?_ hg)
    refine ⟨?_,?_,?_,?_⟩ <;> simp [Bool.cond_eq_ite] at h <;> omega
  have hg':=hg
  obtain ⟨g1,g2,g3,g4⟩:=hg'
  refine ifP_split (fun h => ?_) (fun _=>⟨hl,?_⟩)
  · exfalso
    simp [Bool.cond_eq_ite] at h;omega
  rintro d e ⟨rfl,rfl⟩
  refine ifP_split (fun h=>err_bad hg (by simpa using h)) (fun h => ?_)
  have ha:ansOK b:=by simpa using h
  have hgd:=err_good (src:=src) hg ha
  obtain ⟨-,h28,-⟩:=ans_facts ha
  rw [ansP_eq ha,sub28]
  refine ⟨by omega,by omega,by omega,by rw [List.length_take];omega,?_⟩
  rintro n e ⟨rfl,rfl⟩
  have:=notice_enc_len (kind,code,b.take 28)
  exact ⟨by omega,hgd.2.1.symm,hgd.1.symm⟩
theorem ok_ref08_Error:SpecOK Tryz.prog GL 80 ct_ref08_Error.spec:=Ct.okH _ Tryz.func80 (by kernel_rfl) (withSpec_ok (withSpec_ok (withSpec_ok noSpecs_ok (Ct.named ok_ref08_Answerable)) (Ct.named ok_ref06_EncodeNotice)) ok_ref08_packet) hmix an_ref08_Error (hideMp (by kernel_rfl) vc_ref08_Error)
def ct_reply_Host:Ct:=⟨[.val (.sl cU8),.val cU32,.val cI,.val cI],[.own 5 cU8,.val cI],fun d=>[(d.1.length:Int)<=1099511627776],fun d=>((hostB d.1 d.2.1 d.2.2.1 d.2.2.2.1,hostE d.1 d.2.2.1 d.2.2.2.1,()),())⟩
def an_reply_Host:PDs ct_reply_Host.ps->Anns:=(fun _=>{})
def Qbm11 (a:List Int) (b c d:Int) :=
 ([]:List Int)=hostB a b c d/\(17:Int)=hostE a c d
def Qbm31 (g:Int×Int×Int×Int×Int×Int×List Int) :=
 (g.2.1,g.1,(0:Int),bits BinOp.and IntKind.i64 (IntKind.wrap .i64 (g.2.2.1+(1:Int))) (4294967295:Int),(20:Int),(0:Int),([]:List Int))
theorem vc_reply_Host :
 ∀(a:List Int) (b c d:Int),(a.length<=maxLen/\ ∀(e:Int),e∈a->0<=e/\e<=255)/\(0<=b/\b<=4294967295)/\R64 c/\R64 d/\True->(a.length:Int)<=1099511627776->ifP (! decide (numOK c d)) (([]:List Int)=hostB a b c d/\(1:Int)=hostE a c d) ((a.length:Int)<=1099511627776/\ ∀(e:(Int×Int×Int×Int×Bool×Int×Int)×List Int) (f:Bool),e=ansP' a/\f=decide (ansOK a)->ifP (! f) (Qbm11 a b c d) (ifP (decide (e.1.2.2.2.1=1)) ((e.2.length:Int)<=1000000/\ ∀(g:Bool) (h i:Int) (j:List Int) (k:Int),(g,h,i,j)=unEcho e.2/\k=unEchoErr e.2->ifP (! decide (k=0)) (Qbm11 a b c d) ((j.length:Int)<=1073741824/\ ∀(l:List Int) (m:Int),l=echoEnc (true,h,i,j)/\m=echoErr (true,h,i,j)->(l.length:Int)<=1073741824/\ipEnc (sendP b e.1.2.2.2.2.2.1 e.1.2.2.2.1 c d l)=hostB a b c d/\ipErr (sendP b e.1.2.2.2.2.2.1 e.1.2.2.2.1 c d l)=hostE a c d)) (ifP (decide (e.1.2.2.2.1=17)) ((e.2.length:Int)<=1000000/\ ∀(g h:Int) (i:List Int)
 (j:Int),(g,h,i)=unUDP e.1.2.2.2.2.2.1 e.1.2.2.2.2.2.2 e.2/\j=unUDPErr e.1.2.2.2.2.2.1 e.1.2.2.2.2.2.2 e.2->ifP (! decide (j=0)) (Qbm11 a b c d) ((a.length:Int)<=1099511627776/\errB a b (3:Int) (3:Int) c d=hostB a b c d/\errE a (3:Int) (3:Int) c d=hostE a c d)) (ifP (decide (e.1.2.2.2.1=6)) ((e.2.length:Int)<=1000000/\ ∀(g:Int×Int×Int×Int×Int×Int×List Int) (h:Int),g=unTCP e.1.2.2.2.2.2.1 e.1.2.2.2.2.2.2 e.2/\h=unTCPErr e.1.2.2.2.2.2.1 e.1.2.2.2.2.2.2 e.2-> ∀(i:Bool),i= ! decide (h=0)->(Qbm23 i)/\(Qbm23 i)/\(Qbm23 i)/\(i=false->(! i))/\ ∀(j:Bool),(j=bif i then true else decide (bits BinOp.and IntKind.i64 g.2.2.2.2.1 (2:Int)=0))->(Qbm16 j)/\(Qbm16 j)/\(Qbm16 j)/\(j=false->(! j))/\ifP (bif j then true else ! decide (bits BinOp.and IntKind.i64 g.2.2.2.2.1 (4:Int)=0)) (Qbm11 a b c d) ((↑(0:Nat):Int)<=1000000/\ ∀(k:List Int) (l:Int),k=tcpEnc b e.1.2.2.2.2.2.1 (Qbm31 g)/\l=tcpErr (Qbm31
 g)->(k.length:Int)<=1073741824/\ipEnc (sendP b e.1.2.2.2.2.2.1 e.1.2.2.2.1 c d k)=hostB a b c d/\ipErr (sendP b e.1.2.2.2.2.2.1 e.1.2.2.2.1 c d k)=hostE a c d)) (Qbm11 a b c d))))):=by
  delta Qbm11 Qbm16 Qbm23 Qbm31
  rintro b src id ttl ⟨⟨-,hb⟩,-⟩ hl
  by_cases hn:numOK id ttl
  rotate_left
  · exact ifP_split (fun _=>host_range hn) (fun h=>absurd (by simpa using h) hn)
  refine ifP_split (fun h=>by simp [hn] at h) (fun _=>⟨hl,?_⟩)
  rintro _ _ ⟨rfl,rfl⟩
  refine ifP_split (fun h=>host_bad hn (fun k => ?_)) (fun h => ?_)
  · have:=k.1;simp [this] at h
  have ha:ansOK b:=by simpa using h
  obtain ⟨hd0,h28,hp1,hp6,-⟩:=ans_facts ha
  have hdl:=dec_len hd0
  rw [ansP'_eq ha]
  have hdb:bytes (b.drop 20):=bytes_drop hb
  have hdr:(b.drop 20).length<=1480:=by rw [List.length_drop];omega
  have nofit:∀ k:Prop,(k->hostGood b->False)->k->([]:List Int)=hostB b src id ttl/\(17:Int)=hostE b id ttl:=fun k hk h=>host_bad hn (hk h)
  refine ifP_split (fun h1 => ?_) (fun h1=>ifP_split (fun h17 => ?_) (fun h17=>ifP_split (fun h6 => ?_) (fun h6 => ?_)))
  · have h1:protoOf b=1:=of_decide_eq_true h1
    refine ⟨by show ((b.drop 20).length:Int)<=_;omega,?_⟩
    rintro r i q dt e ⟨hu,rfl⟩
    refine ifP_split (fun h => ?_) (fun h => ?_)
    · refine host_bad hn (fun k => ?_)
      obtain ⟨-,⟨-,k⟩|⟨k,-⟩|⟨k,-⟩⟩:=k
      · simp [k] at h
      · omega
      · omega
    have h:unEchoErr (b.drop 20)=0:=by simpa using h
    have hh:=host_1 (src:=src) hn ha h1 h
    have hlen:=un_echo_len (b.drop 20)
    have e2:(i,q,dt)=(unEcho (b.drop 20)).2:=congrArg Prod.snd hu
    have e3:dt=(unEcho (b.drop 20)).2.2.2:=by rw [← e2]
    refine ⟨by rw [e3];omega,?_⟩
    rintro o e ⟨rfl,rfl⟩
    rw [show ((true,i,q,dt):Echo)=(true,(i,q,dt)) from rfl,e2]
    have hle:=enc_len (true,(unEcho (b.drop 20)).2)
    refine ⟨by omega,?_,?_⟩
    · rw [hh.1,← h1];rfl
    · rw [hh.2];exact ip_send hn (by have:=h1;unfold protoOf at this;simp only;omega) hle
  · have h1:=of_decide_eq_false h1
    have h17:protoOf b=17:=of_decide_eq_true h17
    refine ⟨by show ((b.drop 20).length:Int)<=_;omega,?_⟩
    rintro sp dp dt e ⟨hu,rfl⟩
    refine ifP_split (fun h => ?_) (fun h => ?_)
    · refine host_bad hn (fun k => ?_)
      obtain ⟨-,⟨k,-⟩|⟨-,k⟩|⟨k,-⟩⟩:=k
      · omega
      · have k:unUDPErr (pkHdrF b).2.2.2.2.2.1 (pkHdrF b).2.2.2.2.2.2 (b.drop 20)=0:=k
        simp [k] at h
      · omega
    have h:unUDPErr (srcOf b) (dstOf b) (b.drop 20)=0:=by
      have:unUDPErr (pkHdrF b).2.2.2.2.2.1 (pkHdrF b).2.2.2.2.2.2 (b.drop 20)=0:=by simpa using h
      exact this
    have hh:=host_17 (src:=src) hn ha h17 h
    exact ⟨hl,hh.1.symm,by rw [hh.2,err_port hn ha]⟩
  · have h1:=of_decide_eq_false h1
    have h17:=of_decide_eq_false h17
    have h6:protoOf b=6:=of_decide_eq_true h6
    refine ⟨by show ((b.drop 20).length:Int)<=_;omega,?_⟩
    rintro t e ⟨ht,rfl⟩
    have ht:t=unTCP (srcOf b) (dstOf b) (b.drop 20):=ht
    have hr:=un_tcp_rng (s:=srcOf b) (d:=dstOf b) hdb
    rw [← ht] at hr
    have ee:unTCPErr (pkHdrF b).2.2.2.2.2.1 (pkHdrF b).2.2.2.2.2.2 (b.drop 20)=unTCPErr (srcOf b) (dstOf b) (b.drop 20):=rfl
    rw [ee]
    (repeat (intro (b_:Bool) (hb_:b_=_);(repeat refine ⟨(by first|(simp;done)|(rw [hb_];simp;done)|(rw [hb_];simp;omega)|(rw [hb_];simp;intros;omega)|(rw [hb_];simp +contextual;done)),?_⟩);subst hb_))
    refine ifP_split (fun h => ?_) (fun h => ?_)
    · refine host_bad hn (fun k => ?_)
      obtain ⟨-,⟨k,-⟩|⟨k,-⟩|⟨-,k1,k2,k3⟩⟩:=k
      · omega
      · omega
      · rw [← ht] at k2 k3
        simp [k1,k2,k3] at h
    have k1:unTCPErr (srcOf b) (dstOf b) (b.drop 20)=0:=Classical.byContradiction fun k=>by simp [k] at h
    have k2:bits .and .i64 t.2.2.2.2.1 2≠0:=fun k=>by simp [k1,k] at h
    have k3:bits .and .i64 t.2.2.2.2.1 4=0:=Classical.byContradiction fun k=>by simp [k1,k2,k] at h
    have hh:=host_6 (src:=src) hn ha h6 k1 (by rw [← ht];exact k2) (by rw [← ht];exact k3)
    refine ⟨by simp,?_⟩
    rintro o e ⟨rfl,rfl⟩
    rw [w64 (n:=t.2.2.1+1) (by omega) (by omega),i64_and32]
    have hle:=tcp_enc_len src (srcOf b) (rstOf t)
    have er:((t.2.1,t.1,0,(t.2.2.1+1)%4294967296,20,0,[]):Seg)=rstOf t:=rfl
    rw [er]
    refine ⟨by show ((tcpEnc src (srcOf b) (rstOf t)).length:Int)<=_;omega,?_,?_⟩
    · rw [hh.1,← ht,← h6];rfl
    · rw [hh.2];exact ip_send hn (by have:=h6;unfold protoOf at this;simp only;omega) hle
  · have h1:=of_decide_eq_false h1
    have h17:=of_decide_eq_false h17
    have h6:=of_decide_eq_false h6
    refine host_bad hn (fun k => ?_)
    obtain ⟨-,⟨k,-⟩|⟨k,-⟩|⟨k,-⟩⟩:=k
    · exact h1 k
    · exact h17 k
    · exact h6 k
theorem ok_reply_Host:SpecOK Tryz.prog GL 155 ct_reply_Host.spec:=Ct.okH _ Tryz.func155 (by kernel_rfl) (withSpec_ok (withSpec_ok (withSpec_ok (withSpec_ok (withSpec_ok (withSpec_ok (withSpec_ok (withSpec_ok (withSpec_ok noSpecs_ok ok_reply_numbers) (Ct.named ok_reply_answerable)) (Ct.named ok_transport_DecodeEcho)) (Ct.named ok_transport_EncodeEcho)) (Ct.named ok_transport_DecodeUDP)) (Ct.named ok_transport_DecodeTCP)) (Ct.named ok_transport_EncodeTCP)) ok_reply_Error) ok_reply_send) hmix an_reply_Host (hideMp (by kernel_rfl) vc_reply_Host)
def ct_ref08_Host:Ct:=⟨[.val (.sl cU8),.val cU32,.val cI,.val cI],[.own 5 cU8,.val cI],fun d=>[(d.1.length:Int)<=1099511627776],fun d=>((hostB d.1 d.2.1 d.2.2.1 d.2.2.2.1,hostE d.1 d.2.2.1 d.2.2.2.1,()),())⟩
def an_ref08_Host:PDs ct_ref08_Host.ps->Anns:=(fun _=>{})
def Qbm50 (l:Bool) :=
 l->(l->l)/\True
def Qbm29 (m:Bool) :=
 m->(m->m)/\True
def Qbm48 (j:Int×Int×Int×Int×Int×Int×List Int) :=
 (j.2.1,j.1,(0:Int),Int.tmod (IntKind.wrap .i64 (j.2.2.1+(1:Int))) (4294967296:Int),(20:Int),(0:Int),([]:List Int))
theorem vc_ref08_Host :
 ∀(a:List Int) (b c d:Int),(a.length<=maxLen/\ ∀(e:Int),e∈a->0<=e/\e<=255)/\(0<=b/\b<=4294967295)/\R64 c/\R64 d/\True->(a.length:Int)<=1099511627776-> ∀(e:Bool),e=decide (d<0)->(Qbm13 e)/\(e=false->(! e))/\ ∀(f:Bool),(f=bif e then true else decide (255<d))->(Qbm28 f)/\(f=false->(! f))/\ ∀(g:Bool),(g=bif f then true else decide (c<0))->(Qbm21 g)/\(g=false->(! g))/\ifP (bif g then true else decide (65535<c)) (([]:List Int)=hostB a b c d/\(1:Int)=hostE a c d) ((a.length:Int)<=1099511627776/\ ∀(h:(Int×Int×Int×Int×Bool×Int×Int)×List Int) (i:Bool),h=ansP a/\i=decide (ansOK a)->ifP (! i) (Qbm11 a b c d) (ifP (decide (h.1.2.2.2.1=1)) ((h.2.length:Int)<=1000000/\ ∀(j:Bool) (k l:Int) (m:List Int) (n:Int),(j,k,l,m)=unEcho h.2/\n=unEchoErr h.2-> ∀(o:Bool),o=decide (n=0)->(o->(o->o)/\True)/\(o->(o->o)/\True)/\(o->o)/\ifP (bif o then ! j else false) ((m.length:Int)<=1073741824/\ ∀(p:List Int)
 (q:Int),p=echoEnc (true,k,l,m)/\q=echoErr (true,k,l,m)->(p.length:Int)<=1073741824/\ipEnc (sendP b h.1.2.2.2.2.2.1 (1:Int) c d p)=hostB a b c d/\(0:Int)=hostE a c d) (Qbm11 a b c d)) (ifP (decide (h.1.2.2.2.1=17)) ((h.2.length:Int)<=1000000/\ ∀(j k:Int) (l:List Int) (m:Int),(j,k,l)=unUDP h.1.2.2.2.2.2.1 h.1.2.2.2.2.2.2 h.2/\m=unUDPErr h.1.2.2.2.2.2.1 h.1.2.2.2.2.2.2 h.2->ifP (decide (m=0)) ((a.length:Int)<=1099511627776/\errB a b (3:Int) (3:Int) c d=hostB a b c d/\errE a (3:Int) (3:Int) c d=hostE a c d) (Qbm11 a b c d)) (ifP (decide (h.1.2.2.2.1=6)) ((h.2.length:Int)<=1000000/\ ∀(j:Int×Int×Int×Int×Int×Int×List Int) (k:Int),j=unTCP h.1.2.2.2.2.2.1 h.1.2.2.2.2.2.2 h.2/\k=unTCPErr h.1.2.2.2.2.2.1 h.1.2.2.2.2.2.2 h.2-> ∀(l:Bool),l=decide (k=0)->(Qbm50 l)/\(Qbm50 l)/\(Qbm50 l)/\(l->l)/\ ∀(m:Bool),(m=bif l then ! decide (bits BinOp.and IntKind.i64 j.2.2.2.2.1 (2:Int)=0) else false)->(Qbm29
 m)/\(Qbm29 m)/\(Qbm29 m)/\(m->m)/\ifP (bif m then decide (bits BinOp.and IntKind.i64 j.2.2.2.2.1 (4:Int)=0) else false) ((4294967296:Int)≠(0:Int)/\(↑(0:Nat):Int)<=1000000/\ ∀(n:List Int) (o:Int),n=tcpEnc b h.1.2.2.2.2.2.1 (Qbm48 j)/\o=tcpErr (Qbm48 j)->(n.length:Int)<=1073741824/\ipEnc (sendP b h.1.2.2.2.2.2.1 (6:Int) c d n)=hostB a b c d/\(0:Int)=hostE a c d) (Qbm11 a b c d)) (Qbm11 a b c d))))):=by
  delta Qbm11 Qbm13 Qbm21 Qbm28 Qbm29 Qbm48 Qbm50
  rintro b src id ttl ⟨⟨-,hb⟩,-⟩ hl
  (repeat (intro (b_:Bool) (hb_:b_=_);(repeat refine ⟨(by first|(simp +contextual;done)|(rw [hb_];simp +contextual;done)|(rw [hb_];simp;omega)|(rw [hb_];simp;intros;omega)|(rw [hb_];simp +contextual;intros;omega)|(intros;simp_all;done)|(intros;simp_all;omega)),?_⟩)));subst_vars
  by_cases hn:numOK id ttl
  rotate_left
  · refine ifP_split (fun _=>host_range hn) (fun h=>absurd ?_ hn)
    refine ⟨?_,?_⟩ <;> simp [Bool.cond_eq_ite] at h <;> omega
  have hn':=hn
  obtain ⟨⟨n1,n2⟩,n3,n4⟩:=hn'
  refine ifP_split (fun h => ?_) (fun _=>⟨hl,?_⟩)
  · exfalso
    simp [Bool.cond_eq_ite] at h;omega
  rintro _ _ ⟨rfl,rfl⟩
  refine ifP_split (fun h=>host_bad hn (fun k => ?_)) (fun h => ?_)
  · have:=k.1;simp [this] at h
  have ha:ansOK b:=by simpa using h
  obtain ⟨hd0,h28,hp1,hp6,-⟩:=ans_facts ha
  have hdl:=dec_len hd0
  rw [ansP_eq ha]
  have hdb:bytes (b.drop 20):=bytes_drop hb
  have hdr:(b.drop 20).length<=1480:=by rw [List.length_drop];omega
  refine ifP_split (fun h1 => ?_) (fun h1=>ifP_split (fun h17 => ?_) (fun h17=>ifP_split (fun h6 => ?_) (fun h6 => ?_)))
  · have h1:protoOf b=1:=of_decide_eq_true h1
    refine ⟨by show ((b.drop 20).length:Int)<=_;omega,?_⟩
    rintro r i q dt e ⟨hu,rfl⟩
    have hr:r=false:=by
      have:=congrArg Prod.fst hu
      rw [un_echo_flag (hp1 h1)] at this;exact this
    subst hr
    (repeat (intro (b_:Bool) (hb_:b_=_);(repeat refine ⟨(by first|(simp +contextual;done)|(rw [hb_];simp +contextual;done)|(rw [hb_];simp;omega)|(rw [hb_];simp;intros;omega)|(rw [hb_];simp +contextual;intros;omega)|(intros;simp_all;done)|(intros;simp_all;omega)),?_⟩)));subst_vars
    refine ifP_split (fun h => ?_) (fun h => ?_)
    · have h:unEchoErr (b.drop 20)=0:=by simpa [Bool.cond_eq_ite] using h
      have hh:=host_1 (src:=src) hn ha h1 h
      have hlen:=un_echo_len (b.drop 20)
      have e2:(i,q,dt)=(unEcho (b.drop 20)).2:=congrArg Prod.snd hu
      have e3:dt=(unEcho (b.drop 20)).2.2.2:=by rw [← e2]
      refine ⟨by rw [e3];omega,?_⟩
      rintro o e ⟨rfl,rfl⟩
      rw [show ((true,i,q,dt):Echo)=(true,(i,q,dt)) from rfl,e2]
      have hle:=enc_len (true,(unEcho (b.drop 20)).2)
      exact ⟨by omega,hh.1.symm,hh.2.symm⟩
    · refine host_bad hn (fun k => ?_)
      obtain ⟨-,⟨-,k⟩|⟨k,-⟩|⟨k,-⟩⟩:=k
      · simp [k] at h
      · omega
      · omega
  · have h1:=of_decide_eq_false h1
    have h17:protoOf b=17:=of_decide_eq_true h17
    refine ⟨by show ((b.drop 20).length:Int)<=_;omega,?_⟩
    rintro sp dp dt e ⟨hu,rfl⟩
    refine ifP_split (fun h => ?_) (fun h => ?_)
    · have h:unUDPErr (srcOf b) (dstOf b) (b.drop 20)=0:=of_decide_eq_true h
      have hh:=host_17 (src:=src) hn ha h17 h
      exact ⟨hl,hh.1.symm,by rw [hh.2,err_port hn ha]⟩
    · refine host_bad hn (fun k => ?_)
      obtain ⟨-,⟨k,-⟩|⟨-,k⟩|⟨k,-⟩⟩:=k
      · omega
      · have k:unUDPErr (pkHdrF b).2.2.2.2.2.1 (pkHdrF b).2.2.2.2.2.2 (b.drop 20)=0:=k
        simp [k] at h
      · omega
  · have h1:=of_decide_eq_false h1
    have h17:=of_decide_eq_false h17
    have h6:protoOf b=6:=of_decide_eq_true h6
    refine ⟨by show ((b.drop 20).length:Int)<=_;omega,?_⟩
    rintro t e ⟨ht,rfl⟩
    have ht:t=unTCP (srcOf b) (dstOf b) (b.drop 20):=ht
    have hr:=un_tcp_rng (s:=srcOf b) (d:=dstOf b) hdb
    rw [← ht] at hr
    have ee:unTCPErr (pkHdrF b).2.2.2.2.2.1 (pkHdrF b).2.2.2.2.2.2 (b.drop 20)=unTCPErr (srcOf b) (dstOf b) (b.drop 20):=rfl
    rw [ee]
    (repeat (intro (b_:Bool) (hb_:b_=_);(repeat refine ⟨(by first|(simp;done)|(rw [hb_];simp;done)|(rw [hb_];simp;omega)|(rw [hb_];simp;intros;omega)|(rw [hb_];simp +contextual;done)),?_⟩);subst hb_))
    refine ifP_split (fun h => ?_) (fun h => ?_)
    · have k1:unTCPErr (srcOf b) (dstOf b) (b.drop 20)=0:=Classical.byContradiction fun k=>by simp [k] at h
      have k2:bits .and .i64 t.2.2.2.2.1 2≠0:=fun k=>by simp [k1,k] at h
      have k3:bits .and .i64 t.2.2.2.2.1 4=0:=Classical.byContradiction fun k=>by simp [k1,k2,k] at h
      have hh:=host_6 (src:=src) hn ha h6 k1 (by rw [← ht];exact k2) (by rw [← ht];exact k3)
      refine ⟨by omega,by simp,?_⟩
      rintro o e ⟨rfl,rfl⟩
      rw [w64 (n:=t.2.2.1+1) (by omega) (by omega),Int.tmod_eq_emod_of_nonneg (by omega)]
      have hle:=tcp_enc_len src (srcOf b) (rstOf t)
      have er:((t.2.1,t.1,0,(t.2.2.1+1)%4294967296,20,0,[]):Seg)=rstOf t:=rfl
      rw [er]
      refine ⟨by show ((tcpEnc src (srcOf b) (rstOf t)).length:Int)<=_;omega,?_,hh.2.symm⟩
      rw [hh.1,← ht];rfl
    · refine host_bad hn (fun k => ?_)
      obtain ⟨-,⟨k,-⟩|⟨k,-⟩|⟨-,k1,k2,k3⟩⟩:=k
      · omega
      · omega
      · rw [← ht] at k2 k3
        simp [k1,k2,k3] at h
  · have h1:=of_decide_eq_false h1
    have h17:=of_decide_eq_false h17
    have h6:=of_decide_eq_false h6
    refine host_bad hn (fun k => ?_)
    obtain ⟨-,⟨k,-⟩|⟨k,-⟩|⟨k,-⟩⟩:=k
    · exact h1 k
    · exact h17 k
    · exact h6 k
theorem ok_ref08_Host:SpecOK Tryz.prog GL 68 ct_ref08_Host.spec:=Ct.okH _ Tryz.func68 (by kernel_rfl) (withSpec_ok (withSpec_ok (withSpec_ok (withSpec_ok (withSpec_ok (withSpec_ok (withSpec_ok (withSpec_ok noSpecs_ok (Ct.named ok_ref08_Answerable)) (Ct.named ok_ref06_DecodeEcho)) (Ct.named ok_ref06_EncodeEcho)) (Ct.named ok_ref06_DecodeUDP)) (Ct.named ok_ref06_DecodeTCP)) (Ct.named ok_ref06_EncodeTCP)) ok_ref08_Error) ok_ref08_packet) hmix an_ref08_Host (hideMp (by kernel_rfl) vc_ref08_Host)
def ct_reply_get:Ct:=⟨[.val (.sl cU8),.val cI,.val cI],[.val cI],fun d=>[(d.1.length:Int)<=1099511627776],fun d=>((getV d.1 d.2.1 d.2.2.1,()),())⟩
def an_reply_get:PDs ct_reply_get.ps->Anns:=(fun _=>{})
theorem vc_reply_get :
 ∀(a:List Int) (b c:Int),(a.length<=maxLen/\ ∀(d:Int),d∈a->0<=d/\d<=255)/\R64 b/\R64 c/\True->(a.length:Int)<=1099511627776->(a.length:Int)<=1099511627776/\getV a b c=getV a b c:=by
  rintro b i w-hl
  exact ⟨hl,rfl⟩
theorem ok_reply_get:SpecOK Tryz.prog GL 140 ct_reply_get.spec:=Ct.okH _ Tryz.func140 (by kernel_rfl) (withSpec_ok noSpecs_ok ok_wire_Get) hmix an_reply_get (hideMp (by kernel_rfl) vc_reply_get)
def ct_reply_quoted:Ct:=⟨[.val (.sl cU8)],[.agg cProbe,.val .bool],fun d=>[(d.1.length:Int)<=1000000],fun d=>(((quV d.1).1,(quV d.1).2,()),())⟩
def an_reply_quoted:PDs ct_reply_quoted.ps->Anns:=(fun _=>{})
def Qbm0 (a:List Int) :=
 subL a (Int.toNat (20:Int)) (Int.toNat (a.length:Int))
def Qbm1 (b:Header) (h:Int) :=
 (b.2.2.2.2.2.1,b.2.2.2.2.2.2,b.2.2.2.1,IntKind.wrap .i64 (h -(20000:Int)),b.2.1,b.2.2.1)
def Qbm3 (b:Header) (h:Int) :=
 (b.2.2.2.2.2.1,b.2.2.2.2.2.2,b.2.2.2.1,IntKind.wrap .i64 (h -(16384:Int)),b.2.1,b.2.2.1)
def Qbm5 :=
 ((0:Int),(0:Int),(0:Int),(0:Int),(0:Int),(0:Int))
def Qbm10 (a:List Int) :=
 ((List.length (Qbm0 a)):Int)
def Qbm19 (a:List Int) (b:Header) (h:Int) (m:Bool) :=
 (Qbm29 m)/\(Qbm29 m)/\(m->m)/\(Qbm1 b h)=(quV a).1/\(bif m then decide (probeErr (Qbm1 b h)=0) else false)=(quV a).2
def Qbm49 (n:Bool) :=
 n->(n->n)/\True
def Qbm7 (a:List Int) (b:Header) (h:Int) (l:Bool) :=
 ifP l ((l->l)/\(Qbm10 a)<=1099511627776/\ ∀(m:Int),m=getV (Qbm0 a) (6:Int) (2:Int)->(Qbm50 l)/\(Qbm50 l)/\(Qbm50 l)/\(l->l)/\ ∀(n:Bool),(n=bif l then decide (m=IntKind.wrap .i64 (b.2.1+(1:Int))) else false)->(Qbm49 n)/\(Qbm49 n)/\(n->n)/\(Qbm1 b h)=(quV a).1/\(bif n then decide (probeErr (Qbm1 b h)=0) else false)=(quV a).2) ((Qbm50 l)/\(Qbm50 l)/\l=false/\(l->false=true)/\ ∀(m:Bool),(m=bif l then false else false)->(Qbm19 a b h m))
def Qbm8 (a:List Int) (b:Header) (h:Int) (l:Bool) :=
 ifP l ((l->l)/\(Qbm10 a)<=1099511627776/\ ∀(m:Int),m=getV (Qbm0 a) (6:Int) (2:Int)->(Qbm50 l)/\(Qbm50 l)/\(l->l)/\ ∀(n:Bool),(n=bif l then decide (m=b.2.1) else false)->(Qbm49 n)/\(Qbm49 n)/\(n->n)/\(Qbm3 b h)=(quV a).1/\(bif n then decide (probeErr (Qbm3 b h)=0) else false)=(quV a).2) ((Qbm50 l)/\l=false/\(l->false=true)/\ ∀(m:Bool),(m=bif l then false else false)->(Qbm29 m)/\(Qbm29 m)/\(m->m)/\(Qbm3 b h)=(quV a).1/\(bif m then decide (probeErr (Qbm3 b h)=0) else false)=(quV a).2)
def Qbm15 (a:List Int) (b:Header) (h:Int) (l:Bool) :=
 (Qbm50 l)/\(Qbm50 l)/\(l->l)/\(Qbm1 b h)=(quV a).1/\(bif l then decide (probeErr (Qbm1 b h)=0) else false)=(quV a).2
def Qbm25 (k:Bool) :=
 k->(k->k)/\True
def Qbm51 (k l:Bool) :=
 l=bif k then false else false
theorem vc_reply_quoted :
 ∀(a:List Int),(Qbm44 a)/\True->(a.length:Int)<=1000000->(a.length:Int)<=1099511627776/\ ∀(b:Header) (c d:Int),b=pkHdr a/\c=pkLen a/\d=pkErr a-> ∀(e:Bool),e= ! decide (d=0)->(Qbm13 e)/\(Qbm13 e)/\(e=false->(! e))/\ ∀(f:Bool),(f=bif e then true else ! decide ((a.length:Int)=28))->(Qbm28 f)/\(Qbm28 f)/\(f=false->(! f))/\ ∀(g:Bool),(g=bif f then true else ! decide (b.1=0))->(Qbm21 g)/\(Qbm21 g)/\(g=false->(! g))/\ifP (bif g then true else ! b.2.2.2.2.1) ((Qbm5)=(quV a).1/\false=(quV a).2) ((0:Int)<=20/\20<=(a.length:Int)/\(a.length:Int)<=(a.length:Int)/\ifP (decide (b.2.2.2.1=1)) ((Qbm10 a)<=1099511627776/\ ∀(h:Int),h=getV (Qbm0 a) (2:Int) (2:Int)-> ∀(i:Bool),i=decide (c=30)->ifP i ((i->i)/\(Qbm10 a)<=1099511627776/\ ∀(j:Int),j=getV (Qbm0 a) (0:Int) (2:Int)->(i->i)/\ ∀(k:Bool),(k=bif i then decide (j=2048) else false)->ifP k ((k->k)/\(Qbm10 a)<=1099511627776/\ ∀(l:Int),l=getV (Qbm0 a) (4:Int)
 (2:Int)->(k->k)/\ ∀(m:Bool),(m=bif k then decide (l=21075) else false)->ifP m ((m->m)/\(Qbm10 a)<=1099511627776/\ ∀(n:Int),n=getV (Qbm0 a) (6:Int) (2:Int)->(Qbm29 m)/\(Qbm29 m)/\(m->m)/\ ∀(o:Bool),(o=bif m then decide (n=b.2.1) else false)->(o->(o->o)/\True)/\(o->(o->o)/\True)/\(o->o)/\(Qbm3 b h)=(quV a).1/\(bif o then decide (probeErr (Qbm3 b h)=0) else false)=(quV a).2) ((Qbm29 m)/\m=false/\(m->false=true)/\ ∀(n:Bool),(n=bif m then false else false)->(Qbm49 n)/\(Qbm49 n)/\(n->n)/\(Qbm3 b h)=(quV a).1/\(bif n then decide (probeErr (Qbm3 b h)=0) else false)=(quV a).2)) (k=false/\(k->false=true)/\ ∀(l:Bool),(Qbm51 k l)->(Qbm8 a b h l))) (i=false/\(i->false=true)/\ ∀(j:Bool),(j=bif i then false else false)->ifP j ((j->j)/\(Qbm10 a)<=1099511627776/\ ∀(k:Int),k=getV (Qbm0 a) (4:Int) (2:Int)->(j->j)/\ ∀(l:Bool),(l=bif j then decide (k=21075) else false)->(Qbm8 a b h l))
 (j=false/\(j->false=true)/\ ∀(k:Bool),(k=bif j then false else false)->ifP k ((k->k)/\(Qbm10 a)<=1099511627776/\ ∀(l:Int),l=getV (Qbm0 a) (6:Int) (2:Int)->(Qbm25 k)/\(Qbm25 k)/\(k->k)/\ ∀(m:Bool),(m=bif k then decide (l=b.2.1) else false)->(Qbm29 m)/\(Qbm29 m)/\(m->m)/\(Qbm3 b h)=(quV a).1/\(bif m then decide (probeErr (Qbm3 b h)=0) else false)=(quV a).2) ((Qbm25 k)/\k=false/\(k->false=true)/\ ∀(l:Bool),(Qbm51 k l)->(Qbm50 l)/\(Qbm50 l)/\(l->l)/\(Qbm3 b h)=(quV a).1/\(bif l then decide (probeErr (Qbm3 b h)=0) else false)=(quV a).2)))) (ifP (decide (b.2.2.2.1=17)) ((Qbm10 a)<=1099511627776/\ ∀(h:Int),h=getV (Qbm0 a) (0:Int) (2:Int)-> ∀(i:Bool),i=decide (c=30)->ifP i ((i->i)/\(Qbm10 a)<=1099511627776/\ ∀(j:Int),j=getV (Qbm0 a) (2:Int) (2:Int)->(i->i)/\ ∀(k:Bool),(k=bif i then decide (j=33434) else false)->ifP k ((k->k)/\(Qbm10 a)<=1099511627776/\ ∀(l:Int),l=getV (Qbm0 a) (4:Int)
 (2:Int)->(Qbm25 k)/\(Qbm25 k)/\(k->k)/\ ∀(m:Bool),(m=bif k then decide (l=IntKind.wrap .i64 (c -(20:Int))) else false)->ifP m ((m->m)/\(Qbm10 a)<=1099511627776/\ ∀(n:Int),n=getV (Qbm0 a) (6:Int) (2:Int)->(Qbm29 m)/\(Qbm29 m)/\(Qbm29 m)/\(m->m)/\ ∀(o:Bool),(o=bif m then decide (n=IntKind.wrap .i64 (b.2.1+(1:Int))) else false)->(o->(o->o)/\True)/\(o->(o->o)/\True)/\(o->o)/\(Qbm1 b h)=(quV a).1/\(bif o then decide (probeErr (Qbm1 b h)=0) else false)=(quV a).2) ((Qbm29 m)/\(Qbm29 m)/\m=false/\(m->false=true)/\ ∀(n:Bool),(n=bif m then false else false)->(Qbm49 n)/\(Qbm49 n)/\(n->n)/\(Qbm1 b h)=(quV a).1/\(bif n then decide (probeErr (Qbm1 b h)=0) else false)=(quV a).2)) ((Qbm25 k)/\k=false/\(k->false=true)/\ ∀(l:Bool),(Qbm51 k l)->(Qbm7 a b h l))) (i=false/\(i->false=true)/\ ∀(j:Bool),(j=bif i then false else false)->ifP j ((j->j)/\(Qbm10 a)<=1099511627776/\ ∀(k:Int),k=getV (Qbm0 a) (4:Int)
 (2:Int)->(j->(j->j)/\True)/\(j->(j->j)/\True)/\(j->j)/\ ∀(l:Bool),(l=bif j then decide (k=IntKind.wrap .i64 (c -(20:Int))) else false)->(Qbm7 a b h l)) ((j->(j->j)/\True)/\j=false/\(j->false=true)/\ ∀(k:Bool),(k=bif j then false else false)->ifP k ((k->k)/\(Qbm10 a)<=1099511627776/\ ∀(l:Int),l=getV (Qbm0 a) (6:Int) (2:Int)->(Qbm25 k)/\(Qbm25 k)/\(Qbm25 k)/\(k->k)/\ ∀(m:Bool),(m=bif k then decide (l=IntKind.wrap .i64 (b.2.1+(1:Int))) else false)->(Qbm19 a b h m)) ((Qbm25 k)/\(Qbm25 k)/\k=false/\(k->false=true)/\ ∀(l:Bool),(Qbm51 k l)->(Qbm15 a b h l))))) (ifP (decide (b.2.2.2.1=6)) ((Qbm10 a)<=1099511627776/\ ∀(h:Int),h=getV (Qbm0 a) (0:Int) (2:Int)-> ∀(i:Bool),i=decide (c=40)->ifP i ((i->i)/\(Qbm10 a)<=1099511627776/\ ∀(j:Int),j=getV (Qbm0 a) (2:Int) (2:Int)->(i->i)/\ ∀(k:Bool),(k=bif i then decide (j=80) else false)->ifP k ((k->k)/\(Qbm10 a)<=1099511627776/\ ∀(l:Int),l=getV (Qbm0 a)
 (4:Int) (4:Int)->(Qbm25 k)/\(Qbm25 k)/\(k->k)/\ ∀(m:Bool),(m=bif k then decide (l=b.2.1) else false)->(Qbm19 a b h m)) ((Qbm25 k)/\k=false/\(k->false=true)/\ ∀(l:Bool),(Qbm51 k l)->(Qbm15 a b h l))) (i=false/\(i->false=true)/\ ∀(j:Bool),(j=bif i then false else false)->ifP j ((j->j)/\(Qbm10 a)<=1099511627776/\ ∀(k:Int),k=getV (Qbm0 a) (4:Int) (4:Int)->(j->(j->j)/\True)/\(j->(j->j)/\True)/\(j->j)/\ ∀(l:Bool),(l=bif j then decide (k=b.2.1) else false)->(Qbm15 a b h l)) ((j->(j->j)/\True)/\j=false/\(j->false=true)/\ ∀(k:Bool),(k=bif j then false else false)->(Qbm25 k)/\(Qbm25 k)/\(k->k)/\(Qbm1 b h)=(quV a).1/\(bif k then decide (probeErr (Qbm1 b h)=0) else false)=(quV a).2))) (∀(h:Bool),h=false->(h->(h->h)/\True)/\(h->(h->h)/\True)/\(h->h)/\(b.2.2.2.2.2.1,b.2.2.2.2.2.2,b.2.2.2.1,(0:Int),b.2.1,b.2.2.1)=(quV a).1/\(bif h then decide (probeErr
 (b.2.2.2.2.2.1,b.2.2.2.2.2.2,b.2.2.2.1,(0:Int),b.2.1,b.2.2.1)=0) else false)=(quV a).2)))):=by
  delta Qbm0 Qbm1 Qbm3 Qbm5 Qbm7 Qbm8 Qbm10 Qbm13 Qbm15 Qbm19 Qbm21 Qbm25 Qbm28 Qbm29 Qbm44 Qbm49 Qbm50 Qbm51
  rintro b ⟨⟨-,hb⟩,-⟩ hl
  refine ⟨by omega,?_⟩
  rintro d n e ⟨rfl,rfl,rfl⟩
  (repeat (intro (b_:Bool) (hb_:b_=_);(repeat refine ⟨(by first|(simp;done)|(rw [hb_];simp;done)|(rw [hb_];simp;omega)|(rw [hb_];simp;intros;omega)|(rw [hb_];simp +contextual;done)),?_⟩);subst hb_))
  refine ifP_split (fun h => ?_) (fun h => ?_)
  · rw [quV,if_neg]
    · exact ⟨rfl,rfl⟩
    rintro ⟨k1,k2,k3,k4⟩
    rw [pkHdr,if_pos k1] at h;simp [k1,k2,k3,k4] at h
  have k1:pkErr b=0:=Classical.byContradiction fun k=>by simp [k] at h
  rw [pkHdr,if_pos k1] at h ⊢
  have hq:quHead b:=by
    simp [Bool.cond_eq_ite,k1] at h
    exact ⟨k1,by have:=h.1.1;omega,h.1.2,h.2⟩
  clear h
  obtain ⟨-,h28,-,-⟩:=id hq
  have hs:subL b (Int.toNat 20) (Int.toNat (b.length:Int))=b.drop 20:=sub_drop b 20
  have hdl:((b.drop 20).length:Int)=8:=by rw [List.length_drop];omega
  have wd:∀ i,wordAt (b.drop 20) i=wordAt b (20+i):=fun i=>by unfold wordAt;rw [List.drop_drop]
  have g0:getV (b.drop 20) 0 2=wordAt b 20:=by rw [gV2 (by omega) (by omega),wd];rfl
  have g2:getV (b.drop 20) 2 2=wordAt b 22:=by rw [gV2 (by omega) (by omega),wd];rfl
  have g4:getV (b.drop 20) 4 2=wordAt b 24:=by rw [gV2 (by omega) (by omega),wd];rfl
  have g6:getV (b.drop 20) 6 2=wordAt b 26:=by rw [gV2 (by omega) (by omega),wd];rfl
  have g44:getV (b.drop 20) 4 4=numB ((b.drop 24).take 4):=by rw [gV4 (by omega) (by omega),List.drop_drop];rfl
  have w20:=bytes_word hb 20
  have w22:=bytes_word hb 22
  have hid:=bytes_word hb 4
  have hlen:=bytes_word hb 2
  have eid:(pkHdrF b).2.1=wordAt b 4:=rfl
  rw [quV,if_pos hq,hs,pkLen,if_pos k1,g0,g2,g4,g6,g44]
  have le1:((b.drop 20).length:Int)<=1099511627776:=by omega
  have e22:IntKind.i64.wrap (wordAt b 22-16384)=wordAt b 22-16384:=w64 (by omega) (by omega)
  have e20:IntKind.i64.wrap (wordAt b 20-20000)=wordAt b 20-20000:=w64 (by omega) (by omega)
  have e2:IntKind.i64.wrap (wordAt b 2-20)=wordAt b 2-20:=w64 (by omega) (by omega)
  have e1:IntKind.i64.wrap ((pkHdrF b).2.1+1)=(pkHdrF b).2.1+1:=w64 (by rw [eid];omega) (by rw [eid];omega)
  refine ⟨by omega,by omega,by omega,?_⟩
  have ep:(pkHdrF b).2.2.2.1=protoOf b:=rfl
  rw [ep]
  refine ifP_split (fun h1 => ?_) (fun h1=>ifP_split (fun h17 => ?_) (fun h17=>ifP_split (fun h6 => ?_) (fun h6 => ?_)))
  · have h1:=of_decide_eq_true h1
    have eP:quP b=((pkHdrF b).2.2.2.2.2.1,(pkHdrF b).2.2.2.2.2.2,protoOf b,wordAt b 22-16384,(pkHdrF b).2.1,(pkHdrF b).2.2.1):=by
      rw [quP,quFlow,if_pos h1];rfl
    have eR:quRight b↔(wordAt b 2=30/\wordAt b 20=2048/\wordAt b 24=21075/\wordAt b 26=(pkHdrF b).2.1):=by
      unfold quRight;simp [h1]
    refine ⟨le1,?_⟩
    rintro _ rfl
    rw [eP,e22]
    simp only [eR]
    by_cases c1:wordAt b 2=30 <;> by_cases c2:wordAt b 20=2048 <;> by_cases c3:wordAt b 24=21075 <;> by_cases c4:wordAt b 26=(pkHdrF b).2.1 <;> simp [ifP,c1,c2,c3,c4,h28]
  · have h1:¬ protoOf b=1:=of_decide_eq_false h1
    have h17:=of_decide_eq_true h17
    have eP:quP b=((pkHdrF b).2.2.2.2.2.1,(pkHdrF b).2.2.2.2.2.2,protoOf b,wordAt b 20-20000,(pkHdrF b).2.1,(pkHdrF b).2.2.1):=by
      rw [quP,quFlow,if_neg h1,if_pos (.inl h17)];rfl
    have eR:quRight b↔(wordAt b 2=30/\wordAt b 22=33434/\wordAt b 24=wordAt b 2-20/\wordAt b 26=(pkHdrF b).2.1+1):=by
      unfold quRight;simp [h17]
    refine ⟨le1,?_⟩
    rintro _ rfl
    rw [eP,e20]
    simp only [eR]
    by_cases c1:wordAt b 2=30 <;> by_cases c2:wordAt b 22=33434 <;> by_cases c3:wordAt b 24=10 <;> by_cases c4:wordAt b 26=(pkHdrF b).2.1+1 <;> simp [ifP,c1,c2,c3,c4,h28,e1,e2,show IntKind.i64.wrap 10=10 from rfl]
  · have h1:¬ protoOf b=1:=of_decide_eq_false h1
    have h17:¬ protoOf b=17:=of_decide_eq_false h17
    have h6:=of_decide_eq_true h6
    have eP:quP b=((pkHdrF b).2.2.2.2.2.1,(pkHdrF b).2.2.2.2.2.2,protoOf b,wordAt b 20-20000,(pkHdrF b).2.1,(pkHdrF b).2.2.1):=by
      rw [quP,quFlow,if_neg h1,if_pos (.inr h6)];rfl
    have eR:quRight b↔(wordAt b 2=40/\wordAt b 22=80/\numB ((b.drop 24).take 4)=(pkHdrF b).2.1):=by
      unfold quRight;simp [h6]
    refine ⟨le1,?_⟩
    rintro _ rfl
    rw [eP,e20]
    simp only [eR]
    by_cases c1:wordAt b 2=40 <;> by_cases c2:wordAt b 22=80 <;> by_cases c3:numB ((b.drop 24).take 4)=(pkHdrF b).2.1 <;> simp [ifP,c1,c2,c3,h28]
  · have h1:¬ protoOf b=1:=of_decide_eq_false h1
    have h17:¬ protoOf b=17:=of_decide_eq_false h17
    have h6:¬ protoOf b=6:=of_decide_eq_false h6
    have eP:quP b=((pkHdrF b).2.2.2.2.2.1,(pkHdrF b).2.2.2.2.2.2,protoOf b,0,(pkHdrF b).2.1,(pkHdrF b).2.2.1):=by
      rw [quP,quFlow,if_neg h1,if_neg (by omega)];rfl
    have eR:¬ quRight b:=by
      unfold quRight;simp [h1,h17,h6]
    rw [eP]
    simp [eR]
theorem ok_reply_quoted:SpecOK Tryz.prog GL 142 ct_reply_quoted.spec:=Ct.okH _ Tryz.func142 (by kernel_rfl) (withSpec_ok (withSpec_ok (withSpec_ok noSpecs_ok (Ct.named ok_ipv4_Peek)) (Ct.named ok_reply_get)) ok_probe_Check) hmix an_reply_quoted (hideMp (by kernel_rfl) vc_reply_quoted)
def ct_reply_notice:Ct:=⟨[.agg cHeader,.val (.sl cU8)],[.agg cProbe,.agg cAns,.val .bool],fun d=>[(d.2.1.length:Int)<=1000000],fun d=>(((noticeR d.1.2.2.2.2.2.2 d.2.1).1,(noticeR d.1.2.2.2.2.2.2 d.2.1).2.1,(noticeR d.1.2.2.2.2.2.2 d.2.1).2.2,()),())⟩
def an_reply_notice:PDs ct_reply_notice.ps->Anns:=(fun _=>{})
def Qbm24 (a:Header) (b:List Int) :=
 noticeR a.2.2.2.2.2.2 b
theorem vc_reply_notice :
 ∀(a:Header) (b:List Int),CT.wf cHeader a/\(b.length<=maxLen/\ ∀(c:Int),c∈b->0<=c/\c<=255)/\True->(b.length:Int)<=1000000->(b.length:Int)<=1000000/\ ∀(c d:Int) (e:List Int) (f:Int),(c,d,e)=unNotice b/\f=unNoticeErr b->ifP (! decide (f=0)) ((Qbm5)=(Qbm24 a b).1/\(Qbm5)=(Qbm24 a b).2.1/\false=(Qbm24 a b).2.2) ((e.length:Int)<=1000000/\ ∀(g h i j k l:Int) (m:Bool),(g,h,i,j,k,l)=(quV e).1/\m=(quV e).2->ifP (decide (c=11)) (∀(n:Bool),n=m->(Qbm49 n)/\(Qbm49 n)/\(n->(n->n)/\(n->n)/\True)/\(n->n)/\(g,h,i,j,k,(0:Int))=(Qbm24 a b).1/\((0:Int),(1:Int),d,(0:Int),(0:Int),l)=(Qbm24 a b).2.1/\(bif n then decide (g=a.2.2.2.2.2.2) else false)=(Qbm24 a b).2.2) (ifP (decide (d=3)) (∀(n:Bool),n=m->(Qbm49 n)/\(Qbm49 n)/\(n->(n->n)/\(n->n)/\True)/\(n->n)/\(g,h,i,j,k,(0:Int))=(Qbm24 a b).1/\((0:Int),(3:Int),d,(0:Int),(0:Int),l)=(Qbm24 a b).2.1/\(bif n then decide (g=a.2.2.2.2.2.2) else false)=(Qbm24 a b).2.2)
 (∀(n:Bool),n=m->(Qbm49 n)/\(Qbm49 n)/\(n->(n->n)/\(n->n)/\True)/\(n->n)/\(g,h,i,j,k,(0:Int))=(Qbm24 a b).1/\((0:Int),(5:Int),d,(0:Int),(0:Int),l)=(Qbm24 a b).2.1/\(bif n then decide (g=a.2.2.2.2.2.2) else false)=(Qbm24 a b).2.2))):=by
  delta Qbm5 Qbm24 Qbm49
  rintro h b ⟨-,⟨-,hb⟩,-⟩ hl
  refine ⟨hl,?_⟩
  rintro ty code q e ⟨hu,rfl⟩
  refine ifP_split (fun he => ?_) (fun he => ?_)
  · have he:¬ unNoticeErr b=0:=by simpa using he
    rw [noticeR,if_neg he];exact ⟨rfl,rfl,rfl⟩
  have he:unNoticeErr b=0:=by simpa using he
  have hlen:=un_notice_len b
  rw [noticeR,if_pos he,← hu]
  rw [← hu] at hlen
  refine ⟨by simp only at hlen;omega,?_⟩
  rintro s d p f t l ok ⟨hp,rfl⟩
  simp only at hp ⊢
  rw [← hp]
  simp only [noT,kindN]
  refine ifP_split (fun h1 => ?_) (fun h1=>ifP_split (fun h3 => ?_) (fun h3 => ?_))
  · (repeat (intro (b_:Bool) (hb_:b_=_);(repeat refine ⟨(by first|(simp;done)|(rw [hb_];simp;done)|(rw [hb_];simp;omega)|(rw [hb_];simp;intros;omega)|(rw [hb_];simp +contextual;done)),?_⟩);subst hb_))
    rw [if_pos (of_decide_eq_true h1)]
    exact ⟨rfl,by cases (quV q).2 <;> rfl⟩
  · (repeat (intro (b_:Bool) (hb_:b_=_);(repeat refine ⟨(by first|(simp;done)|(rw [hb_];simp;done)|(rw [hb_];simp;omega)|(rw [hb_];simp;intros;omega)|(rw [hb_];simp +contextual;done)),?_⟩);subst hb_))
    rw [if_neg (of_decide_eq_false h1),if_pos (of_decide_eq_true h3)]
    exact ⟨rfl,by cases (quV q).2 <;> rfl⟩
  · (repeat (intro (b_:Bool) (hb_:b_=_);(repeat refine ⟨(by first|(simp;done)|(rw [hb_];simp;done)|(rw [hb_];simp;omega)|(rw [hb_];simp;intros;omega)|(rw [hb_];simp +contextual;done)),?_⟩);subst hb_))
    rw [if_neg (of_decide_eq_false h1),if_neg (of_decide_eq_false h3)]
    exact ⟨rfl,by cases (quV q).2 <;> rfl⟩
theorem ok_reply_notice:SpecOK Tryz.prog GL 87 ct_reply_notice.spec:=Ct.okH _ Tryz.func87 (by kernel_rfl) (withSpec_ok (withSpec_ok noSpecs_ok (Ct.named ok_transport_DecodeNotice)) (Ct.named ok_reply_quoted)) hmix an_reply_notice (hideMp (by kernel_rfl) vc_reply_notice)
def ct_reply_echo:Ct:=⟨[.agg cHeader,.val (.sl cU8)],[.agg cProbe,.agg cAns,.val .bool],fun d=>[(d.2.1.length:Int)<=1000000],fun d=>(((echoR d.1.2.2.2.2.2.1 d.1.2.2.2.2.2.2 d.2.1).1,(echoR d.1.2.2.2.2.2.1 d.1.2.2.2.2.2.2 d.2.1).2.1,(echoR d.1.2.2.2.2.2.1 d.1.2.2.2.2.2.2 d.2.1).2.2,()),())⟩
def an_reply_echo:PDs ct_reply_echo.ps->Anns:=(fun _=>{})
def Qbm27 (a:Header) (b:List Int) :=
 echoR a.2.2.2.2.2.1 a.2.2.2.2.2.2 b
theorem vc_reply_echo :
 ∀(a:Header) (b:List Int),CT.wf cHeader a/\(b.length<=maxLen/\ ∀(c:Int),c∈b->0<=c/\c<=255)/\True->(b.length:Int)<=1000000->(b.length:Int)<=1000000/\ ∀(c:Bool) (d e:Int) (f:List Int) (g:Int),(c,d,e,f)=unEcho b/\g=unEchoErr b-> ∀(h:Bool),h= ! decide (g=0)->((! h)->((! h)->(! h))/\True)/\((! h)->((! h)->(! h))/\True)/\(h=false->(! h))/\ ∀(i:Bool),(i=bif h then true else ! c)->(Qbm23 i)/\(Qbm23 i)/\(i=false->(! i))/\ ∀(j:Bool),(j=bif i then true else ! decide (d=21075))->(Qbm16 j)/\(Qbm16 j)/\(Qbm16 j)/\(j=false->(! j))/\ifP (bif j then true else ! decide ((f.length:Int)=2)) ((Qbm5)=(Qbm27 a b).1/\(Qbm5)=(Qbm27 a b).2.1/\false=(Qbm27 a b).2.2) ((b.length:Int)<=1099511627776/\ ∀(k:Int),k=getV b (2:Int) (2:Int)->(a.2.2.2.2.2.2,a.2.2.2.2.2.1,(1:Int),IntKind.wrap .i64 (k -(18432:Int)),e,(0:Int))=(Qbm27 a b).1/\((0:Int),(2:Int),(0:Int),(0:Int),(0:Int),(0:Int))=(Qbm27 a b).2.1/\true=(Qbm27 a b).2.2):=by
  delta Qbm5 Qbm16 Qbm23 Qbm27
  rintro h b ⟨-,⟨-,hb⟩,-⟩ hl
  refine ⟨hl,?_⟩
  rintro r i q dt e ⟨hu,rfl⟩
  (repeat (intro (b_:Bool) (hb_:b_=_);(repeat refine ⟨(by first|(simp +contextual;done)|(rw [hb_];simp +contextual;done)|(rw [hb_];simp;omega)|(rw [hb_];simp;intros;omega)|(rw [hb_];simp +contextual;intros;omega)|(intros;simp_all;done)|(intros;simp_all;omega)),?_⟩)));subst_vars
  refine ifP_split (fun k => ?_) (fun k => ?_)
  · rw [echoR,if_neg]
    · exact ⟨rfl,rfl,rfl⟩
    · rintro ⟨k1,k2,k3,k4⟩
      rw [← hu] at k2 k3 k4
      simp only at k2 k3 k4
      simp [k1,k2,k3,k4] at k
  · have hg:echoGood b:=by
      simp [Bool.cond_eq_ite] at k
      refine ⟨k.1.1.1,?_,?_,?_⟩ <;> rw [← hu] <;> simp only
      · exact k.1.1.2
      · exact k.1.2
      · have:=k.2;omega
    have h8:=(echo_zero hg.1).1
    have hw:=bytes_word hb 2
    refine ⟨by omega,?_⟩
    rintro _ rfl
    rw [gV2 (by omega) (by omega),show Int.toNat 2=2 from rfl,w64 (by omega) (by omega),echoR,if_pos hg,← hu]
    exact ⟨rfl,rfl,rfl⟩
theorem ok_reply_echo:SpecOK Tryz.prog GL 86 ct_reply_echo.spec:=Ct.okH _ Tryz.func86 (by kernel_rfl) (withSpec_ok (withSpec_ok noSpecs_ok (Ct.named ok_transport_DecodeEcho)) (Ct.named ok_reply_get)) hmix an_reply_echo (hideMp (by kernel_rfl) vc_reply_echo)
def ct_reply_reset:Ct:=⟨[.agg cHeader,.val (.sl cU8)],[.agg cProbe,.agg cAns,.val .bool],fun d=>[(d.2.1.length:Int)<=1000000],fun d=>(((resetR d.1.2.2.2.2.2.1 d.1.2.2.2.2.2.2 d.2.1).1,(resetR d.1.2.2.2.2.2.1 d.1.2.2.2.2.2.2 d.2.1).2.1,(resetR d.1.2.2.2.2.2.1 d.1.2.2.2.2.2.2 d.2.1).2.2,()),())⟩
def an_reply_reset:PDs ct_reply_reset.ps->Anns:=(fun _=>{})
def Qbm26 (a:Header) (b:List Int) :=
 resetR a.2.2.2.2.2.1 a.2.2.2.2.2.2 b
theorem vc_reply_reset :
 ∀(a:Header) (b:List Int),CT.wf cHeader a/\(b.length<=maxLen/\ ∀(c:Int),c∈b->0<=c/\c<=255)/\True->(b.length:Int)<=1000000->(b.length:Int)<=1000000/\ ∀(c:Int×Int×Int×Int×Int×Int×List Int) (d:Int),c=unTCP a.2.2.2.2.2.1 a.2.2.2.2.2.2 b/\d=unTCPErr a.2.2.2.2.2.1 a.2.2.2.2.2.2 b-> ∀(e:Bool),e= ! decide (d=0)->(Qbm13 e)/\(Qbm13 e)/\(e=false->(! e))/\ ∀(f:Bool),(f=bif e then true else ! decide (c.1=80))->(Qbm28 f)/\(Qbm28 f)/\(f=false->(! f))/\ ∀(g:Bool),(g=bif f then true else ! decide (c.2.2.1=0))->(Qbm21 g)/\(Qbm21 g)/\(g=false->(! g))/\ ∀(h:Bool),(h=bif g then true else ! decide (c.2.2.2.2.1=20))->((! h)->((! h)->(! h))/\True)/\((! h)->((! h)->(! h))/\True)/\(h=false->(! h))/\ ∀(i:Bool),(i=bif h then true else ! decide (c.2.2.2.2.2.1=0))->(Qbm23 i)/\(Qbm23 i)/\(Qbm23 i)/\(i=false->(! i))/\ifP (bif i then true else decide (0<(c.2.2.2.2.2.2.length:Int))) ((Qbm5)=(Qbm26 a b).1/\(Qbm5)=(Qbm26 a
 b).2.1/\false=(Qbm26 a b).2.2) ((a.2.2.2.2.2.2,a.2.2.2.2.2.1,(6:Int),IntKind.wrap .i64 (c.2.1 -(20000:Int)),IntKind.wrap .i64 (c.2.2.2.1 -(1:Int)),(0:Int))=(Qbm26 a b).1/\((0:Int),(4:Int),(0:Int),(0:Int),(0:Int),(0:Int))=(Qbm26 a b).2.1/\true=(Qbm26 a b).2.2):=by
  delta Qbm5 Qbm13 Qbm21 Qbm23 Qbm26 Qbm28
  rintro h b ⟨-,⟨-,hb⟩,-⟩ hl
  refine ⟨hl,?_⟩
  rintro t e ⟨ht,rfl⟩
  (repeat (intro (b_:Bool) (hb_:b_=_);(repeat refine ⟨(by first|(simp +contextual;done)|(rw [hb_];simp +contextual;done)|(rw [hb_];simp;omega)|(rw [hb_];simp;intros;omega)|(rw [hb_];simp +contextual;intros;omega)|(intros;simp_all;done)|(intros;simp_all;omega)),?_⟩)));subst_vars
  refine ifP_split (fun k => ?_) (fun k => ?_)
  · rw [resetR,if_neg]
    · exact ⟨rfl,rfl,rfl⟩
    · rintro ⟨k1,k2,k3,k4,k5,k6⟩
      simp [k1,k2,k3,k4,k5,k6] at k
  · have hg:resetGood h.2.2.2.2.2.1 h.2.2.2.2.2.2 b:=by
      simp [Bool.cond_eq_ite] at k
      exact ⟨k.1.1.1.1.1,k.1.1.1.1.2,k.1.1.1.2,k.1.1.2,k.1.2,k.2⟩
    have hr:=un_tcp_rng (s:=h.2.2.2.2.2.1) (d:=h.2.2.2.2.2.2) hb
    rw [w64 (by omega) (by omega),w64 (by omega) (by omega),resetR,if_pos hg]
    exact ⟨rfl,rfl,rfl⟩
theorem ok_reply_reset:SpecOK Tryz.prog GL 88 ct_reply_reset.spec:=Ct.okH _ Tryz.func88 (by kernel_rfl) (withSpec_ok noSpecs_ok (Ct.named ok_transport_DecodeTCP)) hmix an_reply_reset (hideMp (by kernel_rfl) vc_reply_reset)
def ct_reply_Read:Ct:=⟨[.val (.sl cU8)],[.agg cProbe,.agg cAns,.val cI],fun d=>[(d.1.length:Int)<=1000000],fun d=>(((readA d.1).1,(readA d.1).2,readAE d.1,()),())⟩
def an_reply_Read:PDs ct_reply_Read.ps->Anns:=(fun _=>{})
def Qbm34 (a:List Int) :=
 (Qbm5)=(readA a).1/\(Qbm5)=(readA a).2/\(17:Int)=readAE a
def Qbm9 (a:List Int) (b:(Int×Int×Int×Int×Bool×Int×Int)×List Int) (f g h i j k m n q:Int) (r:Bool) :=
 ∀(s:Bool),s= ! r->((! s)->((! s)->(! s))/\True)/\((! s)->((! s)->(! s))/\True)/\(s=false->(! s))/\ifP (bif s then true else ! decide (probeErr (f,g,h,i,j,(1:Int))=0)) (Qbm34 a) ((f,g,h,i,j,k)=(readA a).1/\(b.1.2.2.2.2.2.1,m,n,b.1.2.2.1,b.1.2.1,q)=(readA a).2/\(0:Int)=readAE a)
theorem vc_reply_Read :
 ∀(a:List Int),(Qbm44 a)/\True->(a.length:Int)<=1000000->(a.length:Int)<=1099511627776/\ ∀(b:(Int×Int×Int×Int×Bool×Int×Int)×List Int) (c:Int),b=decPkt a/\c=decErr a->ifP (! decide (c=0)) (Qbm34 a) (∀(d:Bool),d=decide (b.1.2.2.2.1=1)->(d->(d->d)/\True)/\(d->(d->d)/\True)/\(d->(d->d)/\True)/\(d->d)/\ ∀(e:Bool),(e=bif d then decide (0<(b.2.length:Int)) else false)->(e->(e->e)/\True)/\(e->(e->e)/\(0:Int)<=0/\0<(b.2.length:Int)/\True)/\(e->(e->e)/\True)/\(e->(e->e)/\True)/\(e->e)/\ifP (bif e then decide (List.getD b.2 (Int.toNat (0:Int)) default=0) else false) ((b.2.length:Int)<=1000000/\ ∀(f g h i j k l m n o p q:Int) (r:Bool),(f,g,h,i,j,k)=(echoR b.1.2.2.2.2.2.1 b.1.2.2.2.2.2.2 b.2).1/\(l,m,n,o,p,q)=(echoR b.1.2.2.2.2.2.1 b.1.2.2.2.2.2.2 b.2).2.1/\r=(echoR b.1.2.2.2.2.2.1 b.1.2.2.2.2.2.2 b.2).2.2-> (Qbm9 a b f g h i j k m n q r)) (ifP (decide (b.1.2.2.2.1=1)) ((b.2.length:Int)<=1000000/\ ∀(f
 g h i j k l m n o p q:Int) (r:Bool),(f,g,h,i,j,k)=(noticeR b.1.2.2.2.2.2.2 b.2).1/\(l,m,n,o,p,q)=(noticeR b.1.2.2.2.2.2.2 b.2).2.1/\r=(noticeR b.1.2.2.2.2.2.2 b.2).2.2-> (Qbm9 a b f g h i j k m n q r)) (ifP (decide (b.1.2.2.2.1=6)) ((b.2.length:Int)<=1000000/\ ∀(f g h i j k l m n o p q:Int) (r:Bool),(f,g,h,i,j,k)=(resetR b.1.2.2.2.2.2.1 b.1.2.2.2.2.2.2 b.2).1/\(l,m,n,o,p,q)=(resetR b.1.2.2.2.2.2.1 b.1.2.2.2.2.2.2 b.2).2.1/\r=(resetR b.1.2.2.2.2.2.1 b.1.2.2.2.2.2.2 b.2).2.2-> (Qbm9 a b f g h i j k m n q r)) (∀(f:Bool),f= ! false->(Qbm28 f)/\(Qbm28 f)/\(f=false->(! f))/\ifP (bif f then true else ! decide (probeErr ((0:Int),(0:Int),(0:Int),(0:Int),(0:Int),(1:Int))=0)) (Qbm34 a) ((Qbm5)=(readA a).1/\(b.1.2.2.2.2.2.1,(0:Int),(0:Int),b.1.2.2.1,b.1.2.1,(0:Int))=(readA a).2/\(0:Int)=readAE a))))):=by
  delta Qbm5 Qbm9 Qbm28 Qbm34 Qbm44
  rintro b ⟨⟨-,hb⟩,-⟩ hl
  refine ⟨by omega,?_⟩
  rintro d e ⟨rfl,rfl⟩
  have bad:¬ readGood b->((0,0,0,0,0,0):Probe)=(readA b).1/\((0,0,0,0,0,0):Ans)=(readA b).2/\(17:Int)=readAE b:=fun k=>by
    rw [readA,readAE,if_neg k,if_neg k];exact ⟨rfl,rfl,rfl⟩
  refine ifP_split (fun h=>bad (fun k => ?_)) (fun h => ?_)
  · simp [k.1] at h
  have h:decErr b=0:=by simpa using h
  have hdl:=dec_len h
  rw [decPkt,if_pos h]
  have hdr:((b.drop 20).length:Int)<=1000000:=by rw [List.length_drop];omega
  have hdb:bytes (b.drop 20):=bytes_drop hb
  have eq1:(pkHdrF b).2.2.2.1=protoOf b:=rfl
  have eq2:(pkHdrF b).2.2.2.2.2.1=srcOf b:=rfl
  have eq3:(pkHdrF b).2.2.2.2.2.2=dstOf b:=rfl
  simp only [eq1,eq2,eq3]
  have fin:∀ r:RdR,r=partR b→∀ (p1 p2 p3 p4 p5 p6 a1 a2 a3 a4 a5 a6:Int) (ok:Bool),(p1,p2,p3,p4,p5,p6)=r.1/\(a1,a2,a3,a4,a5,a6)=r.2.1/\ok=r.2.2 →
      ifP (bif !ok then true else !decide (probeErr (p1,p2,p3,p4,p5,1)=0)) (((0,0,0,0,0,0):Probe)=(readA b).1/\((0,0,0,0,0,0):Ans)=(readA b).2/\(17:Int)=readAE b)
        (((p1,p2,p3,p4,p5,p6):Probe)=(readA b).1/\((srcOf b,a2,a3,(pkHdrF b).2.2.1,(pkHdrF b).2.1,a6):Ans)=(readA b).2/\(0:Int)=readAE b):=by
    rintro r rfl p1 p2 p3 p4 p5 p6 a1 a2 a3 a4 a5 a6 ok ⟨hp,ha,rfl⟩
    have en:noT (partR b).1 1=(p1,p2,p3,p4,p5,1):=by rw [← hp];rfl
    refine ifP_split (fun k=>bad (fun g => ?_)) (fun k => ?_)
    · have g3:=g.2.2
      rw [en] at g3
      simp [g.2.1,g3] at k
    · have g:readGood b:=by
        simp [Bool.cond_eq_ite] at k
        exact ⟨h,k.1,by rw [en];exact k.2⟩
      rw [readA,readAE,if_pos g,if_pos g]
      refine ⟨hp,?_,rfl⟩
      rw [← ha]
  (repeat (intro (b_:Bool) (hb_:b_=_);(repeat refine ⟨(by first|(simp;done)|(rw [hb_];simp;done)|(rw [hb_];simp;omega)|(rw [hb_];simp;intros;omega)|(rw [hb_];simp +contextual;done)),?_⟩);subst hb_))
  refine ifP_split (fun hc => ?_) (fun hc => ?_)
  · have c3:(b.drop 20).getD 0 default=0:=Classical.byContradiction fun k=>by
      have k:¬ (b.drop 20).getD (Int.toNat 0) default=0:=k
      rw [decide_eq_false k] at hc;simp at hc
    simp [Bool.cond_eq_ite] at hc
    have er:echoR (srcOf b) (dstOf b) (b.drop 20)=partR b:=by
      rw [partR,if_pos]
      refine ⟨hc.1.1,?_,c3⟩
      rw [List.length_drop];omega
    refine ⟨hdr,?_⟩
    rintro p1 p2 p3 p4 p5 p6 a1 a2 a3 a4 a5 a6 ok hh
    have:=fin _ er p1 p2 p3 p4 p5 p6 a1 a2 a3 a4 a5 a6 ok hh
    (repeat (intro (b_:Bool) (hb_:b_=_);(repeat refine ⟨(by first|(simp;done)|(rw [hb_];simp;done)|(rw [hb_];simp;omega)|(rw [hb_];simp;intros;omega)|(rw [hb_];simp +contextual;done)),?_⟩);subst hb_))
    exact this
  have hc':¬ (protoOf b=1/\0<(b.drop 20).length/\(b.drop 20).getD 0 default=0):=by
    rintro ⟨c1,c2,c3⟩
    rw [c1,decide_eq_true (show (0:Int)<((b.drop 20).length:Int) by omega)] at hc
    have:(b.drop 20).getD (Int.toNat 0) default=0:=c3
    rw [this] at hc
    cases hc
  refine ifP_split (fun h1 => ?_) (fun h1=>ifP_split (fun h6 => ?_) (fun h6 => ?_))
  · have h1:=of_decide_eq_true h1
    have er:noticeR (dstOf b) (b.drop 20)=partR b:=by
      rw [partR,if_neg hc',if_pos h1]
    refine ⟨hdr,?_⟩
    rintro p1 p2 p3 p4 p5 p6 a1 a2 a3 a4 a5 a6 ok hh
    have:=fin _ er p1 p2 p3 p4 p5 p6 a1 a2 a3 a4 a5 a6 ok hh
    (repeat (intro (b_:Bool) (hb_:b_=_);(repeat refine ⟨(by first|(simp;done)|(rw [hb_];simp;done)|(rw [hb_];simp;omega)|(rw [hb_];simp;intros;omega)|(rw [hb_];simp +contextual;done)),?_⟩);subst hb_))
    exact this
  · have h1:=of_decide_eq_false h1
    have h6:=of_decide_eq_true h6
    have er:resetR (srcOf b) (dstOf b) (b.drop 20)=partR b:=by
      rw [partR,if_neg hc',if_neg h1,if_pos h6]
    refine ⟨hdr,?_⟩
    rintro p1 p2 p3 p4 p5 p6 a1 a2 a3 a4 a5 a6 ok hh
    have:=fin _ er p1 p2 p3 p4 p5 p6 a1 a2 a3 a4 a5 a6 ok hh
    (repeat (intro (b_:Bool) (hb_:b_=_);(repeat refine ⟨(by first|(simp;done)|(rw [hb_];simp;done)|(rw [hb_];simp;omega)|(rw [hb_];simp;intros;omega)|(rw [hb_];simp +contextual;done)),?_⟩);subst hb_))
    exact this
  · have h1:=of_decide_eq_false h1
    have h6:=of_decide_eq_false h6
    have er:noR=partR b:=by rw [partR,if_neg hc',if_neg h1,if_neg h6]
    have:=fin _ er 0 0 0 0 0 0 0 0 0 0 0 0 false ⟨rfl,rfl,rfl⟩
    (repeat (intro (b_:Bool) (hb_:b_=_);(repeat refine ⟨(by first|(simp;done)|(rw [hb_];simp;done)|(rw [hb_];simp;omega)|(rw [hb_];simp;intros;omega)|(rw [hb_];simp +contextual;done)),?_⟩);subst hb_))
    exact this
theorem ok_reply_Read:SpecOK Tryz.prog GL 38 ct_reply_Read.spec:=Ct.okH _ Tryz.func38 (by kernel_rfl) (withSpec_ok (withSpec_ok (withSpec_ok (withSpec_ok (withSpec_ok noSpecs_ok (Ct.named ok_ipv4_Decode)) (Ct.named ok_reply_echo)) (Ct.named ok_reply_notice)) (Ct.named ok_reply_reset)) ok_probe_Check) hmix an_reply_Read (hideMp (by kernel_rfl) vc_reply_Read)
end Go.RS
