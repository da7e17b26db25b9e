/- Reply: answers. -/
import Derived.Test.YtpdpkobkpacbnaaGreatDoorAddr
import Derived.Test.YtpdpkobkpacbnaaGreatDoorIdent
set_option maxRecDepth 100000
set_option linter.unusedVariables false
open Int (toNat)
open List (length take getD drop)
namespace Go.RS
open Go.SX Go.Proofs
abbrev Ea:CT := .pair cP (.pair cI (.pair cI (.pair cI (.pair cI cI))))
abbrev rR:Type:=Int×Int×Int×Int×Int×Int
def K4:rR:=(0,0,0,0,0,0)
def fE(a:Int):Int :=
 if a/16777216=0 then 1 else if a/16777216=127 then 2
 else if a/16777216=10∨(a/16777216=172/\16<=a/65536%256/\a/65536%256<32)∨(a/16777216=192/\a/65536%256=168) then 3
 else if a/16777216=169/\a/65536%256=254 then 4
 else if 224<=a/16777216/\a/16777216<240 then 5 else if 240<=a/16777216 then 6 else 0
def fC(a:Int):Prop:=fE a=0∨fE a=3
instance (a:Int):Decidable (fC a):=by unfold fC;infer_instance
def yE(x:rA):Int:=x.1.2.2.2.1
def G4(x:rA):Prop:=8<=x.2.length/\(x.1.2.2.2.1=1->x.2.getD 0 default=8)/\(x.1.2.2.2.1=6->14<=x.2.length->bits .and .u8 (x.2.getD 13 default) 4=0)/\fC x.1.2.2.2.2.2.1
instance (x:rA):Decidable (G4 x):=by unfold G4;infer_instance
def dH(b:ae):Prop:=bX b=0/\G4 (aY b)
instance (b:ae):Decidable (dH b):=by unfold dH;infer_instance
def zT(b:ae):Prop:=bX b=0/\8<=(aY b).2.length/\(yE (aY b)=1->(aY b).2.getD 0 default=8)/\(yE (aY b)=6->14<=(aY b).2.length->bits .and .u8 ((aY b).2.getD 13 default) 4=0)
instance (b:ae):Decidable (zT b):=by unfold zT;infer_instance
def qB(b:ae):rA:=if zT b then aY b else (oY,[])
def iW(id ttl:Int):Prop:=(0<=id/\id<=65535)/\0<=ttl/\ttl<=255
instance (i t:Int):Decidable (iW i t):=by unfold iW;infer_instance
def i7(src dst proto id ttl:Int)(data:ae):rA:=((0,id,ttl,proto,false,src,dst),data)
def cL(b:ae):Int:=(bI b).2.2.2.2.2.1
def gf(b:ae):Int:=(bI b).2.2.2.2.2.2
def dm(b:ae):Int:=(bI b).2.2.2.1
def pF(kind code id ttl:Int):Prop:=(kind=11∨kind=3)/\(0<=code/\code<=255)/\iW id ttl
instance (k c i t:Int):Decidable (pF k c i t):=by unfold pF;infer_instance
def fY(b:ae)(kind code id ttl:Int):Int:=if ¬ pF kind code id ttl then 1 else if dH b then 0 else 17
def jv(b:ae)(src kind code id ttl:Int):ae:=if fY b kind code id ttl=0 then d8 (i7 src (cL b) 1 id ttl (iE (kind,code,b.take 28))) else []
def lZ(s:mO):mO:=(s.2.1,s.1,0,(s.2.2.1+1)%4294967296,20,0,[])
def tv(b:ae):Prop:=dH b/\((dm b=1/\jF (b.drop 20)=0)∨(dm b=17/\j6 (cL b) (gf b) (b.drop 20)=0) ∨
 (dm b=6/\jC (cL b) (gf b) (b.drop 20)=0/\bits .and .i64 (fR (cL b) (gf b) (b.drop 20)).2.2.2.2.1 2≠0/\bits .and .i64 (fR (cL b) (gf b) (b.drop 20)).2.2.2.2.1 4=0))
instance (b:ae):Decidable (tv b):=by unfold tv;infer_instance
def gI(b:ae)(id ttl:Int):Int:=if ¬ iW id ttl then 1 else if tv b then 0 else 17
def jw(b:ae)(src id ttl:Int):ae :=
 if gI b id ttl=0 then
  if dm b=1 then d8 (i7 src (cL b) 1 id ttl (fH (true,(gn (b.drop 20)).2)))
  else if dm b=17 then jv b src 3 3 id ttl
  else d8 (i7 src (cL b) 6 id ttl (fQ src (cL b) (lZ (fR (cL b) (gf b) (b.drop 20)))))
 else []
def BB(b:ae):Prop:=dX b=0/\b.length=28/\(bI b).1=0/\(bI b).2.2.2.2.1=true
instance (b:ae):Decidable (BB b):=by unfold BB;infer_instance
def xq(b:ae):Int:=if dm b=1 then aH b 22-16384 else if dm b=17∨dm b=6 then aH b 20-20000 else 0
def qQ(b:ae):bz:=(cL b,gf b,dm b,xq b,(bI b).2.1,(bI b).2.2.1)
def qh(b:ae):Prop :=
 (dm b=1/\aH b 2=30/\aH b 20=2048/\aH b 24=21075/\aH b 26=(bI b).2.1) ∨
 (dm b=17/\aH b 2=30/\aH b 22=33434/\aH b 24=aH b 2-20/\aH b 26=(bI b).2.1+1) ∨
 (dm b=6/\aH b 2=40/\aH b 22=80/\fp ((b.drop 24).take 4)=(bI b).2.1)
instance (b:ae):Decidable (qh b):=by unfold qh;infer_instance
def fG(b:ae):bz×Bool:=if BB b then (qQ b,decide (qh b/\cf (qQ b)=0)) else (yQ,false)
def tJ(p:bz)(t:Int):bz:=(p.1,p.2.1,p.2.2.1,p.2.2.2.1,p.2.2.2.2.1,t)
def uR(ty code:Int):Int:=if ty=11 then 1 else if code=3 then 3 else 5
abbrev Ar:Type:=bz×rR×Bool
def Bq:Ar:=(yQ,K4,false)
def oT(dst:Int)(b:ae):Ar :=
 if kJ b=0 then (tJ (fG (kr b).2.2).1 0,(0,uR (kr b).1 (kr b).2.1,(kr b).2.1,0,0,(fG (kr b).2.2).1.2.2.2.2.2),(fG (kr b).2.2).2&&decide ((fG (kr b).2.2).1.1=dst)) else Bq
def B9(b:ae):Prop:=jF b=0/\(gn b).1=true/\(gn b).2.1=21075/\(gn b).2.2.2.length=2
instance (b:ae):Decidable (B9 b):=by unfold B9;infer_instance
def qW(src dst:Int)(b:ae):Ar:=if B9 b then ((dst,src,1,aH b 2-18432,(gn b).2.2.1,0),(0,2,0,0,0,0),true) else Bq
def B3(src dst:Int)(b:ae):Prop:=jC src dst b=0/\(fR src dst b).1=80/\(fR src dst b).2.2.1=0/\(fR src dst b).2.2.2.2.1=20/\(fR src dst b).2.2.2.2.2.1=0/\(fR src dst b).2.2.2.2.2.2=[]
instance (s d:Int) (b:ae):Decidable (B3 s d b):=by unfold B3;infer_instance
def qC(src dst:Int)(b:ae):Ar:=if B3 src dst b then ((dst,src,6,(fR src dst b).2.1-20000,(fR src dst b).2.2.2.1-1,0),(0,4,0,0,0,0),true) else Bq
def kC(b:ae):Ar :=
 if dm b=1/\0<(b.drop 20).length/\(b.drop 20).getD 0 default=0 then qW (cL b) (gf b) (b.drop 20)
 else if dm b=1 then oT (gf b) (b.drop 20) else if dm b=6 then qC (cL b) (gf b) (b.drop 20) else Bq
def t5(b:ae):Prop:=bX b=0/\(kC b).2.2=true/\cf (tJ (kC b).1 1)=0
instance (b:ae):Decidable (t5 b):=by unfold t5;infer_instance
def jQ(b:ae):bz×rR:=if t5 b then ((kC b).1,(cL b,(kC b).2.1.2.1,(kC b).2.1.2.2.1,(bI b).2.2.1,(bI b).2.1,(kC b).2.1.2.2.2.2.2)) else (yQ,K4)
def pT(b:ae):Int:=if t5 b then 0 else 17
theorem Yh{n:Int}(h0:0<=n):dF .i64 n 24=n/16777216:=by
 have e:=yk (n:=n) (k:=3) h0 (by omega)
 exact e
theorem Ub(n:Int):bits .and .i64 n 255=n%256:=by
 have h127:(BitVec.ofInt 64 255).toNat=2^8-1:=bt
 have key:(BitVec.ofInt 64 n &&& BitVec.ofInt 64 255).toNat=(n%((2^64:Nat):Int)).toNat%2^8:=by
  rw[BitVec.toNat_and,BitVec.toNat_ofInt,h127,yT]
 show IntKind.i64.wrap ((BitVec.ofInt 64 n &&& BitVec.ofInt 64 255).toNat:Nat)=n%256
 rw[key,IntKind.wrap_i64]
 omega
theorem aI4(n:Int):bits .and .i64 n 4294967295=n%4294967296:=by
 have h127:(BitVec.ofInt 64 4294967295).toNat=2^32-1:=bt
 have key:(BitVec.ofInt 64 n &&& BitVec.ofInt 64 4294967295).toNat=(n%((2^64:Nat):Int)).toNat%2^32:=by
  rw[BitVec.toNat_and,BitVec.toNat_ofInt,h127,yT]
 show IntKind.i64.wrap ((BitVec.ofInt 64 n &&& BitVec.ofInt 64 4294967295).toNat:Nat)=n%4294967296
 rw[key,IntKind.wrap_i64]
 omega
theorem vu{p n a s:Int}(hs:sz n=s)(hn:0<=n/\n<=32)(hp:p%s=0):dS (p,n) a=decide (p<=a/\a<p+s):=by
 unfold dS jT
 simp only
 rw[hs,cM ⟨hn.1,hn.2,hp⟩,Bool.true_and]
theorem J5{b:ae}:dH b↔zT b/\fC (aY b).1.2.2.2.2.2.1:=⟨λh=>⟨⟨h.1,h.2.1,h.2.2.1,h.2.2.2.1⟩,h.2.2.2.2⟩,λh=>⟨h.1.1,h.1.2.1,h.1.2.2.1,h.1.2.2.2,h.2⟩⟩
theorem Re{b:ae}(h:dH b):qB b=(bI b,b.drop 20):=by rw[qB,am (J5.1 h).1,aY,am h.1]
theorem qU{b:ae}(h:dH b):bX b=0/\28<=b.length/\(dm b=1->(b.drop 20).getD 0 default=8)/\(dm b=6->14<=(b.drop 20).length->bits .and .u8 ((b.drop 20).getD 13 default) 4=0)/\fC (cL b):=by
 obtain⟨h1,h2⟩:=h
 rw[aY,am h1] at h2
 obtain⟨k1,k2,k3,k4⟩:=h2
 simp only[fv] at k1
 exact⟨h1,ab,k2,k3,k4⟩
theorem ac0{b:ae}(h1:bX b=0)(h2:28<=b.length)(h3:dm b=1->(b.drop 20).getD 0 default=8)(h4:dm b=6->14<=(b.drop 20).length->bits .and .u8 ((b.drop 20).getD 13 default) 4=0)(h5:fC (cL b)):dH b:=by
 refine⟨h1,?_⟩
 rw[aY,am h1]
 exact⟨by simp only[fv];omega,h3,h4,h5⟩
theorem Al{src dst proto id ttl:Int}{data:ae}(hn:iW id ttl)(hp:0<=proto/\proto<=255)(hl:(data.length:Int)<=1480):fA (i7 src dst proto id ttl data)=0:=by
 obtain⟨⟨a,b⟩,c,d⟩:=hn
 rw[fA,af,af (by simp only[i7];omega)]
 rw[o4]
 exact⟨⟨f8 _,by simp only[i7];omega⟩,⟨c,d⟩,hp,a,b⟩
theorem BW{b:ae}{src kind code id ttl:Int}(hg:pF kind code id ttl)(ha:dH b) :
  fY b kind code id ttl=0/\jv b src kind code id ttl=d8 (i7 src (cL b) 1 id ttl (iE (kind,code,b.take 28)))/\jK (kind,code,b.take 28)=0/\fA (i7 src (cL b) 1 id ttl (iE (kind,code,b.take 28)))=0:=by
 have he:fY b kind code id ttl=0:=by rw[fY,af (λk=>k hg),am ha]
 obtain⟨-,hl,-⟩:=qU ha
 obtain⟨h1,h2,h3⟩:=hg
 refine⟨he,by rw[jv,am he],?_,Al h3 ab (FG _)⟩
 have ht:(b.take 28).length=28:=by rw[dA];omega
 rw[jK,af,af,af]
 .simp only;rw[ht];omega
 .simp only;rw[ht];omega
 .rw[o4];exact⟨h1.symm,h2⟩
theorem W8{b:ae}{src kind code id ttl:Int}(hg:¬ pF kind code id ttl):([]:ae)=jv b src kind code id ttl/\1=fY b kind code id ttl:=by
 have he:fY b kind code id ttl=1:=by rw[fY,am hg]
 rw[jv,he];exact⟨rfl,rfl⟩
theorem Wm{b:ae}{src kind code id ttl:Int}(hg:pF kind code id ttl)(ha:¬ dH b):([]:ae)=jv b src kind code id ttl/\17=fY b kind code id ttl:=by
 have he:fY b kind code id ttl=17:=by rw[fY,af (λk=>k hg),af ha]
 rw[jv,he];exact⟨rfl,rfl⟩
theorem UI(b:ae):cO b (toNat 0) (toNat 28)=b.take 28:=by
 show cO b 0 28=_
 simp[cO]
theorem Zi{b:ae}{src id ttl:Int}(hn:¬ iW id ttl):([]:ae)=jw b src id ttl/\1=gI b id ttl:=by
 have he:gI b id ttl=1:=by rw[gI,am hn]
 rw[jw,he];exact⟨rfl,rfl⟩
theorem yB{b:ae}{src id ttl:Int}(hn:iW id ttl)(ha:¬ tv b):([]:ae)=jw b src id ttl/\17=gI b id ttl:=by
 have he:gI b id ttl=17:=by rw[gI,af (λk=>k hn),af ha]
 rw[jw,he];exact⟨rfl,rfl⟩
theorem BA{b:ae}{id ttl:Int}(hn:iW id ttl)(ha:tv b):gI b id ttl=0:=by rw[gI,af (λk=>k hn),am ha]
theorem C9{b:ae}{src id ttl:Int}(hn:iW id ttl)(ha:dH b)(h:dm b=1)(he:jF (b.drop 20)=0) :
  jw b src id ttl=d8 (i7 src (cL b) 1 id ttl (fH (true,(gn (b.drop 20)).2)))/\gI b id ttl=0:=by
 have h0:=BA hn (b:=b) ⟨ha,.inl ⟨h,he⟩⟩
 rw[jw,am h0,am h];exact⟨rfl,h0⟩
theorem FF{b:ae}{src id ttl:Int}(hn:iW id ttl)(ha:dH b)(h:dm b=17)(he:j6 (cL b) (gf b) (b.drop 20)=0) :
  jw b src id ttl=jv b src 3 3 id ttl/\gI b id ttl=0:=by
 have h0:=BA hn (b:=b) ⟨ha,.inr (.inl ⟨h,he⟩)⟩
 rw[jw,am h0,af ab,am h];exact⟨rfl,h0⟩
theorem EW{b:ae}{src id ttl:Int}(hn:iW id ttl)(ha:dH b)(h:dm b=6)(he:jC (cL b) (gf b) (b.drop 20)=0)
  (h2:bits .and .i64 (fR (cL b) (gf b) (b.drop 20)).2.2.2.2.1 2≠0) (h4:bits .and .i64 (fR (cL b) (gf b) (b.drop 20)).2.2.2.2.1 4=0) :
  jw b src id ttl=d8 (i7 src (cL b) 6 id ttl (fQ src (cL b) (lZ (fR (cL b) (gf b) (b.drop 20)))))/\gI b id ttl=0:=by
 have h0:=BA hn (b:=b) ⟨ha,.inr (.inr ⟨h,he,h2,h4⟩)⟩
 rw[jw,am h0,af ab,af ab];exact⟨rfl,h0⟩
theorem Hu{b:ae}{id ttl:Int}(hn:iW id ttl)(ha:dH b):fY b 3 3 id ttl=0:=by
 rw[fY,af (λk=>k ⟨.inr rfl,⟨ab,ab⟩,hn⟩),am ha]
theorem PS(b:ae):(gn b).2.2.2.length<=b.length:=by
 unfold gn;split
 .simp only[fv];omega
 .simp
theorem Zp(b:ae):(kr b).2.2.length<=b.length:=by
 unfold kr;split
 .simp only[fv];omega
 .simp
theorem PU{s d:Int}{b:ae}(hb:bytes b):(0<=(fR s d b).2.1/\(fR s d b).2.1<=65535)/\(0<=(fR s d b).2.2.1/\(fR s d b).2.2.1<=4294967295)/\0<=(fR s d b).2.2.2.1/\(fR s d b).2.2.2.1<=4294967295:=by
 unfold fR;split
 .have h1:=nO hb (toNat 2);have h2:=nO hb (toNat 4);have h3:=nO hb (toNat 6);have h4:=nO hb (toNat 8);have h5:=nO hb (toNat 10);simp only;omega
 .simp
def ph(k:Int):eh:=([(0,8),(2130706432,8),(167772160,8),(2886729728,12),(3232235520,16),(2851995648,16),(3758096384,4),(4026531840,4)]:List eh).getD k.toNat (0,0)
def Nj:Ct:=⟨[.val cP],[.val cI],λd=>[],λd=>((fE d.1,()),())⟩
def aL3:bw Nj.ps->ce:=(λd=>{cuts:=(bq 6 (λS=>{ι:=Unit,inv:=λi=>dS (ph (S.i 6)) d.1=false,keep:=[0,5,6],slots:=λi=>[]}) cC),unr:=λn=>match n with|2=>9|_=>0})
def mq :=
 (2:Int)^IntKind.bits IntKind.i64
def Bt :=
 (nat_lit 0+nat_lit 1)%Int.natAbs (mq)+nat_lit 1
def Cf :=
 ((Bt)%Int.natAbs (mq)+nat_lit 1)%Int.natAbs (mq)+nat_lit 1
def uQ :=
 aj (aj (aj ((0:Int)+1)+1)+1)+1
def Ey :=
 ((Cf)%Int.natAbs (mq)+nat_lit 1)%Int.natAbs (mq)+nat_lit 1
def tp :=
 (2130706432:Int)
def sY :=
 (2886729728:Int)
def tA :=
 (3232235520:Int)
def ud :=
 (2851995648:Int)
def tQ :=
 (3758096384:Int)
def tD :=
 (4026531840:Int)
def H2 :=
 ph (Int.ofNat (((Bt)%Int.natAbs (mq)+nat_lit 1)%Int.natAbs (mq)))
def Ju :=
 ph (Int.ofNat (((Ey)%Int.natAbs (mq)+nat_lit 1)%Int.natAbs (mq)))
def He :=
 ph (Int.ofNat (((Cf)%Int.natAbs (mq)+nat_lit 1)%Int.natAbs (mq)))
def tX :=
 (167772160:Int)
theorem aG9 :
 ∀(a:Int),(0<=a/\a<=4294967295)/\True->True->ao (dS ((0:Int),(8:Int)) a) (1=fE a) (∃(b:Unit),dS (ph (0:Int)) a=false/\a=a/\(0:Int)=0/\(8:Int)=8/\(1:Int)=1/\(tp)=2130706432/\(8:Int)=8/\(2:Int)=2/\(tX)=167772160/\(8:Int)=8/\(3:Int)=3/\(sY)=2886729728/\(12:Int)=12/\(3:Int)=3/\(tA)=3232235520/\(16:Int)=16/\(3:Int)=3/\(ud)=2851995648/\(16:Int)=16/\(4:Int)=4/\(tQ)=3758096384/\(4:Int)=4/\(5:Int)=5/\(tD)=4026531840/\(4:Int)=4/\(6:Int)=6/\(0:Int)=0/\True)/\ ∀(b:Unit),dS (ph (0:Int)) a=false->ao (dS ((tp),(8:Int)) a) (2=fE a) (∃(c:Unit),dS (ph (Int.ofNat ((nat_lit 0+nat_lit 1)%Int.natAbs (mq))))
 a=false/\a=a/\(0:Int)=0/\(8:Int)=8/\(1:Int)=1/\(tp)=2130706432/\(8:Int)=8/\(2:Int)=2/\(tX)=167772160/\(8:Int)=8/\(3:Int)=3/\(sY)=2886729728/\(12:Int)=12/\(3:Int)=3/\(tA)=3232235520/\(16:Int)=16/\(3:Int)=3/\(ud)=2851995648/\(16:Int)=16/\(4:Int)=4/\(tQ)=3758096384/\(4:Int)=4/\(5:Int)=5/\(tD)=4026531840/\(4:Int)=4/\(6:Int)=6/\aj ((0:Int)+1)=aj ((0:Int)+1)/\True)/\ ∀(c:Unit),dS (ph (Int.ofNat ((nat_lit 0+nat_lit 1)%Int.natAbs (mq)))) a=false->ao (dS ((tX),(8:Int)) a) (3=fE a) (∃(d:Unit),dS (ph (Int.ofNat ((Bt)%Int.natAbs (mq))))
 a=false/\a=a/\(0:Int)=0/\(8:Int)=8/\(1:Int)=1/\(tp)=2130706432/\(8:Int)=8/\(2:Int)=2/\(tX)=167772160/\(8:Int)=8/\(3:Int)=3/\(sY)=2886729728/\(12:Int)=12/\(3:Int)=3/\(tA)=3232235520/\(16:Int)=16/\(3:Int)=3/\(ud)=2851995648/\(16:Int)=16/\(4:Int)=4/\(tQ)=3758096384/\(4:Int)=4/\(5:Int)=5/\(tD)=4026531840/\(4:Int)=4/\(6:Int)=6/\aj (aj ((0:Int)+1)+1)=aj (aj ((0:Int)+1)+1)/\True)/\ ∀(d:Unit),dS (ph (Int.ofNat ((Bt)%Int.natAbs (mq)))) a=false->ao (dS ((sY),(12:Int)) a) (3=fE a) (∃(e:Unit),dS (H2)
 a=false/\a=a/\(0:Int)=0/\(8:Int)=8/\(1:Int)=1/\(tp)=2130706432/\(8:Int)=8/\(2:Int)=2/\(tX)=167772160/\(8:Int)=8/\(3:Int)=3/\(sY)=2886729728/\(12:Int)=12/\(3:Int)=3/\(tA)=3232235520/\(16:Int)=16/\(3:Int)=3/\(ud)=2851995648/\(16:Int)=16/\(4:Int)=4/\(tQ)=3758096384/\(4:Int)=4/\(5:Int)=5/\(tD)=4026531840/\(4:Int)=4/\(6:Int)=6/\aj (aj (aj ((0:Int)+1)+1)+1)=aj (aj (aj ((0:Int)+1)+1)+1)/\True)/\ ∀(e:Unit),dS (H2) a=false->ao (dS ((tA),(16:Int)) a) (3=fE a) (∃(f:Unit),dS (ph (Int.ofNat ((Cf)%Int.natAbs (mq))))
 a=false/\a=a/\(0:Int)=0/\(8:Int)=8/\(1:Int)=1/\(tp)=2130706432/\(8:Int)=8/\(2:Int)=2/\(tX)=167772160/\(8:Int)=8/\(3:Int)=3/\(sY)=2886729728/\(12:Int)=12/\(3:Int)=3/\(tA)=3232235520/\(16:Int)=16/\(3:Int)=3/\(ud)=2851995648/\(16:Int)=16/\(4:Int)=4/\(tQ)=3758096384/\(4:Int)=4/\(5:Int)=5/\(tD)=4026531840/\(4:Int)=4/\(6:Int)=6/\aj (uQ)=aj (uQ)/\True)/\ ∀(f:Unit),dS (ph (Int.ofNat ((Cf)%Int.natAbs (mq)))) a=false->ao (dS ((ud),(16:Int)) a) (4=fE a) (∃(g:Unit),dS (He) a=false/\a=a/\(0:Int)=0/\(8:Int)=8/\(1:Int)=1/\(tp)=2130706432/\(8:Int)=8/\(2:Int)=2/\(tX)=167772160/\(8:Int)=8/\(3:Int)=3/\(sY)=2886729728/\(12:Int)=12/\(3:Int)=3/\(tA)=3232235520/\(16:Int)=16/\(3:Int)=3/\(ud)=2851995648/\(16:Int)=16/\(4:Int)=4/\(tQ)=3758096384/\(4:Int)=4/\(5:Int)=5/\(tD)=4026531840/\(4:Int)=4/\(6:Int)=6/\aj (aj (uQ)+1)=aj
 (aj (uQ)+1)/\True)/\ ∀(g:Unit),dS (He) a=false->ao (dS ((tQ),(4:Int)) a) (5=fE a) (∃(h:Unit),dS (ph (Int.ofNat ((Ey)%Int.natAbs (mq)))) a=false/\a=a/\(0:Int)=0/\(8:Int)=8/\(1:Int)=1/\(tp)=2130706432/\(8:Int)=8/\(2:Int)=2/\(tX)=167772160/\(8:Int)=8/\(3:Int)=3/\(sY)=2886729728/\(12:Int)=12/\(3:Int)=3/\(tA)=3232235520/\(16:Int)=16/\(3:Int)=3/\(ud)=2851995648/\(16:Int)=16/\(4:Int)=4/\(tQ)=3758096384/\(4:Int)=4/\(5:Int)=5/\(tD)=4026531840/\(4:Int)=4/\(6:Int)=6/\aj (aj (aj (uQ)+1)+1)=aj (aj (aj (uQ)+1)+1)/\True)/\ ∀(h:Unit),dS (ph (Int.ofNat ((Ey)%Int.natAbs (mq)))) a=false->ao (dS ((tD),(4:Int)) a) (6=fE a) (∃(i:Unit),dS (Ju)
 a=false/\a=a/\(0:Int)=0/\(8:Int)=8/\(1:Int)=1/\(tp)=2130706432/\(8:Int)=8/\(2:Int)=2/\(tX)=167772160/\(8:Int)=8/\(3:Int)=3/\(sY)=2886729728/\(12:Int)=12/\(3:Int)=3/\(tA)=3232235520/\(16:Int)=16/\(3:Int)=3/\(ud)=2851995648/\(16:Int)=16/\(4:Int)=4/\(tQ)=3758096384/\(4:Int)=4/\(5:Int)=5/\(tD)=4026531840/\(4:Int)=4/\(6:Int)=6/\aj (aj (aj (aj (uQ)+1)+1)+1)=aj (aj (aj (aj (uQ)+1)+1)+1)/\True)/\ ∀(i:Unit),dS (Ju) a=false->0=fE a:=by
  delta mq Cf uQ Ey Bt tp sY tA ud tQ tD H2 Ju He tX aj;rintro a ⟨⟨a0,a1⟩,-⟩ -;have q0:=vu (p:=0) (n:=8) (a:=a) (s:=16777216) rfl ab ab;have q1:=vu (p:=2130706432) (n:=8) (a:=a) (s:=16777216) rfl ab ab;have q2:=vu (p:=167772160) (n:=8) (a:=a) (s:=16777216) rfl ab ab;have q3:=vu (p:=2886729728) (n:=12) (a:=a) (s:=1048576) rfl ab ab;have q4:=vu (p:=3232235520) (n:=16) (a:=a) (s:=65536) rfl ab ab;have q5:=vu (p:=2851995648) (n:=16) (a:=a) (s:=65536) rfl ab ab;have q6:=vu (p:=3758096384) (n:=4) (a:=a) (s:=268435456) rfl ab ab;have q7:=vu (p:=4026531840) (n:=4) (a:=a) (s:=268435456) rfl ab ab;refine⟨aw (λh=>?_) (λh=>⟨(),h,aP⟩),?_⟩
  .rw[q0] at h;have h:=aI h;unfold fE;rw[am ab]
  rintro-h;have h:dS (0,8) a=false:=h;rw[q0] at h;have h0:=aL h;refine⟨aw (λh=>?_) (λh=>⟨(),h,aP⟩),?_⟩
  .rw[q1] at h;have h:=aI h;unfold fE;rw[af ab,am ab]
  rintro-h;have h:dS (2130706432,8) a=false:=h;rw[q1] at h;have h1:=aL h;refine⟨aw (λh=>?_) (λh=>⟨(),h,aP⟩),?_⟩
  .rw[q2] at h;have h:=aI h;unfold fE;rw[af ab,af ab,am ab]
  rintro-h;have h:dS (167772160,8) a=false:=h;rw[q2] at h;have h2:=aL h;refine⟨aw (λh=>?_) (λh=>⟨(),h,aP⟩),?_⟩
  .rw[q3] at h;have h:=aI h;unfold fE;rw[af ab,af ab,am ab]
  rintro-h;have h:dS (2886729728,12) a=false:=h;rw[q3] at h;have h3:=aL h;refine⟨aw (λh=>?_) (λh=>⟨(),h,aP⟩),?_⟩
  .rw[q4] at h;have h:=aI h;unfold fE;rw[af ab,af ab,am ab]
  rintro-h;have h:dS (3232235520,16) a=false:=h;rw[q4] at h;have h4:=aL h;refine⟨aw (λh=>?_) (λh=>⟨(),h,aP⟩),?_⟩
  .rw[q5] at h;have h:=aI h;unfold fE;rw[af ab,af ab,af ab,am ab]
  rintro-h;have h:dS (2851995648,16) a=false:=h;rw[q5] at h;have h5:=aL h;refine⟨aw (λh=>?_) (λh=>⟨(),h,aP⟩),?_⟩
  .rw[q6] at h;have h:=aI h;unfold fE;rw[af ab,af ab,af ab,af ab,am ab]
  rintro-h;have h:dS (3758096384,4) a=false:=h;rw[q6] at h;have h6:=aL h;refine⟨aw (λh=>?_) (λh=>⟨(),h,aP⟩),?_⟩
  .rw[q7] at h;have h:=aI h;unfold fE;rw[af ab,af ab,af ab,af ab,af ab,am ab]
  rintro-h;have h:dS (4026531840,4) a=false:=h;rw[q7] at h;have h7:=aL h;unfold fE;rw[af ab,af ab,af ab,af ab,af ab,af ab]
theorem PI:aB 194 Nj.spec:=aF Tryz.func194 (Zv (av aD Mx) (d:=8)) aL3 aG9
def XX:Ct:=⟨[.val cP],[.val cI],λd=>[],λd=>((fE d.1,()),())⟩
def Cz(a:Int) :=
 dF IntKind.i64 (aj a) (16:Int)
theorem UV :
 ∀(a:Int),(0<=a/\a<=4294967295)/\True->True->(0:Int)<=24/\(0:Int)<=16/\ao (decide (dF IntKind.i64 (aj a) (24:Int)=0)) (1=fE a) (ao (decide (dF IntKind.i64 (aj a) (24:Int)=127)) (2=fE a) (∀(b:Bool),b=decide (dF IntKind.i64 (aj a) (24:Int)=10)->(ah (! b))/\(ah (! b))/\ ∀(c:Bool),c=decide (dF IntKind.i64 (aj a) (24:Int)=172)->(ah (! b&&c))/\((! b)->(ar (! b))/\(c->(! b&&c))/\True)/\(ah (! b))/\ ∀(d:Bool),(d=bif c then decide (16<=bits BinOp.and IntKind.i64 (Cz a) (255:Int)) else false)->(ah (! b&&d))/\((! b)->(ar (! b))/\(d->(! b&&d))/\True)/\(aE b)/\ ∀(e:Bool),(e=bif b then true else bif d then decide (bits BinOp.and IntKind.i64 (Cz a) (255:Int)<32) else false)->(ah (! e))/\(ah (! e))/\ ∀(f:Bool),f=decide (dF IntKind.i64 (aj a) (24:Int)=192)->(ah (! e&&f))/\((! e)->(ar (! e))/\(f->(! e&&f))/\True)/\(aE e)/\ao (bif e then true else bif f then
 decide (bits BinOp.and IntKind.i64 (Cz a) (255:Int)=168) else false) (3=fE a) (∀(g:Bool),g=decide (dF IntKind.i64 (aj a) (24:Int)=169)->(ah g)/\(ar g)/\ao (bif g then decide (bits BinOp.and IntKind.i64 (Cz a) (255:Int)=254) else false) (4=fE a) (∀(h:Bool),h=decide (224<=dF IntKind.i64 (aj a) (24:Int))->(ah h)/\(ar h)/\ao (bif h then decide (dF IntKind.i64 (aj a) (24:Int)<240) else false) (5=fE a) (ao (decide (240<=dF IntKind.i64 (aj a) (24:Int))) (6=fE a) (0=fE a)))))):=by
  delta Cz ah ar aE aj;rintro a ⟨⟨a0,a1⟩,-⟩ -;rw[aG (n:=a) ab ab,Yh a0,HP a0,Ub];refine⟨ab,ab,aw (λh=>?_) (λh=>?_)⟩
  .rw[fE,am (aI h)]
  have h1:=aL h;refine aw (λh=>?_) (λh=>?_)
  .rw[fE,af h1,am (aI h)]
  have h2:=aL h;rw[fE,af h1,af h2]
  (repeat (intro (b_:Bool) (hb_:b_=_);(repeat refine⟨(by first|(simp;done)|(rw[hb_];simp;done)|(rw[hb_];simp;omega)|(rw[hb_];simp;intros;omega)|(rw[hb_];simp +contextual;done)),?_⟩);subst hb_));refine⟨λh=>by rw[h];rfl,?_⟩;refine aw (λh=>?_) (λh=>?_)
  .rw[am];simp[dE] at h;omega
  have h3:¬ (a/16777216=10∨(a/16777216=172/\16<=a/65536%256/\a/65536%256<32)∨(a/16777216=192/\a/65536%256=168)):=by
   simp[dE] at h;omega
  rw[af h3];clear h
  (repeat (refine bY ?_;repeat refine bZ ?_));refine aw (λh=>?_) (λh=>?_)
  .rw[am];simp[dE] at h;omega
  have h4:¬ (a/16777216=169/\a/65536%256=254):=by
   simp[dE] at h;omega
  rw[af h4];clear h
  (repeat (refine bY ?_;repeat refine bZ ?_));refine aw (λh=>?_) (λh=>?_)
  .rw[am];simp[dE] at h;omega
  have h5:¬ (224<=a/16777216/\a/16777216<240):=by
   simp[dE] at h;omega
  rw[af h5];exact aw (λh=>by rw[am (aI h)]) (λh=>by rw[af (aL h)])
theorem Vu:aB 134 XX.spec:=aF Tryz.func134 aD aT UV
def aV7:Ct:=⟨[.val cP],[.val .bool],λd=>[],λd=>((decide (fC d.1),()),())⟩
theorem aV6 :
 ∀(a:Int),(0<=a/\a<=4294967295)/\True->True-> ∀(b:Bool),b=decide (fE a=0)->(ah (! b))/\(ah (! b))/\(aE b)/\(bif b then true else decide (fE a=3))=decide (fC a):=by
  delta ah aE;rintro a - -
  (repeat (refine bY ?_;repeat refine bZ ?_));rw[u3,nZ];simp[fC,dE]
theorem Xp:aB 66 aV7.spec:=aF Tryz.func66 (av aD Vu) aT aV6
def W5:Ct:=⟨[.val (.sl bP)],[.agg uA,.val .bool],λd=>[(d.1.length:Int)<=1099511627776],λd=>((qB d.1,decide (dH d.1),()),())⟩
def EI(a:ae) :=
 (((0:Int),(0:Int),(0:Int),(0:Int),false,(0:Int),(0:Int)),([]:ae))=qB a/\false=decide (dH a)
def J0(a:ae)(b:(Int×Int×Int×Int×Bool×Int×Int)×ae) :=
 ∀(e:Bool),e=decide (fE b.1.2.2.2.2.2.1=0)->(ah (! e))/\(aE e)/\b=qB a/\(bif e then true else decide (fE b.1.2.2.2.2.2.1=3))=decide (dH a)
theorem af4 :
 ∀(a:ae),(a.length<=maxLen/\ ∀(b:Int),b∈a->0<=b/\b<=255)/\True->(ac a)<=1099511627776->(ac a)<=1099511627776/\ ∀(b:(Int×Int×Int×Int×Bool×Int×Int)×ae)(c:Int),b=aY a/\c=bX a-> ∀(d:Bool),d= ! decide (c=0)->(ah (! d))/\(ah (! d))/\(ah (! d))/\(aE d)/\ao (bif d then true else decide ((ac b.2)<8)) (EI a) (ao (decide (b.1.2.2.2.1=1)) ((0:Int)<=0/\0<(ac b.2)/\ao (! decide (getD b.2 (toNat 0) default=8)) (EI a) (J0 a b)) (ao (decide (b.1.2.2.2.1=6)) (∀(e:Bool),e=decide (13<(ac b.2))->(ah e)/\(e->(ar e)/\(0:Int)<=13/\13<(ac b.2)/\True)/\(ah e)/\(ah e)/\(ah e)/\(ar e)/\ao (bif e then ! decide (bits BinOp.and IntKind.u8 (getD b.2 (toNat 13) default) (4:Int)=0) else false) (EI a) (∀(f:Bool),f=decide (fE b.1.2.2.2.2.2.1=0)->(ah (! f))/\(aE f)/\b=qB a/\(bif f then true else decide (fE b.1.2.2.2.2.2.1=3))=decide (dH
 a))) (J0 a b))):=by
  delta EI J0 ah ar aE ac;rintro b ⟨⟨-,hb⟩,-⟩ hl;refine⟨hl,?_⟩;rintro d e ⟨rfl,rfl⟩;have bad:¬ zT b->(((0,0,0,0,false,0,0),[]):rA)=qB b/\false=decide (dH b):=λh=>by rw[qB,af h,dO (λk=>h (J5.1 k).1)];exact⟨rfl,rfl⟩
  have good:zT b->aY b=qB b/\(bif decide (fE (aY b).1.2.2.2.2.2.1=0) then true else decide (fE (aY b).1.2.2.2.2.2.1=3))=decide (dH b):=by
   intro h;refine⟨by rw[qB,am h],?_⟩;rw[u3,nZ,J5];simp[h,fC,dE]
  (repeat (refine bY ?_;repeat refine bZ ?_));refine aw (λh=>?_) (λh=>?_)
  .refine bad (λk=>?_);obtain⟨k1,k2,-⟩:=k;rw[k1] at h;simp at h;omega
  have h1:bX b=0:=by
   refine fq λk=>?_;simp[k] at h
  have h2:8<=(aY b).2.length:=by
   rw[h1] at h;simp at h;omega
  refine aw (λhp=>?_) (λhp=>?_)
  .have hp:yE (aY b)=1:=aI hp;refine⟨ab,ab,aw (λh8=>?_) (λh8=>?_)⟩
   .refine bad (λk=>?_);have:=k.2.2.1 hp;simp only[show toNat 0=0 from rfl,this] at h8;simp at h8
   ·(repeat (refine bY ?_;repeat refine bZ ?_));exact good ⟨h1,h2,λ_=>by simpa using h8,λk=>ab⟩
  have hp:¬ yE (aY b)=1:=aL hp;refine bU (λhq=>?_) (λhq=>?_)
  .have hq:yE (aY b)=6:=hq
   (repeat (refine bY ?_;repeat refine bZ ?_));refine aw (λh8=>?_) (λh8=>?_)
   .refine bad (λk=>?_);have:=k.2.2.2 hq;simp[dE] at h8;exact h8.2 (this ab)
   ·(repeat (refine bY ?_;repeat refine bZ ?_));refine good ⟨h1,h2,λk=>absurd k hp,λ_ hk=>?_⟩;refine fq λk=>?_;have k:¬ bits .and .u8 ((aY b).2.getD (toNat 13) default) 4=0:=k;rw[cM (show (13:Int)<((aY b).2.length:Int) by omega),dO k] at h8;cases h8
  .have hq:¬ yE (aY b)=6:=hq
   (repeat (refine bY ?_;repeat refine bZ ?_));exact good ⟨h1,h2,λk=>absurd k hp,λk=>absurd k hq⟩
theorem ND:aB 213 W5.spec:=aF Tryz.func213 (av (av aD (Ct.named BQ)) PI) aT af4
def aO4:Ct:=⟨[.val cI,.val cI],[.val .bool],λd=>[],λd=>((decide (iW d.1 d.2.1),()),())⟩
theorem aD2 :
 ∀(a b:Int),aq a/\aq b/\True->True-> ∀(c:Bool),c=decide (0<=a)->(ah c)/\(ar c)/\ ∀(d:Bool),(d=bif c then decide (a<=65535) else false)->(ah d)/\(ar d)/\ ∀(e:Bool),(e=bif d then decide (0<=b) else false)->(ah e)/\(ar e)/\(bif e then decide (b<=255) else false)=decide (iW a b):=by
  delta ah ar;rintro id ttl - -
  (repeat (refine bY ?_;repeat refine bZ ?_));rw[u3];simp[iW,dE,and_assoc]
theorem Qu:aB 212 aO4.spec:=aF Tryz.func212 aD aT aD2
def UG:Ct:=⟨[.val cP,.val cP,.val cI,.val cI,.val cI,.val (.sl bP)],[.own 5 bP,.val cI],λd=>[(d.2.2.2.2.2.1.length:Int)<=1073741824],λd=>((d8 (i7 d.1 d.2.1 d.2.2.1 d.2.2.2.1 d.2.2.2.2.1 d.2.2.2.2.2.1),fA (i7 d.1 d.2.1 d.2.2.1 d.2.2.2.1 d.2.2.2.2.1 d.2.2.2.2.2.1),()),())⟩
theorem av0 :
 ∀(a b c d e:Int)(f:ae),(0<=a/\a<=4294967295)/\(0<=b/\b<=4294967295)/\aq c/\aq d/\aq e/\(f.length<=maxLen/\ ∀(g:Int),g∈f->0<=g/\g<=255)/\True->(ac f)<=1073741824->(ac f)<=1073741824/\d8 (((0:Int),d,e,c,false,a,b),f)=d8 (i7 a b c d e f)/\fA (((0:Int),d,e,c,false,a,b),f)=fA (i7 a b c d e f):=by
  delta ac;rintro s d p i t data-hl;exact⟨hl,rfl,rfl⟩
theorem Pj:aB 215 UG.spec:=aF Tryz.func215 (av aD Pn) aT av0
def as9:Ct:=⟨[.val (.sl bP),.val cP,.val cI,.val cI,.val cI,.val cI],[.own 5 bP,.val cI],λd=>[(d.1.length:Int)<=1099511627776],λd=>((jv d.1 d.2.1 d.2.2.1 d.2.2.2.1 d.2.2.2.2.1 d.2.2.2.2.2.1,fY d.1 d.2.2.1 d.2.2.2.1 d.2.2.2.2.1 d.2.2.2.2.2.1,()),())⟩
theorem Zo :
 ∀(a:ae)(b c d e f:Int),(a.length<=maxLen/\ ∀(g:Int),g∈a->0<=g/\g<=255)/\(0<=b/\b<=4294967295)/\aq c/\aq d/\aq e/\aq f/\True->(ac a)<=1099511627776-> ∀(g:Bool),g= ! decide (c=11)->(ah g)/\(ar g)/\ ∀(h:Bool),(h=bif g then ! decide (c=3) else false)->(ah (! h))/\(aE h)/\ ∀(i:Bool),(i=bif h then true else decide (d<0))->(ah (! i))/\(aE i)/\ ∀(j:Bool),(j=bif i then true else decide (255<d))->((! j)->(ar (! j))/\(ar (! j))/\True)/\(ah (! j))/\(aE j)/\ao (bif j then true else ! decide (iW e f)) (([]:ae)=jv a b c d e f/\1=fY a c d e f) ((ac a)<=1099511627776/\ ∀(k:(Int×Int×Int×Int×Bool×Int×Int)×ae)(l:Bool),k=qB a/\l=decide (dH a)->ao (! l) (([]:ae)=jv a b c d e f/\17=fY a c d e f) ((0:Int)<=0/\(0:Int)<=28/\28<=(ac a)/\((length (cO a (toNat 0) (toNat 28))):Int)<=1073741824/\ ∀(m:ae)(n:Int),m=iE (c,d,cO a
 (toNat 0) (toNat 28))/\n=jK (c,d,cO a (toNat 0) (toNat 28))->ao (! decide (n=0)) (([]:ae)=jv a b c d e f/\n=fY a c d e f) ((ac m)<=1073741824/\d8 (i7 b k.1.2.2.2.2.2.1 (1:Int) e f m)=jv a b c d e f/\fA (i7 b k.1.2.2.2.2.2.1 (1:Int) e f m)=fY a c d e f))):=by
  delta ah ar aE ac;rintro b src kind code id ttl ⟨⟨-,hb⟩,-⟩ hl
  (repeat (refine bY ?_;repeat refine bZ ?_));by_cases hg:pF kind code id ttl
  rotate_left
  .refine aw (λ_=>W8 hg) (λh=>absurd ?_ hg);by_cases hn:iW id ttl
   .rw[cM hn] at h;refine⟨?_,?_,hn⟩ <;> simp[dE] at h <;> omega
   .rw[dO hn] at h;simp at h
  have hg':=hg;obtain⟨g1,g2,g3⟩:=hg';refine aw (λh=>?_) (λ_=>⟨hl,?_⟩)
  .exfalso;rw[cM g3] at h;simp[dE] at h;omega
  rintro d e ⟨rfl,rfl⟩;refine aw (λh=>Wm hg (by simpa using h)) (λh=>?_);have ha:dH b:=by simpa using h
  have hgd:=BW (src:=src) hg ha;obtain⟨-,h28,-⟩:=qU ha;rw[Re ha,UI];refine⟨ab,ab,ab,by rw[dA];omega,?_⟩;rintro n e ⟨rfl,rfl⟩;rw[hgd.2.2.1];refine aw (λh=>by simp at h) (λ_=>?_);have:=FG (kind,code,b.take 28);refine⟨ab,hgd.2.1.symm,?_⟩;rw[hgd.1];exact hgd.2.2.2
theorem LL:aB 217 as9.spec:=aF Tryz.func217 (av (av (av (av aD Qu) (Ct.named ND)) (Ct.named ay5)) Pj) aT Zo
def X6:Ct:=⟨[.val (.sl bP),.val cP,.val cI,.val cI],[.own 5 bP,.val cI],λd=>[(d.1.length:Int)<=1099511627776],λd=>((jw d.1 d.2.1 d.2.2.1 d.2.2.2.1,gI d.1 d.2.2.1 d.2.2.2.1,()),())⟩
def zI(a:ae)(b c d:Int) :=
 ([]:ae)=jw a b c d/\17=gI a c d
def HY(g:Int×Int×Int×Int×Int×Int×ae) :=
 (g.2.1,g.1,(0:Int),bits BinOp.and IntKind.i64 (aj (g.2.2.1+1)) (4294967295:Int),(20:Int),(0:Int),([]:ae))
theorem Z9 :
 ∀(a:ae)(b c d:Int),(a.length<=maxLen/\ ∀(e:Int),e∈a->0<=e/\e<=255)/\(0<=b/\b<=4294967295)/\aq c/\aq d/\True->(ac a)<=1099511627776->ao (! decide (iW c d)) (([]:ae)=jw a b c d/\1=gI a c d) ((ac a)<=1099511627776/\ ∀(e:(Int×Int×Int×Int×Bool×Int×Int)×ae)(f:Bool),e=qB a/\f=decide (dH a)->ao (! f) (zI a b c d) (ao (decide (e.1.2.2.2.1=1)) ((ac e.2)<=1000000/\ ∀(g:Bool)(h i:Int)(j:ae)(k:Int),(g,h,i,j)=gn e.2/\k=jF e.2->ao (! decide (k=0)) (zI a b c d) ((ac j)<=1073741824/\ ∀(l:ae)(m:Int),l=fH (true,h,i,j)/\m=kK (true,h,i,j)->(ac l)<=1073741824/\d8 (i7 b e.1.2.2.2.2.2.1 e.1.2.2.2.1 c d l)=jw a b c d/\fA (i7 b e.1.2.2.2.2.2.1 e.1.2.2.2.1 c d l)=gI a c d)) (ao (decide (e.1.2.2.2.1=17)) ((ac e.2)<=1000000/\ ∀(g h:Int)(i:ae)(j:Int),(g,h,i)=rb e.1.2.2.2.2.2.1 e.1.2.2.2.2.2.2
 e.2/\j=j6 e.1.2.2.2.2.2.1 e.1.2.2.2.2.2.2 e.2->ao (! decide (j=0)) (zI a b c d) ((ac a)<=1099511627776/\jv a b (3:Int) (3:Int) c d=jw a b c d/\fY a (3:Int) (3:Int) c d=gI a c d)) (ao (decide (e.1.2.2.2.1=6)) ((ac e.2)<=1000000/\ ∀(g:Int×Int×Int×Int×Int×Int×ae)(h:Int),g=fR e.1.2.2.2.2.2.1 e.1.2.2.2.2.2.2 e.2/\h=jC e.1.2.2.2.2.2.1 e.1.2.2.2.2.2.2 e.2-> ∀(i:Bool),i= ! decide (h=0)->(ah (! i))/\(ah (! i))/\(ah (! i))/\(aE i)/\ ∀(j:Bool),(j=bif i then true else decide (bits BinOp.and IntKind.i64 g.2.2.2.2.1 (2:Int)=0))->(ah (! j))/\(ah (! j))/\(ah (! j))/\(aE j)/\ao (bif j then true else ! decide (bits BinOp.and IntKind.i64 g.2.2.2.2.1 (4:Int)=0)) (zI a b c d) ((↑(0:Nat):Int)<=1000000/\ ∀(k:ae)(l:Int),k=fQ b e.1.2.2.2.2.2.1 (HY g)/\l=lJ (HY g)->(ac k)<=1073741824/\d8 (i7 b e.1.2.2.2.2.2.1 e.1.2.2.2.1 c d k)=jw a
 b c d/\fA (i7 b e.1.2.2.2.2.2.1 e.1.2.2.2.1 c d k)=gI a c d)) (zI a b c d))))):=by
  delta zI HY ah aE aj ac;rintro b src id ttl ⟨⟨-,hb⟩,-⟩ hl;by_cases hn:iW id ttl
  rotate_left
  .exact aw (λ_=>Zi hn) (λh=>absurd (by simpa using h) hn)
  refine aw (λh=>by simp[hn] at h) (λ_=>⟨hl,?_⟩);rintro _ _ ⟨rfl,rfl⟩;refine aw (λh=>yB hn (λk=>?_)) (λh=>?_)
  .have:=k.1;simp[this] at h
  have ha:dH b:=by simpa using h
  obtain⟨hd0,h28,hp1,hp6,-⟩:=qU ha;have hdl:=wy hd0;rw[Re ha];have hdb:bytes (b.drop 20):=wA hb;have hdr:(b.drop 20).length<=1480:=by rw[fv];omega
  have nofit:∀ k:Prop,(k->tv b->False)->k->([]:ae)=jw b src id ttl/\(17:Int)=gI b id ttl:=λk hk h=>yB hn (hk h);refine aw (λh1=>?_) (λh1=>aw (λh17=>?_) (λh17=>aw (λh6=>?_) (λh6=>?_)))
  .have h1:dm b=1:=aI h1;refine⟨by show ((b.drop 20).length:Int)<=_;omega,?_⟩;rintro r i q dt e ⟨hu,rfl⟩;refine aw (λh=>?_) (λh=>?_)
   .refine yB hn (λk=>?_);obtain⟨-,⟨-,k⟩|⟨k,-⟩|⟨k,-⟩⟩:=k
    .simp[k] at h
    .omega
    .omega
   have h:jF (b.drop 20)=0:=by simpa using h
   have hh:=C9 (src:=src) hn ha h1 h;have hlen:=PS (b.drop 20);have e2:(i,q,dt)=(gn (b.drop 20)).2:=jt Prod.snd hu;have e3:dt=(gn (b.drop 20)).2.2.2:=by rw[← e2]
   refine⟨by rw[e3];omega,?_⟩;rintro o e ⟨rfl,rfl⟩;rw[show ((true,i,q,dt):n9)=(true,(i,q,dt)) from rfl,e2];have hle:=Tj (true,(gn (b.drop 20)).2);refine⟨ab,?_,?_⟩
   .rw[hh.1,← h1];rfl
   .rw[hh.2];exact Al hn (by have:=h1;unfold dm at this;simp only;omega) hle
  .have h1:=aL h1;have h17:dm b=17:=aI h17;refine⟨by show ((b.drop 20).length:Int)<=_;omega,?_⟩;rintro sp dp dt e ⟨hu,rfl⟩;refine aw (λh=>?_) (λh=>?_)
   .refine yB hn (λk=>?_);obtain⟨-,⟨k,-⟩|⟨-,k⟩|⟨k,-⟩⟩:=k
    .omega
    .have k:j6 (bI b).2.2.2.2.2.1 (bI b).2.2.2.2.2.2 (b.drop 20)=0:=k;simp[k] at h
    .omega
   have h:j6 (cL b) (gf b) (b.drop 20)=0:=by
    have:j6 (bI b).2.2.2.2.2.1 (bI b).2.2.2.2.2.2 (b.drop 20)=0:=by simpa using h
    exact this
   have hh:=FF (src:=src) hn ha h17 h;exact⟨hl,hh.1.symm,by rw[hh.2,Hu hn ha]⟩
  .have h1:=aL h1;have h17:=aL h17;have h6:dm b=6:=aI h6;refine⟨by show ((b.drop 20).length:Int)<=_;omega,?_⟩;rintro t e ⟨ht,rfl⟩;have ht:t=fR (cL b) (gf b) (b.drop 20):=ht;have hr:=PU (s:=cL b) (d:=gf b) hdb;rw[← ht] at hr;have ee:jC (bI b).2.2.2.2.2.1 (bI b).2.2.2.2.2.2 (b.drop 20)=jC (cL b) (gf b) (b.drop 20):=rfl;rw[ee]
   (repeat (refine bY ?_;repeat refine bZ ?_));refine aw (λh=>?_) (λh=>?_)
   .refine yB hn (λk=>?_);obtain⟨-,⟨k,-⟩|⟨k,-⟩|⟨-,k1,k2,k3⟩⟩:=k
    .omega
    .omega
    .rw[← ht] at k2 k3;simp[k1,k2,k3] at h
   have k1:jC (cL b) (gf b) (b.drop 20)=0:=fq λk=>by simp[k] at h
   have k2:bits .and .i64 t.2.2.2.2.1 2≠0:=λk=>by simp[k1,k] at h
   have k3:bits .and .i64 t.2.2.2.2.1 4=0:=fq λk=>by simp[k1,k2,k] at h
   have hh:=EW (src:=src) hn ha h6 k1 (by rw[← ht];exact k2) (by rw[← ht];exact k3);refine⟨aA,?_⟩;rintro o e ⟨rfl,rfl⟩;rw[aG (n:=t.2.2.1+1) ab ab,aI4];have hle:=UL src (cL b) (lZ t);have er:((t.2.1,t.1,0,(t.2.2.1+1)%4294967296,20,0,[]):mO)=lZ t:=rfl;rw[er];refine⟨by show ((fQ src (cL b) (lZ t)).length:Int)<=_;omega,?_,?_⟩
   .rw[hh.1,← ht,← h6];rfl
   .rw[hh.2];exact Al hn (by have:=h6;unfold dm at this;simp only;omega) hle
  .have h1:=aL h1;have h17:=aL h17;have h6:=aL h6;refine yB hn (λk=>?_);obtain⟨-,⟨k,-⟩|⟨k,-⟩|⟨k,-⟩⟩:=k
   .exact h1 k
   .exact h17 k
   .exact h6 k
theorem au2:aB 199 X6.spec:=aF Tryz.func199 (av (av (av (av (av (av (av (av (av aD Qu) (Ct.named ND)) (Ct.named L7)) (Ct.named ad2)) (Ct.named Vj)) (Ct.named Rr)) (Ct.named VW)) LL) Pj) aT Z9
def aP6:Ct:=⟨[.val (.sl bP),.val cI,.val cI],[.val cI],λd=>[(d.1.length:Int)<=1099511627776],λd=>((cB d.1 d.2.1 d.2.2.1,()),())⟩
theorem aD5 :
 ∀(a:ae)(b c:Int),(a.length<=maxLen/\ ∀(d:Int),d∈a->0<=d/\d<=255)/\aq b/\aq c/\True->(ac a)<=1099511627776->(ac a)<=9223372036854775807/\cB a b c=cB a b c:=by
  delta ac;rintro b i w-hl;exact⟨ab,rfl⟩
theorem Nx:aB 126 aP6.spec:=aF Tryz.func126 (av aD CV) aT aD5
def aw8:Ct:=⟨[.val (.sl bP)],[.agg pM,.val .bool],λd=>[(d.1.length:Int)<=1000000],λd=>(((fG d.1).1,(fG d.1).2,()),())⟩
def mj(a:ae) :=
 cO a (toNat 20) (toNat (ac a))
def pH(b:cJ)(h:Int) :=
 (b.2.2.2.2.2.1,b.2.2.2.2.2.2,b.2.2.2.1,aj (h -20000),b.2.1,b.2.2.1)
def pJ(b:cJ)(h:Int) :=
 (b.2.2.2.2.2.1,b.2.2.2.2.2.2,b.2.2.2.1,aj (h -16384),b.2.1,b.2.2.1)
def ou :=
 ((0:Int),(0:Int),(0:Int),(0:Int),(0:Int),(0:Int))
def mF(a:ae) :=
 ((length (mj a)):Int)
def DQ(a:ae)(b:cJ)(h:Int)(m:Bool) :=
 (ah m)/\(ah m)/\(ar m)/\(pH b h)=(fG a).1/\(bif m then decide (cf (pH b h)=0) else false)=(fG a).2
def Iu(a:ae)(b:cJ)(h:Int)(l:Bool) :=
 ao l ((ar l)/\(mF a)<=1099511627776/\ ∀(m:Int),m=cB (mj a) (6:Int) (2:Int)->(ah l)/\(ah l)/\(ah l)/\(ar l)/\ ∀(n:Bool),(n=bif l then decide (m=aj (b.2.1+1)) else false)->(ah n)/\(ah n)/\(ar n)/\(pH b h)=(fG a).1/\(bif n then decide (cf (pH b h)=0) else false)=(fG a).2) ((ah l)/\(ah l)/\l=false/\(l->false=true)/\ ∀(m:Bool),(m=bif l then false else false)->(DQ a b h m))
def Hc(a:ae)(b:cJ)(h:Int)(l:Bool) :=
 ao l ((ar l)/\(mF a)<=1099511627776/\ ∀(m:Int),m=cB (mj a) (6:Int) (2:Int)->(ah l)/\(ah l)/\(ar l)/\ ∀(n:Bool),(n=bif l then decide (m=b.2.1) else false)->(ah n)/\(ah n)/\(ar n)/\(pJ b h)=(fG a).1/\(bif n then decide (cf (pJ b h)=0) else false)=(fG a).2) ((ah l)/\l=false/\(l->false=true)/\ ∀(m:Bool),(m=bif l then false else false)->(ah m)/\(ah m)/\(ar m)/\(pJ b h)=(fG a).1/\(bif m then decide (cf (pJ b h)=0) else false)=(fG a).2)
def CG(a:ae)(b:cJ)(h:Int)(l:Bool) :=
 (ah l)/\(ah l)/\(ar l)/\(pH b h)=(fG a).1/\(bif l then decide (cf (pH b h)=0) else false)=(fG a).2
def zq(k l:Bool) :=
 l=bif k then false else false
theorem Zz :
 ∀(a:ae),(a.length<=maxLen/\ ∀(b:Int),b∈a->0<=b/\b<=255)/\True->(ac a)<=1000000->(ac a)<=1099511627776/\ ∀(b:cJ)(c d:Int),b=jO a/\c=i9 a/\d=dX a-> ∀(e:Bool),e= ! decide (d=0)->(ah (! e))/\(ah (! e))/\(aE e)/\ ∀(f:Bool),(f=bif e then true else ! decide ((ac a)=28))->(ah (! f))/\(ah (! f))/\(aE f)/\ ∀(g:Bool),(g=bif f then true else ! decide (b.1=0))->(ah (! g))/\(ah (! g))/\(aE g)/\ao (bif g then true else ! b.2.2.2.2.1) ((ou)=(fG a).1/\false=(fG a).2) ((0:Int)<=20/\20<=(ac a)/\(ac a)<=(ac a)/\ao (decide (b.2.2.2.1=1)) ((mF a)<=1099511627776/\ ∀(h:Int),h=cB (mj a) (2:Int) (2:Int)-> ∀(i:Bool),i=decide (c=30)->ao i ((ar i)/\(mF a)<=1099511627776/\ ∀(j:Int),j=cB (mj a) (0:Int) (2:Int)->(ar i)/\ ∀(k:Bool),(k=bif i then decide (j=2048) else false)->ao k ((ar k)/\(mF a)<=1099511627776/\ ∀(l:Int),l=cB (mj a) (4:Int) (2:Int)->(ar k)/\
 ∀(m:Bool),(m=bif k then decide (l=21075) else false)->ao m ((ar m)/\(mF a)<=1099511627776/\ ∀(n:Int),n=cB (mj a) (6:Int) (2:Int)->(ah m)/\(ah m)/\(ar m)/\ ∀(o:Bool),(o=bif m then decide (n=b.2.1) else false)->(ah o)/\(ah o)/\(ar o)/\(pJ b h)=(fG a).1/\(bif o then decide (cf (pJ b h)=0) else false)=(fG a).2) ((ah m)/\m=false/\(m->false=true)/\ ∀(n:Bool),(n=bif m then false else false)->(ah n)/\(ah n)/\(ar n)/\(pJ b h)=(fG a).1/\(bif n then decide (cf (pJ b h)=0) else false)=(fG a).2)) (k=false/\(k->false=true)/\ ∀(l:Bool),(zq k l)->(Hc a b h l))) (i=false/\(i->false=true)/\ ∀(j:Bool),(j=bif i then false else false)->ao j ((ar j)/\(mF a)<=1099511627776/\ ∀(k:Int),k=cB (mj a) (4:Int) (2:Int)->(ar j)/\ ∀(l:Bool),(l=bif j then decide (k=21075) else false)->(Hc a b h l)) (j=false/\(j->false=true)/\ ∀(k:Bool),(k=bif j then false else
 false)->ao k ((ar k)/\(mF a)<=1099511627776/\ ∀(l:Int),l=cB (mj a) (6:Int) (2:Int)->(ah k)/\(ah k)/\(ar k)/\ ∀(m:Bool),(m=bif k then decide (l=b.2.1) else false)->(ah m)/\(ah m)/\(ar m)/\(pJ b h)=(fG a).1/\(bif m then decide (cf (pJ b h)=0) else false)=(fG a).2) ((ah k)/\k=false/\(k->false=true)/\ ∀(l:Bool),(zq k l)->(ah l)/\(ah l)/\(ar l)/\(pJ b h)=(fG a).1/\(bif l then decide (cf (pJ b h)=0) else false)=(fG a).2)))) (ao (decide (b.2.2.2.1=17)) ((mF a)<=1099511627776/\ ∀(h:Int),h=cB (mj a) (0:Int) (2:Int)-> ∀(i:Bool),i=decide (c=30)->ao i ((ar i)/\(mF a)<=1099511627776/\ ∀(j:Int),j=cB (mj a) (2:Int) (2:Int)->(ar i)/\ ∀(k:Bool),(k=bif i then decide (j=33434) else false)->ao k ((ar k)/\(mF a)<=1099511627776/\ ∀(l:Int),l=cB (mj a) (4:Int) (2:Int)->(ah k)/\(ah k)/\(ar k)/\ ∀(m:Bool),(m=bif k then decide (l=aj (c -20))
 else false)->ao m ((ar m)/\(mF a)<=1099511627776/\ ∀(n:Int),n=cB (mj a) (6:Int) (2:Int)->(ah m)/\(ah m)/\(ah m)/\(ar m)/\ ∀(o:Bool),(o=bif m then decide (n=aj (b.2.1+1)) else false)->(ah o)/\(ah o)/\(ar o)/\(pH b h)=(fG a).1/\(bif o then decide (cf (pH b h)=0) else false)=(fG a).2) ((ah m)/\(ah m)/\m=false/\(m->false=true)/\ ∀(n:Bool),(n=bif m then false else false)->(ah n)/\(ah n)/\(ar n)/\(pH b h)=(fG a).1/\(bif n then decide (cf (pH b h)=0) else false)=(fG a).2)) ((ah k)/\k=false/\(k->false=true)/\ ∀(l:Bool),(zq k l)->(Iu a b h l))) (i=false/\(i->false=true)/\ ∀(j:Bool),(j=bif i then false else false)->ao j ((ar j)/\(mF a)<=1099511627776/\ ∀(k:Int),k=cB (mj a) (4:Int) (2:Int)->(ah j)/\(ah j)/\(ar j)/\ ∀(l:Bool),(l=bif j then decide (k=aj (c -20)) else false)->(Iu a b h l)) ((ah j)/\j=false/\(j->false=true)/\
 ∀(k:Bool),(k=bif j then false else false)->ao k ((ar k)/\(mF a)<=1099511627776/\ ∀(l:Int),l=cB (mj a) (6:Int) (2:Int)->(ah k)/\(ah k)/\(ah k)/\(ar k)/\ ∀(m:Bool),(m=bif k then decide (l=aj (b.2.1+1)) else false)->(DQ a b h m)) ((ah k)/\(ah k)/\k=false/\(k->false=true)/\ ∀(l:Bool),(zq k l)->(CG a b h l))))) (ao (decide (b.2.2.2.1=6)) ((mF a)<=1099511627776/\ ∀(h:Int),h=cB (mj a) (0:Int) (2:Int)-> ∀(i:Bool),i=decide (c=40)->ao i ((ar i)/\(mF a)<=1099511627776/\ ∀(j:Int),j=cB (mj a) (2:Int) (2:Int)->(ar i)/\ ∀(k:Bool),(k=bif i then decide (j=80) else false)->ao k ((ar k)/\(mF a)<=1099511627776/\ ∀(l:Int),l=cB (mj a) (4:Int) (4:Int)->(ah k)/\(ah k)/\(ar k)/\ ∀(m:Bool),(m=bif k then decide (l=b.2.1) else false)->(DQ a b h m)) ((ah k)/\k=false/\(k->false=true)/\ ∀(l:Bool),(zq k l)->(CG a b h l))) (i=false/\(i->false=true)/\
 ∀(j:Bool),(j=bif i then false else false)->ao j ((ar j)/\(mF a)<=1099511627776/\ ∀(k:Int),k=cB (mj a) (4:Int) (4:Int)->(ah j)/\(ah j)/\(ar j)/\ ∀(l:Bool),(l=bif j then decide (k=b.2.1) else false)->(CG a b h l)) ((ah j)/\j=false/\(j->false=true)/\ ∀(k:Bool),(k=bif j then false else false)->(ah k)/\(ah k)/\(ar k)/\(pH b h)=(fG a).1/\(bif k then decide (cf (pH b h)=0) else false)=(fG a).2))) (∀(h:Bool),h=false->(ah h)/\(ah h)/\(ar h)/\(b.2.2.2.2.2.1,b.2.2.2.2.2.2,b.2.2.2.1,(0:Int),b.2.1,b.2.2.1)=(fG a).1/\(bif h then decide (cf (b.2.2.2.2.2.1,b.2.2.2.2.2.2,b.2.2.2.1,(0:Int),b.2.1,b.2.2.1)=0) else false)=(fG a).2)))):=by
  delta mj pH pJ ou Iu Hc mF CG DQ zq ah ar aE aj ac;rintro b ⟨⟨-,hb⟩,-⟩ hl;refine⟨ab,?_⟩;rintro d n e ⟨rfl,rfl,rfl⟩
  (repeat (refine bY ?_;repeat refine bZ ?_));refine aw (λh=>?_) (λh=>?_)
  .rw[fG,af]
   .exact⟨rfl,rfl⟩
   rintro⟨k1,k2,k3,k4⟩;rw[jO,am k1] at h;simp[k1,k2,k3,k4] at h
  have k1:dX b=0:=fq λk=>by simp[k] at h
  rw[jO,am k1] at h ⊢;have hq:BB b:=by
   simp[dE,k1] at h;exact⟨k1,by have:=h.1.1;omega,h.1.2,h.2⟩
  clear h;obtain⟨-,h28,-,-⟩:=id hq;have hs:cO b (toNat 20) (toNat (b.length:Int))=b.drop 20:=wC b 20;have hdl:((b.drop 20).length:Int)=8:=by rw[fv];omega
  have wd:∀ i,aH (b.drop 20) i=aH b (20+i):=λi=>by unfold aH;rw[List.drop_drop]
  have g0:cB (b.drop 20) 0 2=aH b 20:=by rw[nw ab ab,wd];rfl
  have g2:cB (b.drop 20) 2 2=aH b 22:=by rw[nw ab ab,wd];rfl
  have g4:cB (b.drop 20) 4 2=aH b 24:=by rw[nw ab ab,wd];rfl
  have g6:cB (b.drop 20) 6 2=aH b 26:=by rw[nw ab ab,wd];rfl
  have g44:cB (b.drop 20) 4 4=fp ((b.drop 24).take 4):=by rw[BD ab ab,List.drop_drop];rfl
  have w20:=nO hb 20;have w22:=nO hb 22;have hid:=nO hb 4;have hlen:=nO hb 2;have eid:(bI b).2.1=aH b 4:=rfl;rw[fG,am hq,hs,i9,am k1,g0,g2,g4,g6,g44];have le1:((b.drop 20).length:Int)<=1099511627776:=ab;have e22:IntKind.i64.wrap (aH b 22-16384)=aH b 22-16384:=aG ab ab;have e20:IntKind.i64.wrap (aH b 20-20000)=aH b 20-20000:=aG ab ab;have e2:IntKind.i64.wrap (aH b 2-20)=aH b 2-20:=aG ab ab;have e1:IntKind.i64.wrap ((bI b).2.1+1)=(bI b).2.1+1:=aG (by rw[eid];omega) (by rw[eid];omega);refine⟨ab,ab,ab,?_⟩;have ep:(bI b).2.2.2.1=dm b:=rfl;rw[ep];refine aw (λh1=>?_) (λh1=>aw (λh17=>?_) (λh17=>aw (λh6=>?_) (λh6=>?_)))
  .have h1:=aI h1;have eP:qQ b=((bI b).2.2.2.2.2.1,(bI b).2.2.2.2.2.2,dm b,aH b 22-16384,(bI b).2.1,(bI b).2.2.1):=by
    rw[qQ,xq,am h1];rfl
   have eR:qh b↔(aH b 2=30/\aH b 20=2048/\aH b 24=21075/\aH b 26=(bI b).2.1):=by
    unfold qh;simp[h1]
   refine⟨le1,?_⟩;rintro _ rfl;rw[eP,e22];simp only[eR];by_cases c1:aH b 2=30 <;> by_cases c2:aH b 20=2048 <;> by_cases c3:aH b 24=21075 <;> by_cases c4:aH b 26=(bI b).2.1 <;> simp[ao,c1,c2,c3,c4,h28]
  .have h1:¬ dm b=1:=aL h1;have h17:=aI h17;have eP:qQ b=((bI b).2.2.2.2.2.1,(bI b).2.2.2.2.2.2,dm b,aH b 20-20000,(bI b).2.1,(bI b).2.2.1):=by
    rw[qQ,xq,af h1,am (.inl h17)];rfl
   have eR:qh b↔(aH b 2=30/\aH b 22=33434/\aH b 24=aH b 2-20/\aH b 26=(bI b).2.1+1):=by
    unfold qh;simp[h17]
   refine⟨le1,?_⟩;rintro _ rfl;rw[eP,e20];simp only[eR];by_cases c1:aH b 2=30 <;> by_cases c2:aH b 22=33434 <;> by_cases c3:aH b 24=10 <;> by_cases c4:aH b 26=(bI b).2.1+1 <;> simp[ao,c1,c2,c3,c4,h28,e1,e2,show IntKind.i64.wrap 10=10 from rfl]
  .have h1:¬ dm b=1:=aL h1;have h17:¬ dm b=17:=aL h17;have h6:=aI h6;have eP:qQ b=((bI b).2.2.2.2.2.1,(bI b).2.2.2.2.2.2,dm b,aH b 20-20000,(bI b).2.1,(bI b).2.2.1):=by
    rw[qQ,xq,af h1,am (.inr h6)];rfl
   have eR:qh b↔(aH b 2=40/\aH b 22=80/\fp ((b.drop 24).take 4)=(bI b).2.1):=by
    unfold qh;simp[h6]
   refine⟨le1,?_⟩;rintro _ rfl;rw[eP,e20];simp only[eR];by_cases c1:aH b 2=40 <;> by_cases c2:aH b 22=80 <;> by_cases c3:fp ((b.drop 24).take 4)=(bI b).2.1 <;> simp[ao,c1,c2,c3,h28]
  .have h1:¬ dm b=1:=aL h1;have h17:¬ dm b=17:=aL h17;have h6:¬ dm b=6:=aL h6;have eP:qQ b=((bI b).2.2.2.2.2.1,(bI b).2.2.2.2.2.2,dm b,0,(bI b).2.1,(bI b).2.2.1):=by
    rw[qQ,xq,af h1,af ab];rfl
   have eR:¬ qh b:=by
    unfold qh;simp[h1,h17,h6]
   rw[eP];simp[eR]
theorem ao8:aB 128 aw8.spec:=aF Tryz.func128 (av (av (av aD (Ct.named Lg)) (Ct.named Nx)) N3) aT Zz
def XM:Ct:=⟨[.agg jS,.val (.sl bP)],[.agg pM,.agg Ea,.val .bool],λd=>[(d.2.1.length:Int)<=1000000],λd=>(((oT d.1.2.2.2.2.2.2 d.2.1).1,(oT d.1.2.2.2.2.2.2 d.2.1).2.1,(oT d.1.2.2.2.2.2.2 d.2.1).2.2,()),())⟩
def pY(a:cJ)(b:ae) :=
 oT a.2.2.2.2.2.2 b
theorem Uy :
 ∀(a:cJ)(b:ae),CT.wf jS a/\(b.length<=maxLen/\ ∀(c:Int),c∈b->0<=c/\c<=255)/\True->(ac b)<=1000000->(ac b)<=1000000/\ ∀(c d:Int)(e:ae)(f:Int),(c,d,e)=kr b/\f=kJ b->ao (! decide (f=0)) ((ou)=(pY a b).1/\(ou)=(pY a b).2.1/\false=(pY a b).2.2) ((ac e)<=1000000/\ ∀(g h i j k l:Int)(m:Bool),(g,h,i,j,k,l)=(fG e).1/\m=(fG e).2->ao (decide (c=11)) (∀(n:Bool),n=m->(ah n)/\(ah n)/\(n->(ar n)/\(ar n)/\True)/\(ar n)/\(g,h,i,j,k,(0:Int))=(pY a b).1/\((0:Int),(1:Int),d,(0:Int),(0:Int),l)=(pY a b).2.1/\(bif n then decide (g=a.2.2.2.2.2.2) else false)=(pY a b).2.2) (ao (decide (d=3)) (∀(n:Bool),n=m->(ah n)/\(ah n)/\(n->(ar n)/\(ar n)/\True)/\(ar n)/\(g,h,i,j,k,(0:Int))=(pY a b).1/\((0:Int),(3:Int),d,(0:Int),(0:Int),l)=(pY a b).2.1/\(bif n then decide (g=a.2.2.2.2.2.2) else false)=(pY a b).2.2) (∀(n:Bool),n=m->(ah
 n)/\(ah n)/\(n->(ar n)/\(ar n)/\True)/\(ar n)/\(g,h,i,j,k,(0:Int))=(pY a b).1/\((0:Int),(5:Int),d,(0:Int),(0:Int),l)=(pY a b).2.1/\(bif n then decide (g=a.2.2.2.2.2.2) else false)=(pY a b).2.2))):=by
  delta ou pY ah ar ac;rintro h b ⟨-,⟨-,hb⟩,-⟩ hl;refine⟨hl,?_⟩;rintro ty code q e ⟨hu,rfl⟩;refine aw (λhe=>?_) (λhe=>?_)
  .have he:¬ kJ b=0:=by simpa using he
   rw[oT,af he];exact⟨rfl,rfl,rfl⟩
  have he:kJ b=0:=by simpa using he
  have hlen:=Zp b;rw[oT,am he,← hu];rw[← hu] at hlen;refine⟨by simp only at hlen;omega,?_⟩;rintro s d p f t l ok ⟨hp,rfl⟩;simp only at hp ⊢;rw[← hp];simp only[tJ,uR];refine aw (λh1=>?_) (λh1=>aw (λh3=>?_) (λh3=>?_))
  ·(repeat (intro (b_:Bool) (hb_:b_=_);(repeat refine⟨(by first|(simp;done)|(rw[hb_];simp;done)|(rw[hb_];simp;omega)|(rw[hb_];simp;intros;omega)|(rw[hb_];simp +contextual;done)),?_⟩);subst hb_));rw[am (aI h1)];exact⟨rfl,by cases (fG q).2 <;> rfl⟩
  ·(repeat (intro (b_:Bool) (hb_:b_=_);(repeat refine⟨(by first|(simp;done)|(rw[hb_];simp;done)|(rw[hb_];simp;omega)|(rw[hb_];simp;intros;omega)|(rw[hb_];simp +contextual;done)),?_⟩);subst hb_));rw[af (aL h1),am (aI h3)];exact⟨rfl,by cases (fG q).2 <;> rfl⟩
  ·(repeat (intro (b_:Bool) (hb_:b_=_);(repeat refine⟨(by first|(simp;done)|(rw[hb_];simp;done)|(rw[hb_];simp;omega)|(rw[hb_];simp;intros;omega)|(rw[hb_];simp +contextual;done)),?_⟩);subst hb_));rw[af (aL h1),af (aL h3)];exact⟨rfl,by cases (fG q).2 <;> rfl⟩
theorem as3:aB 58 XM.spec:=aF Tryz.func58 (av (av aD (Ct.named Vm)) (Ct.named ao8)) aT Uy
def aw5:Ct:=⟨[.agg jS,.val (.sl bP)],[.agg pM,.agg Ea,.val .bool],λd=>[(d.2.1.length:Int)<=1000000],λd=>(((qW d.1.2.2.2.2.2.1 d.1.2.2.2.2.2.2 d.2.1).1,(qW d.1.2.2.2.2.2.1 d.1.2.2.2.2.2.2 d.2.1).2.1,(qW d.1.2.2.2.2.2.1 d.1.2.2.2.2.2.2 d.2.1).2.2,()),())⟩
def xF(a:cJ)(b:ae) :=
 qW a.2.2.2.2.2.1 a.2.2.2.2.2.2 b
theorem aa8 :
 ∀(a:cJ)(b:ae),CT.wf jS a/\(b.length<=maxLen/\ ∀(c:Int),c∈b->0<=c/\c<=255)/\True->(ac b)<=1000000->(ac b)<=1000000/\ ∀(c:Bool)(d e:Int)(f:ae)(g:Int),(c,d,e,f)=gn b/\g=jF b-> ∀(h:Bool),h= ! decide (g=0)->(ah (! h))/\(ah (! h))/\(aE h)/\ ∀(i:Bool),(i=bif h then true else ! c)->(ah (! i))/\(ah (! i))/\(aE i)/\ ∀(j:Bool),(j=bif i then true else ! decide (d=21075))->(ah (! j))/\(ah (! j))/\(ah (! j))/\(aE j)/\ao (bif j then true else ! decide ((ac f)=2)) ((ou)=(xF a b).1/\(ou)=(xF a b).2.1/\false=(xF a b).2.2) ((ac b)<=1099511627776/\ ∀(k:Int),k=cB b (2:Int) (2:Int)->(a.2.2.2.2.2.2,a.2.2.2.2.2.1,(1:Int),aj (k -18432),e,(0:Int))=(xF a b).1/\((0:Int),(2:Int),(0:Int),(0:Int),(0:Int),(0:Int))=(xF a b).2.1/\true=(xF a b).2.2):=by
  delta ou xF ah aE aj ac;rintro h b ⟨-,⟨-,hb⟩,-⟩ hl;refine⟨hl,?_⟩;rintro r i q dt e ⟨hu,rfl⟩
  (repeat (intro (b_:Bool) (hb_:b_=_);(repeat refine⟨(by first|(simp +contextual;done)|(rw[hb_];simp +contextual;done)|(rw[hb_];simp;omega)|(rw[hb_];simp;intros;omega)|(rw[hb_];simp +contextual;intros;omega)|(intros;simp_all;done)|(intros;simp_all;omega)),?_⟩)));subst_vars;refine aw (λk=>?_) (λk=>?_)
  .rw[qW,af]
   .exact⟨rfl,rfl,rfl⟩
   .rintro⟨k1,k2,k3,k4⟩;rw[← hu] at k2 k3 k4;simp only at k2 k3 k4;simp[k1,k2,k3,k4] at k
  .have hg:B9 b:=by
    simp[dE] at k;refine⟨k.1.1.1,?_,?_,?_⟩ <;> rw[← hu] <;> simp only
    .exact k.1.1.2
    .exact k.1.2
    .have:=k.2;omega
   have h8:=(U7 hg.1).1;have hw:=nO hb 2;refine⟨ab,?_⟩;rintro _ rfl;rw[nw ab ab,show toNat 2=2 from rfl,aG ab ab,qW,am hg,← hu];exact⟨rfl,rfl,rfl⟩
theorem ay3:aB 57 aw5.spec:=aF Tryz.func57 (av (av aD (Ct.named L7)) (Ct.named Nx)) aT aa8
def ZD:Ct:=⟨[.agg jS,.val (.sl bP)],[.agg pM,.agg Ea,.val .bool],λd=>[(d.2.1.length:Int)<=1000000],λd=>(((qC d.1.2.2.2.2.2.1 d.1.2.2.2.2.2.2 d.2.1).1,(qC d.1.2.2.2.2.2.1 d.1.2.2.2.2.2.2 d.2.1).2.1,(qC d.1.2.2.2.2.2.1 d.1.2.2.2.2.2.2 d.2.1).2.2,()),())⟩
def xo(a:cJ)(b:ae) :=
 qC a.2.2.2.2.2.1 a.2.2.2.2.2.2 b
theorem ak5 :
 ∀(a:cJ)(b:ae),CT.wf jS a/\(b.length<=maxLen/\ ∀(c:Int),c∈b->0<=c/\c<=255)/\True->(ac b)<=1000000->(ac b)<=1000000/\ ∀(c:Int×Int×Int×Int×Int×Int×ae)(d:Int),c=fR a.2.2.2.2.2.1 a.2.2.2.2.2.2 b/\d=jC a.2.2.2.2.2.1 a.2.2.2.2.2.2 b-> ∀(e:Bool),e= ! decide (d=0)->(ah (! e))/\(ah (! e))/\(aE e)/\ ∀(f:Bool),(f=bif e then true else ! decide (c.1=80))->(ah (! f))/\(ah (! f))/\(aE f)/\ ∀(g:Bool),(g=bif f then true else ! decide (c.2.2.1=0))->(ah (! g))/\(ah (! g))/\(aE g)/\ ∀(h:Bool),(h=bif g then true else ! decide (c.2.2.2.2.1=20))->(ah (! h))/\(ah (! h))/\(aE h)/\ ∀(i:Bool),(i=bif h then true else ! decide (c.2.2.2.2.2.1=0))->(ah (! i))/\(ah (! i))/\(ah (! i))/\(aE i)/\ao (bif i then true else decide (0<(ac c.2.2.2.2.2.2))) ((ou)=(xo a b).1/\(ou)=(xo a b).2.1/\false=(xo a b).2.2) ((a.2.2.2.2.2.2,a.2.2.2.2.2.1,(6:Int),aj (c.2.1
 -20000),aj (c.2.2.2.1 -1),(0:Int))=(xo a b).1/\((0:Int),(4:Int),(0:Int),(0:Int),(0:Int),(0:Int))=(xo a b).2.1/\true=(xo a b).2.2):=by
  delta ou xo ah aE aj ac;rintro h b ⟨-,⟨-,hb⟩,-⟩ hl;refine⟨hl,?_⟩;rintro t e ⟨ht,rfl⟩
  (repeat (intro (b_:Bool) (hb_:b_=_);(repeat refine⟨(by first|(simp +contextual;done)|(rw[hb_];simp +contextual;done)|(rw[hb_];simp;omega)|(rw[hb_];simp;intros;omega)|(rw[hb_];simp +contextual;intros;omega)|(intros;simp_all;done)|(intros;simp_all;omega)),?_⟩)));subst_vars;refine aw (λk=>?_) (λk=>?_)
  .rw[qC,af]
   .exact⟨rfl,rfl,rfl⟩
   .rintro⟨k1,k2,k3,k4,k5,k6⟩;simp[k1,k2,k3,k4,k5,k6] at k
  .have hg:B3 h.2.2.2.2.2.1 h.2.2.2.2.2.2 b:=by
    simp[dE] at k;exact⟨k.1.1.1.1.1,k.1.1.1.1.2,k.1.1.1.2,k.1.1.2,k.1.2,k.2⟩
   have hr:=PU (s:=h.2.2.2.2.2.1) (d:=h.2.2.2.2.2.2) hb;rw[aG ab ab,aG ab ab,qC,am hg];exact⟨rfl,rfl,rfl⟩
theorem YW:aB 59 ZD.spec:=aF Tryz.func59 (av aD (Ct.named Rr)) aT ak5
def aq6:Ct:=⟨[.val (.sl bP)],[.agg pM,.agg Ea,.val cI],λd=>[(d.1.length:Int)<=1000000],λd=>(((jQ d.1).1,(jQ d.1).2,pT d.1,()),())⟩
def FO(a:ae) :=
 (ou)=(jQ a).1/\(ou)=(jQ a).2/\17=pT a
def Dv(a:ae)(b:(Int×Int×Int×Int×Bool×Int×Int)×ae)(f g h i j k m n q:Int)(r:Bool) :=
 ∀(s:Bool),s= ! r->(ah (! s))/\(ah (! s))/\(aE s)/\ao (bif s then true else ! decide (cf (f,g,h,i,j,(1:Int))=0)) (FO a) ((f,g,h,i,j,k)=(jQ a).1/\(b.1.2.2.2.2.2.1,m,n,b.1.2.2.1,b.1.2.1,q)=(jQ a).2/\0=pT a)
theorem aE2 :
 ∀(a:ae),(a.length<=maxLen/\ ∀(b:Int),b∈a->0<=b/\b<=255)/\True->(ac a)<=1000000->(ac a)<=1099511627776/\ ∀(b:(Int×Int×Int×Int×Bool×Int×Int)×ae)(c:Int),b=aY a/\c=bX a->ao (! decide (c=0)) (FO a) (∀(d:Bool),d=decide (b.1.2.2.2.1=1)->(ah d)/\(ah d)/\(ah d)/\(ar d)/\ ∀(e:Bool),(e=bif d then decide (0<(ac b.2)) else false)->(ah e)/\(e->(ar e)/\(0:Int)<=0/\0<(ac b.2)/\True)/\(ah e)/\(ah e)/\(ar e)/\ao (bif e then decide (getD b.2 (toNat 0) default=0) else false) ((ac b.2)<=1000000/\ ∀(f g h i j k l m n o p q:Int)(r:Bool),(f,g,h,i,j,k)=(qW b.1.2.2.2.2.2.1 b.1.2.2.2.2.2.2 b.2).1/\(l,m,n,o,p,q)=(qW b.1.2.2.2.2.2.1 b.1.2.2.2.2.2.2 b.2).2.1/\r=(qW b.1.2.2.2.2.2.1 b.1.2.2.2.2.2.2 b.2).2.2-> (Dv a b f g h i j k m n q r)) (ao (decide (b.1.2.2.2.1=1)) ((ac b.2)<=1000000/\ ∀(f g h i j k l m n o p q:Int)(r:Bool),(f,g,h,i,j,k)=(oT
 b.1.2.2.2.2.2.2 b.2).1/\(l,m,n,o,p,q)=(oT b.1.2.2.2.2.2.2 b.2).2.1/\r=(oT b.1.2.2.2.2.2.2 b.2).2.2-> (Dv a b f g h i j k m n q r)) (ao (decide (b.1.2.2.2.1=6)) ((ac b.2)<=1000000/\ ∀(f g h i j k l m n o p q:Int)(r:Bool),(f,g,h,i,j,k)=(qC b.1.2.2.2.2.2.1 b.1.2.2.2.2.2.2 b.2).1/\(l,m,n,o,p,q)=(qC b.1.2.2.2.2.2.1 b.1.2.2.2.2.2.2 b.2).2.1/\r=(qC b.1.2.2.2.2.2.1 b.1.2.2.2.2.2.2 b.2).2.2-> (Dv a b f g h i j k m n q r)) (∀(f:Bool),f= ! false->(ah (! f))/\(ah (! f))/\(aE f)/\ao (bif f then true else ! decide (cf ((0:Int),(0:Int),(0:Int),(0:Int),(0:Int),(1:Int))=0)) (FO a) ((ou)=(jQ a).1/\(b.1.2.2.2.2.2.1,(0:Int),(0:Int),b.1.2.2.1,b.1.2.1,(0:Int))=(jQ a).2/\0=pT a))))):=by
  delta ou Dv FO ah ar aE ac;rintro b ⟨⟨-,hb⟩,-⟩ hl;refine⟨ab,?_⟩;rintro d e ⟨rfl,rfl⟩;have bad:¬ t5 b->((0,0,0,0,0,0):bz)=(jQ b).1/\((0,0,0,0,0,0):rR)=(jQ b).2/\(17:Int)=pT b:=λk=>by
   rw[jQ,pT,af k,af k];exact⟨rfl,rfl,rfl⟩
  refine aw (λh=>bad (λk=>?_)) (λh=>?_)
  .simp[k.1] at h
  have h:bX b=0:=by simpa using h
  have hdl:=wy h;rw[aY,am h];have hdr:((b.drop 20).length:Int)<=1000000:=by rw[fv];omega
  have hdb:bytes (b.drop 20):=wA hb;have eq1:(bI b).2.2.2.1=dm b:=rfl;have eq2:(bI b).2.2.2.2.2.1=cL b:=rfl;have eq3:(bI b).2.2.2.2.2.2=gf b:=rfl;simp only[eq1,eq2,eq3];have fin:∀ r:Ar,r=kC b→∀(p1 p2 p3 p4 p5 p6 a1 a2 a3 a4 a5 a6:Int)(ok:Bool),(p1,p2,p3,p4,p5,p6)=r.1/\(a1,a2,a3,a4,a5,a6)=r.2.1/\ok=r.2.2 →
    ao (bif !ok then true else !decide (cf (p1,p2,p3,p4,p5,1)=0)) (((0,0,0,0,0,0):bz)=(jQ b).1/\((0,0,0,0,0,0):rR)=(jQ b).2/\(17:Int)=pT b)
     (((p1,p2,p3,p4,p5,p6):bz)=(jQ b).1/\((cL b,a2,a3,(bI b).2.2.1,(bI b).2.1,a6):rR)=(jQ b).2/\(0:Int)=pT b):=by
   rintro r rfl p1 p2 p3 p4 p5 p6 a1 a2 a3 a4 a5 a6 ok ⟨hp,ha,rfl⟩;have en:tJ (kC b).1 1=(p1,p2,p3,p4,p5,1):=by rw[← hp];rfl
   refine aw (λk=>bad (λg=>?_)) (λk=>?_)
   .have g3:=g.2.2;rw[en] at g3;simp[g.2.1,g3] at k
   .have g:t5 b:=by
     simp[dE] at k;exact⟨h,k.1,by rw[en];exact k.2⟩
    rw[jQ,pT,am g,am g];refine⟨hp,?_,rfl⟩;rw[← ha]
  (repeat (refine bY ?_;repeat refine bZ ?_));refine aw (λhc=>?_) (λhc=>?_)
  .have c3:(b.drop 20).getD 0 default=0:=fq λk=>by
    have k:¬ (b.drop 20).getD (toNat 0) default=0:=k;rw[dO k] at hc;simp at hc
   simp[dE] at hc;have er:qW (cL b) (gf b) (b.drop 20)=kC b:=by
    rw[kC,am];refine⟨hc.1.1,?_,c3⟩;rw[fv];omega
   refine⟨hdr,?_⟩;rintro p1 p2 p3 p4 p5 p6 a1 a2 a3 a4 a5 a6 ok hh;have:=fin _ er p1 p2 p3 p4 p5 p6 a1 a2 a3 a4 a5 a6 ok hh
   (repeat (refine bY ?_;repeat refine bZ ?_));exact this
  have hc':¬ (dm b=1/\0<(b.drop 20).length/\(b.drop 20).getD 0 default=0):=by
   rintro⟨c1,c2,c3⟩;rw[c1,cM (show (0:Int)<((b.drop 20).length:Int) by omega)] at hc;have:(b.drop 20).getD (toNat 0) default=0:=c3;rw[this] at hc;cases hc
  refine aw (λh1=>?_) (λh1=>aw (λh6=>?_) (λh6=>?_))
  .have h1:=aI h1;have er:oT (gf b) (b.drop 20)=kC b:=by
    rw[kC,af hc',am h1]
   refine⟨hdr,?_⟩;rintro p1 p2 p3 p4 p5 p6 a1 a2 a3 a4 a5 a6 ok hh;have:=fin _ er p1 p2 p3 p4 p5 p6 a1 a2 a3 a4 a5 a6 ok hh
   (repeat (refine bY ?_;repeat refine bZ ?_));exact this
  .have h1:=aL h1;have h6:=aI h6;have er:qC (cL b) (gf b) (b.drop 20)=kC b:=by
    rw[kC,af hc',af h1,am h6]
   refine⟨hdr,?_⟩;rintro p1 p2 p3 p4 p5 p6 a1 a2 a3 a4 a5 a6 ok hh;have:=fin _ er p1 p2 p3 p4 p5 p6 a1 a2 a3 a4 a5 a6 ok hh
   (repeat (refine bY ?_;repeat refine bZ ?_));exact this
  .have h1:=aL h1;have h6:=aL h6;have er:Bq=kC b:=by rw[kC,af hc',af h1,af h6]
   have:=fin _ er 0 0 0 0 0 0 0 0 0 0 0 0 false ⟨rfl,rfl,rfl⟩
   (repeat (refine bY ?_;repeat refine bZ ?_));exact this
theorem SS:aB 23 aq6.spec:=aF Tryz.func23 (av (av (av (av (av aD (Ct.named BQ)) (Ct.named ay3)) (Ct.named as3)) (Ct.named YW)) N3) aT aE2
abbrev dj:CT := .pair mW (.pair (.sl cI) cI)
abbrev Rt:Type:=eh×ae×Int
def bH(p q:eh):Prop:=p.1<q.1∨p.1=q.1/\p.2<q.2
instance (p q:eh):Decidable (bH p q):=by unfold bH;infer_instance
theorem Qj{a b:Int}(h:a<b):gH a b = -1:=by unfold gH;rw[am h]
theorem Sc{a b:Int}(h:b<a):gH a b=1:=by unfold gH;rw[af (by omega),am h]
theorem Gy(a:Int):gH a a=0:=by unfold gH;simp
theorem It(p q:eh):(bH p q/\gD p q = -1)∨(p=q/\gD p q=0)∨(bH q p/\gD p q=1):=by
 obtain⟨a,b⟩:=p;obtain⟨c,e⟩:=q
 unfold gD bH
 rcases Int.lt_trichotomy a c with h|rfl|h
 .simp[Qj h,h]
 .rcases Int.lt_trichotomy b e with h|rfl|h
  .simp[Gy,Qj h,h]
  .simp[Gy]
  .simp[Gy,Sc h,h]
 .simp[Sc h,h]
theorem rz(p:eh):¬ bH p p:=by unfold bH;omega
theorem BT{p q r:eh}(h:bH p q)(k:bH q r):bH p r:=by unfold bH at *;omega
theorem xj{p q:eh}(h:bH p q):¬ bH q p:=by unfold bH at *;omega
theorem D7{p q:eh}(h:¬ bH p q):p=q∨bH q p:=by rcases It p q with⟨k,-⟩|⟨k,-⟩|⟨k,-⟩ <;> simp_all
theorem Ri{p q r:eh}(h:¬ bH p q)(k:bH p r):¬ bH r q:=λe=>h (BT k e)
theorem By{p q:eh}:gD p q<0↔bH p q:=by
 rcases It p q with⟨h,e⟩|⟨rfl,e⟩|⟨h,e⟩ <;> rw[e]
 .simp[h]
 .simp[rz]
 .simp[xj h]
theorem EP{p q:eh}:gD p q=0↔p=q:=by
 rcases It p q with⟨h,e⟩|⟨h,e⟩|⟨h,e⟩ <;> rw[e]
 .simp;rintro rfl;exact rz _ h
 .simp[h]
 .simp;rintro rfl;exact rz _ h
theorem J8{p q:eh}:0<=gD p q↔¬ bH p q:=by rw[← By];omega
def cH(l:List Rt):Prop:=l.Pairwise λa b=>bH a.1 b.1
theorem X0{l:List Rt}{p:eh}{h:Int}(hs:cH l)(h0:0<=h)(h1:h<l.length)(a:bH (l.getD h.toNat default).1 p):∀ y∈l.take (h+1).toNat,bH y.1 p:=by
 intro y b
 have c:h.toNat<l.length:=ab
 rcases Oe h0 h1 b with b|rfl
 .obtain⟨k,hk,rfl⟩:=List.mem_iff_getElem.1 b;rw[bL,cK c,fZ] at a;simp at hk ⊢;exact BT (List.pairwise_iff_getElem.1 hs k h.toNat ab c ab) a
 .exact a
theorem aG5{l:List Rt}{p:eh}{h:Int}(hs:cH l)(h0:0<=h)(h1:h<l.length)(d:¬ bH (l.getD h.toNat default).1 p):∀ y∈l.drop h.toNat,¬ bH y.1 p:=by
 intro y c
 have e:h.toNat<l.length:=ab
 rw[bL,cK e,fZ] at d
 rw[sI e] at c
 rcases dL.1 c with rfl|c
 .exact d
 .have f:((l.drop h.toNat)).Pairwise λa b=>bH a.1 b.1:=List.Pairwise.drop hs;rw[sI e] at f;exact Ri d (List.rel_of_pairwise_cons f c)
def XN:Ct:=⟨[.val (.sl cI)],[.own 3 cI],λd=>[(d.1.length:Int)<=1099511627776],λd=>((d.1,()),())⟩
def qc :=
 (140737488355328:Nat)
theorem Xb :
 ∀(a:ae),(a.length<=maxLen/\ ∀(b:Int),b∈a->aq b)/\True->(ac a)<=1099511627776-> ∀(b:Bool),(b=true->a.length=(0:Nat))->ao b (([]:ae)=a) (((0:Nat)+a.length)*(8:Nat)<=(qc)/\a=a):=by
  delta qc ac;rintro x ⟨⟨hl,-⟩,-⟩ h b hb;refine aw (λh1=>?_) (λh1=>⟨by simp;omega,by simp⟩);simp_all
theorem wX:aB 97 XN.spec:=aF Tryz.func97 aD aT Xb
def aT7:Ct:=⟨[.agg dj],[.agg dj],λd=>[(d.1.2.1.length:Int)<=1099511627776],λd=>((d.1,()),())⟩
theorem av9 :
 ∀(a b:Int)(c:ae)(d:Int),(((0<=a/\a<=4294967295)/\aq b)/\(c.length<=maxLen/\ ∀(e:Int),e∈c->aq e)/\aq d)/\True->(ac c)<=1099511627776->(ac c)<=1099511627776/\((a,b),c,d)=((a,b),c,d):=by
  delta ac;simp_all
theorem No:aB 116 aT7.spec:=aF Tryz.func116 (av aD wX) aT av9
def X5:Ct:=⟨[.agg dj],[.agg dj],λd=>[(d.1.2.1.length:Int)<=1099511627776],λd=>((d.1,()),())⟩
theorem aj5 :
 ∀(a b:Int)(c:ae)(d:Int),(((0<=a/\a<=4294967295)/\aq b)/\(c.length<=maxLen/\ ∀(e:Int),e∈c->aq e)/\aq d)/\True->(ac c)<=1099511627776->c.length*(8:Nat)<=(qc)/\((a,b),c,d)=((a,b),c,d):=by
  delta qc ac;grind
theorem Mm:aB 175 X5.spec:=aF Tryz.func175 aD aT aj5
def aQ1:Ct:=⟨[.agg dj,.agg mW],[.val cI],λ_=>[],λd=>((gD d.1.1 d.2.1,()),())⟩
theorem Xl :
 ∀(a b:Int)(c:ae)(d e f:Int),(((0<=a/\a<=4294967295)/\aq b)/\(c.length<=maxLen/\ ∀(g:Int),g∈c->aq g)/\aq d)/\((0<=e/\e<=4294967295)/\aq f)/\True->True->gD (a,b) (e,f)=gD (a,b) (e,f):=by
  intros;trivial
theorem aP1:aB 162 aQ1.spec:=aF Tryz.func162 (av aD LD) aT Xl
theorem QG{i j:Int}(h0:0<=i)(h1:i<=j)(h2:j<=9223372036854775807):IntKind.wrap IntKind.i64 (dF IntKind.u64 (IntKind.wrap IntKind.u64 (IntKind.wrap IntKind.i64 (i+j))) (1:Int))=(i+j)/2:=by
 have hw:IntKind.wrap IntKind.u64 (IntKind.wrap IntKind.i64 (i+j))=i+j:=by
  rw[IntKind.wrap_i64,IntKind.wrap_u64];omega
 rw[hw]
 have:dF IntKind.u64 (i+j) 1=(i+j)/2:=by
  unfold dF;rw[Cx _ bt];rfl
 rw[this,aG ab ab]
theorem Oi(l:List Rt)(p:eh):∃ k:Int,0<=k/\k<=l.length/\(cH l->(∀ z∈l.take k.toNat,bH z.1 p)∧∀ z∈l.drop k.toNat,¬ bH z.1 p):=by
 induction l with
 | nil=>exact⟨0,aA,aA,aA⟩
 | cons a l ih =>
  obtain⟨k,h0,h1,h2⟩:=ih;by_cases d:bH a.1 p
  .refine⟨k+1,ab,by simp;omega,λb=>?_⟩;obtain⟨q1,q2⟩:=h2 (List.pairwise_cons.1 b).2;have e:(k+1).toNat=k.toNat+1:=ab;grind
  .refine⟨0,ab,by simp;omega,λb=>⟨aA,λz c=>?_⟩⟩;rcases dL.1 (show z∈a::l from c) with rfl|c
   .exact d
   .exact Ri d ((List.pairwise_cons.1 b).1 z c)
def N2:Cn:=⟨[.val (.sl dj),.agg mW,.fn 162 0],[.val cI,.val .bool],λ_=>[],λd y=>0<=y.1.1/\y.1.1<=d.1.length/\(cH d.1->(∀ z∈d.1.take y.1.1.toNat,bH z.1 d.2.1)∧∀ z∈d.1.drop y.1.1.toNat,¬ bH z.1 d.2.1)/\y.1.2.1=decide (y.1.1<d.1.length/\(d.1.getD y.1.1.toNat default).1=d.2.1),λd h=>let ⟨k,h0,h1,h2⟩:=Oi d.1 d.2.1;⟨((k,decide (k<d.1.length/\(d.1.getD k.toNat default).1=d.2.1),()),()),h0,h1,h2,rfl⟩⟩
def TH:bw N2.ps->ce:=(λd=>{loops:=(bq 3 (λS=>{ι:=Int×Int,qn:=fj,μ:=λi=>(i.2-i.1).toNat,inv:=λi=>0<=i.1/\i.1<=i.2/\i.2<=d.1.length/\(cH d.1->(∀ z∈d.1.take i.1.toNat,bH z.1 d.2.1)∧∀ z∈d.1.drop i.2.toNat,¬ bH z.1 d.2.1),keep:=[0,2,4,8],slots:=λi=>[(9,.int .i64 i.1),(10,.int .i64 i.2)],keepN:=[80]}) cC)})
def sP(a:List aN) :=
 a.length<=maxLen/\ ∀(d:aN),d∈a->((0<=d.1.1/\d.1.1<=4294967295)/\aq d.1.2)/\(d.2.1.length<=maxLen/\ ∀(e:Int),e∈d.2.1->aq e)/\aq d.2.2
def Av(d e:Int) :=
 dF IntKind.u64 (IntKind.wrap .u64 (aj (d+e))) (1:Int)
def GJ(a:List aN)(b c f g:Int) :=
 0<=f/\f<=g/\g<=(ac a)/\(cH a->(∀(h:aN),h∈take f.toNat a->bH h.1 (b,c))/\ ∀(h:aN),h∈drop g.toNat a-> ¬bH h.1 (b,c))
def Jv(a:List aN)(b c d e:Int) :=
 d<=e/\e<=(ac a)/\(cH a->(∀(f:aN),f∈take d.toNat a->bH f.1 (b,c))/\ ∀(f:aN),f∈drop e.toNat a-> ¬bH f.1 (b,c))
theorem aB2 :
 ∀(a:List aN)(b c:Int),(sP a)/\((0<=b/\b<=4294967295)/\aq c)/\True/\True->True->(∃(d:Int) (e:Int),(0<=d/\(Jv a b c d e))/\a=a/\(ac a)=(ac a)/\0=d/\(ac a)=e/\b=b/\c=c/\True)/\ ∀(d e:Int),0<=d/\(Jv a b c d e)->ao (decide (d<e)) ((0:Int)<=1/\0<=aj (Av d e)/\aj (Av d e)<(ac a)/\ao (decide (gD (ai a (aj (Av d e))).1 (b,c)<0)) (∃(f:Int) (g:Int),(GJ a b c f g)/\toNat (g -f)<toNat (e -d)/\a=a/\(ac a)=(ac a)/\aj (aj (Av d e)+1)=f/\e=g/\b=b/\c=c/\True) (∃(f:Int) (g:Int),(GJ a b c f g)/\toNat (g -f)<toNat (e -d)/\a=a/\(ac a)=(ac a)/\d=f/\aj (Av d e)=g/\b=b/\c=c/\True)) (∀(f:Bool),f=decide (d<(ac a))->(f->(ar f)/\(ar f)/\0<=d/\d<(ac a)/\True)/\(ah f)/\(f->(ar f)/\(ar f)/\(ar f)/\True)/\(ah f)/\(ar f)/\0<=d/\d<=(ac a)/\(cH a->(∀(g:aN),g∈take d.toNat a->bH g.1 (b,c))/\ ∀(g:aN),g∈drop d.toNat a-> ¬bH g.1
 (b,c))/\(bif f then decide (gD (ai a d).1 (b,c)=0) else false)=decide (d<(ac a)/\(ai a d).1=(b,c))):=by
  delta sP Av GJ Jv ah ar aj ai ac;rintro x p q ⟨⟨hl,-⟩,-⟩ -;simp only[maxLen] at hl;refine⟨⟨0,x.length,⟨ab,ab,ab,λ_=>aA⟩,aP⟩,?_⟩;rintro i j ⟨d,h1,f,e⟩;refine bU (λhb=>?_) (λhb=>?_)
  .rw[QG d h1 ab];refine⟨ab,ab,ab,bU (λa=>?_) (λa=>?_)⟩
   .have a:=By.1 a;refine⟨(i+j)/2+1,j,⟨ab,ab,f,λc=>⟨X0 c ab ab a,(e c).2⟩⟩,ab,aP⟩
   .have a:¬ bH _ _:=λh=>absurd (By.2 h) a;refine⟨i,(i+j)/2,⟨d,ab,ab,λc=>⟨(e c).1,aG5 c ab ab a⟩⟩,ab,aP⟩
  .have:i=j:=ab;subst this
   (repeat (refine bY ?_;repeat refine bZ ?_));refine⟨d,f,e,?_⟩;by_cases h:i<x.length <;> simp[h,EP]
theorem W9:aB 161 N2.spec:=qV Tryz.func161 (av aD aP1) TH aB2
def WR:Ct:=⟨[.nils,.val cI],[.own 96 dj],λd=>[0<=d.2.1,d.2.1<=1073741824],λd=>(([],()),())⟩
def Ga(a:Int) :=
 List.replicate (toNat (aj (a -aj ((0:Int) -0)))) (((0:Int),(0:Int)),([]:ae),(0:Int))
theorem XW :
 ∀(a:Int),True/\aq a/\True->0<=a/\a<=1073741824->ao (decide (a<0)) False (ao (decide (0<aj (a -aj ((0:Int) -0)))) ((0:Int)=0/\(0:Int)=0/\0<=aj (a -aj ((0:Int) -0))/\aj (a -aj ((0:Int) -0))*(↑(48:Nat):Int)<=140737488355328/\(0:Int)<=0/\0<=((length (Ga a)):Int)/\take (toNat 0) (Ga a)=([]:List aN)) (([]:List aN)=([]:List aN))):=by
  delta Ga aj;rintro x-⟨h0,h1⟩;rw[aG (n:=(0:Int)-0) ab ab,aG ab ab];refine aw (λa=>?_) (λa=>aw (λa=>?_) (λa=>rfl))
  .grind
  .grind
theorem aa6:aB 205 WR.spec:=aF Tryz.func205 (LW aD (d:=25)) aT XW
theorem OP{α:Type}{l:List (List α)}{j:Int}(h0:0<=j)(h1:j<l.length):(l.take (j+1).toNat).flatten=(l.take j.toNat).flatten++l.getD j.toNat default:=by
 have a:j.toNat<l.length:=ab
 have e:(j+1).toNat=j.toNat+1:=ab
 rw[e,xJ a,List.flatten_append,bL,cK a,fZ]
 simp
theorem Jo{α:Type}(l:List (List α))(k:Nat):(l.take k).flatten.length<=l.flatten.length:=by
 conv=>rhs;rw[← mZ k l,List.flatten_append,cu]
 omega
def RJ:Ct:=⟨[.val (.sl (.sl dj))],[.own 96 dj],λd=>[(d.1.flatten.length:Int)<=1073741824],λd=>((d.1.flatten,()),())⟩
def S8:bw RJ.ps->ce:=(λd=>{loops:=(bq 3 (λS=>{ι:=Int×Int,qn:=fj,μ:=λi=>(d.1.length-i.1).toNat,inv:=λi=>0<=i.1/\i.1<=d.1.length/\i.2=((d.1.take i.1.toNat).flatten.length:Int),keep:=[0,9,10],slots:=λi=>[(3,.int .i64 i.2),(11,.int .i64 i.1)]}) (bq 11 (λS=>{ι:=Int×(List Rt),qn:=fj,μ:=λi=>(d.1.length-i.1).toNat,inv:=λi=>0<=i.1/\i.1<=d.1.length/\i.2=(d.1.take i.1.toNat).flatten,keep:=[25,26],slots:=λi=>[(6,.own 524288 4),(27,.int .i64 i.1)],names:=λi=>[(524288,.live (.row 96 dj i.2))]}) cC))})
def wj(c:aN) :=
 ((0<=c.1.1/\c.1.1<=4294967295)/\aq c.1.2)/\(c.2.1.length<=maxLen/\ ∀(d:Int),d∈c.2.1->aq d)/\aq c.2.2
theorem ZM :
 ∀(a:List (List aN)),(a.length<=maxLen/\ ∀(b:List aN),b∈a->b.length<=maxLen/\ ∀(c:aN),c∈b->(wj c))/\True->((length (List.flatten a)):Int)<=1073741824->(∃(b:Int) (c:Int),(0<=b/\b<=(ac a)/\c=((length (List.flatten (take b.toNat a))):Int))/\a=a/\0=c/\a=a/\(ac a)=(ac a)/\0=b/\True)/\ ∀(b c:Int),0<=b/\b<=(ac a)/\c=((length (List.flatten (take b.toNat a))):Int)->ao (decide (b<(ac a))) (0<=b/\b<(ac a)/\ao (decide (aj (c+((length (ai a b)):Int))<0)) False (∃(d:Int) (e:Int),(0<=d/\d<=(ac a)/\e=((length (List.flatten (take d.toNat a))):Int))/\toNat ((ac a) -d)<toNat ((ac a) -b)/\a=a/\aj (c+((length (ai a b)):Int))=e/\a=a/\(ac a)=(ac a)/\aj (b+1)=d/\True)) (0<=c/\c<=1073741824/\(∃(d:Int) (e:List Rt),(0<=d/\d<=(ac a)/\e=List.flatten (take d.toNat a))/\a=a/\(ac a)=(ac a)/\0=d/\([]:List aN)=e/\True)/\ ∀(d:Int)
 (e:List Rt),0<=d/\d<=(ac a)/\e=List.flatten (take d.toNat a)->ao (decide (d<(ac a))) (0<=d/\d<(ac a)/\(e.length+length (ai a d))*(48:Nat)<=(qc)/\ ∃(f:Int) (g:List Rt),(0<=f/\f<=(ac a)/\g=List.flatten (take f.toNat a))/\toNat ((ac a) -f)<toNat ((ac a) -d)/\a=a/\(ac a)=(ac a)/\aj (d+1)=f/\e++ai a d=g/\True) (e=List.flatten a)):=by
  delta wj qc aj ai ac;rintro x ⟨⟨hl,-⟩,-⟩ ht;simp only[maxLen] at hl;refine⟨⟨0,0,⟨ab,ab,aA⟩,aP⟩,?_⟩;rintro j s ⟨c,h1,h2⟩;have hle:=Jo x j.toNat
  refine bU (λa=>?_) (λa=>?_)
  .have e:=OP c a;have b:=Jo x (j+1).toNat
   have el:((x.take (j+1).toNat).flatten.length:Int)=s+(x.getD j.toNat default).length:=by rw[e,cu];omega
   rw[aG ab ab];refine⟨c,a,bU (λhc=>?_) (λhc=>?_)⟩
   .omega
   .exact⟨j+1,_,⟨ab,ab,el.symm⟩,ab,aP⟩
  .refine⟨ab,ab,⟨0,[],⟨ab,ab,aA⟩,aP⟩,?_⟩;rintro k ys ⟨d,k1,rfl⟩;refine bU (λa=>?_) (λa=>?_)
   .have e:=OP d a;have b:=Jo x (k+1).toNat
    refine⟨d,a,?_,k+1,_,⟨ab,ab,e.symm⟩,ab,aP⟩;grind
   .rw[fi ab]
theorem aD6:aB 188 RJ.spec:=aF Tryz.func188 (av aD aa6) S8 ZM
theorem rX{α:Type} [Inhabited α] {l:List α} {j:Int} (h0:0<=j) (h1:j<l.length):l.set j.toNat (l.getD j.toNat default)=l:=by
 simp_all
def OA:Ct:=⟨[.val (.sl dj),.val cI,.val cI,.val (.sl dj)],[.own 96 dj],λd=>[0<=d.2.1,d.2.1<=d.1.length,0<=d.2.2.1,d.2.2.1<=d.1.length,(d.1.length:Int)<=134217728,(d.2.2.2.1.length:Int)<=134217728,∀ y∈d.1,(y.2.1.length:Int)<=1099511627776,∀ y∈d.2.2.2.1,(y.2.1.length:Int)<=1099511627776],λd=>((d.1.take d.2.1.toNat++(d.2.2.2.1++d.1.drop d.2.2.1.toNat),()),())⟩
def Yp:bw OA.ps->ce:=(λd=>{loops:=(bq 3 (λS=>{ι:=Int,μ:=λi=>(((d.1.take d.2.1.toNat++(d.2.2.2.1++d.1.drop d.2.2.1.toNat)).length:Int)-i).toNat,inv:=λi=>0<=i/\i<=((d.1.take d.2.1.toNat++(d.2.2.2.1++d.1.drop d.2.2.1.toNat)).length:Int),keep:=[9,20,21],slots:=λi=>[(22,.int .i64 i)],keepN:=[320]}) cC)})
def Bp(a:List aN)(b c:Int)(d:List aN) :=
 List.flatten [cO a (toNat 0) b.toNat,d,cO a c.toNat (toNat (ac a))]
def zg(a:List aN)(b c:Int)(d:List aN) :=
 ((length (take b.toNat a++(d++drop c.toNat a))):Int)
def u5(a:List aN)(b c:Int)(d:List aN) :=
 ((length (Bp a b c d)):Int)
def I7(e:aN) :=
 ((0<=e.1.1/\e.1.1<=4294967295)/\aq e.1.2)/\(e.2.1.length<=maxLen/\ ∀(f:Int),f∈e.2.1->aq f)/\aq e.2.2
theorem an2 :
 ∀(a:List aN)(b c:Int)(d:List aN),(a.length<=maxLen/\ ∀(e:aN),e∈a->(I7 e))/\aq b/\aq c/\(d.length<=maxLen/\ ∀(e:aN),e∈d->(I7 e))/\True->(0<=b/\b<=(ac a)/\0<=c/\c<=(ac a)/\(ac a)<=134217728/\(ac d)<=134217728/\(∀(e:aN),e∈a->(ac e.2.1)<=1099511627776)/\ ∀(e:aN),e∈d->(ac e.2.1)<=1099511627776)->(0:Int)<=0/\0<=b/\b<=(ac a)/\0<=c/\c<=(ac a)/\(ac a)<=(ac a)/\(u5 a b c d)<=1073741824/\(∃(e:Int),(0<=e/\e<=(zg a b c d))/\(u5 a b c d)=(u5 a b c d)/\0=e/\List.flatten [cO a (toNat 0) b.toNat,d,cO a c.toNat (toNat (ac a))]=List.flatten [cO a (toNat 0) b.toNat,d,cO a c.toNat (toNat (ac a))]/\True)/\ ∀(e:Int),0<=e/\e<=(zg a b c d)->ao (decide (e<(u5 a b c d))) (0<=e/\e<(u5 a b c d)/\((length (getD (Bp a b c d) e.toNat default).2.1):Int)<=1099511627776/\0<=e/\e<(u5 a b c d)/\ ∃(f:Int),(0<=f/\f<=(zg a b c
 d))/\toNat ((zg a b c d) -f)<toNat ((zg a b c d) -e)/\(u5 a b c d)=(u5 a b c d)/\aj (e+1)=f/\List.set (Bp a b c d) e.toNat (getD (Bp a b c d) e.toNat default)=List.flatten [cO a (toNat 0) b.toNat,d,cO a c.toNat (toNat (ac a))]/\True) (List.flatten [cO a (toNat 0) b.toNat,d,cO a c.toNat (toNat (ac a))]=take b.toNat a++(d++drop c.toNat a)):=by
  delta Bp zg u5 I7 aj ac;rintro l a b m-⟨h0,h1,h2,h3,h4,h5,h6,h7⟩;have e:List.flatten [cO l (toNat (0:Int)) (toNat a),m,cO l (toNat b) (toNat (l.length:Int))]=l.take a.toNat++(m++l.drop b.toNat):=by
   simp[cO]
  rw[e];have d:∀ y∈l.take a.toNat++(m++l.drop b.toNat),(y.2.1.length:Int)<=1099511627776:=by
   grind
  have hlen:(l.take a.toNat++(m++l.drop b.toNat)).length<=l.length+(m.length+l.length):=by
   grind
  refine⟨ab,h0,h1,h2,h3,ab,ab,⟨0,⟨ab,ab⟩,aP⟩,?_⟩;rintro j ⟨f,j1⟩;refine aw (λc=>?_) (λc=>rfl);have c:=aI c;refine⟨f,c,d _ (bS f c),f,c,j+1,⟨ab,ab⟩,ab,rfl,aG ab ab,rX f c,bv⟩
theorem P2:aB 160 OA.spec:=aF Tryz.func160 (av (av aD aD6) No) Yp an2
def Ug:Cn:=⟨[.val (.sl dj),.agg mW],[.val cI,.val .bool],λ_=>[],λd y=>0<=y.1.1/\y.1.1<=d.1.length/\(cH d.1->(∀ z∈d.1.take y.1.1.toNat,bH z.1 d.2.1)∧∀ z∈d.1.drop y.1.1.toNat,¬ bH z.1 d.2.1)/\y.1.2.1=decide (y.1.1<d.1.length/\(d.1.getD y.1.1.toNat default).1=d.2.1),λd h=>let ⟨k,h0,h1,h2⟩:=Oi d.1 d.2.1;⟨((k,decide (k<d.1.length/\(d.1.getD k.toNat default).1=d.2.1),()),()),h0,h1,h2,rfl⟩⟩
def Cd(a:List aN)(b c d:Int)(e:Bool) :=
 d<=(ac a)/\(cH a->(∀(f:aN),f∈take d.toNat a->bH f.1 (b,c))/\ ∀(f:aN),f∈drop d.toNat a-> ¬bH f.1 (b,c))/\e=decide (d<(ac a)/\(ai a d).1=(b,c))
theorem TE :
 ∀(a:List aN)(b c:Int),(sP a)/\((0<=b/\b<=4294967295)/\aq c)/\True->True-> ∀(d:Int)(e:Bool),0<=d/\(Cd a b c d e)->0<=d/\(Cd a b c d e):=by
  delta sP Cd ai ac;grind
theorem Kg:aB 114 Ug.spec:=qV Tryz.func114 (av aD W9) aT TE
def f6(l:List Rt)(r:Rt):List Rt:=l.filter (λa=>decide (bH a.1 r.1))++r::l.filter (λa=>decide (bH r.1 a.1))
def jk(l:List Rt)(p:eh):List Rt:=l.filter (λa=>decide (a.1≠p))
def okL(l:List Rt):Prop:=(l.length:Int)<=134217728∧∀ y∈l,(y.2.1.length:Int)<=1099511627776
def ta(a:Int)(b:Option Rt)(r:Rt):Option Rt:=if dS r.1 a then match b with|none=>some r|some q=>if q.1.2<r.1.2 then some r else some q else b
def ma(l:List Rt)(a:Int):Option Rt:=l.foldl (ta a) none
def bf(l:List Rt)(a:Int):Rt:=match ma l a with|none=>((0,0),[],0)|some r=>r
def ie(l:List Rt)(a:Int):Bool:=(ma l a).isSome
theorem Pb{l:List Rt}{p:eh}{k:Nat}(h1:∀ z∈l.take k,bH z.1 p)(h2:∀ z∈l.drop k,¬ bH z.1 p):l.take k=l.filter (λa=>decide (bH a.1 p)):=by
 conv=>rhs;rw[← mZ k l]
 rw[qS,List.filter_eq_self.2 (by simpa using h1),List.filter_eq_nil_iff.2 (by simpa using h2),jG]
theorem Lj{l:List Rt}{i:Int}(h0:0<=i)(h1:i<l.length):l=l.take i.toNat++l.getD i.toNat default::l.drop (i+1).toNat:=by
 have a:i.toNat<l.length:=ab
 rw[bL,cK a,fZ,show (i+1).toNat=i.toNat+1 from by omega,← sI a,mZ]
theorem PL{l:List Rt}{p:eh}{i:Int}(hs:cH l)(h0:0<=i)(hl:i<l.length)(f:∀ z∈l.take i.toNat,bH z.1 p)(g:(l.getD i.toNat default).1=p):l.drop (i+1).toNat=l.filter (λa=>decide (bH p a.1))/\l.take i.toNat++l.drop (i+1).toNat=jk l p:=by
 have d:=Lj h0 hl
 have hp:(l.getD i.toNat default::l.drop (i+1).toNat).Pairwise λa b=>bH a.1 b.1:=by
  have:=hs;rw[d] at this;exact (List.pairwise_append.1 this).2.1
 have h:∀ z∈l.drop (i+1).toNat,bH p z.1:=λz c=>by rw[← g];exact (List.pairwise_cons.1 hp).1 z c
 generalize l.getD i.toNat default=r at *
 generalize l.take i.toNat=A at *
 generalize l.drop (i+1).toNat=B at *
 subst d
 subst g
 constructor
 .rw[qS,List.filter_cons,af (by simp[rz]),List.filter_eq_nil_iff.2 (by simpa using λz c=>xj (f z c)),rx,List.filter_eq_self.2 (by simpa using h)]
 .rw[jk,qS,List.filter_cons,af aA,List.filter_eq_self.2 (λz c=>cM (λ(e:z.1=r.1)=>rz _ (e▸f z c))),List.filter_eq_self.2 (λz c=>cM (λ(e:z.1=r.1)=>rz _ (e▸h z c)))]
theorem M7{l:List Rt}{p:eh}{i:Int}(hs:cH l)(h0:0<=i)(j:∀ z∈l.take i.toNat,bH z.1 p)(g:∀ z∈l.drop i.toNat,¬ bH z.1 p)(he:¬ (i<l.length/\(l.getD i.toNat default).1=p)):l.drop i.toNat=l.filter (λa=>decide (bH p a.1))/\l=jk l p:=by
 have h3:∀ z∈l.drop i.toNat,bH p z.1:=by
  intro z c;rcases D7 (g z c) with e|h
  .exfalso;by_cases hl:i<l.length
   .have k:i.toNat<l.length:=ab;have d:(l.getD i.toNat default).1≠p:=λe=>he ⟨hl,e⟩;rw[bL,cK k,fZ] at d;have m:(l.drop i.toNat).Pairwise λa b=>bH a.1 b.1:=List.Pairwise.drop hs;rw[sI k] at c m g;rcases dL.1 c with rfl|c
    .exact d e
    .exact g _ (fW) (e▸(List.pairwise_cons.1 m).1 z c)
   .rw[List.drop_eq_nil_of_le ab] at c;simp at c
  .exact h
 have f:=mZ i.toNat l
 constructor
 .conv=>rhs;rw[← f]
  rw[qS,List.filter_eq_nil_iff.2 (by simpa using λz c=>xj (j z c)),rx,List.filter_eq_self.2 (by simpa using h3)]
 .symm;apply List.filter_eq_self.2;intro z c;rw[← f] at c;apply cM;rcases dw.1 c with c|c
  .exact λe=>rz _ (e▸j z c)
  .grind
def Vs:Ct:=⟨[.val (.sl dj),.agg dj],[.own 96 dj],λd=>[cH d.1,okL d.1,(d.2.1.2.1.length:Int)<=1099511627776],λd=>((f6 d.1 d.2.1,()),())⟩
def C7(a:List aN) :=
 a.length<=maxLen/\ ∀(f:aN),f∈a->((0<=f.1.1/\f.1.1<=4294967295)/\aq f.1.2)/\(f.2.1.length<=maxLen/\ ∀(g:Int),g∈f.2.1->aq g)/\aq f.2.2
theorem Wj :
 ∀(a:List aN)(b c:Int)(d:ae)(e:Int),(C7 a)/\(((0<=b/\b<=4294967295)/\aq c)/\(d.length<=maxLen/\ ∀(f:Int),f∈d->aq f)/\aq e)/\True->cH a/\okL a/\(ac d)<=1099511627776-> ∀(f:Int)(g:Bool),0<=f/\f<=(ac a)/\(cH a->(∀(h:aN),h∈take f.toNat a->bH h.1 (b,c))/\ ∀(h:aN),h∈drop f.toNat a-> ¬bH h.1 (b,c))/\g=decide (f<(ac a)/\(ai a f).1=(b,c))->ao g (0<=f/\f<=(ac a)/\0<=aj (f+1)/\aj (f+1)<=(ac a)/\(ac a)<=134217728/\((length [((b,c),d,e)]):Int)<=134217728/\(∀(h:aN),h∈a->(ac h.2.1)<=1099511627776)/\(∀(h:aN),h∈[((b,c),d,e)]->(ac h.2.1)<=1099511627776)/\take f.toNat a++([((b,c),d,e)]++drop (toNat (aj (f+1))) a)=f6 a ((b,c),d,e)) (0<=f/\f<=(ac a)/\0<=f/\f<=(ac a)/\(ac a)<=134217728/\((length [((b,c),d,e)]):Int)<=134217728/\(∀(h:aN),h∈a->(ac h.2.1)<=1099511627776)/\(∀(h:aN),h∈[((b,c),d,e)]->(ac
 h.2.1)<=1099511627776)/\take f.toNat a++([((b,c),d,e)]++drop f.toNat a)=f6 a ((b,c),d,e)):=by
  delta C7 aj ai ac;rintro l a n nx b-⟨e,⟨k,m⟩,o⟩ i f ⟨d,g,c,rfl⟩;obtain⟨c,h⟩:=c e;refine bU (λj=>?_) (λj=>?_)
  .obtain⟨f1,f2⟩:=j;rw[aG ab ab];refine⟨d,g,ab,ab,k,aA,m,by simpa using o,?_⟩;rw[(PL e d f1 c f2).1,Pb c h];rfl
  .refine⟨d,g,d,g,k,aA,m,by simpa using o,?_⟩;rw[(M7 e d c h j).1,Pb c h];rfl
theorem NR:aB 113 Vs.spec:=aF Tryz.func113 (av (av aD Kg) P2) aT Wj
def aL0:Ct:=⟨[.val (.sl dj),.agg mW],[.own 96 dj],λd=>[cH d.1,okL d.1],λd=>((jk d.1 d.2.1,()),())⟩
def zS(a:List aN) :=
 (ac a)<=134217728/\ ∀(d:Rt),d∈a->(ac d.2.1)<=1099511627776
theorem XD :
 ∀(a:List aN)(b c:Int),(sP a)/\((0<=b/\b<=4294967295)/\aq c)/\True->(cH a/\(zS a))-> ∀(d:Int)(e:Bool),0<=d/\(Cd a b c d e)->ao e (0<=d/\d<=(ac a)/\0<=aj (d+1)/\aj (d+1)<=(ac a)/\(ac a)<=134217728/\(↑(0:Nat):Int)<=134217728/\(∀(f:aN),f∈a->(ac f.2.1)<=1099511627776)/\(∀(f:aN),f∈([]:List aN)->(ac f.2.1)<=1099511627776)/\take d.toNat a++drop (toNat (aj (d+1))) a=jk a (b,c)) (0<=d/\d<=(ac a)/\0<=d/\d<=(ac a)/\(ac a)<=134217728/\(↑(0:Nat):Int)<=134217728/\(∀(f:aN),f∈a->(ac f.2.1)<=1099511627776)/\(∀(f:aN),f∈([]:List aN)->(ac f.2.1)<=1099511627776)/\take d.toNat a++drop d.toNat a=jk a (b,c)):=by
  delta sP Cd zS aj ai ac;rintro l a n-⟨d,h,j⟩ i f ⟨b,e,c,rfl⟩;obtain⟨c,h3⟩:=c d;refine bU (λg=>?_) (λg=>?_)
  .obtain⟨f1,f2⟩:=g;rw[aG ab ab];exact⟨b,e,ab,ab,h,aA,j,aA,(PL d b f1 c f2).2⟩
  .refine⟨b,e,b,e,h,aA,j,aA,?_⟩;rw[mZ];exact (M7 d b c h3 g).2
theorem Rg:aB 112 aL0.spec:=aF Tryz.func112 (av (av aD Kg) P2) aT XD
theorem aE6{l:List Rt}{a i:Int}(h0:0<=i)(h1:i<l.length):ma (l.take (i+1).toNat) a=ta a (ma (l.take i.toNat) a) (l.getD i.toNat default):=by
 have b:i.toNat<l.length:=ab
 rw[show (i+1).toNat=i.toNat+1 from by omega,xJ b,ma,iG,bL,cK b,fZ]
 rfl
theorem Tf{l:List Rt}{a b i:Int}(h0:0<=i)(h1:i<l.length)(h:ma (l.take i.toNat) a=if b<0 then none else some (l.getD b.toNat default))(c:Bool)
  (hc:c=(bif dS (l.getD i.toNat default).1 a then bif decide (b<0) then true else decide ((l.getD b.toNat default).1.2<(l.getD i.toNat default).1.2) else false)) :
  ma (l.take (i+1).toNat) a=if (if c then i else b)<0 then none else some (l.getD (if c then i else b).toNat default):=by
 rw[aE6 h0 h1,h]
 unfold ta
 grind
theorem Vx{l:List Rt}{a:Int}{k:Nat}(h:∀ z∈l.drop k,dS z.1 a=false):ma l a=ma (l.take k) a:=by
 conv=>lhs;rw[← mZ k l]
 unfold ma
 rw[iG]
 generalize List.foldl (ta a) none (l.take k)=s
 generalize l.drop k=m at h
 induction m generalizing s with
 | nil=>rfl
 | cons z r ih =>
  rw[List.foldl_cons,show ta a s z=s from by rw[ta.eq_def,af (by simp[h z fW])]];simp_all
theorem aW2{p:eh}{a:Int}(h:¬ bH p (a,33)):dS p a=false:=by
 unfold dS jT
 unfold bH at h
 grind
def RU:Ct:=⟨[.val (.sl dj),.val cP],[.agg dj,.val .bool],λd=>[cH d.1,okL d.1],λd=>((bf d.1 d.2.1,ie d.1 d.2.1,()),())⟩
def Vw:bw RU.ps->ce:=(λd=>{loops:=(bq 4 (λS=>{ι:=Int×Int×Int,qn:=rH,μ:=λi=>(i.2.2-i.1).toNat,inv:=λi=>0<=i.1/\i.1<=i.2.2/\i.2.2<=d.1.length ∧ -1<=i.2.1/\i.2.1<i.1/\ma (d.1.take i.1.toNat) d.2.1=(if i.2.1<0 then none else some (d.1.getD i.2.1.toNat default))/\(cH d.1→∀ z∈d.1.drop i.2.2.toNat,¬ bH z.1 (d.2.1,33)),keep:=[0,1,4],slots:=λi=>[(8,.int .i64 i.2.1),(17,.int .i64 i.2.2),(18,.int .i64 i.1)],keepN:=[80]}) cC)})
def IL(a:List aN)(b j k l:Int) :=
 0<=j/\j<=l/\l<=(ac a)/\ -1<=k/\k<j/\(ma (take j.toNat a) b=if k<0 then none else some (ai a k))/\(cH a-> ∀(m:aN),m∈drop l.toNat a-> ¬bH m.1 (b,(33:Int)))
def Jd(a:List aN)(b e f g:Int) :=
 e<=g/\g<=(ac a)/\ -1<=f/\f<e/\(ma (take e.toNat a) b=if f<0 then none else some (ai a f))/\(cH a-> ∀(h:aN),h∈drop g.toNat a-> ¬bH h.1 (b,(33:Int)))
theorem aC5 :
 ∀(a:List aN)(b:Int),(a.length<=maxLen/\ ∀(c:aN),c∈a->(wj c))/\(0<=b/\b<=4294967295)/\True->(cH a/\(ac a)<=134217728/\ ∀(c:Rt),c∈a->(ac c.2.1)<=1099511627776)-> ∀(c:Int)(d:Bool),0<=c/\c<=(ac a)/\(cH a->(∀(e:aN),e∈take c.toNat a->bH e.1 (b,(33:Int)))/\ ∀(e:aN),e∈drop c.toNat a-> ¬bH e.1 (b,(33:Int)))/\d=decide (c<(ac a)/\(ai a c).1=(b,(33:Int)))->(∃(e:Int) (f:Int),∃(g:Int),(0<=e/\(Jd a b e f g))/\a=a/\b=b/\-1=f/\c=g/\0=e/\(0:Int)=0/\(0:Int)=0/\(0:Int)=0/\True)/\ ∀(e f g:Int),0<=e/\(Jd a b e f g)->ao (decide (e<g)) (0<=e/\e<(ac a)/\ ∀(h:Bool),h=dS (ai a e).1 b->(ah h)/\(ah h)/\ ∀(i:Bool),i=decide (f<0)->((h&& ! i)->(ar (h&& ! i))/\(ar (h&& ! i))/\0<=e/\e<(ac a)/\True)/\(ah (h&& ! i))/\(ah (h&& ! i))/\(ah (h&& ! i))/\((h&& ! i)->(ar (h&& ! i))/\(ar (h&& ! i))/\0<=f/\f<(ac a)/\True)/\(ah (h&& ! i))/\(ah (h&& ! i))/\(ah (h&&
 ! i))/\((h&& ! i)->(ar (h&& ! i))/\(ar (h&& ! i))/\True)/\(h->(ar h)/\(i=false->(h&& ! i))/\True)/\(ar h)/\ao (bif h then bif i then true else decide ((ai a f).1.2<(ai a e).1.2) else false) (∃(j:Int) (k:Int),∃(l:Int),(IL a b j k l)/\toNat (l -j)<toNat (g -e)/\a=a/\b=b/\e=k/\g=l/\aj (e+1)=j/\(0:Int)=0/\(0:Int)=0/\(0:Int)=0/\True) (∃(j:Int) (k:Int),∃(l:Int),(IL a b j k l)/\toNat (l -j)<toNat (g -e)/\a=a/\b=b/\f=k/\g=l/\aj (e+1)=j/\(0:Int)=0/\(0:Int)=0/\(0:Int)=0/\True)) (ao (decide (f<0)) ((((0:Int),(0:Int)),([]:ae),(0:Int))=bf a b/\false=ie a b) (0<=f/\f<(ac a)/\((length (ai a f).2.1):Int)<=1099511627776/\ai a f=bf a b/\true=ie a b)):=by
  delta wj IL Jd ah ar aj ai ac;rintro l a ⟨⟨hl,-⟩,-⟩⟨k,hk,hx⟩ n f ⟨n0,n1,n2,-⟩;refine⟨⟨0,-1,n,⟨ab,ab,ab,ab,ab,by simp[ma],λ_=>(n2 k).2⟩,aP⟩,?_⟩;rintro i b n ⟨m,h1,o,h3,h4,p,g⟩;refine bU (λhi=>?_) (λhi=>?_)
  .have d:=Tf m ab p;refine⟨m,ab,?_⟩
   (repeat (refine bY ?_;repeat refine bZ ?_));refine aw (λh=>?_) (λh=>?_)
   .have d:=d true h.symm;refine⟨i+1,i,n,⟨ab,ab,o,ab,ab,by simpa using d,g⟩,ab,aP⟩
   .have d:=d false h.symm;refine⟨i+1,b,n,⟨ab,ab,o,ab,ab,by simpa using d,g⟩,ab,aP⟩
  .have e:i=n:=ab;subst e;have c:ma l a=ma (l.take i.toNat) a:=Vx (λz hz=>aW2 (g k z hz));rw[p] at c;refine bU (λj=>?_) (λj=>?_)
   .rw[am j] at c;simp[bf,ie,c]
   .rw[af j] at c;refine⟨ab,ab,hx _ (bS ab ab),?_,?_⟩
    .rw[bf,c]
    .rw[ie,c];rfl
theorem Gc:aB 48 RU.spec:=aF Tryz.func48 (av (av (av aD Kg) No) Mx) Vw aC5
def mC(l links:ae)(j:Nat):Prop:=(0<j->l.getD (j-1) default<l.getD j default)/\l.getD j default∈links
instance (l links:ae) (j:Nat):Decidable (mC l links j):=by unfold mC;infer_instance
def ww(l links:ae):Prop:=l.length<=16∧∀ j:Nat,j<l.length->mC l links j
instance (l links:ae):Decidable (ww l links):=by unfold ww;infer_instance
def kX(r:Rt)(links:ae):Prop:=ww r.2.1 links/\1<=r.2.2/\r.2.2<=3
instance (r:Rt) (links:ae):Decidable (kX r links):=by unfold kX;infer_instance
def chk(links:ae):Option eh->List Rt->Int
 | _,[]=>0
 | q,r::rs=>if jT r.1=false then 10 else if q.any (λq=>decide (0<=gD q r.1)) then 6 else if ¬ kX r links then 12 else chk links (some r.1) rs
def dP(l:List Rt)(links:ae):Int:=if (64:Int)<l.length then 5 else chk links none l
def sg(l:List Rt)(i:Int):Option eh:=if i=0 then none else some (l.getD (i-1).toNat default).1
theorem PJ{l a:ae}{i:Int}(h0:0<=i)(h:0<i->l.getD (i.toNat-1) default<l.getD i.toNat default)(h2:l.getD i.toNat default∈a):mC l a i.toNat :=
 ⟨λhi=>h ab,h2⟩
theorem PQ{l a:ae}{i:Int}(h0:0<=i)(h:∀ j:Nat,(j:Int)<i->mC l a j)(h2:mC l a i.toNat):∀ j:Nat,(j:Int)<i+1->mC l a j:=by
 grind
theorem QZ{l:List Rt}{a:ae}{i:Int}{q:Option eh}(h0:0<=i)(h1:i<l.length):chk a q (l.drop i.toNat)=if jT (l.getD i.toNat default).1=false then 10 else if q.any (λq=>decide (0<=gD q (l.getD i.toNat default).1)) then 6 else if ¬ kX (l.getD i.toNat default) a then 12 else chk a (some (l.getD i.toNat default).1) (l.drop (i+1).toNat):=by
 have b:i.toNat<l.length:=ab
 have e:(i+1).toNat=i.toNat+1:=ab
 rw[sI b,chk,bL,cK b,fZ,e]
def Mu:Ct:=⟨[.agg dj,.val (.sl cI)],[.val .bool],λ_=>[],λd=>((decide (kX d.1 d.2.1),()),())⟩
def am9:bw Mu.ps->ce:=(λd=>{loops:=(bq 4 (λS=>{ι:=Int,μ:=λi=>(d.1.2.1.length-i).toNat,inv:=λi=>0<=i/\i<=d.1.2.1.length∧∀ j:Nat,(j:Int)<i->mC d.1.2.1 d.2.1 j,keep:=[1,2,22,23],slots:=λi=>[(24,.int .i64 i)],keepN:=[48]}) cC)})
theorem T6 :
 ∀(a b:Int)(c:ae)(d:Int)(e:ae),(((0<=a/\a<=4294967295)/\aq b)/\(c.length<=maxLen/\ ∀(f:Int),f∈c->aq f)/\aq d)/\(e.length<=maxLen/\ ∀(f:Int),f∈e->aq f)/\True->True-> ∀(f:Bool),f=decide (16<(ac c))->(ah (! f))/\(ah (! f))/\(aE f)/\ ∀(g:Bool),(g=bif f then true else decide (d<1))->(ah (! g))/\(ah (! g))/\(aE g)/\ao (bif g then true else decide (3<d)) (false=decide (kX ((a,b),c,d) e)) ((∃(h:Int),(0<=h/\h<=(ac c)/\ ∀(i:Nat),(↑i:Int)<h->mC c e i)/\e=e/\c=c/\(ac c)=(ac c)/\0=h/\a=a/\b=b/\c=c/\d=d/\True)/\ ∀(h:Int),(0<=h/\h<=(ac c)/\ ∀(i:Nat),(↑i:Int)<h->mC c e i)->ao (decide (h<(ac c))) (0<=h/\h<(ac c)/\ ∀(i:Bool),i=decide (0<h)->(ah i)/\(ah i)/\(i->(ar i)/\(ar i)/\0<=aj (h -1)/\aj (h -1)<(ac c)/\True)/\(ah i)/\(i->(ar i)/\(ar i)/\True)/\(ar i)/\ ∀(j:Bool),(j=bif i then decide (ai c h<=ai c (aj (h -1))) else false)->((! j)->(ar (!
 j))/\(ar (! j))/\True)/\(ah (! j))/\(aE j)/\ao (bif j then true else ! decide (ai c h∈e)) (false=decide (kX ((a,b),c,d) e)) (∃(k:Int),(0<=k/\k<=(ac c)/\ ∀(l:Nat),(↑l:Int)<k->mC c e l)/\toNat ((ac c) -k)<toNat ((ac c) -h)/\e=e/\c=c/\(ac c)=(ac c)/\aj (h+1)=k/\a=a/\b=b/\c=c/\d=d/\True)) (true=decide (kX ((a,b),c,d) e))):=by
  delta ah ar aE aj ai ac;rintro a n l b ks ⟨⟨⟨-,-⟩,⟨hl,-⟩,-⟩,-⟩ -
  (repeat (refine bY ?_;repeat refine bZ ?_));refine aw (λc=>?_) (λc=>?_)
  .have c:¬ (l.length<=16/\1<=b/\b<=3):=by simp[-List.getD_eq_getElem?_getD,-Int.default_eq_zero,dE] at c;omega
   symm;apply dO;rintro⟨⟨g,-⟩,e⟩;exact c ⟨g,e⟩
  .have c:l.length<=16/\1<=b/\b<=3:=by simp[-List.getD_eq_getElem?_getD,-Int.default_eq_zero,dE] at c;omega
   refine⟨⟨0,⟨ab,ab,ab⟩,aP⟩,?_⟩;rintro i ⟨f,g,e⟩;refine bU (λhi=>?_) (λhi=>?_)
   .refine⟨f,hi,?_⟩;rw[aG ab ab]
    (repeat (refine bY ?_;repeat refine bZ ?_));refine aw (λd=>?_) (λd=>?_)
    .have d:¬ mC l ks i.toNat:=by
      rintro⟨k1,k2⟩;simp[-List.getD_eq_getElem?_getD,-Int.default_eq_zero,dE,k2] at d;omega
     symm;apply dO;rintro⟨⟨-,h3⟩,-⟩;exact d (h3 _ (show i.toNat<l.length by omega))
    .have d:mC l ks i.toNat:=by
      simp[-List.getD_eq_getElem?_getD,-Int.default_eq_zero,dE] at d;refine PJ f (λhp=>?_) d.2;omega
     exact⟨i+1,⟨ab,ab,PQ f e d⟩,ab,rfl,rfl,rfl,aG ab ab,aP⟩
   .symm;apply cM;exact⟨⟨c.1,λj hj=>e j (by simp only at hj;omega)⟩,c.2⟩
theorem VT:aB 184 Mu.spec:=aF Tryz.func184 (av aD UZ) am9 T6
def KT:Ct:=⟨[.val (.sl dj),.val (.sl cI)],[.val cI],λ_=>[],λd=>((dP d.1 d.2.1,()),())⟩
def an5:bw KT.ps->ce:=(λd=>{loops:=(bq 4 (λS=>{ι:=Int,μ:=λi=>(d.1.length-i).toNat,inv:=λi=>0<=i/\i<=d.1.length/\dP d.1 d.2.1=chk d.2.1 (sg d.1 i) (d.1.drop i.toNat),keep:=[0,1,10,11],slots:=λi=>[(12,.int .i64 i)]}) cC)})
def zQ(a:List aN)(b:ae)(c:Int) :=
 c<=(ac a)/\dP a b=chk b (sg a c) (drop c.toNat a)
theorem UE :
 ∀(a:List aN)(b:ae),(a.length<=maxLen/\ ∀(c:aN),c∈a->(wj c))/\(b.length<=maxLen/\ ∀(c:Int),c∈b->aq c)/\True->True->ao (decide (64<(ac a))) (5=dP a b) ((∃(c:Int),(0<=c/\(zQ a b c))/\a=a/\b=b/\a=a/\(ac a)=(ac a)/\0=c/\True)/\ ∀(c:Int),0<=c/\(zQ a b c)->ao (decide (c<(ac a))) (0<=c/\c<(ac a)/\ao (! jT (ai a c).1) (10=dP a b) (∀(d:Bool),d=decide (0<c)->(ah d)/\(d->(ar d)/\(ar d)/\0<=aj (c -1)/\aj (c -1)<(ac a)/\True)/\(ah d)/\(ah d)/\(ah d)/\(d->(ar d)/\(ar d)/\True)/\(ah d)/\(ar d)/\ao (bif d then decide (0<=gD (ai a (aj (c -1))).1 (ai a c).1) else false) (6=dP a b) (ao (! decide (kX (ai a c) b)) (12=dP a b) (∃(e:Int),(0<=e/\e<=(ac a)/\dP a b=chk b (sg a e) (drop e.toNat a))/\toNat ((ac a) -e)<toNat ((ac a) -c)/\a=a/\b=b/\a=a/\(ac a)=(ac a)/\aj (c+1)=e/\True)))) (0=dP a b)):=by
  delta wj zQ ah ar aj ai ac;rintro l ks ⟨⟨hl,-⟩,-⟩ -;refine bU (λa=>?_) (λa=>?_)
  .rw[dP,am a]
  .refine⟨⟨0,⟨ab,ab,by rw[dP,af a];rfl⟩,aP⟩,?_⟩;rintro i ⟨g,h1,h2⟩;rw[h2];refine bU (λhi=>?_) (λhi=>?_)
   .rw[QZ g hi,aG ab ab];refine⟨g,hi,aw (λc=>?_) (λc=>?_)⟩
    .simp_all
    .simp only[wB] at c;rw[af (by simp[-List.getD_eq_getElem?_getD,-Int.default_eq_zero,c])]
     (repeat (refine bY ?_;repeat refine bZ ?_));have he:(Option.any (λq=>decide (0<=gD q (l.getD i.toNat default).1)) (sg l i))=(bif decide (0<i) then decide (0<=gD (l.getD (i-1).toNat default).1 (l.getD i.toNat default).1) else false):=by
      unfold sg;by_cases e:i=0
      .simp[e]
      .rw[af e,Option.any_some];simp[show 0<i from by omega]
     rw[he];refine aw (λd=>?_) (λd=>?_)
     .rw[am d]
     .rw[af (by rw[d];decide)];refine aw (λf=>?_) (λf=>?_)
      .simp_all
      .simp at f;rw[af (λh=>h f)];refine⟨i+1,⟨ab,ab,?_⟩,ab,aP⟩;rw[sg,af ab,show i+1-1=i from by omega]
   .rw[List.drop_eq_nil_of_le ab,chk]
theorem PH:aB 154 KT.spec:=aF Tryz.func154 (av (av (av aD VT) OL) LD) an5 UE
def M9:Ct:=⟨[.val (.sl cI),.val (.sl cI)],[.val .bool],λ_=>[],λd=>((decide (ww d.1 d.2.1),()),())⟩
def aa5:bw M9.ps->ce:=(λd=>{loops:=(bq 4 (λS=>{ι:=Int,μ:=λi=>(d.1.length-i).toNat,inv:=λi=>0<=i/\i<=d.1.length∧∀ j:Nat,(j:Int)<i->mC d.1 d.2.1 j,keep:=[0,1],slots:=λi=>[(5,.int .i64 i)]}) (bq 8 (λS=>{ι:=Int×Bool,qn:=fj,μ:=λi=>(d.2.1.length-i.1).toNat,inv:=λi=>0<=i.1/\i.1<=d.2.1.length/\i.2=decide (d.1.getD (S.i 5).toNat default∈d.2.1.take i.1.toNat),keep:=[0,1,5],slots:=λi=>[(6,.bool i.2),(7,.int .i64 i.1)]}) cC))})
theorem VN :
 ∀(a b:ae),(a.length<=maxLen/\ ∀(c:Int),c∈a->aq c)/\(b.length<=maxLen/\ ∀(c:Int),c∈b->aq c)/\True->True->ao (decide (16<(ac a))) (false=decide (ww a b)) ((∃(c:Int),(0<=c/\c<=(ac a)/\ ∀(d:Nat),(↑d:Int)<c->mC a b d)/\a=a/\b=b/\0=c/\True)/\ ∀(c:Int),(0<=c/\c<=(ac a)/\ ∀(d:Nat),(↑d:Int)<c->mC a b d)->ao (decide (c<(ac a))) ((∃(d:Int) (e:Bool),(0<=d/\d<=(ac b)/\e=decide (ai a c∈take d.toNat b))/\a=a/\b=b/\c=c/\false=e/\0=d/\True)/\ ∀(d:Int)(e:Bool),0<=d/\d<=(ac b)/\e=decide (ai a c∈take d.toNat b)->ao (decide (d<(ac b))) (∀(f:Bool),f=e->((! f)->(ar (! f))/\(ar (! f))/\0<=d/\d<(ac b)/\True)/\(ah (! f))/\((! f)->(ar (! f))/\(ar (! f))/\0<=c/\c<(ac a)/\True)/\(ah (! f))/\((! f)->(ar (! f))/\(ar (! f))/\True)/\(aE f)/\ ∃(g:Int) (h:Bool),(0<=g/\g<=(ac b)/\h=decide (ai a c∈take g.toNat b))/\toNat ((ac b) -g)<toNat ((ac b)
 -d)/\a=a/\b=b/\c=c/\(bif f then true else decide (ai b d=ai a c))=h/\aj (d+1)=g/\True) (∀(f:Bool),f= ! e->(ah (! f))/\(ah (! f))/\ ∀(g:Bool),g=decide (0<c)->(ah (! f&&g))/\((! f&&g)->(ar (! f&&g))/\(ar (! f&&g))/\0<=aj (c -1)/\aj (c -1)<(ac a)/\True)/\(ah (! f&&g))/\((! f&&g)->(ar (! f&&g))/\(ar (! f&&g))/\0<=c/\c<(ac a)/\True)/\(ah (! f&&g))/\((! f&&g)->(ar (! f&&g))/\(ar (! f&&g))/\True)/\((! f)->(ar (! f))/\(g->(! f&&g))/\True)/\(aE f)/\ao (bif f then true else bif g then decide (ai a c<=ai a (aj (c -1))) else false) (false=decide (ww a b)) (∃(h:Int),(0<=h/\h<=(ac a)/\ ∀(i:Nat),(↑i:Int)<h->mC a b i)/\toNat ((ac a) -h)<toNat ((ac a) -c)/\a=a/\b=b/\aj (c+1)=h/\True))) (true=decide (ww a b))):=by
  delta ah ar aE aj ai ac;rintro l ks ⟨⟨hl,-⟩,⟨hk,-⟩,-⟩ -;simp only[maxLen] at hl hk;refine bU (λhb=>?_) (λhb=>?_)
  .symm;apply dO;rintro⟨h1,-⟩;omega
  .refine⟨⟨0,⟨ab,ab,ab⟩,aP⟩,?_⟩;rintro i ⟨d,h1,g⟩;refine bU (λhi=>?_) (λhi=>?_)
   .refine⟨⟨0,false,⟨ab,ab,aA⟩,aP⟩,?_⟩;rintro k f ⟨k0,k1,rfl⟩;refine bU (λa=>?_) (λa=>?_)
    .have e:(k+1).toNat=k.toNat+1:=ab;have c:k.toNat<ks.length:=ab
     (repeat (refine bY ?_;repeat refine bZ ?_));refine⟨k+1,_,⟨ab,ab,rfl⟩,ab,rfl,rfl,rfl,?_,aG ab ab,aP⟩;rw[e,xJ c,bL (l:=ks),cK c,fZ];grind
    .rw[fi ab,aG ab ab]
     (repeat (refine bY ?_;repeat refine bZ ?_));refine aw (λa=>?_) (λa=>?_)
     .have a:¬ mC l ks i.toNat:=by
       rintro⟨k1,k2⟩;simp[-List.getD_eq_getElem?_getD,-Int.default_eq_zero,dE] at a;grind
      symm;apply dO;rintro⟨-,h3⟩;exact a (h3 _ ab)
     .have a:mC l ks i.toNat:=by
       simp[-List.getD_eq_getElem?_getD,-Int.default_eq_zero,dE] at a;refine PJ d (λhp=>?_) a.1;omega
      exact⟨i+1,⟨ab,ab,PQ d g a⟩,ab,aP⟩
   .symm;apply cM;exact⟨ab,λj hj=>g j ab⟩
theorem ax6:aB 137 M9.spec:=aF Tryz.func137 aD aa5 VN
def N6:Ct:=⟨[.val (.sl dj),.val (.sl cI)],[.val cI],λ_=>[],λd=>((dP d.1 d.2.1,()),())⟩
def XU:bw N6.ps->ce:=(λd=>{loops:=(bq 4 (λS=>{ι:=Int,μ:=λi=>(d.1.length-i).toNat,inv:=λi=>0<=i/\i<=d.1.length/\dP d.1 d.2.1=chk d.2.1 (sg d.1 i) (d.1.drop i.toNat),keep:=[0,1],slots:=λi=>[(5,.int .i64 i)]}) cC)})
theorem V7 :
 ∀(a:List aN)(b:ae),(a.length<=maxLen/\ ∀(c:aN),c∈a->(wj c))/\(b.length<=maxLen/\ ∀(c:Int),c∈b->aq c)/\True->True->ao (decide (64<(ac a))) (5=dP a b) ((∃(c:Int),(0<=c/\(zQ a b c))/\a=a/\b=b/\0=c/\True)/\ ∀(c:Int),0<=c/\(zQ a b c)->ao (decide (c<(ac a))) (0<=c/\c<(ac a)/\ao (! jT (ai a c).1) (10=dP a b) (∀(d:Bool),d=decide (0<c)->(ah d)/\(d->(ar d)/\(ar d)/\0<=aj (c -1)/\aj (c -1)<(ac a)/\True)/\(ah d)/\(ah d)/\(d->(ar d)/\(ar d)/\0<=c/\c<(ac a)/\True)/\(ah d)/\(ah d)/\(d->(ar d)/\(ar d)/\True)/\(ah d)/\(ar d)/\ao (bif d then decide (0<=gD (ai a (aj (c -1))).1 (ai a c).1) else false) (6=dP a b) (0<=c/\c<(ac a)/\ ∀(e:Bool),e= ! decide (ww (ai a c).2.1 b)->((! e)->(ar (! e))/\(ar (! e))/\0<=c/\c<(ac a)/\True)/\(ah (! e))/\(ah (! e))/\(ah (! e))/\(aE e)/\ ∀(f:Bool),(f=bif e then true else decide ((ai a
 c).2.2<1))->((! f)->(ar (! f))/\(ar (! f))/\0<=c/\c<(ac a)/\True)/\(ah (! f))/\(ah (! f))/\(ah (! f))/\(aE f)/\ao (bif f then true else decide (3<(ai a c).2.2)) (12=dP a b) (∃(g:Int),(0<=g/\g<=(ac a)/\dP a b=chk b (sg a g) (drop g.toNat a))/\toNat ((ac a) -g)<toNat ((ac a) -c)/\a=a/\b=b/\aj (c+1)=g/\True)))) (0=dP a b)):=by
  delta wj zQ ah ar aE aj ai ac;rintro l j ⟨⟨hl,-⟩,-⟩ -;refine bU (λc=>?_) (λc=>?_)
  .rw[dP,am c]
  .refine⟨⟨0,⟨ab,ab,by rw[dP,af c];rfl⟩,aP⟩,?_⟩;rintro i ⟨d,h1,h2⟩;rw[h2];refine bU (λhi=>?_) (λhi=>?_)
   .rw[QZ d hi,aG ab ab];refine⟨d,hi,aw (λf=>?_) (λf=>?_)⟩
    .simp_all
    .simp only[wB] at f;rw[af (by simp[-List.getD_eq_getElem?_getD,-Int.default_eq_zero,f])]
     (repeat (refine bY ?_;repeat refine bZ ?_));have he:(Option.any (λq=>decide (0<=gD q (l.getD i.toNat default).1)) (sg l i))=(bif decide (0<i) then decide (0<=gD (l.getD (i-1).toNat default).1 (l.getD i.toNat default).1) else false):=by
      unfold sg;by_cases e:i=0
      .simp[e]
      .rw[af e,Option.any_some];simp[show 0<i from by omega]
     rw[he];refine aw (λg=>?_) (λg=>?_)
     .rw[am g]
     .rw[af (by rw[g];decide)];refine⟨d,hi,?_⟩
      (repeat (refine bY ?_;repeat refine bZ ?_));refine aw (λa=>?_) (λa=>?_)
      .have a:¬ kX (l.getD i.toNat default) j:=by
        rintro⟨r1,r2,r3⟩;grind
       rw[am a]
      .have a:kX (l.getD i.toNat default) j:=by
        simp[-List.getD_eq_getElem?_getD,-Int.default_eq_zero,dE] at a;exact⟨a.1.1,ab,ab⟩
       rw[af (λh=>h a)];refine⟨i+1,⟨ab,ab,?_⟩,ab,aP⟩;rw[sg,af ab,show i+1-1=i from by omega]
   .rw[List.drop_eq_nil_of_le ab,chk]
theorem K8:aB 69 N6.spec:=aF Tryz.func69 (av (av (av aD ax6) WD) M4) XU V7
theorem O0{l:List Rt}{i:Int}(h0:0<=i)(h1:i<l.length):l.take (i+1).toNat=l.take i.toNat++[l.getD i.toNat default]:=by
 have hj:i.toNat<l.length:=ab
 rw[show (i+1).toNat=i.toNat+1 from by omega,xJ hj,bL,cK hj,fZ]
theorem GM{m:List Rt}{r:Rt}(h:∀ z∈m,bH z.1 r.1):f6 m r=m++[r]:=by
 rw[f6,List.filter_eq_self.2 (λz hz=>cM (h z hz)),List.filter_eq_nil_iff.2 (λz hz=>by simpa using xj (h z hz))]
theorem Hz{m:List Rt}{r e:Rt}(h:bH r.1 e.1):f6 (m++[e]) r=f6 m r++[e]:=by
 rw[f6,f6,qS,qS,List.filter_cons,af (by simpa using xj h),List.filter_cons,am (by simpa using h)]
 simp
theorem MK{m:List Rt}{r e:Rt}(h:∀ z∈m,bH z.1 r.1)(he:e.1=r.1):f6 (m++[e]) r=m++[r]:=by
 have hi:¬ bH e.1 r.1:=by rw[he];exact rz _
 have hj:¬ bH r.1 e.1:=by rw[he];exact rz _
 have f1:m.filter (λa=>decide (bH a.1 r.1))=m:=List.filter_eq_self.2 (λz hz=>cM (h z hz))
 have f2:m.filter (λa=>decide (bH r.1 a.1))=[]:=List.filter_eq_nil_iff.2 (λz hz=>by simpa using xj (h z hz))
 simp[f6,f1,f2,hi,hj]
theorem later{l:List Rt}{p:eh}{i:Int}(hs:cH l)(h0:0<=i)(h1:i<l.length){z:Rt}(hz:z∈l.take i.toNat)(hp:¬ bH z.1 p):bH p (l.getD i.toNat default).1:=by
 have hsp:=Lj h0 h1
 unfold cH at hs
 rw[hsp] at hs
 have:=(List.pairwise_append.1 hs).2.2 z hz _ fW
 rcases D7 hp with e|h
 .rw[← e];exact this
 .exact BT h this
def Nv:Ct:=⟨[.val (.sl dj),.agg dj],[.own 96 dj],λd=>[cH d.1,okL d.1,(d.2.1.2.1.length:Int)<=1099511627776],λd=>((f6 d.1 d.2.1,()),())⟩
def aX6:bw Nv.ps->ce:=(λd=>{loops:=(bq 4 (λS=>{ι:=Int×Bool×(List Rt),qn:=rH,μ:=λi=>(d.1.length-i.1).toNat,inv:=λi=>0<=i.1/\i.1<=d.1.length/\(i.2.2.length:Int)<=i.1+1/\(i.2.1=false->(∀ z∈d.1.take i.1.toNat,bH z.1 d.2.1.1)/\i.2.2=d.1.take i.1.toNat)/\(i.2.1=true->(∃ z∈d.1.take i.1.toNat,¬ bH z.1 d.2.1.1)/\i.2.2=f6 (d.1.take i.1.toNat) d.2.1),keep:=[0,3],slots:=λi=>[(5,.own 524288 4),(6,.bool i.2.1),(7,.int .i64 i.1)],keepN:=[64],names:=λi=>[(524288,.live (.row 96 dj i.2.2))]}) cC)})
def Ch(a:List aN)(b c:Int)(d:ae)(e j:Int)(k:Bool)(l:List Rt) :=
 0<=j/\j<=(ac a)/\(ac l)<=j+1/\(k=false->(∀(m:aN),m∈take j.toNat a->bH m.1 (b,c))/\l=take j.toNat a)/\(k=true->(∃(m:aN),m∈take j.toNat a/\ ¬bH m.1 (b,c))/\l=f6 (take j.toNat a) ((b,c),d,e))
def Kn(a:List aN)(b c:Int)(d:ae)(e f:Int)(g:Bool)(h:List Rt) :=
 f<=(ac a)/\(ac h)<=f+1/\(g=false->(∀(i:aN),i∈take f.toNat a->bH i.1 (b,c))/\h=take f.toNat a)/\(g=true->(∃(i:aN),i∈take f.toNat a/\ ¬bH i.1 (b,c))/\h=f6 (take f.toNat a) ((b,c),d,e))
theorem Uk :
 ∀(a:List aN)(b c:Int)(d:ae)(e:Int),(C7 a)/\(((0<=b/\b<=4294967295)/\aq c)/\(d.length<=maxLen/\ ∀(f:Int),f∈d->aq f)/\aq e)/\True->cH a/\okL a/\(ac d)<=1099511627776->(∃(f:Int) (g:Bool),∃(h:List Rt),(0<=f/\(Kn a b c d e f g h))/\a=a/\false=g/\0=f/\b=b/\c=c/\d=d/\e=e/\h=([]:List aN)/\True)/\ ∀(f:Int)(g:Bool)(h:List Rt),0<=f/\(Kn a b c d e f g h)->ao (decide (f<(ac a))) (0<=f/\f<(ac a)/\ ∀(i:Bool),i=decide (0<=gD (ai a f).1 (b,c))->(ah i)/\(ar i)/\ao (bif i then ! g else false) ((ac d)<=1099511627776/\(h.length+length [((b,c),d,e)])*(48:Nat)<=(qc)/\ao (! decide (gD (ai a f).1 (b,c)=0)) (0<=f/\f<(ac a)/\((length (ai a f).2.1):Int)<=1099511627776/\(length (h++[((b,c),d,e)])+length [ai a f])*(48:Nat)<=(qc)/\ ∃(j:Int) (k:Bool),∃(l:List Rt),(Ch a b c d e j k l)/\toNat ((ac a) -j)<toNat ((ac a)
 -f)/\a=a/\true=k/\aj (f+1)=j/\b=b/\c=c/\d=d/\e=e/\h++[((b,c),d,e)]++[ai a f]=l/\True) (∃(j:Int) (k:Bool),∃(l:List Rt),(Ch a b c d e j k l)/\toNat ((ac a) -j)<toNat ((ac a) -f)/\a=a/\true=k/\aj (f+1)=j/\b=b/\c=c/\d=d/\e=e/\h++[((b,c),d,e)]=l/\True)) (ao (! decide (gD (ai a f).1 (b,c)=0)) (0<=f/\f<(ac a)/\((length (ai a f).2.1):Int)<=1099511627776/\(h.length+length [ai a f])*(48:Nat)<=(qc)/\ ∃(j:Int) (k:Bool),∃(l:List Rt),(Ch a b c d e j k l)/\toNat ((ac a) -j)<toNat ((ac a) -f)/\a=a/\g=k/\aj (f+1)=j/\b=b/\c=c/\d=d/\e=e/\h++[ai a f]=l/\True) (∃(j:Int) (k:Bool),∃(l:List Rt),(Ch a b c d e j k l)/\toNat ((ac a) -j)<toNat ((ac a) -f)/\a=a/\g=k/\aj (f+1)=j/\b=b/\c=c/\d=d/\e=e/\h=l/\True))) (ao (! g) ((ac d)<=1099511627776/\(h.length+length [((b,c),d,e)])*(48:Nat)<=(qc)/\h++[((b,c),d,e)]=f6 a ((b,c),d,e)) (h=f6 a
 ((b,c),d,e))):=by
  delta Ch C7 Kn qc ah ar aj ai ac;rintro l a n nx b ⟨⟨hl0,-⟩,-⟩⟨hs,⟨hl,hx⟩,hn⟩;refine⟨⟨0,false,[],⟨ab,ab,aA,λ_=>aA,λh=>by simp at h⟩,aP⟩,?_⟩;rintro i dn ys ⟨h0,h1,h2,h3,h4⟩;refine bU (λhi=>?_) (λhi=>?_)
  .have ht:=O0 h0 hi;have hxi:=hx _ (bS h0 hi);have hlt:∀(z:Rt),z∈l.take i.toNat->z∈l.take (i+1).toNat:=λz hz=>by rw[ht];exact gv _ hz
   have hsi:l.getD i.toNat default∈l.take (i+1).toNat:=by rw[ht];simp[-List.getD_eq_getElem?_getD,-Int.default_eq_zero]
   have hlater:=λz hz hp=>later (p:=(a,n)) (z:=z) hs h0 hi hz hp;generalize l.getD i.toNat default=e at *;refine⟨h0,hi,?_⟩
   (repeat (refine bY ?_;repeat refine bZ ?_));refine aw (λhc=>?_) (λhc=>?_)
   .have hq:¬ bH e.1 (a,n)/\dn=false:=by rw[← J8];simpa[dE] using hc
    clear hc;obtain⟨hc,rfl⟩:=hq;obtain⟨k1,rfl⟩:=h3 rfl;refine⟨hn,by simp only[ga];omega,aw (λhz=>?_) (λhz=>?_)⟩
    .have hz:¬ gD e.1 (a,n)=0:=by simpa using hz
     have hgt:bH (a,n) e.1:=by
      rcases D7 hc with h|h
      .exact absurd (EP.2 h) hz
      .exact h
     refine⟨h0,hi,hxi,by simp only[cu,ga];omega,i+1,true,_,⟨ab,ab,?_,aA,λ_=>⟨⟨e,hsi,hc⟩,rfl⟩⟩,ab,rfl,rfl,aG ab ab,rfl,rfl,rfl,rfl,?_,bv⟩
     .rw[ht,Hz hgt,GM k1];simp only[cu,ga,dA];omega
     .rw[ht,Hz hgt,GM k1]
    .have hz:gD e.1 (a,n)=0:=by simpa using hz
     have hz:=EP.1 hz;refine⟨i+1,true,_,⟨ab,ab,?_,aA,λ_=>⟨⟨e,hsi,hc⟩,rfl⟩⟩,ab,rfl,rfl,aG ab ab,rfl,rfl,rfl,rfl,?_,bv⟩
     .rw[ht,MK k1 hz];simp only[cu,ga,dA];omega
     .rw[ht,MK k1 hz]
   .have hc:¬ (¬ bH e.1 (a,n)/\dn=false):=by rw[← J8];simpa[dE] using hc
    cases dn with
    | false =>
     have hc:bH e.1 (a,n):=fq λh=>hc ⟨h,rfl⟩;obtain⟨k1,rfl⟩:=h3 rfl;have hz:¬ gD e.1 (a,n)=0:=by have:=By.2 hc;omega
     rw[dO hz];refine⟨h0,hi,hxi,by simp only[ga];omega,i+1,false,_,⟨ab,ab,?_,λ_=>⟨?_,rfl⟩,aA⟩,ab,rfl,rfl,aG ab ab,rfl,rfl,rfl,rfl,ht.symm,bv⟩
     .simp only[dA];omega
     .rw[ht];intro z hz;rcases dw.1 hz with hz|hz
      .exact k1 z hz
      .rw[iP.1 hz];exact hc
    | true =>
     obtain⟨⟨z,z1,z2⟩,rfl⟩:=h4 rfl;have hgt:=hlater z z1 z2;have hz:¬ gD e.1 (a,n)=0:=λh=>by have h:=EP.1 h;rw[h] at hgt;exact rz _ hgt
     rw[dO hz];have hp:=Hz (m:=l.take i.toNat) (r:=((a,n),nx,b)) hgt;refine⟨h0,hi,hxi,by simp only[ga];omega,i+1,true,_,⟨ab,ab,?_,aA,λ_=>⟨⟨z,hlt z z1,z2⟩,rfl⟩⟩,ab,rfl,rfl,aG ab ab,rfl,rfl,rfl,rfl,?_,bv⟩
     .rw[ht,hp,cu,ga];omega
     .rw[ht,hp]
  .rw[fi ab] at h3 h4;refine aw (λhd=>?_) (λhd=>?_)
   .obtain⟨k1,rfl⟩:=h3 (by simpa using hd);exact⟨hn,by simp only[ga];omega,(GM k1).symm⟩
   .exact (h4 (by simpa using hd)).2
theorem Rp:aB 139 Nv.spec:=aF Tryz.func139 (av (av aD Mm) M4) aX6 Uk
theorem RQ{m:List Rt}{p:eh}{e:Rt}:jk (m++[e]) p=jk m p++(if e.1=p then [] else [e]):=by
 rw[jk,jk,qS,List.filter_cons,List.filter_nil]
 by_cases h:e.1=p <;> simp[h]
theorem Ln(m:List Rt)(p:eh):(jk m p).length<=m.length:=List.length_filter_le _ _
def KI:Ct:=⟨[.val (.sl dj),.agg mW],[.own 96 dj],λd=>[okL d.1],λd=>((jk d.1 d.2.1,()),())⟩
def Xd:bw KI.ps->ce:=(λd=>{loops:=(bq 3 (λS=>{ι:=Int×(List Rt),qn:=fj,μ:=λi=>(d.1.length-i.1).toNat,inv:=λi=>0<=i.1/\i.1<=d.1.length/\i.2=jk (d.1.take i.1.toNat) d.2.1,keep:=[0,3],slots:=λi=>[(5,.own 524288 4),(6,.int .i64 i.1)],keepN:=[64],names:=λi=>[(524288,.live (.row 96 dj i.2))]}) cC)})
theorem ap8 :
 ∀(a:List aN)(b c:Int),(sP a)/\((0<=b/\b<=4294967295)/\aq c)/\True->(zS a)->(∃(d:Int) (e:List Rt),(0<=d/\d<=(ac a)/\e=jk (take d.toNat a) (b,c))/\a=a/\0=d/\b=b/\c=c/\e=([]:List aN)/\True)/\ ∀(d:Int)(e:List Rt),0<=d/\d<=(ac a)/\e=jk (take d.toNat a) (b,c)->ao (decide (d<(ac a))) (0<=d/\d<(ac a)/\ao (! (decide ((ai a d).1.1=b)&&(decide ((ai a d).1.2=c)&&true))) (0<=d/\d<(ac a)/\((length (ai a d).2.1):Int)<=1099511627776/\(e.length+length [ai a d])*(48:Nat)<=(qc)/\ ∃(f:Int) (g:List Rt),(0<=f/\f<=(ac a)/\g=jk (take f.toNat a) (b,c))/\toNat ((ac a) -f)<toNat ((ac a) -d)/\a=a/\aj (d+1)=f/\b=b/\c=c/\e++[ai a d]=g/\True) (∃(f:Int) (g:List Rt),(0<=f/\f<=(ac a)/\g=jk (take f.toNat a) (b,c))/\toNat ((ac a) -f)<toNat ((ac a) -d)/\a=a/\aj (d+1)=f/\b=b/\c=c/\e=g/\True)) (e=jk a (b,c)):=by
  delta sP zS qc aj ai ac;rintro l a n ⟨⟨hl0,-⟩,-⟩⟨hl,hx⟩;refine⟨⟨0,[],⟨ab,ab,by simp[jk]⟩,aP⟩,?_⟩;rintro i ys ⟨h0,h1,rfl⟩;refine bU (λhi=>?_) (λhi=>?_)
  .have ht:=O0 h0 hi;have hxi:=hx _ (bS h0 hi);have hle:=Ln (l.take i.toNat) (a,n);have hle2:(l.take i.toNat).length<=l.length:=by simp only[dA];omega
   generalize l.getD i.toNat default=e at *;obtain⟨⟨c,f⟩,g⟩:=e;refine⟨h0,hi,aw (λhc=>?_) (λhc=>?_)⟩
   .have hc:¬ (c,f)=(a,n):=by
     intro h;cases h;simp at hc
    refine⟨h0,hi,hxi,by simp only[ga];omega,i+1,_,⟨ab,ab,rfl⟩,ab,rfl,aG ab ab,rfl,rfl,?_,bv⟩;rw[ht,RQ,af hc]
   .have hc:(c,f)=(a,n):=by
     simp at hc;rw[hc.1,hc.2]
    refine⟨i+1,_,⟨ab,ab,rfl⟩,ab,rfl,aG ab ab,rfl,rfl,?_,bv⟩;rw[ht,RQ,am hc,jG]
  .rw[fi ab]
theorem Se:aB 138 KI.spec:=aF Tryz.func138 (av aD Mm) Xd ap8
def m5(l:List Rt)(p:eh):Bool:=decide ((jk l p).length<l.length)
def ZQ:Ct:=⟨[.val (.sl dj),.agg mW],[.val .bool],λd=>[okL d.1],λd=>((m5 d.1 d.2.1,()),())⟩
theorem ZT :
 ∀(a:List aN)(b c:Int),(sP a)/\((0<=b/\b<=4294967295)/\aq c)/\True->(zS a)->okL a/\decide (((length (jk a (b,c))):Int)<(ac a))=m5 a (b,c):=by
  delta sP zS ac;rintro l a n-h;exact⟨h,decide_eq_decide.2 Int.ofNat_lt⟩
theorem NB:aB 71 ZQ.spec:=aF Tryz.func71 (av aD Se) aT ZT
theorem MV{l:List Rt}{r z:Rt}:z∈f6 l r↔z=r∨(z∈l/\z.1≠r.1):=by
 unfold f6
 simp only[dw,dL,List.mem_filter,lU]
 constructor
 .rintro (⟨h,k⟩|h|⟨h,k⟩)
  .exact .inr ⟨h,λe=>rz _ (e▸k)⟩
  .exact .inl h
  .exact .inr ⟨h,λe=>rz _ (e▸k)⟩
 .rintro (h|⟨h,k⟩)
  .exact .inr (.inl h)
  .by_cases hp:bH z.1 r.1
   .exact .inl ⟨h,hp⟩
   .rcases D7 hp with e|e
    .exact absurd e k
    .exact .inr (.inr ⟨h,e⟩)
theorem Gz{l:List Rt}{r:Rt}(hs:cH l):cH (f6 l r):=by
 unfold cH f6
 refine List.pairwise_append.2 ⟨List.Pairwise.filter _ hs,List.pairwise_cons.2 ⟨λz hz=>?_,List.Pairwise.filter _ hs⟩,λx hx y hy=>?_⟩
 .simpa using (List.mem_filter.1 hz).2
 .have hx:bH x.1 r.1:=by simpa using (List.mem_filter.1 hx).2
  rcases dL.1 hy with rfl|hy
  .exact hx
  .exact BT hx (by simpa using (List.mem_filter.1 hy).2)
theorem Lf(l:List Rt)(r:Rt):(f6 l r).length<=l.length+1:=by
 unfold f6
 rw[cu,dM]
 suffices h:(l.filter (λa=>decide (bH a.1 r.1))).length+(l.filter (λa=>decide (bH r.1 a.1))).length<=l.length by omega
 induction l with
 | nil=>simp
 | cons a l ih =>
  simp only[List.filter_cons];by_cases h1:bH a.1 r.1
  .have h2:=xj h1;simp only[h1,h2,decide_true,decide_false,if_true,dM];simp;omega
  .by_cases h2:bH r.1 a.1
   .simp[h1,h2];omega
   .simp[h1,h2];omega
def F8(m:List Rt)(a:Int):Option Rt->Prop
 | none=>∀ z∈m,dS z.1 a=false
 | some r=>r∈m/\dS r.1 a=true∧∀ z∈m,dS z.1 a=true->z.1.2<=r.1.2
theorem at0(a:Int)(l:List Rt):∀(m:List Rt)(s:Option Rt),F8 m a s->F8 (m++l) a (l.foldl (ta a) s):=by
 induction l with
 | nil=>intro m s h;simpa using h
 | cons e l ih =>
  intro m s h;rw[List.foldl_cons,show m++e::l=(m++[e])++l from by simp];apply ih;unfold ta;by_cases hc:dS e.1 a=true
  .rw[am hc];cases s with
   | none =>
    refine⟨aA,hc,λz hz hq=>?_⟩;rcases dw.1 hz with hz|hz
    .rw[h z hz] at hq;cases hq
    .rw[iP.1 hz];omega
   | some q =>
    obtain⟨h1,h2,h3⟩:=h;by_cases hl:q.1.2<e.1.2
    .simp only[hl,if_true];refine⟨aA,hc,λz hz hq=>?_⟩;rcases dw.1 hz with hz|hz
     .have:=h3 z hz hq;omega
     .rw[iP.1 hz];omega
    .simp only[hl,if_false];refine⟨gv _ h1,h2,λz hz hq=>?_⟩;rcases dw.1 hz with hz|hz
     .exact h3 z hz hq
     .rw[iP.1 hz];omega
  .rw[af hc];cases s with
   | none =>
    intro z hz;rcases dw.1 hz with hz|hz
    .exact h z hz
    .rw[iP.1 hz];simpa using hc
   | some q =>
    obtain⟨h1,h2,h3⟩:=h;refine⟨gv _ h1,h2,λz hz hq=>?_⟩;rcases dw.1 hz with hz|hz
    .exact h3 z hz hq
    .rw[iP.1 hz] at hq;exact absurd hq hc
theorem Ru(l:List Rt)(a:Int):F8 l a (ma l a):=at0 a l [] none (by intro z hz;cases hz)
theorem WB(l:List Rt)(a:Int):ie l a=decide (∃ z∈l,dS z.1 a=true):=by
 have h:=Ru l a
 unfold ie
 cases hl:ma l a with
 | none =>
  rw[hl] at h;symm;apply dO;rintro⟨z,hz,hq⟩;rw[h z hz] at hq;cases hq
 | some r =>
  rw[hl] at h;symm;apply cM;exact⟨r,h.1,h.2.1⟩
theorem Yr{l:List Rt}{a:Int}(hb:∃ z∈l,dS z.1 a=true):bf l a∈l/\dS (bf l a).1 a=true∧∀ z∈l,dS z.1 a=true->z.1.2<=(bf l a).1.2:=by
 have h:=Ru l a
 unfold bf
 cases hl:ma l a with
 | none =>
  rw[hl] at h;obtain⟨z,hz,hq⟩:=hb;rw[h z hz] at hq;cases hq
 | some r=>rw[hl] at h;exact h
theorem U9(l:List Rt)(p:eh):m5 l p=decide (∃ z∈l,z.1=p):=by
 unfold m5 jk
 apply decide_eq_decide.2
 rw[List.length_filter_lt_length_iff_exists]
 simp
abbrev w(n:Int):Int:=IntKind.i64.wrap n
def AY(b:Int×Int)(at':Int):Int×Int:=(w (b.1*b.2),at')
def uc(b t:Int×Int)(at':Int):Int:=min (w (t.1+w (at'-t.2))) (w (b.1*b.2))
def kF(b t:Int×Int)(at':Int):(Int×Int)×Bool :=
 if b=(0,0) then ((0,max at' t.2),true) else
  if uc b t (max at' t.2)<b.2 then ((uc b t (max at' t.2),max at' t.2),false) else ((w (uc b t (max at' t.2)-b.2),max at' t.2),true)
def ak6:Ct:=⟨[.agg xO],[.val .bool],λ_=>[],λd=>((decide (d.1=(0,0)),()),())⟩
theorem ab2 :
 ∀(a b:Int),(aq a/\aq b)/\True->True->(decide (a=0)&&(decide (b=0)&&true))=decide ((a,b)=((0:Int),(0:Int))):=by
  rintro x y - -;simp
theorem Nu:aB 195 ak6.spec:=aF Tryz.func195 aD aT ab2
def aT1:Ct:=⟨[.agg xO,.agg vM,.val cI],[.val cI],λ_=>[],λd=>((uc d.1 d.2.1 d.2.2.1,()),())⟩
theorem aB1 :
 ∀(a b c d e:Int),(aq a/\aq b)/\(aq c/\aq d)/\aq e/\True->True->min (aj (c+aj (e -d))) (aj (a*b))=uc (a,b) (c,d) e:=by
  delta aj;rintro x y a b c - -;rfl
theorem YI:aB 231 aT1.spec:=aF Tryz.func231 aD aT aB1
def ai1:Ct:=⟨[.agg xO,.val cI],[.agg vM],λ_=>[],λd=>((AY d.1 d.2.1,()),())⟩
theorem aW0 :
 ∀(a b c:Int),(aq a/\aq b)/\aq c/\True->True->(aj (a*b),c)=(w (a*b),c):=by
  delta aj;rintro x y a - -;rfl
theorem V6:aB 98 ai1.spec:=aF Tryz.func98 aD aT aW0
def Zw:Ct:=⟨[.agg xO,.agg vM,.val cI],[.agg vM,.val .bool],λ_=>[],λd=>(((kF d.1 d.2.1 d.2.2.1).1,(kF d.1 d.2.1 d.2.2.1).2,()),())⟩
theorem Z4 :
 ∀(a b c d e:Int),(aq a/\aq b)/\(aq c/\aq d)/\aq e/\True->True->ao (decide ((a,b)=((0:Int),(0:Int)))) (((0:Int),max e d)=(kF (a,b) (c,d) e).1/\true=(kF (a,b) (c,d) e).2) (ao (decide (uc (a,b) (c,d) (max e d)<b)) ((uc (a,b) (c,d) (max e d),max e d)=(kF (a,b) (c,d) e).1/\false=(kF (a,b) (c,d) e).2) ((aj (uc (a,b) (c,d) (max e d) -b),max e d)=(kF (a,b) (c,d) e).1/\true=(kF (a,b) (c,d) e).2)):=by
  delta aj;rintro x y a b c - -;simp only[kF];refine bU (λhb=>?_) (λhb=>?_)
  .rw[am hb];exact⟨rfl,rfl⟩
  .rw[af hb];refine bU (λh=>?_) (λh=>?_)
   .rw[am h];exact⟨rfl,rfl⟩
   .rw[af h];exact⟨rfl,rfl⟩
theorem Pa:aB 221 Zw.spec:=aF Tryz.func221 (av (av aD Nu) YI) aT Z4
def QY(up:Bool)(l:ae):Prop:=l.length<=39/\(∀ x∈l,0<=x/\x<=8000)/\(up=true->l.Pairwise (· ≤ ·))
def hV(b:Int×Int):Int:=if b=(0,0)∨(1<=b.1/\b.1<=65536/\1<=b.2/\b.2<=1073741824) then 0 else 1
def bj(x:au):ae:=(ay x).map (·.2)
def md(x:au):ae:=(ay x).map (·.1)
def gW(q:Int×Int->Bool)(l:List (Int×Int)):Int:=if l.findIdx q<l.length then (l.findIdx q:Int) else -1
def gV(a:Int)(p:Int×Int):Bool:=decide (p.1=a)
def ic(k:Int)(p:Int×Int):Bool:=decide (p.2=k)
def jl(x:au)(a:Int):Int:=gW (gV a) (ay x)
def cy(x:au)(k:Int):Int:=gW (ic k) (ay x)
def dC(x:au)(a:Int):Bool:=decide (0<=jl x a)||(!decide (fy x=0)&&decide (fy x=a))
theorem rk{α:Type} [Inhabited α] {l:List α} {k:Int} (h0:0<=k) (h1:k<l.length):l.take (k+1).toNat=l.take k.toNat++[l.getD k.toNat default]:=by
 rw[show (k+1).toNat=k.toNat+1 by omega,List.take_add_one,cK ab,bL,cK ab];rfl
def Sx:Ct:=⟨[.agg xO],[.val cI],λ_=>[],λd=>((hV d.1,()),())⟩
theorem Xw :
 ∀(a b:Int),(aq a/\aq b)/\True->True-> ∀(c:Bool),c= ! decide ((a,b)=((0:Int),(0:Int)))->(ah c)/\(ah c)/\(ah c)/\ ∀(d:Bool),d=decide (a<1)->(ah (c&& ! d))/\(ah (c&& ! d))/\(c->(ar c)/\(d=false->(c&& ! d))/\True)/\(ah c)/\ ∀(e:Bool),(e=bif d then true else decide (65536<a))->(ah (c&& ! e))/\(ah (c&& ! e))/\(c->(ar c)/\(e=false->(c&& ! e))/\True)/\(ah c)/\ ∀(f:Bool),(f=bif e then true else decide (b<1))->(ah (c&& ! f))/\(ah (c&& ! f))/\(c->(ar c)/\(f=false->(c&& ! f))/\True)/\(ar c)/\ao (bif c then bif f then true else decide (1073741824<b) else false) (1=hV (a,b)) (0=hV (a,b)):=by
  delta ah ar;rintro a b - -
  (repeat (refine bY ?_;repeat refine bZ ?_));unfold hV;refine aw (λh=>?_) (λh=>?_)
  .simp at h;rw[af (by simp;omega)]
  .simp at h;rw[am (by simp;omega)]
theorem ab6:aB 181 Sx.spec:=aF Tryz.func181 (av aD Nu) aT Xw
def aI0:Ct:=⟨[.agg xO],[.val cI],λ_=>[],λd=>((hV d.1,()),())⟩
theorem Y5 :
 ∀(a b:Int),(aq a/\aq b)/\True->True-> ∀(c:Bool),c=(decide (a=0)&&(decide (b=0)&&true))->(ah (! c))/\(ah (! c))/\(ah (! c))/\ ∀(d:Bool),d=decide (1<=a)->(ah (! c&&d))/\(ah (! c&&d))/\((! c)->(ar (! c))/\(d->(! c&&d))/\True)/\(ah (! c))/\ ∀(e:Bool),(e=bif d then decide (a<=65536) else false)->(ah (! c&&e))/\(ah (! c&&e))/\((! c)->(ar (! c))/\(e->(! c&&e))/\True)/\(ah (! c))/\ ∀(f:Bool),(f=bif e then decide (1<=b) else false)->(ah (! c&&f))/\(ah (! c&&f))/\((! c)->(ar (! c))/\(f->(! c&&f))/\True)/\(aE c)/\ao (bif c then true else bif f then decide (b<=1073741824) else false) (0=hV (a,b)) (1=hV (a,b)):=by
  delta ah ar aE;rintro a b - -
  (repeat (intro (b_:Bool) (hb_:b_=_);(repeat refine⟨(by first|(simp;done)|(rw[hb_];simp;done)|(rw[hb_];simp;omega)|(rw[hb_];simp;intros;omega)|(rw[hb_];simp +contextual;done)),?_⟩);subst hb_));unfold hV;refine⟨by intro h;rw[h];rfl,?_⟩;refine aw (λh=>?_) (λh=>?_)
  .simp at h;rw[am (by simp;omega)]
  .simp at h;rw[af (by simp;omega)]
theorem VX:aB 68 aI0.spec:=aF Tryz.func68 aD aT Y5
def as8:Ct:=⟨[.val cP],[.val .bool],λd=>[],λd=>((decide (fC d.1),()),())⟩
theorem aa0 :
 ∀(a:Int),(0<=a/\a<=4294967295)/\True->True-> ∀(b:Bool),b=decide (fE a=0)->(ah (! b))/\(aE b)/\(bif b then true else decide (fE a=3))=decide (fC a):=by
  delta ah aE;rintro a - -
  (repeat (refine bY ?_;repeat refine bZ ?_));rw[u3,nZ];simp[fC,dE]
theorem YF:aB 179 as8.spec:=aF Tryz.func179 (av aD PI) aT aa0
def aG2:Ct:=⟨[.agg sX,.box 35 cP],[.val .bool],λd=>[],λd=>((gV d.2.1 d.1,()),(d.2.1,()))⟩
theorem ZG :
 ∀(a b c:Int),((0<=a/\a<=4294967295)/\aq b)/\(0<=c/\c<=4294967295)/\True->True->decide (a=c)=gV c (a,b)/\c=c:=by
  rintro a b c - -;exact⟨rfl,rfl⟩
theorem UD:aB 166 aG2.spec:=aF Tryz.func166 aD aT ZG
def aE0:Ct:=⟨[.agg sX,.box 3 cI],[.val .bool],λd=>[],λd=>((ic d.2.1 d.1,()),(d.2.1,()))⟩
theorem YP :
 ∀(a b c:Int),((0<=a/\a<=4294967295)/\aq b)/\aq c/\True->True->decide (b=c)=ic c (a,b)/\c=c:=by
  rintro a b c - -;exact⟨rfl,rfl⟩
theorem aD7:aB 123 aE0.spec:=aF Tryz.func123 aD aT YP
def NQ:Ct:=⟨[.val (.sl sX),.fn 166 1,.box 35 cP],[.val cI],λd=>[],λd=>((gW (gV d.2.2.1) d.1,()),(d.2.2.1,()))⟩
def Xj:bw NQ.ps->ce:=(λd=>{loops:=(bq 2 (λS=>{ι:=Int,μ:=λi=>(d.1.length-i).toNat,inv:=λi=>0<=i/\i<=d.1.length∧∀ x∈d.1.take i.toNat,gV d.2.2.1 x=false,keep:=[0,1,6,7],slots:=λi=>[(8,.int .i64 i)],keepN:=[1048576]}) cC)})
theorem S6 :
 ∀(a:List (Int×Int))(b:Int),(a.length<=maxLen/\ ∀(c:Int×Int),c∈a->(0<=c.1/\c.1<=4294967295)/\aq c.2)/\True/\(0<=b/\b<=4294967295)/\True->True->(∃(c:Int),(0<=c/\c<=(ac a)/\ ∀(d:Int×Int),d∈take c.toNat a->gV b d=false)/\a=a/\a=a/\(ac a)=(ac a)/\0=c/\b=b/\True)/\ ∀(c:Int),(0<=c/\c<=(ac a)/\ ∀(d:Int×Int),d∈take c.toNat a->gV b d=false)->ao (decide (c<(ac a))) (0<=c/\c<(ac a)/\ao (gV b (ai a c)) (c=gW (gV b) a/\b=b) (∃(d:Int),(0<=d/\d<=(ac a)/\ ∀(e:Int×Int),e∈take d.toNat a->gV b e=false)/\toNat ((ac a) -d)<toNat ((ac a) -c)/\a=a/\a=a/\(ac a)=(ac a)/\aj (c+1)=d/\b=b/\True)) (-1=gW (gV b) a/\b=b):=by
  delta aj ai ac;rintro l a ⟨⟨hl,-⟩,-⟩ -;simp only[maxLen] at hl;refine⟨⟨0,⟨ab,ab,aA⟩,aP⟩,?_⟩;rintro j ⟨j0,j1,hj⟩;refine bU (λhk=>?_) (λhk=>?_)
  .refine⟨j0,hk,aw (λhm=>?_) (λhm=>?_)⟩
   .exact⟨xA j0 hk hj hm,rfl⟩
   .exact⟨j+1,⟨ab,ab,nW j0 hk hj hm⟩,ab,aP⟩
  .exact⟨yd hk hj,rfl⟩
theorem X7:aB 122 NQ.spec:=aF Tryz.func122 (av aD UD) Xj S6
def Pi:Ct:=⟨[.val (.sl sX),.fn 123 1,.box 3 cI],[.val cI],λd=>[],λd=>((gW (ic d.2.2.1) d.1,()),(d.2.2.1,()))⟩
def aM0:bw Pi.ps->ce:=(λd=>{loops:=(bq 2 (λS=>{ι:=Int,μ:=λi=>(d.1.length-i).toNat,inv:=λi=>0<=i/\i<=d.1.length∧∀ x∈d.1.take i.toNat,ic d.2.2.1 x=false,keep:=[0,1,6,7],slots:=λi=>[(8,.int .i64 i)],keepN:=[1048576]}) cC)})
theorem ar4 :
 ∀(a:List (Int×Int))(b:Int),(a.length<=maxLen/\ ∀(c:Int×Int),c∈a->(0<=c.1/\c.1<=4294967295)/\aq c.2)/\True/\aq b/\True->True->(∃(c:Int),(0<=c/\c<=(ac a)/\ ∀(d:Int×Int),d∈take c.toNat a->ic b d=false)/\a=a/\a=a/\(ac a)=(ac a)/\0=c/\b=b/\True)/\ ∀(c:Int),(0<=c/\c<=(ac a)/\ ∀(d:Int×Int),d∈take c.toNat a->ic b d=false)->ao (decide (c<(ac a))) (0<=c/\c<(ac a)/\ao (ic b (ai a c)) (c=gW (ic b) a/\b=b) (∃(d:Int),(0<=d/\d<=(ac a)/\ ∀(e:Int×Int),e∈take d.toNat a->ic b e=false)/\toNat ((ac a) -d)<toNat ((ac a) -c)/\a=a/\a=a/\(ac a)=(ac a)/\aj (c+1)=d/\b=b/\True)) (-1=gW (ic b) a/\b=b):=by
  delta aj ai ac;rintro l a ⟨⟨hl,-⟩,-⟩ -;simp only[maxLen] at hl;refine⟨⟨0,⟨ab,ab,aA⟩,aP⟩,?_⟩;rintro j ⟨j0,j1,hj⟩;refine bU (λhk=>?_) (λhk=>?_)
  .refine⟨j0,hk,aw (λhm=>?_) (λhm=>?_)⟩
   .exact⟨xA j0 hk hj hm,rfl⟩
   .exact⟨j+1,⟨ab,ab,nW j0 hk hj hm⟩,ab,aP⟩
  .exact⟨yd hk hj,rfl⟩
theorem aN0:aB 122 Pi.spec:=aF Tryz.func122 (av aD aD7) aM0 ar4
def Vt:Ct:=⟨[.agg bR,.val cP],[.val cI],λd=>[],λd=>((jl d.1 d.2.1,()),())⟩
theorem Tq :
 ∀(a:au)(b:Int),CT.wf bR a/\(0<=b/\b<=4294967295)/\True->True->gW (gV b) a.1=jl a b:=by
  rintro d x - -;rfl
theorem M5:aB 120 Vt.spec:=aF Tryz.func120 (av aD X7) aT Tq
def XC:Ct:=⟨[.agg bR,.val cI],[.val cI],λd=>[],λd=>((cy d.1 d.2.1,()),())⟩
theorem aH7 :
 ∀(a:au)(b:Int),CT.wf bR a/\aq b/\True->True->gW (ic b) a.1=cy a b:=by
  rintro d x - -;rfl
theorem Bo:aB 55 XC.spec:=aF Tryz.func55 (av aD aN0) aT aH7
def YN:Ct:=⟨[.agg bR,.val cP],[.val .bool],λd=>[],λd=>((dC d.1 d.2.1,()),())⟩
theorem Tg :
 ∀(a:au)(b:Int),CT.wf bR a/\(0<=b/\b<=4294967295)/\True->True-> ∀(c:Int),c=jl a b-> ∀(d:Bool),d=decide (0<=c)->(ah (! d))/\(ah (! d))/\(ah (! d))/\ ∀(e:Bool),e= ! decide (a.2.1=0)->(ah (! d&&e))/\((! d&&e)->(ar (! d&&e))/\(ar (! d&&e))/\True)/\((! d)->(ar (! d))/\(e->(! d&&e))/\True)/\(aE d)/\(bif d then true else bif e then decide (a.2.1=b) else false)=dC a b:=by
  delta ah ar aE;rintro d x - - q hq;unfold dC;rw[show fy d=d.2.1 from rfl,← hq];generalize d.2.1=z;intro b hb;refine⟨aA,aA,aA,?_⟩;intro b1 hb1
  (repeat refine⟨(by cases b <;> cases b1 <;> simp),?_⟩);rw[hb,hb1];cases decide (0<=q) <;> cases decide (z=0) <;> cases decide (z=x) <;> rfl
theorem HN:aB 50 YN.spec:=aF Tryz.func50 (av aD (Ct.named M5)) aT Tg
def NC:Ct:=⟨[.agg bR],[.own 3 cI],λd=>[(ay d.1).length<=100000],λd=>((bj d.1,()),())⟩
def TL:bw NC.ps->ce:=(λd=>{loops:=(bq 3 (λS=>{ι:=Int×ae,qn:=fj,μ:=λi=>((ay d.1).length-i.1).toNat,inv:=λi=>0<=i.1/\i.1<=(ay d.1).length/\i.2=(bj d.1).take i.1.toNat,keep:=[1,7,8],slots:=λi=>[(3,.own 524288 1),(9,.int .i64 i.1)],keepN:=[32],names:=λi=>[(524288,.live (.row 3 cI i.2))]}) cC)})
def zl(a:au) :=
 ((length (ay a)):Int)
theorem ai8 :
 ∀(a:au),CT.wf bR a/\True->length (ay a)<=(100000:Nat)->(∃(b:Int) (c:ae),(0<=b/\b<=(zl a)/\c=take b.toNat (bj a))/\a.1=a.1/\(ac a.1)=(ac a.1)/\0=b/\a.1=a.1/\a.2.1=a.2.1/\a.2.2.1=a.2.2.1/\a.2.2.2.1=a.2.2.2.1/\a.2.2.2.2.1=a.2.2.2.2.1/\a.2.2.2.2.2.1=a.2.2.2.2.2.1/\a.2.2.2.2.2.2.1=a.2.2.2.2.2.2.1/\a.2.2.2.2.2.2.2.1=a.2.2.2.2.2.2.2.1/\a.2.2.2.2.2.2.2.2.1=a.2.2.2.2.2.2.2.2.1/\a.2.2.2.2.2.2.2.2.2.1=a.2.2.2.2.2.2.2.2.2.1/\a.2.2.2.2.2.2.2.2.2.2.1.1=a.2.2.2.2.2.2.2.2.2.2.1.1/\a.2.2.2.2.2.2.2.2.2.2.1.2=a.2.2.2.2.2.2.2.2.2.2.1.2/\a.2.2.2.2.2.2.2.2.2.2.2.1=a.2.2.2.2.2.2.2.2.2.2.2.1/\a.2.2.2.2.2.2.2.2.2.2.2.2.1=a.2.2.2.2.2.2.2.2.2.2.2.2.1/\a.2.2.2.2.2.2.2.2.2.2.2.2.2.1=a.2.2.2.2.2.2.2.2.2.2.2.2.2.1/\a.2.2.2.2.2.2.2.2.2.2.2.2.2.2=a.2.2.2.2.2.2.2.2.2.2.2.2.2.2/\c=([]:ae)/\True)/\ ∀(b:Int)(c:ae),0<=b/\b<=(zl a)/\c=take b.toNat (bj a)->ao (decide
 (b<(ac a.1))) (0<=b/\b<(ac a.1)/\(c.length+length [(getD a.1 b.toNat default).2])*(8:Nat)<=(140737488355328:Nat)/\ ∃(d:Int) (e:ae),(0<=d/\d<=(zl a)/\e=take d.toNat (bj a))/\toNat ((zl a) -d)<toNat ((zl a) -b)/\a.1=a.1/\(ac a.1)=(ac a.1)/\aj
 (b+1)=d/\a.1=a.1/\a.2.1=a.2.1/\a.2.2.1=a.2.2.1/\a.2.2.2.1=a.2.2.2.1/\a.2.2.2.2.1=a.2.2.2.2.1/\a.2.2.2.2.2.1=a.2.2.2.2.2.1/\a.2.2.2.2.2.2.1=a.2.2.2.2.2.2.1/\a.2.2.2.2.2.2.2.1=a.2.2.2.2.2.2.2.1/\a.2.2.2.2.2.2.2.2.1=a.2.2.2.2.2.2.2.2.1/\a.2.2.2.2.2.2.2.2.2.1=a.2.2.2.2.2.2.2.2.2.1/\a.2.2.2.2.2.2.2.2.2.2.1.1=a.2.2.2.2.2.2.2.2.2.2.1.1/\a.2.2.2.2.2.2.2.2.2.2.1.2=a.2.2.2.2.2.2.2.2.2.2.1.2/\a.2.2.2.2.2.2.2.2.2.2.2.1=a.2.2.2.2.2.2.2.2.2.2.2.1/\a.2.2.2.2.2.2.2.2.2.2.2.2.1=a.2.2.2.2.2.2.2.2.2.2.2.2.1/\a.2.2.2.2.2.2.2.2.2.2.2.2.2.1=a.2.2.2.2.2.2.2.2.2.2.2.2.2.1/\a.2.2.2.2.2.2.2.2.2.2.2.2.2.2=a.2.2.2.2.2.2.2.2.2.2.2.2.2.2/\c++[(getD a.1 b.toNat default).2]=e/\True) (c=bj a):=by
  delta zl aj ac;rintro d-hl;have hlen:(bj d).length=(ay d).length:=by simp[bj]
  refine⟨⟨0,[],⟨ab,ab,rfl⟩,aP⟩,?_⟩;rintro j l ⟨j0,j1,rfl⟩;have hd:d.1=ay d:=rfl;rw[hd];refine bU (λhk=>?_) (λhk=>?_)
  .refine⟨j0,hk,by simp only[dA,dM,List.length_nil];omega,j+1,_,⟨ab,ab,rfl⟩,ab,?_⟩
   (repeat refine js ?_);refine⟨?_,bv⟩;rw[rk j0 (by rw[hlen];exact hk)];unfold bj;rw[bL,bL,List.getElem?_map,cK ab];rfl
  .rw[fi ab]
theorem aM4:aB 182 NC.spec:=aF Tryz.func182 aD TL ai8
end Go.RS
