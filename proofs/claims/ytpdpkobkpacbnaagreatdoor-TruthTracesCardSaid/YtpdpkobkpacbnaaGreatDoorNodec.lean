/- Reply: answers. -/
import Derived.Test.YtpdpkobkpacbnaaGreatDoorAddr
import Derived.Test.YtpdpkobkpacbnaaGreatDoorIdent
set_option maxRecDepth 100000
set_option linter.unusedVariables false
open Int (toNat)
open List (length take getD drop)
namespace Go.RS
open Go.SX Go.Proofs
abbrev Er:CT := .pair cP (.pair cI (.pair cI (.pair cI (.pair cI cI))))
abbrev rT:Type:=Int×Int×Int×Int×Int×Int
def Mj:rT:=(0,0,0,0,0,0)
def fG(a:Int):Int :=
 if a/16777216=0 then 1 else if a/16777216=127 then 2
 else if a/16777216=10∨(a/16777216=172/\16<=a/65536%256/\a/65536%256<32)∨(a/16777216=192/\a/65536%256=168) then 3
 else if a/16777216=169/\a/65536%256=254 then 4
 else if 224<=a/16777216/\a/16777216<240 then 5 else if 240<=a/16777216 then 6 else 0
def fB(a:Int):Prop:=fG a=0∨fG a=3
instance (a:Int):Decidable (fB a):=by unfold fB;infer_instance
def zL(x:ra):Int:=x.1.2.2.2.1
def Ht(x:ra):Prop:=8<=x.2.length/\(x.1.2.2.2.1=1->x.2.getD 0 default=8)/\(x.1.2.2.2.1=6->14<=x.2.length->bits .and .u8 (x.2.getD 13 default) 4=0)/\fB x.1.2.2.2.2.2.1
instance (x:ra):Decidable (Ht x):=by unfold Ht;infer_instance
def dG(b:ae):Prop:=bY b=0/\Ht (aY b)
instance (b:ae):Decidable (dG b):=by unfold dG;infer_instance
def Ar(b:ae):Prop:=bY b=0/\8<=(aY b).2.length/\(zL (aY b)=1->(aY b).2.getD 0 default=8)/\(zL (aY b)=6->14<=(aY b).2.length->bits .and .u8 ((aY b).2.getD 13 default) 4=0)
instance (b:ae):Decidable (Ar b):=by unfold Ar;infer_instance
def qq(b:ae):ra:=if Ar b then aY b else (pC,[])
def iU(id ttl:Int):Prop:=(0<=id/\id<=65535)/\0<=ttl/\ttl<=255
instance (i t:Int):Decidable (iU i t):=by unfold iU;infer_instance
def jc(src dst proto id ttl:Int)(data:ae):ra:=((0,id,ttl,proto,false,src,dst),data)
def cO(b:ae):Int:=(bH b).2.2.2.2.2.1
def gf(b:ae):Int:=(bH b).2.2.2.2.2.2
def dk(b:ae):Int:=(bH b).2.2.2.1
def pI(kind code id ttl:Int):Prop:=(kind=11∨kind=3)/\(0<=code/\code<=255)/\iU id ttl
instance (k c i t:Int):Decidable (pI k c i t):=by unfold pI;infer_instance
def fR(b:ae)(kind code id ttl:Int):Int:=if ¬ pI kind code id ttl then 1 else if dG b then 0 else 17
def jr(b:ae)(src kind code id ttl:Int):ae:=if fR b kind code id ttl=0 then d7 (jc src (cO b) 1 id ttl (iO (kind,code,b.take 28))) else []
def md(s:mL):mL:=(s.2.1,s.1,0,(s.2.2.1+1)%4294967296,20,0,[])
def tX(b:ae):Prop:=dG b/\((dk b=1/\jE (b.drop 20)=0)∨(dk b=17/\j6 (cO b) (gf b) (b.drop 20)=0) ∨
 (dk b=6/\jL (cO b) (gf b) (b.drop 20)=0/\bits .and .i64 (fV (cO b) (gf b) (b.drop 20)).2.2.2.2.1 2≠0/\bits .and .i64 (fV (cO b) (gf b) (b.drop 20)).2.2.2.2.1 4=0))
instance (b:ae):Decidable (tX b):=by unfold tX;infer_instance
def gR(b:ae)(id ttl:Int):Int:=if ¬ iU id ttl then 1 else if tX b then 0 else 17
def ji(b:ae)(src id ttl:Int):ae :=
 if gR b id ttl=0 then
  if dk b=1 then d7 (jc src (cO b) 1 id ttl (fN (true,(gn (b.drop 20)).2)))
  else if dk b=17 then jr b src 3 3 id ttl
  else d7 (jc src (cO b) 6 id ttl (fI src (cO b) (md (fV (cO b) (gf b) (b.drop 20)))))
 else []
def Bk(b:ae):Prop:=dV b=0/\b.length=28/\(bH b).1=0/\(bH b).2.2.2.2.1=true
instance (b:ae):Decidable (Bk b):=by unfold Bk;infer_instance
def yz(b:ae):Int:=if dk b=1 then aH b 22-16384 else if dk b=17∨dk b=6 then aH b 20-20000 else 0
def qC(b:ae):bz:=(cO b,gf b,dk b,yz b,(bH b).2.1,(bH b).2.2.1)
def pP(b:ae):Prop :=
 (dk b=1/\aH b 2=30/\aH b 20=2048/\aH b 24=21075/\aH b 26=(bH b).2.1) ∨
 (dk b=17/\aH b 2=30/\aH b 22=33434/\aH b 24=aH b 2-20/\aH b 26=(bH b).2.1+1) ∨
 (dk b=6/\aH b 2=40/\aH b 22=80/\fp ((b.drop 24).take 4)=(bH b).2.1)
instance (b:ae):Decidable (pP b):=by unfold pP;infer_instance
def fE(b:ae):bz×Bool:=if Bk b then (qC b,decide (pP b/\cf (qC b)=0)) else (zE,false)
def tV(p:bz)(t:Int):bz:=(p.1,p.2.1,p.2.2.1,p.2.2.2.1,p.2.2.2.2.1,t)
def vo(ty code:Int):Int:=if ty=11 then 1 else if code=3 then 3 else 5
abbrev yO:Type:=bz×rT×Bool
def B5:yO:=(zE,Mj,false)
def ou(dst:Int)(b:ae):yO :=
 if kD b=0 then (tV (fE (j8 b).2.2).1 0,(0,vo (j8 b).1 (j8 b).2.1,(j8 b).2.1,0,0,(fE (j8 b).2.2).1.2.2.2.2.2),(fE (j8 b).2.2).2&&decide ((fE (j8 b).2.2).1.1=dst)) else B5
def BG(b:ae):Prop:=jE b=0/\(gn b).1=true/\(gn b).2.1=21075/\(gn b).2.2.2.length=2
instance (b:ae):Decidable (BG b):=by unfold BG;infer_instance
def rC(src dst:Int)(b:ae):yO:=if BG b then ((dst,src,1,aH b 2-18432,(gn b).2.2.1,0),(0,2,0,0,0,0),true) else B5
def BK(src dst:Int)(b:ae):Prop:=jL src dst b=0/\(fV src dst b).1=80/\(fV src dst b).2.2.1=0/\(fV src dst b).2.2.2.2.1=20/\(fV src dst b).2.2.2.2.2.1=0/\(fV src dst b).2.2.2.2.2.2=[]
instance (s d:Int) (b:ae):Decidable (BK s d b):=by unfold BK;infer_instance
def rz(src dst:Int)(b:ae):yO:=if BK src dst b then ((dst,src,6,(fV src dst b).2.1-20000,(fV src dst b).2.2.2.1-1,0),(0,4,0,0,0,0),true) else B5
def kF(b:ae):yO :=
 if dk b=1/\0<(b.drop 20).length/\(b.drop 20).getD 0 default=0 then rC (cO b) (gf b) (b.drop 20)
 else if dk b=1 then ou (gf b) (b.drop 20) else if dk b=6 then rz (cO b) (gf b) (b.drop 20) else B5
def uc(b:ae):Prop:=bY b=0/\(kF b).2.2=true/\cf (tV (kF b).1 1)=0
instance (b:ae):Decidable (uc b):=by unfold uc;infer_instance
def jO(b:ae):bz×rT:=if uc b then ((kF b).1,(cO b,(kF b).2.1.2.1,(kF b).2.1.2.2.1,(bH b).2.2.1,(bH b).2.1,(kF b).2.1.2.2.2.2.2)) else (zE,Mj)
def pF(b:ae):Int:=if uc b then 0 else 17
theorem ae8{n:Int}(h0:0<=n):dF .i64 n 24=n/16777216:=by
 have e:=xy (n:=n) (k:=3) h0 (by omega)
 exact e
theorem YY(n:Int):bits .and .i64 n 255=n%256:=by
 have h127:(BitVec.ofInt 64 255).toNat=2^8-1:=bt
 have key:(BitVec.ofInt 64 n &&& BitVec.ofInt 64 255).toNat=(n%((2^64:Nat):Int)).toNat%2^8:=by
  rw[BitVec.toNat_and,BitVec.toNat_ofInt,h127,zd]
 show IntKind.i64.wrap ((BitVec.ofInt 64 n &&& BitVec.ofInt 64 255).toNat:Nat)=n%256
 rw[key,IntKind.wrap_i64]
 omega
theorem YL(n:Int):bits .and .i64 n 4294967295=n%4294967296:=by
 have h127:(BitVec.ofInt 64 4294967295).toNat=2^32-1:=bt
 have key:(BitVec.ofInt 64 n &&& BitVec.ofInt 64 4294967295).toNat=(n%((2^64:Nat):Int)).toNat%2^32:=by
  rw[BitVec.toNat_and,BitVec.toNat_ofInt,h127,zd]
 show IntKind.i64.wrap ((BitVec.ofInt 64 n &&& BitVec.ofInt 64 4294967295).toNat:Nat)=n%4294967296
 rw[key,IntKind.wrap_i64]
 omega
theorem wj{p n a s:Int}(hs:sz n=s)(hn:0<=n/\n<=32)(hp:p%s=0):dS (p,n) a=decide (p<=a/\a<p+s):=by
 unfold dS jS
 simp only
 rw[hs,cM ⟨hn.1,hn.2,hp⟩,Bool.true_and]
theorem I6{b:ae}:dG b↔Ar b/\fB (aY b).1.2.2.2.2.2.1:=⟨λh=>⟨⟨h.1,h.2.1,h.2.2.1,h.2.2.2.1⟩,h.2.2.2.2⟩,λh=>⟨h.1.1,h.1.2.1,h.1.2.2.1,h.1.2.2.2,h.2⟩⟩
theorem RO{b:ae}(h:dG b):qq b=(bH b,b.drop 20):=by rw[qq,am (I6.1 h).1,aY,am h.1]
theorem qA{b:ae}(h:dG b):bY b=0/\28<=b.length/\(dk b=1->(b.drop 20).getD 0 default=8)/\(dk b=6->14<=(b.drop 20).length->bits .and .u8 ((b.drop 20).getD 13 default) 4=0)/\fB (cO b):=by
 obtain⟨h1,h2⟩:=h
 rw[aY,am h1] at h2
 obtain⟨k1,k2,k3,k4⟩:=h2
 simp only[fy] at k1
 exact⟨h1,ab,k2,k3,k4⟩
theorem YJ{b:ae}(h1:bY b=0)(h2:28<=b.length)(h3:dk b=1->(b.drop 20).getD 0 default=8)(h4:dk b=6->14<=(b.drop 20).length->bits .and .u8 ((b.drop 20).getD 13 default) 4=0)(h5:fB (cO b)):dG b:=by
 refine⟨h1,?_⟩
 rw[aY,am h1]
 exact⟨by simp only[fy];omega,h3,h4,h5⟩
theorem Af{src dst proto id ttl:Int}{data:ae}(hn:iU id ttl)(hp:0<=proto/\proto<=255)(hl:(data.length:Int)<=1480):fv (jc src dst proto id ttl data)=0:=by
 obtain⟨⟨a,b⟩,c,d⟩:=hn
 rw[fv,af,af (by simp only[jc];omega)]
 rw[o8]
 exact⟨⟨fZ _,by simp only[jc];omega⟩,⟨c,d⟩,hp,a,b⟩
theorem Bn{b:ae}{src kind code id ttl:Int}(hg:pI kind code id ttl)(ha:dG b) :
  fR b kind code id ttl=0/\jr b src kind code id ttl=d7 (jc src (cO b) 1 id ttl (iO (kind,code,b.take 28)))/\jK (kind,code,b.take 28)=0/\fv (jc src (cO b) 1 id ttl (iO (kind,code,b.take 28)))=0:=by
 have he:fR b kind code id ttl=0:=by rw[fR,af (λk=>k hg),am ha]
 obtain⟨-,hl,-⟩:=qA ha
 obtain⟨h1,h2,h3⟩:=hg
 refine⟨he,by rw[jr,am he],?_,Af h3 ab (CE _)⟩
 have ht:(b.take 28).length=28:=by rw[dA];omega
 rw[jK,af,af,af]
 .simp only;rw[ht];omega
 .simp only;rw[ht];omega
 .rw[o8];exact⟨h1.symm,h2⟩
theorem al8{b:ae}{src kind code id ttl:Int}(hg:¬ pI kind code id ttl):([]:ae)=jr b src kind code id ttl/\1=fR b kind code id ttl:=by
 have he:fR b kind code id ttl=1:=by rw[fR,am hg]
 rw[jr,he];exact⟨rfl,rfl⟩
theorem UB{b:ae}{src kind code id ttl:Int}(hg:pI kind code id ttl)(ha:¬ dG b):([]:ae)=jr b src kind code id ttl/\17=fR b kind code id ttl:=by
 have he:fR b kind code id ttl=17:=by rw[fR,af (λk=>k hg),af ha]
 rw[jr,he];exact⟨rfl,rfl⟩
theorem aQ2(b:ae):cL b (toNat 0) (toNat 28)=b.take 28:=by
 show cL b 0 28=_
 simp[cL]
theorem aE9{b:ae}{src id ttl:Int}(hn:¬ iU id ttl):([]:ae)=ji b src id ttl/\1=gR b id ttl:=by
 have he:gR b id ttl=1:=by rw[gR,am hn]
 rw[ji,he];exact⟨rfl,rfl⟩
theorem yF{b:ae}{src id ttl:Int}(hn:iU id ttl)(ha:¬ tX b):([]:ae)=ji b src id ttl/\17=gR b id ttl:=by
 have he:gR b id ttl=17:=by rw[gR,af (λk=>k hn),af ha]
 rw[ji,he];exact⟨rfl,rfl⟩
theorem B1{b:ae}{id ttl:Int}(hn:iU id ttl)(ha:tX b):gR b id ttl=0:=by rw[gR,af (λk=>k hn),am ha]
theorem E0{b:ae}{src id ttl:Int}(hn:iU id ttl)(ha:dG b)(h:dk b=1)(he:jE (b.drop 20)=0) :
  ji b src id ttl=d7 (jc src (cO b) 1 id ttl (fN (true,(gn (b.drop 20)).2)))/\gR b id ttl=0:=by
 have h0:=B1 hn (b:=b) ⟨ha,.inl ⟨h,he⟩⟩
 rw[ji,am h0,am h];exact⟨rfl,h0⟩
theorem Dz{b:ae}{src id ttl:Int}(hn:iU id ttl)(ha:dG b)(h:dk b=17)(he:j6 (cO b) (gf b) (b.drop 20)=0) :
  ji b src id ttl=jr b src 3 3 id ttl/\gR b id ttl=0:=by
 have h0:=B1 hn (b:=b) ⟨ha,.inr (.inl ⟨h,he⟩)⟩
 rw[ji,am h0,af ab,am h];exact⟨rfl,h0⟩
theorem EJ{b:ae}{src id ttl:Int}(hn:iU id ttl)(ha:dG b)(h:dk b=6)(he:jL (cO b) (gf b) (b.drop 20)=0)
  (h2:bits .and .i64 (fV (cO b) (gf b) (b.drop 20)).2.2.2.2.1 2≠0) (h4:bits .and .i64 (fV (cO b) (gf b) (b.drop 20)).2.2.2.2.1 4=0) :
  ji b src id ttl=d7 (jc src (cO b) 6 id ttl (fI src (cO b) (md (fV (cO b) (gf b) (b.drop 20)))))/\gR b id ttl=0:=by
 have h0:=B1 hn (b:=b) ⟨ha,.inr (.inr ⟨h,he,h2,h4⟩)⟩
 rw[ji,am h0,af ab,af ab];exact⟨rfl,h0⟩
theorem IS{b:ae}{id ttl:Int}(hn:iU id ttl)(ha:dG b):fR b 3 3 id ttl=0:=by
 rw[fR,af (λk=>k ⟨.inr rfl,⟨ab,ab⟩,hn⟩),am ha]
theorem OC(b:ae):(gn b).2.2.2.length<=b.length:=by
 unfold gn;split
 .simp only[fy];omega
 .simp
theorem We(b:ae):(j8 b).2.2.length<=b.length:=by
 unfold j8;split
 .simp only[fy];omega
 .simp
theorem KW{s d:Int}{b:ae}(hb:bytes b):(0<=(fV s d b).2.1/\(fV s d b).2.1<=65535)/\(0<=(fV s d b).2.2.1/\(fV s d b).2.2.1<=4294967295)/\0<=(fV s d b).2.2.2.1/\(fV s d b).2.2.2.1<=4294967295:=by
 unfold fV;split
 .have h1:=nS hb (toNat 2);have h2:=nS hb (toNat 4);have h3:=nS hb (toNat 6);have h4:=nS hb (toNat 8);have h5:=nS hb (toNat 10);simp only;omega
 .simp
def pt(k:Int):d9:=([(0,8),(2130706432,8),(167772160,8),(2886729728,12),(3232235520,16),(2851995648,16),(3758096384,4),(4026531840,4)]:List d9).getD k.toNat (0,0)
def NI:Ct:=⟨[.val cP],[.val cI],λd=>[],λd=>((fG d.1,()),())⟩
def aK9:bw NI.ps->ce:=(λd=>{cuts:=(bp 6 (λS=>{ι:=Unit,inv:=λi=>dS (pt (S.i 6)) d.1=false,keep:=[0,5,6],slots:=λi=>[]}) cC),unr:=λn=>match n with|2=>9|_=>0})
def lT :=
 (2:Int)^IntKind.bits IntKind.i64
def BA :=
 (nat_lit 0+nat_lit 1)%Int.natAbs (lT)+nat_lit 1
def Bw :=
 ((BA)%Int.natAbs (lT)+nat_lit 1)%Int.natAbs (lT)+nat_lit 1
def uY :=
 aj (aj (aj ((0:Int)+1)+1)+1)+1
def EU :=
 ((Bw)%Int.natAbs (lT)+nat_lit 1)%Int.natAbs (lT)+nat_lit 1
def tY :=
 (2130706432:Int)
def ud :=
 (2886729728:Int)
def sQ :=
 (3232235520:Int)
def sS :=
 (2851995648:Int)
def tv :=
 (3758096384:Int)
def um :=
 (4026531840:Int)
def Iz :=
 pt (Int.ofNat (((BA)%Int.natAbs (lT)+nat_lit 1)%Int.natAbs (lT)))
def JB :=
 pt (Int.ofNat (((EU)%Int.natAbs (lT)+nat_lit 1)%Int.natAbs (lT)))
def I7 :=
 pt (Int.ofNat (((Bw)%Int.natAbs (lT)+nat_lit 1)%Int.natAbs (lT)))
def t5 :=
 (167772160:Int)
theorem aB7 :
 ∀(a:Int),(0<=a/\a<=4294967295)/\True->True->ao (dS ((0:Int),(8:Int)) a) (1=fG a) (∃(b:Unit),dS (pt (0:Int)) a=false/\a=a/\(0:Int)=0/\(8:Int)=8/\(1:Int)=1/\(tY)=2130706432/\(8:Int)=8/\(2:Int)=2/\(t5)=167772160/\(8:Int)=8/\(3:Int)=3/\(ud)=2886729728/\(12:Int)=12/\(3:Int)=3/\(sQ)=3232235520/\(16:Int)=16/\(3:Int)=3/\(sS)=2851995648/\(16:Int)=16/\(4:Int)=4/\(tv)=3758096384/\(4:Int)=4/\(5:Int)=5/\(um)=4026531840/\(4:Int)=4/\(6:Int)=6/\(0:Int)=0/\True)/\ ∀(b:Unit),dS (pt (0:Int)) a=false->ao (dS ((tY),(8:Int)) a) (2=fG a) (∃(c:Unit),dS (pt (Int.ofNat ((nat_lit 0+nat_lit 1)%Int.natAbs (lT))))
 a=false/\a=a/\(0:Int)=0/\(8:Int)=8/\(1:Int)=1/\(tY)=2130706432/\(8:Int)=8/\(2:Int)=2/\(t5)=167772160/\(8:Int)=8/\(3:Int)=3/\(ud)=2886729728/\(12:Int)=12/\(3:Int)=3/\(sQ)=3232235520/\(16:Int)=16/\(3:Int)=3/\(sS)=2851995648/\(16:Int)=16/\(4:Int)=4/\(tv)=3758096384/\(4:Int)=4/\(5:Int)=5/\(um)=4026531840/\(4:Int)=4/\(6:Int)=6/\aj ((0:Int)+1)=aj ((0:Int)+1)/\True)/\ ∀(c:Unit),dS (pt (Int.ofNat ((nat_lit 0+nat_lit 1)%Int.natAbs (lT)))) a=false->ao (dS ((t5),(8:Int)) a) (3=fG a) (∃(d:Unit),dS (pt (Int.ofNat ((BA)%Int.natAbs (lT))))
 a=false/\a=a/\(0:Int)=0/\(8:Int)=8/\(1:Int)=1/\(tY)=2130706432/\(8:Int)=8/\(2:Int)=2/\(t5)=167772160/\(8:Int)=8/\(3:Int)=3/\(ud)=2886729728/\(12:Int)=12/\(3:Int)=3/\(sQ)=3232235520/\(16:Int)=16/\(3:Int)=3/\(sS)=2851995648/\(16:Int)=16/\(4:Int)=4/\(tv)=3758096384/\(4:Int)=4/\(5:Int)=5/\(um)=4026531840/\(4:Int)=4/\(6:Int)=6/\aj (aj ((0:Int)+1)+1)=aj (aj ((0:Int)+1)+1)/\True)/\ ∀(d:Unit),dS (pt (Int.ofNat ((BA)%Int.natAbs (lT)))) a=false->ao (dS ((ud),(12:Int)) a) (3=fG a) (∃(e:Unit),dS (Iz)
 a=false/\a=a/\(0:Int)=0/\(8:Int)=8/\(1:Int)=1/\(tY)=2130706432/\(8:Int)=8/\(2:Int)=2/\(t5)=167772160/\(8:Int)=8/\(3:Int)=3/\(ud)=2886729728/\(12:Int)=12/\(3:Int)=3/\(sQ)=3232235520/\(16:Int)=16/\(3:Int)=3/\(sS)=2851995648/\(16:Int)=16/\(4:Int)=4/\(tv)=3758096384/\(4:Int)=4/\(5:Int)=5/\(um)=4026531840/\(4:Int)=4/\(6:Int)=6/\aj (aj (aj ((0:Int)+1)+1)+1)=aj (aj (aj ((0:Int)+1)+1)+1)/\True)/\ ∀(e:Unit),dS (Iz) a=false->ao (dS ((sQ),(16:Int)) a) (3=fG a) (∃(f:Unit),dS (pt (Int.ofNat ((Bw)%Int.natAbs (lT))))
 a=false/\a=a/\(0:Int)=0/\(8:Int)=8/\(1:Int)=1/\(tY)=2130706432/\(8:Int)=8/\(2:Int)=2/\(t5)=167772160/\(8:Int)=8/\(3:Int)=3/\(ud)=2886729728/\(12:Int)=12/\(3:Int)=3/\(sQ)=3232235520/\(16:Int)=16/\(3:Int)=3/\(sS)=2851995648/\(16:Int)=16/\(4:Int)=4/\(tv)=3758096384/\(4:Int)=4/\(5:Int)=5/\(um)=4026531840/\(4:Int)=4/\(6:Int)=6/\aj (uY)=aj (uY)/\True)/\ ∀(f:Unit),dS (pt (Int.ofNat ((Bw)%Int.natAbs (lT)))) a=false->ao (dS ((sS),(16:Int)) a) (4=fG a) (∃(g:Unit),dS (I7) a=false/\a=a/\(0:Int)=0/\(8:Int)=8/\(1:Int)=1/\(tY)=2130706432/\(8:Int)=8/\(2:Int)=2/\(t5)=167772160/\(8:Int)=8/\(3:Int)=3/\(ud)=2886729728/\(12:Int)=12/\(3:Int)=3/\(sQ)=3232235520/\(16:Int)=16/\(3:Int)=3/\(sS)=2851995648/\(16:Int)=16/\(4:Int)=4/\(tv)=3758096384/\(4:Int)=4/\(5:Int)=5/\(um)=4026531840/\(4:Int)=4/\(6:Int)=6/\aj (aj (uY)+1)=aj
 (aj (uY)+1)/\True)/\ ∀(g:Unit),dS (I7) a=false->ao (dS ((tv),(4:Int)) a) (5=fG a) (∃(h:Unit),dS (pt (Int.ofNat ((EU)%Int.natAbs (lT)))) a=false/\a=a/\(0:Int)=0/\(8:Int)=8/\(1:Int)=1/\(tY)=2130706432/\(8:Int)=8/\(2:Int)=2/\(t5)=167772160/\(8:Int)=8/\(3:Int)=3/\(ud)=2886729728/\(12:Int)=12/\(3:Int)=3/\(sQ)=3232235520/\(16:Int)=16/\(3:Int)=3/\(sS)=2851995648/\(16:Int)=16/\(4:Int)=4/\(tv)=3758096384/\(4:Int)=4/\(5:Int)=5/\(um)=4026531840/\(4:Int)=4/\(6:Int)=6/\aj (aj (aj (uY)+1)+1)=aj (aj (aj (uY)+1)+1)/\True)/\ ∀(h:Unit),dS (pt (Int.ofNat ((EU)%Int.natAbs (lT)))) a=false->ao (dS ((um),(4:Int)) a) (6=fG a) (∃(i:Unit),dS (JB)
 a=false/\a=a/\(0:Int)=0/\(8:Int)=8/\(1:Int)=1/\(tY)=2130706432/\(8:Int)=8/\(2:Int)=2/\(t5)=167772160/\(8:Int)=8/\(3:Int)=3/\(ud)=2886729728/\(12:Int)=12/\(3:Int)=3/\(sQ)=3232235520/\(16:Int)=16/\(3:Int)=3/\(sS)=2851995648/\(16:Int)=16/\(4:Int)=4/\(tv)=3758096384/\(4:Int)=4/\(5:Int)=5/\(um)=4026531840/\(4:Int)=4/\(6:Int)=6/\aj (aj (aj (aj (uY)+1)+1)+1)=aj (aj (aj (aj (uY)+1)+1)+1)/\True)/\ ∀(i:Unit),dS (JB) a=false->0=fG a:=by
  delta lT Bw uY EU BA tY ud sQ sS tv um Iz JB I7 t5 aj;rintro a ⟨⟨a0,a1⟩,-⟩ -;have q0:=wj (p:=0) (n:=8) (a:=a) (s:=16777216) rfl ab ab;have q1:=wj (p:=2130706432) (n:=8) (a:=a) (s:=16777216) rfl ab ab;have q2:=wj (p:=167772160) (n:=8) (a:=a) (s:=16777216) rfl ab ab;have q3:=wj (p:=2886729728) (n:=12) (a:=a) (s:=1048576) rfl ab ab;have q4:=wj (p:=3232235520) (n:=16) (a:=a) (s:=65536) rfl ab ab;have q5:=wj (p:=2851995648) (n:=16) (a:=a) (s:=65536) rfl ab ab;have q6:=wj (p:=3758096384) (n:=4) (a:=a) (s:=268435456) rfl ab ab;have q7:=wj (p:=4026531840) (n:=4) (a:=a) (s:=268435456) rfl ab ab;refine⟨aw (λh=>?_) (λh=>⟨(),h,aP⟩),?_⟩
  .rw[q0] at h;have h:=aI h;unfold fG;rw[am ab]
  rintro-h;have h:dS (0,8) a=false:=h;rw[q0] at h;have h0:=aL h;refine⟨aw (λh=>?_) (λh=>⟨(),h,aP⟩),?_⟩
  .rw[q1] at h;have h:=aI h;unfold fG;rw[af ab,am ab]
  rintro-h;have h:dS (2130706432,8) a=false:=h;rw[q1] at h;have h1:=aL h;refine⟨aw (λh=>?_) (λh=>⟨(),h,aP⟩),?_⟩
  .rw[q2] at h;have h:=aI h;unfold fG;rw[af ab,af ab,am ab]
  rintro-h;have h:dS (167772160,8) a=false:=h;rw[q2] at h;have h2:=aL h;refine⟨aw (λh=>?_) (λh=>⟨(),h,aP⟩),?_⟩
  .rw[q3] at h;have h:=aI h;unfold fG;rw[af ab,af ab,am ab]
  rintro-h;have h:dS (2886729728,12) a=false:=h;rw[q3] at h;have h3:=aL h;refine⟨aw (λh=>?_) (λh=>⟨(),h,aP⟩),?_⟩
  .rw[q4] at h;have h:=aI h;unfold fG;rw[af ab,af ab,am ab]
  rintro-h;have h:dS (3232235520,16) a=false:=h;rw[q4] at h;have h4:=aL h;refine⟨aw (λh=>?_) (λh=>⟨(),h,aP⟩),?_⟩
  .rw[q5] at h;have h:=aI h;unfold fG;rw[af ab,af ab,af ab,am ab]
  rintro-h;have h:dS (2851995648,16) a=false:=h;rw[q5] at h;have h5:=aL h;refine⟨aw (λh=>?_) (λh=>⟨(),h,aP⟩),?_⟩
  .rw[q6] at h;have h:=aI h;unfold fG;rw[af ab,af ab,af ab,af ab,am ab]
  rintro-h;have h:dS (3758096384,4) a=false:=h;rw[q6] at h;have h6:=aL h;refine⟨aw (λh=>?_) (λh=>⟨(),h,aP⟩),?_⟩
  .rw[q7] at h;have h:=aI h;unfold fG;rw[af ab,af ab,af ab,af ab,af ab,am ab]
  rintro-h;have h:dS (4026531840,4) a=false:=h;rw[q7] at h;have h7:=aL h;unfold fG;rw[af ab,af ab,af ab,af ab,af ab,af ab]
theorem Mc:aB 194 NI.spec:=aF Tryz.func194 (av5 (av aC Mx) (d:=8)) aK9 aB7
def T6:Ct:=⟨[.val cP],[.val cI],λd=>[],λd=>((fG d.1,()),())⟩
def Bg(a:Int) :=
 dF IntKind.i64 (aj a) (16:Int)
theorem aa7 :
 ∀(a:Int),(0<=a/\a<=4294967295)/\True->True->(0:Int)<=24/\(0:Int)<=16/\ao (decide (dF IntKind.i64 (aj a) (24:Int)=0)) (1=fG a) (ao (decide (dF IntKind.i64 (aj a) (24:Int)=127)) (2=fG a) (∀(b:Bool),b=decide (dF IntKind.i64 (aj a) (24:Int)=10)->(ah (! b))/\(ah (! b))/\ ∀(c:Bool),c=decide (dF IntKind.i64 (aj a) (24:Int)=172)->(ah (! b&&c))/\((! b)->(ar (! b))/\(c->(! b&&c))/\True)/\(ah (! b))/\ ∀(d:Bool),(d=bif c then decide (16<=bits BinOp.and IntKind.i64 (Bg a) (255:Int)) else false)->(ah (! b&&d))/\((! b)->(ar (! b))/\(d->(! b&&d))/\True)/\(aE b)/\ ∀(e:Bool),(e=bif b then true else bif d then decide (bits BinOp.and IntKind.i64 (Bg a) (255:Int)<32) else false)->(ah (! e))/\(ah (! e))/\ ∀(f:Bool),f=decide (dF IntKind.i64 (aj a) (24:Int)=192)->(ah (! e&&f))/\((! e)->(ar (! e))/\(f->(! e&&f))/\True)/\(aE e)/\ao (bif e then true else bif f then
 decide (bits BinOp.and IntKind.i64 (Bg a) (255:Int)=168) else false) (3=fG a) (∀(g:Bool),g=decide (dF IntKind.i64 (aj a) (24:Int)=169)->(ah g)/\(ar g)/\ao (bif g then decide (bits BinOp.and IntKind.i64 (Bg a) (255:Int)=254) else false) (4=fG a) (∀(h:Bool),h=decide (224<=dF IntKind.i64 (aj a) (24:Int))->(ah h)/\(ar h)/\ao (bif h then decide (dF IntKind.i64 (aj a) (24:Int)<240) else false) (5=fG a) (ao (decide (240<=dF IntKind.i64 (aj a) (24:Int))) (6=fG a) (0=fG a)))))):=by
  delta Bg ah ar aE aj;rintro a ⟨⟨a0,a1⟩,-⟩ -;rw[aG (n:=a) ab ab,ae8 a0,H2 a0,YY];refine⟨ab,ab,aw (λh=>?_) (λh=>?_)⟩
  .rw[fG,am (aI h)]
  have h1:=aL h;refine aw (λh=>?_) (λh=>?_)
  .rw[fG,af h1,am (aI h)]
  have h2:=aL h;rw[fG,af h1,af h2]
  (repeat (intro (b_:Bool) (hb_:b_=_);(repeat refine⟨(by first|(simp;done)|(rw[hb_];simp;done)|(rw[hb_];simp;omega)|(rw[hb_];simp;intros;omega)|(rw[hb_];simp +contextual;done)),?_⟩);subst hb_));refine⟨λh=>by rw[h];rfl,?_⟩;refine aw (λh=>?_) (λh=>?_)
  .rw[am];simp[dE] at h;omega
  have h3:¬ (a/16777216=10∨(a/16777216=172/\16<=a/65536%256/\a/65536%256<32)∨(a/16777216=192/\a/65536%256=168)):=by
   simp[dE] at h;omega
  rw[af h3];clear h
  (repeat (refine bX ?_;repeat refine bZ ?_));refine aw (λh=>?_) (λh=>?_)
  .rw[am];simp[dE] at h;omega
  have h4:¬ (a/16777216=169/\a/65536%256=254):=by
   simp[dE] at h;omega
  rw[af h4];clear h
  (repeat (refine bX ?_;repeat refine bZ ?_));refine aw (λh=>?_) (λh=>?_)
  .rw[am];simp[dE] at h;omega
  have h5:¬ (224<=a/16777216/\a/16777216<240):=by
   simp[dE] at h;omega
  rw[af h5];exact aw (λh=>by rw[am (aI h)]) (λh=>by rw[af (aL h)])
theorem ao8:aB 134 T6.spec:=aF Tryz.func134 aC aT aa7
def aO0:Ct:=⟨[.val cP],[.val .bool],λd=>[],λd=>((decide (fB d.1),()),())⟩
theorem aD5 :
 ∀(a:Int),(0<=a/\a<=4294967295)/\True->True-> ∀(b:Bool),b=decide (fG a=0)->(ah (! b))/\(ah (! b))/\(aE b)/\(bif b then true else decide (fG a=3))=decide (fB a):=by
  delta ah aE;rintro a - -
  (repeat (refine bX ?_;repeat refine bZ ?_));rw[ut,om];simp[fB,dE]
theorem ad3:aB 66 aO0.spec:=aF Tryz.func66 (av aC ao8) aT aD5
def Sn:Ct:=⟨[.val (.sl bN)],[.agg uZ,.val .bool],λd=>[(d.1.length:Int)<=1099511627776],λd=>((qq d.1,decide (dG d.1),()),())⟩
def EY(a:ae) :=
 (((0:Int),(0:Int),(0:Int),(0:Int),false,(0:Int),(0:Int)),([]:ae))=qq a/\false=decide (dG a)
def Gu(a:ae)(b:(Int×Int×Int×Int×Bool×Int×Int)×ae) :=
 ∀(e:Bool),e=decide (fG b.1.2.2.2.2.2.1=0)->(ah (! e))/\(aE e)/\b=qq a/\(bif e then true else decide (fG b.1.2.2.2.2.2.1=3))=decide (dG a)
theorem VO :
 ∀(a:ae),(a.length<=maxLen/\ ∀(b:Int),b∈a->0<=b/\b<=255)/\True->(ac a)<=1099511627776->(ac a)<=1099511627776/\ ∀(b:(Int×Int×Int×Int×Bool×Int×Int)×ae)(c:Int),b=aY a/\c=bY a-> ∀(d:Bool),d= ! decide (c=0)->(ah (! d))/\(ah (! d))/\(ah (! d))/\(aE d)/\ao (bif d then true else decide ((ac b.2)<8)) (EY a) (ao (decide (b.1.2.2.2.1=1)) ((0:Int)<=0/\0<(ac b.2)/\ao (! decide (getD b.2 (toNat 0) default=8)) (EY a) (Gu a b)) (ao (decide (b.1.2.2.2.1=6)) (∀(e:Bool),e=decide (13<(ac b.2))->(ah e)/\(e->(ar e)/\(0:Int)<=13/\13<(ac b.2)/\True)/\(ah e)/\(ah e)/\(ah e)/\(ar e)/\ao (bif e then ! decide (bits BinOp.and IntKind.u8 (getD b.2 (toNat 13) default) (4:Int)=0) else false) (EY a) (∀(f:Bool),f=decide (fG b.1.2.2.2.2.2.1=0)->(ah (! f))/\(aE f)/\b=qq a/\(bif f then true else decide (fG b.1.2.2.2.2.2.1=3))=decide (dG
 a))) (Gu a b))):=by
  delta EY Gu ah ar aE ac;rintro b ⟨⟨-,hb⟩,-⟩ hl;refine⟨hl,?_⟩;rintro d e ⟨rfl,rfl⟩;have bad:¬ Ar b->(((0,0,0,0,false,0,0),[]):ra)=qq b/\false=decide (dG b):=λh=>by rw[qq,af h,dP (λk=>h (I6.1 k).1)];exact⟨rfl,rfl⟩
  have good:Ar b->aY b=qq b/\(bif decide (fG (aY b).1.2.2.2.2.2.1=0) then true else decide (fG (aY b).1.2.2.2.2.2.1=3))=decide (dG b):=by
   intro h;refine⟨by rw[qq,am h],?_⟩;rw[ut,om,I6];simp[h,fB,dE]
  (repeat (refine bX ?_;repeat refine bZ ?_));refine aw (λh=>?_) (λh=>?_)
  .refine bad (λk=>?_);obtain⟨k1,k2,-⟩:=k;rw[k1] at h;simp at h;omega
  have h1:bY b=0:=by
   refine fj λk=>?_;simp[k] at h
  have h2:8<=(aY b).2.length:=by
   rw[h1] at h;simp at h;omega
  refine aw (λhp=>?_) (λhp=>?_)
  .have hp:zL (aY b)=1:=aI hp;refine⟨ab,ab,aw (λh8=>?_) (λh8=>?_)⟩
   .refine bad (λk=>?_);have:=k.2.2.1 hp;simp only[show toNat 0=0 from rfl,this] at h8;simp at h8
   ·(repeat (refine bX ?_;repeat refine bZ ?_));exact good ⟨h1,h2,λ_=>by simpa using h8,λk=>ab⟩
  have hp:¬ zL (aY b)=1:=aL hp;refine bT (λhq=>?_) (λhq=>?_)
  .have hq:zL (aY b)=6:=hq
   (repeat (refine bX ?_;repeat refine bZ ?_));refine aw (λh8=>?_) (λh8=>?_)
   .refine bad (λk=>?_);have:=k.2.2.2 hq;simp[dE] at h8;exact h8.2 (this ab)
   ·(repeat (refine bX ?_;repeat refine bZ ?_));refine good ⟨h1,h2,λk=>absurd k hp,λ_ hk=>?_⟩;refine fj λk=>?_;have k:¬ bits .and .u8 ((aY b).2.getD (toNat 13) default) 4=0:=k;rw[cM (show (13:Int)<((aY b).2.length:Int) by omega),dP k] at h8;cases h8
  .have hq:¬ zL (aY b)=6:=hq
   (repeat (refine bX ?_;repeat refine bZ ?_));exact good ⟨h1,h2,λk=>absurd k hp,λk=>absurd k hq⟩
theorem Qf:aB 213 Sn.spec:=aF Tryz.func213 (av (av aC (Ct.named Bd)) Mc) aT VO
def Y9:Ct:=⟨[.val cI,.val cI],[.val .bool],λd=>[],λd=>((decide (iU d.1 d.2.1),()),())⟩
theorem al5 :
 ∀(a b:Int),aq a/\aq b/\True->True-> ∀(c:Bool),c=decide (0<=a)->(ah c)/\(ar c)/\ ∀(d:Bool),(d=bif c then decide (a<=65535) else false)->(ah d)/\(ar d)/\ ∀(e:Bool),(e=bif d then decide (0<=b) else false)->(ah e)/\(ar e)/\(bif e then decide (b<=255) else false)=decide (iU a b):=by
  delta ah ar;rintro id ttl - -
  (repeat (refine bX ?_;repeat refine bZ ?_));rw[ut];simp[iU,dE,and_assoc]
theorem Ry:aB 212 Y9.spec:=aF Tryz.func212 aC aT al5
def aR5:Ct:=⟨[.val cP,.val cP,.val cI,.val cI,.val cI,.val (.sl bN)],[.own 5 bN,.val cI],λd=>[(d.2.2.2.2.2.1.length:Int)<=1073741824],λd=>((d7 (jc d.1 d.2.1 d.2.2.1 d.2.2.2.1 d.2.2.2.2.1 d.2.2.2.2.2.1),fv (jc d.1 d.2.1 d.2.2.1 d.2.2.2.1 d.2.2.2.2.1 d.2.2.2.2.2.1),()),())⟩
theorem SQ :
 ∀(a b c d e:Int)(f:ae),(0<=a/\a<=4294967295)/\(0<=b/\b<=4294967295)/\aq c/\aq d/\aq e/\(f.length<=maxLen/\ ∀(g:Int),g∈f->0<=g/\g<=255)/\True->(ac f)<=1073741824->(ac f)<=1073741824/\d7 (((0:Int),d,e,c,false,a,b),f)=d7 (jc a b c d e f)/\fv (((0:Int),d,e,c,false,a,b),f)=fv (jc a b c d e f):=by
  delta ac;rintro s d p i t data-hl;exact⟨hl,rfl,rfl⟩
theorem Qx:aB 215 aR5.spec:=aF Tryz.func215 (av aC Rr) aT SQ
def Zl:Ct:=⟨[.val (.sl bN),.val cP,.val cI,.val cI,.val cI,.val cI],[.own 5 bN,.val cI],λd=>[(d.1.length:Int)<=1099511627776],λd=>((jr d.1 d.2.1 d.2.2.1 d.2.2.2.1 d.2.2.2.2.1 d.2.2.2.2.2.1,fR d.1 d.2.2.1 d.2.2.2.1 d.2.2.2.2.1 d.2.2.2.2.2.1,()),())⟩
theorem Ww :
 ∀(a:ae)(b c d e f:Int),(a.length<=maxLen/\ ∀(g:Int),g∈a->0<=g/\g<=255)/\(0<=b/\b<=4294967295)/\aq c/\aq d/\aq e/\aq f/\True->(ac a)<=1099511627776-> ∀(g:Bool),g= ! decide (c=11)->(ah g)/\(ar g)/\ ∀(h:Bool),(h=bif g then ! decide (c=3) else false)->(ah (! h))/\(aE h)/\ ∀(i:Bool),(i=bif h then true else decide (d<0))->(ah (! i))/\(aE i)/\ ∀(j:Bool),(j=bif i then true else decide (255<d))->((! j)->(ar (! j))/\(ar (! j))/\True)/\(ah (! j))/\(aE j)/\ao (bif j then true else ! decide (iU e f)) (([]:ae)=jr a b c d e f/\1=fR a c d e f) ((ac a)<=1099511627776/\ ∀(k:(Int×Int×Int×Int×Bool×Int×Int)×ae)(l:Bool),k=qq a/\l=decide (dG a)->ao (! l) (([]:ae)=jr a b c d e f/\17=fR a c d e f) ((0:Int)<=0/\(0:Int)<=28/\28<=(ac a)/\((length (cL a (toNat 0) (toNat 28))):Int)<=1073741824/\ ∀(m:ae)(n:Int),m=iO (c,d,cL a
 (toNat 0) (toNat 28))/\n=jK (c,d,cL a (toNat 0) (toNat 28))->ao (! decide (n=0)) (([]:ae)=jr a b c d e f/\n=fR a c d e f) ((ac m)<=1073741824/\d7 (jc b k.1.2.2.2.2.2.1 (1:Int) e f m)=jr a b c d e f/\fv (jc b k.1.2.2.2.2.2.1 (1:Int) e f m)=fR a c d e f))):=by
  delta ah ar aE ac;rintro b src kind code id ttl ⟨⟨-,hb⟩,-⟩ hl
  (repeat (refine bX ?_;repeat refine bZ ?_));by_cases hg:pI kind code id ttl
  rotate_left
  .refine aw (λ_=>al8 hg) (λh=>absurd ?_ hg);by_cases hn:iU id ttl
   .rw[cM hn] at h;refine⟨?_,?_,hn⟩ <;> simp[dE] at h <;> omega
   .rw[dP hn] at h;simp at h
  have hg':=hg;obtain⟨g1,g2,g3⟩:=hg';refine aw (λh=>?_) (λ_=>⟨hl,?_⟩)
  .exfalso;rw[cM g3] at h;simp[dE] at h;omega
  rintro d e ⟨rfl,rfl⟩;refine aw (λh=>UB hg (by simpa using h)) (λh=>?_);have ha:dG b:=by simpa using h
  have hgd:=Bn (src:=src) hg ha;obtain⟨-,h28,-⟩:=qA ha;rw[RO ha,aQ2];refine⟨ab,ab,ab,by rw[dA];omega,?_⟩;rintro n e ⟨rfl,rfl⟩;rw[hgd.2.2.1];refine aw (λh=>by simp at h) (λ_=>?_);have:=CE (kind,code,b.take 28);refine⟨ab,hgd.2.1.symm,?_⟩;rw[hgd.1];exact hgd.2.2.2
theorem KT:aB 217 Zl.spec:=aF Tryz.func217 (av (av (av (av aC Ry) (Ct.named Qf)) (Ct.named aO3)) Qx) aT Ww
def T3:Ct:=⟨[.val (.sl bN),.val cP,.val cI,.val cI],[.own 5 bN,.val cI],λd=>[(d.1.length:Int)<=1099511627776],λd=>((ji d.1 d.2.1 d.2.2.1 d.2.2.2.1,gR d.1 d.2.2.1 d.2.2.2.1,()),())⟩
def zC(a:ae)(b c d:Int) :=
 ([]:ae)=ji a b c d/\17=gR a c d
def GB(g:Int×Int×Int×Int×Int×Int×ae) :=
 (g.2.1,g.1,(0:Int),bits BinOp.and IntKind.i64 (aj (g.2.2.1+1)) (4294967295:Int),(20:Int),(0:Int),([]:ae))
theorem XO :
 ∀(a:ae)(b c d:Int),(a.length<=maxLen/\ ∀(e:Int),e∈a->0<=e/\e<=255)/\(0<=b/\b<=4294967295)/\aq c/\aq d/\True->(ac a)<=1099511627776->ao (! decide (iU c d)) (([]:ae)=ji a b c d/\1=gR a c d) ((ac a)<=1099511627776/\ ∀(e:(Int×Int×Int×Int×Bool×Int×Int)×ae)(f:Bool),e=qq a/\f=decide (dG a)->ao (! f) (zC a b c d) (ao (decide (e.1.2.2.2.1=1)) ((ac e.2)<=1000000/\ ∀(g:Bool)(h i:Int)(j:ae)(k:Int),(g,h,i,j)=gn e.2/\k=jE e.2->ao (! decide (k=0)) (zC a b c d) ((ac j)<=1073741824/\ ∀(l:ae)(m:Int),l=fN (true,h,i,j)/\m=kG (true,h,i,j)->(ac l)<=1073741824/\d7 (jc b e.1.2.2.2.2.2.1 e.1.2.2.2.1 c d l)=ji a b c d/\fv (jc b e.1.2.2.2.2.2.1 e.1.2.2.2.1 c d l)=gR a c d)) (ao (decide (e.1.2.2.2.1=17)) ((ac e.2)<=1000000/\ ∀(g h:Int)(i:ae)(j:Int),(g,h,i)=qU e.1.2.2.2.2.2.1 e.1.2.2.2.2.2.2
 e.2/\j=j6 e.1.2.2.2.2.2.1 e.1.2.2.2.2.2.2 e.2->ao (! decide (j=0)) (zC a b c d) ((ac a)<=1099511627776/\jr a b (3:Int) (3:Int) c d=ji a b c d/\fR a (3:Int) (3:Int) c d=gR a c d)) (ao (decide (e.1.2.2.2.1=6)) ((ac e.2)<=1000000/\ ∀(g:Int×Int×Int×Int×Int×Int×ae)(h:Int),g=fV e.1.2.2.2.2.2.1 e.1.2.2.2.2.2.2 e.2/\h=jL e.1.2.2.2.2.2.1 e.1.2.2.2.2.2.2 e.2-> ∀(i:Bool),i= ! decide (h=0)->(ah (! i))/\(ah (! i))/\(ah (! i))/\(aE i)/\ ∀(j:Bool),(j=bif i then true else decide (bits BinOp.and IntKind.i64 g.2.2.2.2.1 (2:Int)=0))->(ah (! j))/\(ah (! j))/\(ah (! j))/\(aE j)/\ao (bif j then true else ! decide (bits BinOp.and IntKind.i64 g.2.2.2.2.1 (4:Int)=0)) (zC a b c d) ((↑(0:Nat):Int)<=1000000/\ ∀(k:ae)(l:Int),k=fI b e.1.2.2.2.2.2.1 (GB g)/\l=lJ (GB g)->(ac k)<=1073741824/\d7 (jc b e.1.2.2.2.2.2.1 e.1.2.2.2.1 c d k)=ji a
 b c d/\fv (jc b e.1.2.2.2.2.2.1 e.1.2.2.2.1 c d k)=gR a c d)) (zC a b c d))))):=by
  delta zC GB ah aE aj ac;rintro b src id ttl ⟨⟨-,hb⟩,-⟩ hl;by_cases hn:iU id ttl
  rotate_left
  .exact aw (λ_=>aE9 hn) (λh=>absurd (by simpa using h) hn)
  refine aw (λh=>by simp[hn] at h) (λ_=>⟨hl,?_⟩);rintro _ _ ⟨rfl,rfl⟩;refine aw (λh=>yF hn (λk=>?_)) (λh=>?_)
  .have:=k.1;simp[this] at h
  have ha:dG b:=by simpa using h
  obtain⟨hd0,h28,hp1,hp6,-⟩:=qA ha;have hdl:=vO hd0;rw[RO ha];have hdb:bytes (b.drop 20):=vu hb;have hdr:(b.drop 20).length<=1480:=by rw[fy];omega
  have nofit:∀ k:Prop,(k->tX b->False)->k->([]:ae)=ji b src id ttl/\(17:Int)=gR b id ttl:=λk hk h=>yF hn (hk h);refine aw (λh1=>?_) (λh1=>aw (λh17=>?_) (λh17=>aw (λh6=>?_) (λh6=>?_)))
  .have h1:dk b=1:=aI h1;refine⟨by show ((b.drop 20).length:Int)<=_;omega,?_⟩;rintro r i q dt e ⟨hu,rfl⟩;refine aw (λh=>?_) (λh=>?_)
   .refine yF hn (λk=>?_);obtain⟨-,⟨-,k⟩|⟨k,-⟩|⟨k,-⟩⟩:=k
    .simp[k] at h
    .omega
    .omega
   have h:jE (b.drop 20)=0:=by simpa using h
   have hh:=E0 (src:=src) hn ha h1 h;have hlen:=OC (b.drop 20);have e2:(i,q,dt)=(gn (b.drop 20)).2:=jn Prod.snd hu;have e3:dt=(gn (b.drop 20)).2.2.2:=by rw[← e2]
   refine⟨by rw[e3];omega,?_⟩;rintro o e ⟨rfl,rfl⟩;rw[show ((true,i,q,dt):nO)=(true,(i,q,dt)) from rfl,e2];have hle:=Sy (true,(gn (b.drop 20)).2);refine⟨ab,?_,?_⟩
   .rw[hh.1,← h1];rfl
   .rw[hh.2];exact Af hn (by have:=h1;unfold dk at this;simp only;omega) hle
  .have h1:=aL h1;have h17:dk b=17:=aI h17;refine⟨by show ((b.drop 20).length:Int)<=_;omega,?_⟩;rintro sp dp dt e ⟨hu,rfl⟩;refine aw (λh=>?_) (λh=>?_)
   .refine yF hn (λk=>?_);obtain⟨-,⟨k,-⟩|⟨-,k⟩|⟨k,-⟩⟩:=k
    .omega
    .have k:j6 (bH b).2.2.2.2.2.1 (bH b).2.2.2.2.2.2 (b.drop 20)=0:=k;simp[k] at h
    .omega
   have h:j6 (cO b) (gf b) (b.drop 20)=0:=by
    have:j6 (bH b).2.2.2.2.2.1 (bH b).2.2.2.2.2.2 (b.drop 20)=0:=by simpa using h
    exact this
   have hh:=Dz (src:=src) hn ha h17 h;exact⟨hl,hh.1.symm,by rw[hh.2,IS hn ha]⟩
  .have h1:=aL h1;have h17:=aL h17;have h6:dk b=6:=aI h6;refine⟨by show ((b.drop 20).length:Int)<=_;omega,?_⟩;rintro t e ⟨ht,rfl⟩;have ht:t=fV (cO b) (gf b) (b.drop 20):=ht;have hr:=KW (s:=cO b) (d:=gf b) hdb;rw[← ht] at hr;have ee:jL (bH b).2.2.2.2.2.1 (bH b).2.2.2.2.2.2 (b.drop 20)=jL (cO b) (gf b) (b.drop 20):=rfl;rw[ee]
   (repeat (refine bX ?_;repeat refine bZ ?_));refine aw (λh=>?_) (λh=>?_)
   .refine yF hn (λk=>?_);obtain⟨-,⟨k,-⟩|⟨k,-⟩|⟨-,k1,k2,k3⟩⟩:=k
    .omega
    .omega
    .rw[← ht] at k2 k3;simp[k1,k2,k3] at h
   have k1:jL (cO b) (gf b) (b.drop 20)=0:=fj λk=>by simp[k] at h
   have k2:bits .and .i64 t.2.2.2.2.1 2≠0:=λk=>by simp[k1,k] at h
   have k3:bits .and .i64 t.2.2.2.2.1 4=0:=fj λk=>by simp[k1,k2,k] at h
   have hh:=EJ (src:=src) hn ha h6 k1 (by rw[← ht];exact k2) (by rw[← ht];exact k3);refine⟨aA,?_⟩;rintro o e ⟨rfl,rfl⟩;rw[aG (n:=t.2.2.1+1) ab ab,YL];have hle:=Xs src (cO b) (md t);have er:((t.2.1,t.1,0,(t.2.2.1+1)%4294967296,20,0,[]):mL)=md t:=rfl;rw[er];refine⟨by show ((fI src (cO b) (md t)).length:Int)<=_;omega,?_,?_⟩
   .rw[hh.1,← ht,← h6];rfl
   .rw[hh.2];exact Af hn (by have:=h6;unfold dk at this;simp only;omega) hle
  .have h1:=aL h1;have h17:=aL h17;have h6:=aL h6;refine yF hn (λk=>?_);obtain⟨-,⟨k,-⟩|⟨k,-⟩|⟨k,-⟩⟩:=k
   .exact h1 k
   .exact h17 k
   .exact h6 k
theorem Ur:aB 199 T3.spec:=aF Tryz.func199 (av (av (av (av (av (av (av (av (av aC Ry) (Ct.named Qf)) (Ct.named Pm)) (Ct.named Sr)) (Ct.named ac5)) (Ct.named Nr)) (Ct.named aC1)) KT) Qx) aT XO
def aq8:Ct:=⟨[.val (.sl bN),.val cI,.val cI],[.val cI],λd=>[(d.1.length:Int)<=1099511627776],λd=>((cB d.1 d.2.1 d.2.2.1,()),())⟩
theorem TX :
 ∀(a:ae)(b c:Int),(a.length<=maxLen/\ ∀(d:Int),d∈a->0<=d/\d<=255)/\aq b/\aq c/\True->(ac a)<=1099511627776->(ac a)<=9223372036854775807/\cB a b c=cB a b c:=by
  delta ac;rintro b i w-hl;exact⟨ab,rfl⟩
theorem Pr:aB 126 aq8.spec:=aF Tryz.func126 (av aC Fy) aT TX
def W4:Ct:=⟨[.val (.sl bN)],[.agg pT,.val .bool],λd=>[(d.1.length:Int)<=1000000],λd=>(((fE d.1).1,(fE d.1).2,()),())⟩
def lX(a:ae) :=
 cL a (toNat 20) (toNat (ac a))
def qd(b:cH)(h:Int) :=
 (b.2.2.2.2.2.1,b.2.2.2.2.2.2,b.2.2.2.1,aj (h -20000),b.2.1,b.2.2.1)
def qa(b:cH)(h:Int) :=
 (b.2.2.2.2.2.1,b.2.2.2.2.2.2,b.2.2.2.1,aj (h -16384),b.2.1,b.2.2.1)
def oS :=
 ((0:Int),(0:Int),(0:Int),(0:Int),(0:Int),(0:Int))
def C9(a:ae)(b:cH)(h:Int)(m:Bool) :=
 (ah m)/\(ah m)/\(ar m)/\(qd b h)=(fE a).1/\(bif m then decide (cf (qd b h)=0) else false)=(fE a).2
def mB(a:ae) :=
 ((length (lX a)):Int)
def Ks(a:ae)(b:cH)(h:Int)(l:Bool) :=
 ao l ((ar l)/\(mB a)<=1099511627776/\ ∀(m:Int),m=cB (lX a) (6:Int) (2:Int)->(ah l)/\(ah l)/\(ah l)/\(ar l)/\ ∀(n:Bool),(n=bif l then decide (m=aj (b.2.1+1)) else false)->(ah n)/\(ah n)/\(ar n)/\(qd b h)=(fE a).1/\(bif n then decide (cf (qd b h)=0) else false)=(fE a).2) ((ah l)/\(ah l)/\l=false/\(l->false=true)/\ ∀(m:Bool),(m=bif l then false else false)->(C9 a b h m))
def It(a:ae)(b:cH)(h:Int)(l:Bool) :=
 ao l ((ar l)/\(mB a)<=1099511627776/\ ∀(m:Int),m=cB (lX a) (6:Int) (2:Int)->(ah l)/\(ah l)/\(ar l)/\ ∀(n:Bool),(n=bif l then decide (m=b.2.1) else false)->(ah n)/\(ah n)/\(ar n)/\(qa b h)=(fE a).1/\(bif n then decide (cf (qa b h)=0) else false)=(fE a).2) ((ah l)/\l=false/\(l->false=true)/\ ∀(m:Bool),(m=bif l then false else false)->(ah m)/\(ah m)/\(ar m)/\(qa b h)=(fE a).1/\(bif m then decide (cf (qa b h)=0) else false)=(fE a).2)
def Ds(a:ae)(b:cH)(h:Int)(l:Bool) :=
 (ah l)/\(ah l)/\(ar l)/\(qd b h)=(fE a).1/\(bif l then decide (cf (qd b h)=0) else false)=(fE a).2
def yJ(k l:Bool) :=
 l=bif k then false else false
theorem av9 :
 ∀(a:ae),(a.length<=maxLen/\ ∀(b:Int),b∈a->0<=b/\b<=255)/\True->(ac a)<=1000000->(ac a)<=1099511627776/\ ∀(b:cH)(c d:Int),b=jR a/\c=ja a/\d=dV a-> ∀(e:Bool),e= ! decide (d=0)->(ah (! e))/\(ah (! e))/\(aE e)/\ ∀(f:Bool),(f=bif e then true else ! decide ((ac a)=28))->(ah (! f))/\(ah (! f))/\(aE f)/\ ∀(g:Bool),(g=bif f then true else ! decide (b.1=0))->(ah (! g))/\(ah (! g))/\(aE g)/\ao (bif g then true else ! b.2.2.2.2.1) ((oS)=(fE a).1/\false=(fE a).2) ((0:Int)<=20/\20<=(ac a)/\(ac a)<=(ac a)/\ao (decide (b.2.2.2.1=1)) ((mB a)<=1099511627776/\ ∀(h:Int),h=cB (lX a) (2:Int) (2:Int)-> ∀(i:Bool),i=decide (c=30)->ao i ((ar i)/\(mB a)<=1099511627776/\ ∀(j:Int),j=cB (lX a) (0:Int) (2:Int)->(ar i)/\ ∀(k:Bool),(k=bif i then decide (j=2048) else false)->ao k ((ar k)/\(mB a)<=1099511627776/\ ∀(l:Int),l=cB (lX a) (4:Int) (2:Int)->(ar k)/\
 ∀(m:Bool),(m=bif k then decide (l=21075) else false)->ao m ((ar m)/\(mB a)<=1099511627776/\ ∀(n:Int),n=cB (lX a) (6:Int) (2:Int)->(ah m)/\(ah m)/\(ar m)/\ ∀(o:Bool),(o=bif m then decide (n=b.2.1) else false)->(ah o)/\(ah o)/\(ar o)/\(qa b h)=(fE a).1/\(bif o then decide (cf (qa b h)=0) else false)=(fE a).2) ((ah m)/\m=false/\(m->false=true)/\ ∀(n:Bool),(n=bif m then false else false)->(ah n)/\(ah n)/\(ar n)/\(qa b h)=(fE a).1/\(bif n then decide (cf (qa b h)=0) else false)=(fE a).2)) (k=false/\(k->false=true)/\ ∀(l:Bool),(yJ k l)->(It a b h l))) (i=false/\(i->false=true)/\ ∀(j:Bool),(j=bif i then false else false)->ao j ((ar j)/\(mB a)<=1099511627776/\ ∀(k:Int),k=cB (lX a) (4:Int) (2:Int)->(ar j)/\ ∀(l:Bool),(l=bif j then decide (k=21075) else false)->(It a b h l)) (j=false/\(j->false=true)/\ ∀(k:Bool),(k=bif j then false else
 false)->ao k ((ar k)/\(mB a)<=1099511627776/\ ∀(l:Int),l=cB (lX a) (6:Int) (2:Int)->(ah k)/\(ah k)/\(ar k)/\ ∀(m:Bool),(m=bif k then decide (l=b.2.1) else false)->(ah m)/\(ah m)/\(ar m)/\(qa b h)=(fE a).1/\(bif m then decide (cf (qa b h)=0) else false)=(fE a).2) ((ah k)/\k=false/\(k->false=true)/\ ∀(l:Bool),(yJ k l)->(ah l)/\(ah l)/\(ar l)/\(qa b h)=(fE a).1/\(bif l then decide (cf (qa b h)=0) else false)=(fE a).2)))) (ao (decide (b.2.2.2.1=17)) ((mB a)<=1099511627776/\ ∀(h:Int),h=cB (lX a) (0:Int) (2:Int)-> ∀(i:Bool),i=decide (c=30)->ao i ((ar i)/\(mB a)<=1099511627776/\ ∀(j:Int),j=cB (lX a) (2:Int) (2:Int)->(ar i)/\ ∀(k:Bool),(k=bif i then decide (j=33434) else false)->ao k ((ar k)/\(mB a)<=1099511627776/\ ∀(l:Int),l=cB (lX a) (4:Int) (2:Int)->(ah k)/\(ah k)/\(ar k)/\ ∀(m:Bool),(m=bif k then decide (l=aj (c -20))
 else false)->ao m ((ar m)/\(mB a)<=1099511627776/\ ∀(n:Int),n=cB (lX a) (6:Int) (2:Int)->(ah m)/\(ah m)/\(ah m)/\(ar m)/\ ∀(o:Bool),(o=bif m then decide (n=aj (b.2.1+1)) else false)->(ah o)/\(ah o)/\(ar o)/\(qd b h)=(fE a).1/\(bif o then decide (cf (qd b h)=0) else false)=(fE a).2) ((ah m)/\(ah m)/\m=false/\(m->false=true)/\ ∀(n:Bool),(n=bif m then false else false)->(ah n)/\(ah n)/\(ar n)/\(qd b h)=(fE a).1/\(bif n then decide (cf (qd b h)=0) else false)=(fE a).2)) ((ah k)/\k=false/\(k->false=true)/\ ∀(l:Bool),(yJ k l)->(Ks a b h l))) (i=false/\(i->false=true)/\ ∀(j:Bool),(j=bif i then false else false)->ao j ((ar j)/\(mB a)<=1099511627776/\ ∀(k:Int),k=cB (lX a) (4:Int) (2:Int)->(ah j)/\(ah j)/\(ar j)/\ ∀(l:Bool),(l=bif j then decide (k=aj (c -20)) else false)->(Ks a b h l)) ((ah j)/\j=false/\(j->false=true)/\
 ∀(k:Bool),(k=bif j then false else false)->ao k ((ar k)/\(mB a)<=1099511627776/\ ∀(l:Int),l=cB (lX a) (6:Int) (2:Int)->(ah k)/\(ah k)/\(ah k)/\(ar k)/\ ∀(m:Bool),(m=bif k then decide (l=aj (b.2.1+1)) else false)->(C9 a b h m)) ((ah k)/\(ah k)/\k=false/\(k->false=true)/\ ∀(l:Bool),(yJ k l)->(Ds a b h l))))) (ao (decide (b.2.2.2.1=6)) ((mB a)<=1099511627776/\ ∀(h:Int),h=cB (lX a) (0:Int) (2:Int)-> ∀(i:Bool),i=decide (c=40)->ao i ((ar i)/\(mB a)<=1099511627776/\ ∀(j:Int),j=cB (lX a) (2:Int) (2:Int)->(ar i)/\ ∀(k:Bool),(k=bif i then decide (j=80) else false)->ao k ((ar k)/\(mB a)<=1099511627776/\ ∀(l:Int),l=cB (lX a) (4:Int) (4:Int)->(ah k)/\(ah k)/\(ar k)/\ ∀(m:Bool),(m=bif k then decide (l=b.2.1) else false)->(C9 a b h m)) ((ah k)/\k=false/\(k->false=true)/\ ∀(l:Bool),(yJ k l)->(Ds a b h l))) (i=false/\(i->false=true)/\
 ∀(j:Bool),(j=bif i then false else false)->ao j ((ar j)/\(mB a)<=1099511627776/\ ∀(k:Int),k=cB (lX a) (4:Int) (4:Int)->(ah j)/\(ah j)/\(ar j)/\ ∀(l:Bool),(l=bif j then decide (k=b.2.1) else false)->(Ds a b h l)) ((ah j)/\j=false/\(j->false=true)/\ ∀(k:Bool),(k=bif j then false else false)->(ah k)/\(ah k)/\(ar k)/\(qd b h)=(fE a).1/\(bif k then decide (cf (qd b h)=0) else false)=(fE a).2))) (∀(h:Bool),h=false->(ah h)/\(ah h)/\(ar h)/\(b.2.2.2.2.2.1,b.2.2.2.2.2.2,b.2.2.2.1,(0:Int),b.2.1,b.2.2.1)=(fE a).1/\(bif h then decide (cf (b.2.2.2.2.2.1,b.2.2.2.2.2.2,b.2.2.2.1,(0:Int),b.2.1,b.2.2.1)=0) else false)=(fE a).2)))):=by
  delta lX qd qa oS Ks It mB Ds C9 yJ ah ar aE aj ac;rintro b ⟨⟨-,hb⟩,-⟩ hl;refine⟨ab,?_⟩;rintro d n e ⟨rfl,rfl,rfl⟩
  (repeat (refine bX ?_;repeat refine bZ ?_));refine aw (λh=>?_) (λh=>?_)
  .rw[fE,af]
   .exact⟨rfl,rfl⟩
   rintro⟨k1,k2,k3,k4⟩;rw[jR,am k1] at h;simp[k1,k2,k3,k4] at h
  have k1:dV b=0:=fj λk=>by simp[k] at h
  rw[jR,am k1] at h ⊢;have hq:Bk b:=by
   simp[dE,k1] at h;exact⟨k1,by have:=h.1.1;omega,h.1.2,h.2⟩
  clear h;obtain⟨-,h28,-,-⟩:=id hq;have hs:cL b (toNat 20) (toNat (b.length:Int))=b.drop 20:=vX b 20;have hdl:((b.drop 20).length:Int)=8:=by rw[fy];omega
  have wd:∀ i,aH (b.drop 20) i=aH b (20+i):=λi=>by unfold aH;rw[List.drop_drop]
  have g0:cB (b.drop 20) 0 2=aH b 20:=by rw[ny ab ab,wd];rfl
  have g2:cB (b.drop 20) 2 2=aH b 22:=by rw[ny ab ab,wd];rfl
  have g4:cB (b.drop 20) 4 2=aH b 24:=by rw[ny ab ab,wd];rfl
  have g6:cB (b.drop 20) 6 2=aH b 26:=by rw[ny ab ab,wd];rfl
  have g44:cB (b.drop 20) 4 4=fp ((b.drop 24).take 4):=by rw[CB ab ab,List.drop_drop];rfl
  have w20:=nS hb 20;have w22:=nS hb 22;have hid:=nS hb 4;have hlen:=nS hb 2;have eid:(bH b).2.1=aH b 4:=rfl;rw[fE,am hq,hs,ja,am k1,g0,g2,g4,g6,g44];have le1:((b.drop 20).length:Int)<=1099511627776:=ab;have e22:IntKind.i64.wrap (aH b 22-16384)=aH b 22-16384:=aG ab ab;have e20:IntKind.i64.wrap (aH b 20-20000)=aH b 20-20000:=aG ab ab;have e2:IntKind.i64.wrap (aH b 2-20)=aH b 2-20:=aG ab ab;have e1:IntKind.i64.wrap ((bH b).2.1+1)=(bH b).2.1+1:=aG (by rw[eid];omega) (by rw[eid];omega);refine⟨ab,ab,ab,?_⟩;have ep:(bH b).2.2.2.1=dk b:=rfl;rw[ep];refine aw (λh1=>?_) (λh1=>aw (λh17=>?_) (λh17=>aw (λh6=>?_) (λh6=>?_)))
  .have h1:=aI h1;have eP:qC b=((bH b).2.2.2.2.2.1,(bH b).2.2.2.2.2.2,dk b,aH b 22-16384,(bH b).2.1,(bH b).2.2.1):=by
    rw[qC,yz,am h1];rfl
   have eR:pP b↔(aH b 2=30/\aH b 20=2048/\aH b 24=21075/\aH b 26=(bH b).2.1):=by
    unfold pP;simp[h1]
   refine⟨le1,?_⟩;rintro _ rfl;rw[eP,e22];simp only[eR];by_cases c1:aH b 2=30 <;> by_cases c2:aH b 20=2048 <;> by_cases c3:aH b 24=21075 <;> by_cases c4:aH b 26=(bH b).2.1 <;> simp[ao,c1,c2,c3,c4,h28]
  .have h1:¬ dk b=1:=aL h1;have h17:=aI h17;have eP:qC b=((bH b).2.2.2.2.2.1,(bH b).2.2.2.2.2.2,dk b,aH b 20-20000,(bH b).2.1,(bH b).2.2.1):=by
    rw[qC,yz,af h1,am (.inl h17)];rfl
   have eR:pP b↔(aH b 2=30/\aH b 22=33434/\aH b 24=aH b 2-20/\aH b 26=(bH b).2.1+1):=by
    unfold pP;simp[h17]
   refine⟨le1,?_⟩;rintro _ rfl;rw[eP,e20];simp only[eR];by_cases c1:aH b 2=30 <;> by_cases c2:aH b 22=33434 <;> by_cases c3:aH b 24=10 <;> by_cases c4:aH b 26=(bH b).2.1+1 <;> simp[ao,c1,c2,c3,c4,h28,e1,e2,show IntKind.i64.wrap 10=10 from rfl]
  .have h1:¬ dk b=1:=aL h1;have h17:¬ dk b=17:=aL h17;have h6:=aI h6;have eP:qC b=((bH b).2.2.2.2.2.1,(bH b).2.2.2.2.2.2,dk b,aH b 20-20000,(bH b).2.1,(bH b).2.2.1):=by
    rw[qC,yz,af h1,am (.inr h6)];rfl
   have eR:pP b↔(aH b 2=40/\aH b 22=80/\fp ((b.drop 24).take 4)=(bH b).2.1):=by
    unfold pP;simp[h6]
   refine⟨le1,?_⟩;rintro _ rfl;rw[eP,e20];simp only[eR];by_cases c1:aH b 2=40 <;> by_cases c2:aH b 22=80 <;> by_cases c3:fp ((b.drop 24).take 4)=(bH b).2.1 <;> simp[ao,c1,c2,c3,h28]
  .have h1:¬ dk b=1:=aL h1;have h17:¬ dk b=17:=aL h17;have h6:¬ dk b=6:=aL h6;have eP:qC b=((bH b).2.2.2.2.2.1,(bH b).2.2.2.2.2.2,dk b,0,(bH b).2.1,(bH b).2.2.1):=by
    rw[qC,yz,af h1,af ab];rfl
   have eR:¬ pP b:=by
    unfold pP;simp[h1,h17,h6]
   rw[eP];simp[eR]
theorem aG4:aB 128 W4.spec:=aF Tryz.func128 (av (av (av aC (Ct.named Mq)) (Ct.named Pr)) Qd) aT av9
def al1:Ct:=⟨[.agg jP,.val (.sl bN)],[.agg pT,.agg Er,.val .bool],λd=>[(d.2.1.length:Int)<=1000000],λd=>(((ou d.1.2.2.2.2.2.2 d.2.1).1,(ou d.1.2.2.2.2.2.2 d.2.1).2.1,(ou d.1.2.2.2.2.2.2 d.2.1).2.2,()),())⟩
def pJ(a:cH)(b:ae) :=
 ou a.2.2.2.2.2.2 b
theorem au7 :
 ∀(a:cH)(b:ae),CT.wf jP a/\(b.length<=maxLen/\ ∀(c:Int),c∈b->0<=c/\c<=255)/\True->(ac b)<=1000000->(ac b)<=1000000/\ ∀(c d:Int)(e:ae)(f:Int),(c,d,e)=j8 b/\f=kD b->ao (! decide (f=0)) ((oS)=(pJ a b).1/\(oS)=(pJ a b).2.1/\false=(pJ a b).2.2) ((ac e)<=1000000/\ ∀(g h i j k l:Int)(m:Bool),(g,h,i,j,k,l)=(fE e).1/\m=(fE e).2->ao (decide (c=11)) (∀(n:Bool),n=m->(ah n)/\(ah n)/\(n->(ar n)/\(ar n)/\True)/\(ar n)/\(g,h,i,j,k,(0:Int))=(pJ a b).1/\((0:Int),(1:Int),d,(0:Int),(0:Int),l)=(pJ a b).2.1/\(bif n then decide (g=a.2.2.2.2.2.2) else false)=(pJ a b).2.2) (ao (decide (d=3)) (∀(n:Bool),n=m->(ah n)/\(ah n)/\(n->(ar n)/\(ar n)/\True)/\(ar n)/\(g,h,i,j,k,(0:Int))=(pJ a b).1/\((0:Int),(3:Int),d,(0:Int),(0:Int),l)=(pJ a b).2.1/\(bif n then decide (g=a.2.2.2.2.2.2) else false)=(pJ a b).2.2) (∀(n:Bool),n=m->(ah
 n)/\(ah n)/\(n->(ar n)/\(ar n)/\True)/\(ar n)/\(g,h,i,j,k,(0:Int))=(pJ a b).1/\((0:Int),(5:Int),d,(0:Int),(0:Int),l)=(pJ a b).2.1/\(bif n then decide (g=a.2.2.2.2.2.2) else false)=(pJ a b).2.2))):=by
  delta oS pJ ah ar ac;rintro h b ⟨-,⟨-,hb⟩,-⟩ hl;refine⟨hl,?_⟩;rintro ty code q e ⟨hu,rfl⟩;refine aw (λhe=>?_) (λhe=>?_)
  .have he:¬ kD b=0:=by simpa using he
   rw[ou,af he];exact⟨rfl,rfl,rfl⟩
  have he:kD b=0:=by simpa using he
  have hlen:=We b;rw[ou,am he,← hu];rw[← hu] at hlen;refine⟨by simp only at hlen;omega,?_⟩;rintro s d p f t l ok ⟨hp,rfl⟩;simp only at hp ⊢;rw[← hp];simp only[tV,vo];refine aw (λh1=>?_) (λh1=>aw (λh3=>?_) (λh3=>?_))
  ·(repeat (intro (b_:Bool) (hb_:b_=_);(repeat refine⟨(by first|(simp;done)|(rw[hb_];simp;done)|(rw[hb_];simp;omega)|(rw[hb_];simp;intros;omega)|(rw[hb_];simp +contextual;done)),?_⟩);subst hb_));rw[am (aI h1)];exact⟨rfl,by cases (fE q).2 <;> rfl⟩
  ·(repeat (intro (b_:Bool) (hb_:b_=_);(repeat refine⟨(by first|(simp;done)|(rw[hb_];simp;done)|(rw[hb_];simp;omega)|(rw[hb_];simp;intros;omega)|(rw[hb_];simp +contextual;done)),?_⟩);subst hb_));rw[af (aL h1),am (aI h3)];exact⟨rfl,by cases (fE q).2 <;> rfl⟩
  ·(repeat (intro (b_:Bool) (hb_:b_=_);(repeat refine⟨(by first|(simp;done)|(rw[hb_];simp;done)|(rw[hb_];simp;omega)|(rw[hb_];simp;intros;omega)|(rw[hb_];simp +contextual;done)),?_⟩);subst hb_));rw[af (aL h1),af (aL h3)];exact⟨rfl,by cases (fE q).2 <;> rfl⟩
theorem VM:aB 58 al1.spec:=aF Tryz.func58 (av (av aC (Ct.named aT0)) (Ct.named aG4)) aT au7
def an5:Ct:=⟨[.agg jP,.val (.sl bN)],[.agg pT,.agg Er,.val .bool],λd=>[(d.2.1.length:Int)<=1000000],λd=>(((rC d.1.2.2.2.2.2.1 d.1.2.2.2.2.2.2 d.2.1).1,(rC d.1.2.2.2.2.2.1 d.1.2.2.2.2.2.2 d.2.1).2.1,(rC d.1.2.2.2.2.2.1 d.1.2.2.2.2.2.2 d.2.1).2.2,()),())⟩
def yu(a:cH)(b:ae) :=
 rC a.2.2.2.2.2.1 a.2.2.2.2.2.2 b
theorem aN1 :
 ∀(a:cH)(b:ae),CT.wf jP a/\(b.length<=maxLen/\ ∀(c:Int),c∈b->0<=c/\c<=255)/\True->(ac b)<=1000000->(ac b)<=1000000/\ ∀(c:Bool)(d e:Int)(f:ae)(g:Int),(c,d,e,f)=gn b/\g=jE b-> ∀(h:Bool),h= ! decide (g=0)->(ah (! h))/\(ah (! h))/\(aE h)/\ ∀(i:Bool),(i=bif h then true else ! c)->(ah (! i))/\(ah (! i))/\(aE i)/\ ∀(j:Bool),(j=bif i then true else ! decide (d=21075))->(ah (! j))/\(ah (! j))/\(ah (! j))/\(aE j)/\ao (bif j then true else ! decide ((ac f)=2)) ((oS)=(yu a b).1/\(oS)=(yu a b).2.1/\false=(yu a b).2.2) ((ac b)<=1099511627776/\ ∀(k:Int),k=cB b (2:Int) (2:Int)->(a.2.2.2.2.2.2,a.2.2.2.2.2.1,(1:Int),aj (k -18432),e,(0:Int))=(yu a b).1/\((0:Int),(2:Int),(0:Int),(0:Int),(0:Int),(0:Int))=(yu a b).2.1/\true=(yu a b).2.2):=by
  delta oS yu ah aE aj ac;rintro h b ⟨-,⟨-,hb⟩,-⟩ hl;refine⟨hl,?_⟩;rintro r i q dt e ⟨hu,rfl⟩
  (repeat (intro (b_:Bool) (hb_:b_=_);(repeat refine⟨(by first|(simp +contextual;done)|(rw[hb_];simp +contextual;done)|(rw[hb_];simp;omega)|(rw[hb_];simp;intros;omega)|(rw[hb_];simp +contextual;intros;omega)|(intros;simp_all;done)|(intros;simp_all;omega)),?_⟩)));subst_vars;refine aw (λk=>?_) (λk=>?_)
  .rw[rC,af]
   .exact⟨rfl,rfl,rfl⟩
   .rintro⟨k1,k2,k3,k4⟩;rw[← hu] at k2 k3 k4;simp only at k2 k3 k4;simp[k1,k2,k3,k4] at k
  .have hg:BG b:=by
    simp[dE] at k;refine⟨k.1.1.1,?_,?_,?_⟩ <;> rw[← hu] <;> simp only
    .exact k.1.1.2
    .exact k.1.2
    .have:=k.2;omega
   have h8:=(V7 hg.1).1;have hw:=nS hb 2;refine⟨ab,?_⟩;rintro _ rfl;rw[ny ab ab,show toNat 2=2 from rfl,aG ab ab,rC,am hg,← hu];exact⟨rfl,rfl,rfl⟩
theorem UZ:aB 57 an5.spec:=aF Tryz.func57 (av (av aC (Ct.named Pm)) (Ct.named Pr)) aT aN1
def Zs:Ct:=⟨[.agg jP,.val (.sl bN)],[.agg pT,.agg Er,.val .bool],λd=>[(d.2.1.length:Int)<=1000000],λd=>(((rz d.1.2.2.2.2.2.1 d.1.2.2.2.2.2.2 d.2.1).1,(rz d.1.2.2.2.2.2.1 d.1.2.2.2.2.2.2 d.2.1).2.1,(rz d.1.2.2.2.2.2.1 d.1.2.2.2.2.2.2 d.2.1).2.2,()),())⟩
def xc(a:cH)(b:ae) :=
 rz a.2.2.2.2.2.1 a.2.2.2.2.2.2 b
theorem am8 :
 ∀(a:cH)(b:ae),CT.wf jP a/\(b.length<=maxLen/\ ∀(c:Int),c∈b->0<=c/\c<=255)/\True->(ac b)<=1000000->(ac b)<=1000000/\ ∀(c:Int×Int×Int×Int×Int×Int×ae)(d:Int),c=fV a.2.2.2.2.2.1 a.2.2.2.2.2.2 b/\d=jL a.2.2.2.2.2.1 a.2.2.2.2.2.2 b-> ∀(e:Bool),e= ! decide (d=0)->(ah (! e))/\(ah (! e))/\(aE e)/\ ∀(f:Bool),(f=bif e then true else ! decide (c.1=80))->(ah (! f))/\(ah (! f))/\(aE f)/\ ∀(g:Bool),(g=bif f then true else ! decide (c.2.2.1=0))->(ah (! g))/\(ah (! g))/\(aE g)/\ ∀(h:Bool),(h=bif g then true else ! decide (c.2.2.2.2.1=20))->(ah (! h))/\(ah (! h))/\(aE h)/\ ∀(i:Bool),(i=bif h then true else ! decide (c.2.2.2.2.2.1=0))->(ah (! i))/\(ah (! i))/\(ah (! i))/\(aE i)/\ao (bif i then true else decide (0<(ac c.2.2.2.2.2.2))) ((oS)=(xc a b).1/\(oS)=(xc a b).2.1/\false=(xc a b).2.2) ((a.2.2.2.2.2.2,a.2.2.2.2.2.1,(6:Int),aj (c.2.1
 -20000),aj (c.2.2.2.1 -1),(0:Int))=(xc a b).1/\((0:Int),(4:Int),(0:Int),(0:Int),(0:Int),(0:Int))=(xc a b).2.1/\true=(xc a b).2.2):=by
  delta oS xc ah aE aj ac;rintro h b ⟨-,⟨-,hb⟩,-⟩ hl;refine⟨hl,?_⟩;rintro t e ⟨ht,rfl⟩
  (repeat (intro (b_:Bool) (hb_:b_=_);(repeat refine⟨(by first|(simp +contextual;done)|(rw[hb_];simp +contextual;done)|(rw[hb_];simp;omega)|(rw[hb_];simp;intros;omega)|(rw[hb_];simp +contextual;intros;omega)|(intros;simp_all;done)|(intros;simp_all;omega)),?_⟩)));subst_vars;refine aw (λk=>?_) (λk=>?_)
  .rw[rz,af]
   .exact⟨rfl,rfl,rfl⟩
   .rintro⟨k1,k2,k3,k4,k5,k6⟩;simp[k1,k2,k3,k4,k5,k6] at k
  .have hg:BK h.2.2.2.2.2.1 h.2.2.2.2.2.2 b:=by
    simp[dE] at k;exact⟨k.1.1.1.1.1,k.1.1.1.1.2,k.1.1.1.2,k.1.1.2,k.1.2,k.2⟩
   have hr:=KW (s:=h.2.2.2.2.2.1) (d:=h.2.2.2.2.2.2) hb;rw[aG ab ab,aG ab ab,rz,am hg];exact⟨rfl,rfl,rfl⟩
theorem Ta:aB 59 Zs.spec:=aF Tryz.func59 (av aC (Ct.named Nr)) aT am8
def Vh:Ct:=⟨[.val (.sl bN)],[.agg pT,.agg Er,.val cI],λd=>[(d.1.length:Int)<=1000000],λd=>(((jO d.1).1,(jO d.1).2,pF d.1,()),())⟩
def FK(a:ae) :=
 (oS)=(jO a).1/\(oS)=(jO a).2/\17=pF a
def CV(a:ae)(b:(Int×Int×Int×Int×Bool×Int×Int)×ae)(f g h i j k m n q:Int)(r:Bool) :=
 ∀(s:Bool),s= ! r->(ah (! s))/\(ah (! s))/\(aE s)/\ao (bif s then true else ! decide (cf (f,g,h,i,j,(1:Int))=0)) (FK a) ((f,g,h,i,j,k)=(jO a).1/\(b.1.2.2.2.2.2.1,m,n,b.1.2.2.1,b.1.2.1,q)=(jO a).2/\0=pF a)
theorem az4 :
 ∀(a:ae),(a.length<=maxLen/\ ∀(b:Int),b∈a->0<=b/\b<=255)/\True->(ac a)<=1000000->(ac a)<=1099511627776/\ ∀(b:(Int×Int×Int×Int×Bool×Int×Int)×ae)(c:Int),b=aY a/\c=bY a->ao (! decide (c=0)) (FK a) (∀(d:Bool),d=decide (b.1.2.2.2.1=1)->(ah d)/\(ah d)/\(ah d)/\(ar d)/\ ∀(e:Bool),(e=bif d then decide (0<(ac b.2)) else false)->(ah e)/\(e->(ar e)/\(0:Int)<=0/\0<(ac b.2)/\True)/\(ah e)/\(ah e)/\(ar e)/\ao (bif e then decide (getD b.2 (toNat 0) default=0) else false) ((ac b.2)<=1000000/\ ∀(f g h i j k l m n o p q:Int)(r:Bool),(f,g,h,i,j,k)=(rC b.1.2.2.2.2.2.1 b.1.2.2.2.2.2.2 b.2).1/\(l,m,n,o,p,q)=(rC b.1.2.2.2.2.2.1 b.1.2.2.2.2.2.2 b.2).2.1/\r=(rC b.1.2.2.2.2.2.1 b.1.2.2.2.2.2.2 b.2).2.2-> (CV a b f g h i j k m n q r)) (ao (decide (b.1.2.2.2.1=1)) ((ac b.2)<=1000000/\ ∀(f g h i j k l m n o p q:Int)(r:Bool),(f,g,h,i,j,k)=(ou
 b.1.2.2.2.2.2.2 b.2).1/\(l,m,n,o,p,q)=(ou b.1.2.2.2.2.2.2 b.2).2.1/\r=(ou b.1.2.2.2.2.2.2 b.2).2.2-> (CV a b f g h i j k m n q r)) (ao (decide (b.1.2.2.2.1=6)) ((ac b.2)<=1000000/\ ∀(f g h i j k l m n o p q:Int)(r:Bool),(f,g,h,i,j,k)=(rz b.1.2.2.2.2.2.1 b.1.2.2.2.2.2.2 b.2).1/\(l,m,n,o,p,q)=(rz b.1.2.2.2.2.2.1 b.1.2.2.2.2.2.2 b.2).2.1/\r=(rz b.1.2.2.2.2.2.1 b.1.2.2.2.2.2.2 b.2).2.2-> (CV a b f g h i j k m n q r)) (∀(f:Bool),f= ! false->(ah (! f))/\(ah (! f))/\(aE f)/\ao (bif f then true else ! decide (cf ((0:Int),(0:Int),(0:Int),(0:Int),(0:Int),(1:Int))=0)) (FK a) ((oS)=(jO a).1/\(b.1.2.2.2.2.2.1,(0:Int),(0:Int),b.1.2.2.1,b.1.2.1,(0:Int))=(jO a).2/\0=pF a))))):=by
  delta oS CV FK ah ar aE ac;rintro b ⟨⟨-,hb⟩,-⟩ hl;refine⟨ab,?_⟩;rintro d e ⟨rfl,rfl⟩;have bad:¬ uc b->((0,0,0,0,0,0):bz)=(jO b).1/\((0,0,0,0,0,0):rT)=(jO b).2/\(17:Int)=pF b:=λk=>by
   rw[jO,pF,af k,af k];exact⟨rfl,rfl,rfl⟩
  refine aw (λh=>bad (λk=>?_)) (λh=>?_)
  .simp[k.1] at h
  have h:bY b=0:=by simpa using h
  have hdl:=vO h;rw[aY,am h];have hdr:((b.drop 20).length:Int)<=1000000:=by rw[fy];omega
  have hdb:bytes (b.drop 20):=vu hb;have eq1:(bH b).2.2.2.1=dk b:=rfl;have eq2:(bH b).2.2.2.2.2.1=cO b:=rfl;have eq3:(bH b).2.2.2.2.2.2=gf b:=rfl;simp only[eq1,eq2,eq3];have fin:∀ r:yO,r=kF b→∀(p1 p2 p3 p4 p5 p6 a1 a2 a3 a4 a5 a6:Int)(ok:Bool),(p1,p2,p3,p4,p5,p6)=r.1/\(a1,a2,a3,a4,a5,a6)=r.2.1/\ok=r.2.2 →
    ao (bif !ok then true else !decide (cf (p1,p2,p3,p4,p5,1)=0)) (((0,0,0,0,0,0):bz)=(jO b).1/\((0,0,0,0,0,0):rT)=(jO b).2/\(17:Int)=pF b)
     (((p1,p2,p3,p4,p5,p6):bz)=(jO b).1/\((cO b,a2,a3,(bH b).2.2.1,(bH b).2.1,a6):rT)=(jO b).2/\(0:Int)=pF b):=by
   rintro r rfl p1 p2 p3 p4 p5 p6 a1 a2 a3 a4 a5 a6 ok ⟨hp,ha,rfl⟩;have en:tV (kF b).1 1=(p1,p2,p3,p4,p5,1):=by rw[← hp];rfl
   refine aw (λk=>bad (λg=>?_)) (λk=>?_)
   .have g3:=g.2.2;rw[en] at g3;simp[g.2.1,g3] at k
   .have g:uc b:=by
     simp[dE] at k;exact⟨h,k.1,by rw[en];exact k.2⟩
    rw[jO,pF,am g,am g];refine⟨hp,?_,rfl⟩;rw[← ha]
  (repeat (refine bX ?_;repeat refine bZ ?_));refine aw (λhc=>?_) (λhc=>?_)
  .have c3:(b.drop 20).getD 0 default=0:=fj λk=>by
    have k:¬ (b.drop 20).getD (toNat 0) default=0:=k;rw[dP k] at hc;simp at hc
   simp[dE] at hc;have er:rC (cO b) (gf b) (b.drop 20)=kF b:=by
    rw[kF,am];refine⟨hc.1.1,?_,c3⟩;rw[fy];omega
   refine⟨hdr,?_⟩;rintro p1 p2 p3 p4 p5 p6 a1 a2 a3 a4 a5 a6 ok hh;have:=fin _ er p1 p2 p3 p4 p5 p6 a1 a2 a3 a4 a5 a6 ok hh
   (repeat (refine bX ?_;repeat refine bZ ?_));exact this
  have hc':¬ (dk b=1/\0<(b.drop 20).length/\(b.drop 20).getD 0 default=0):=by
   rintro⟨c1,c2,c3⟩;rw[c1,cM (show (0:Int)<((b.drop 20).length:Int) by omega)] at hc;have:(b.drop 20).getD (toNat 0) default=0:=c3;rw[this] at hc;cases hc
  refine aw (λh1=>?_) (λh1=>aw (λh6=>?_) (λh6=>?_))
  .have h1:=aI h1;have er:ou (gf b) (b.drop 20)=kF b:=by
    rw[kF,af hc',am h1]
   refine⟨hdr,?_⟩;rintro p1 p2 p3 p4 p5 p6 a1 a2 a3 a4 a5 a6 ok hh;have:=fin _ er p1 p2 p3 p4 p5 p6 a1 a2 a3 a4 a5 a6 ok hh
   (repeat (refine bX ?_;repeat refine bZ ?_));exact this
  .have h1:=aL h1;have h6:=aI h6;have er:rz (cO b) (gf b) (b.drop 20)=kF b:=by
    rw[kF,af hc',af h1,am h6]
   refine⟨hdr,?_⟩;rintro p1 p2 p3 p4 p5 p6 a1 a2 a3 a4 a5 a6 ok hh;have:=fin _ er p1 p2 p3 p4 p5 p6 a1 a2 a3 a4 a5 a6 ok hh
   (repeat (refine bX ?_;repeat refine bZ ?_));exact this
  .have h1:=aL h1;have h6:=aL h6;have er:B5=kF b:=by rw[kF,af hc',af h1,af h6]
   have:=fin _ er 0 0 0 0 0 0 0 0 0 0 0 0 false ⟨rfl,rfl,rfl⟩
   (repeat (refine bX ?_;repeat refine bZ ?_));exact this
theorem az8:aB 23 Vh.spec:=aF Tryz.func23 (av (av (av (av (av aC (Ct.named Bd)) (Ct.named UZ)) (Ct.named VM)) (Ct.named Ta)) Qd) aT az4
abbrev dh:CT := .pair m8 (.pair (.sl cI) cI)
abbrev Rt:Type:=d9×ae×Int
def bI(p q:d9):Prop:=p.1<q.1∨p.1=q.1/\p.2<q.2
instance (p q:d9):Decidable (bI p q):=by unfold bI;infer_instance
theorem O6{a b:Int}(h:a<b):gG a b = -1:=by unfold gG;rw[am h]
theorem Ll{a b:Int}(h:b<a):gG a b=1:=by unfold gG;rw[af (by omega),am h]
theorem G8(a:Int):gG a a=0:=by unfold gG;simp
theorem GS(p q:d9):(bI p q/\gB p q = -1)∨(p=q/\gB p q=0)∨(bI q p/\gB p q=1):=by
 obtain⟨a,b⟩:=p;obtain⟨c,e⟩:=q
 unfold gB bI
 rcases Int.lt_trichotomy a c with h|rfl|h
 .simp[O6 h,h]
 .rcases Int.lt_trichotomy b e with h|rfl|h
  .simp[G8,O6 h,h]
  .simp[G8]
  .simp[G8,Ll h,h]
 .simp[Ll h,h]
theorem rb(p:d9):¬ bI p p:=by unfold bI;omega
theorem Cu{p q r:d9}(h:bI p q)(k:bI q r):bI p r:=by unfold bI at *;omega
theorem xd{p q:d9}(h:bI p q):¬ bI q p:=by unfold bI at *;omega
theorem E6{p q:d9}(h:¬ bI p q):p=q∨bI q p:=by rcases GS p q with⟨k,-⟩|⟨k,-⟩|⟨k,-⟩ <;> simp_all
theorem ON{p q r:d9}(h:¬ bI p q)(k:bI p r):¬ bI r q:=λe=>h (Cu k e)
theorem BM{p q:d9}:gB p q<0↔bI p q:=by
 rcases GS p q with⟨h,e⟩|⟨rfl,e⟩|⟨h,e⟩ <;> rw[e]
 .simp[h]
 .simp[rb]
 .simp[xd h]
theorem CW{p q:d9}:gB p q=0↔p=q:=by
 rcases GS p q with⟨h,e⟩|⟨h,e⟩|⟨h,e⟩ <;> rw[e]
 .simp;rintro rfl;exact rb _ h
 .simp[h]
 .simp;rintro rfl;exact rb _ h
theorem HG{p q:d9}:0<=gB p q↔¬ bI p q:=by rw[← BM];omega
def cJ(l:List Rt):Prop:=l.Pairwise λa b=>bI a.1 b.1
theorem Wn{l:List Rt}{p:d9}{h:Int}(hs:cJ l)(h0:0<=h)(h1:h<l.length)(a:bI (l.getD h.toNat default).1 p):∀ y∈l.take (h+1).toNat,bI y.1 p:=by
 intro y b
 have c:h.toNat<l.length:=ab
 rcases RN h0 h1 b with b|rfl
 .obtain⟨k,hk,rfl⟩:=List.mem_iff_getElem.1 b;rw[bJ,cK c,f9] at a;simp at hk ⊢;exact Cu (List.pairwise_iff_getElem.1 hs k h.toNat ab c ab) a
 .exact a
theorem V4{l:List Rt}{p:d9}{h:Int}(hs:cJ l)(h0:0<=h)(h1:h<l.length)(d:¬ bI (l.getD h.toNat default).1 p):∀ y∈l.drop h.toNat,¬ bI y.1 p:=by
 intro y c
 have e:h.toNat<l.length:=ab
 rw[bJ,cK e,f9] at d
 rw[sm e] at c
 rcases dK.1 c with rfl|c
 .exact d
 .have f:((l.drop h.toNat)).Pairwise λa b=>bI a.1 b.1:=List.Pairwise.drop hs;rw[sm e] at f;exact ON d (List.rel_of_pairwise_cons f c)
def at4:Ct:=⟨[.val (.sl cI)],[.own 3 cI],λd=>[(d.1.length:Int)<=1099511627776],λd=>((d.1,()),())⟩
def pS :=
 (140737488355328:Nat)
theorem aS3 :
 ∀(a:ae),(a.length<=maxLen/\ ∀(b:Int),b∈a->aq b)/\True->(ac a)<=1099511627776-> ∀(b:Bool),(b=true->a.length=(0:Nat))->ao b (([]:ae)=a) (((0:Nat)+a.length)*(8:Nat)<=(pS)/\a=a):=by
  delta pS ac;rintro x ⟨⟨hl,-⟩,-⟩ h b hb;refine aw (λh1=>?_) (λh1=>⟨by simp;omega,by simp⟩);simp_all
theorem yh:aB 97 at4.spec:=aF Tryz.func97 aC aT aS3
def aB3:Ct:=⟨[.agg dh],[.agg dh],λd=>[(d.1.2.1.length:Int)<=1099511627776],λd=>((d.1,()),())⟩
theorem VG :
 ∀(a b:Int)(c:ae)(d:Int),(((0<=a/\a<=4294967295)/\aq b)/\(c.length<=maxLen/\ ∀(e:Int),e∈c->aq e)/\aq d)/\True->(ac c)<=1099511627776->(ac c)<=1099511627776/\((a,b),c,d)=((a,b),c,d):=by
  delta ac;simp_all
theorem PL:aB 116 aB3.spec:=aF Tryz.func116 (av aC yh) aT VG
def U5:Ct:=⟨[.agg dh],[.agg dh],λd=>[(d.1.2.1.length:Int)<=1099511627776],λd=>((d.1,()),())⟩
theorem aj2 :
 ∀(a b:Int)(c:ae)(d:Int),(((0<=a/\a<=4294967295)/\aq b)/\(c.length<=maxLen/\ ∀(e:Int),e∈c->aq e)/\aq d)/\True->(ac c)<=1099511627776->c.length*(8:Nat)<=(pS)/\((a,b),c,d)=((a,b),c,d):=by
  delta pS ac;grind
theorem Q5:aB 175 U5.spec:=aF Tryz.func175 aC aT aj2
def UO:Ct:=⟨[.agg dh,.agg m8],[.val cI],λ_=>[],λd=>((gB d.1.1 d.2.1,()),())⟩
theorem aR0 :
 ∀(a b:Int)(c:ae)(d e f:Int),(((0<=a/\a<=4294967295)/\aq b)/\(c.length<=maxLen/\ ∀(g:Int),g∈c->aq g)/\aq d)/\((0<=e/\e<=4294967295)/\aq f)/\True->True->gB (a,b) (e,f)=gB (a,b) (e,f):=by
  intros;trivial
theorem at7:aB 162 UO.spec:=aF Tryz.func162 (av aC Ls) aT aR0
theorem Qq{i j:Int}(h0:0<=i)(h1:i<=j)(h2:j<=9223372036854775807):IntKind.wrap IntKind.i64 (dF IntKind.u64 (IntKind.wrap IntKind.u64 (IntKind.wrap IntKind.i64 (i+j))) (1:Int))=(i+j)/2:=by
 have hw:IntKind.wrap IntKind.u64 (IntKind.wrap IntKind.i64 (i+j))=i+j:=by
  rw[IntKind.wrap_i64,IntKind.wrap_u64];omega
 rw[hw]
 have:dF IntKind.u64 (i+j) 1=(i+j)/2:=by
  unfold dF;rw[AS _ bt];rfl
 rw[this,aG ab ab]
theorem Nu(l:List Rt)(p:d9):∃ k:Int,0<=k/\k<=l.length/\(cJ l->(∀ z∈l.take k.toNat,bI z.1 p)∧∀ z∈l.drop k.toNat,¬ bI z.1 p):=by
 induction l with
 | nil=>exact⟨0,aA,aA,aA⟩
 | cons a l ih =>
  obtain⟨k,h0,h1,h2⟩:=ih;by_cases d:bI a.1 p
  .refine⟨k+1,ab,by simp;omega,λb=>?_⟩;obtain⟨q1,q2⟩:=h2 (List.pairwise_cons.1 b).2;have e:(k+1).toNat=k.toNat+1:=ab;grind
  .refine⟨0,ab,by simp;omega,λb=>⟨aA,λz c=>?_⟩⟩;rcases dK.1 (show z∈a::l from c) with rfl|c
   .exact d
   .exact ON d ((List.pairwise_cons.1 b).1 z c)
def Lt:Cn:=⟨[.val (.sl dh),.agg m8,.fn 162 0],[.val cI,.val .bool],λ_=>[],λd y=>0<=y.1.1/\y.1.1<=d.1.length/\(cJ d.1->(∀ z∈d.1.take y.1.1.toNat,bI z.1 d.2.1)∧∀ z∈d.1.drop y.1.1.toNat,¬ bI z.1 d.2.1)/\y.1.2.1=decide (y.1.1<d.1.length/\(d.1.getD y.1.1.toNat default).1=d.2.1),λd h=>let ⟨k,h0,h1,h2⟩:=Nu d.1 d.2.1;⟨((k,decide (k<d.1.length/\(d.1.getD k.toNat default).1=d.2.1),()),()),h0,h1,h2,rfl⟩⟩
def aR2:bw Lt.ps->ce:=(λd=>{loops:=(bp 3 (λS=>{ι:=Int×Int,qn:=ft,μ:=λi=>(i.2-i.1).toNat,inv:=λi=>0<=i.1/\i.1<=i.2/\i.2<=d.1.length/\(cJ d.1->(∀ z∈d.1.take i.1.toNat,bI z.1 d.2.1)∧∀ z∈d.1.drop i.2.toNat,¬ bI z.1 d.2.1),keep:=[0,2,4,8],slots:=λi=>[(9,.int .i64 i.1),(10,.int .i64 i.2)],keepN:=[80]}) cC)})
def sY(a:List aN) :=
 a.length<=maxLen/\ ∀(d:aN),d∈a->((0<=d.1.1/\d.1.1<=4294967295)/\aq d.1.2)/\(d.2.1.length<=maxLen/\ ∀(e:Int),e∈d.2.1->aq e)/\aq d.2.2
def yM(d e:Int) :=
 dF IntKind.u64 (IntKind.wrap .u64 (aj (d+e))) (1:Int)
def J4(a:List aN)(b c f g:Int) :=
 0<=f/\f<=g/\g<=(ac a)/\(cJ a->(∀(h:aN),h∈take f.toNat a->bI h.1 (b,c))/\ ∀(h:aN),h∈drop g.toNat a-> ¬bI h.1 (b,c))
def Ji(a:List aN)(b c d e:Int) :=
 d<=e/\e<=(ac a)/\(cJ a->(∀(f:aN),f∈take d.toNat a->bI f.1 (b,c))/\ ∀(f:aN),f∈drop e.toNat a-> ¬bI f.1 (b,c))
theorem aA9 :
 ∀(a:List aN)(b c:Int),(sY a)/\((0<=b/\b<=4294967295)/\aq c)/\True/\True->True->(∃(d:Int) (e:Int),(0<=d/\(Ji a b c d e))/\a=a/\(ac a)=(ac a)/\0=d/\(ac a)=e/\b=b/\c=c/\True)/\ ∀(d e:Int),0<=d/\(Ji a b c d e)->ao (decide (d<e)) ((0:Int)<=1/\0<=aj (yM d e)/\aj (yM d e)<(ac a)/\ao (decide (gB (ai a (aj (yM d e))).1 (b,c)<0)) (∃(f:Int) (g:Int),(J4 a b c f g)/\toNat (g -f)<toNat (e -d)/\a=a/\(ac a)=(ac a)/\aj (aj (yM d e)+1)=f/\e=g/\b=b/\c=c/\True) (∃(f:Int) (g:Int),(J4 a b c f g)/\toNat (g -f)<toNat (e -d)/\a=a/\(ac a)=(ac a)/\d=f/\aj (yM d e)=g/\b=b/\c=c/\True)) (∀(f:Bool),f=decide (d<(ac a))->(f->(ar f)/\(ar f)/\0<=d/\d<(ac a)/\True)/\(ah f)/\(f->(ar f)/\(ar f)/\(ar f)/\True)/\(ah f)/\(ar f)/\0<=d/\d<=(ac a)/\(cJ a->(∀(g:aN),g∈take d.toNat a->bI g.1 (b,c))/\ ∀(g:aN),g∈drop d.toNat a-> ¬bI g.1
 (b,c))/\(bif f then decide (gB (ai a d).1 (b,c)=0) else false)=decide (d<(ac a)/\(ai a d).1=(b,c))):=by
  delta sY yM J4 Ji ah ar aj ai ac;rintro x p q ⟨⟨hl,-⟩,-⟩ -;simp only[maxLen] at hl;refine⟨⟨0,x.length,⟨ab,ab,ab,λ_=>aA⟩,aP⟩,?_⟩;rintro i j ⟨d,h1,f,e⟩;refine bT (λhb=>?_) (λhb=>?_)
  .rw[Qq d h1 ab];refine⟨ab,ab,ab,bT (λa=>?_) (λa=>?_)⟩
   .have a:=BM.1 a;refine⟨(i+j)/2+1,j,⟨ab,ab,f,λc=>⟨Wn c ab ab a,(e c).2⟩⟩,ab,aP⟩
   .have a:¬ bI _ _:=λh=>absurd (BM.2 h) a;refine⟨i,(i+j)/2,⟨d,ab,ab,λc=>⟨(e c).1,V4 c ab ab a⟩⟩,ab,aP⟩
  .have:i=j:=ab;subst this
   (repeat (refine bX ?_;repeat refine bZ ?_));refine⟨d,f,e,?_⟩;by_cases h:i<x.length <;> simp[h,CW]
theorem aw0:aB 161 Lt.spec:=qw Tryz.func161 (av aC at7) aR2 aA9
def ax4:Ct:=⟨[.nils,.val cI],[.own 96 dh],λd=>[0<=d.2.1,d.2.1<=1073741824],λd=>(([],()),())⟩
def Ho(a:Int) :=
 List.replicate (toNat (aj (a -aj ((0:Int) -0)))) (((0:Int),(0:Int)),([]:ae),(0:Int))
theorem Ty :
 ∀(a:Int),True/\aq a/\True->0<=a/\a<=1073741824->ao (decide (a<0)) False (ao (decide (0<aj (a -aj ((0:Int) -0)))) ((0:Int)=0/\(0:Int)=0/\0<=aj (a -aj ((0:Int) -0))/\aj (a -aj ((0:Int) -0))*(↑(48:Nat):Int)<=140737488355328/\(0:Int)<=0/\0<=((length (Ho a)):Int)/\take (toNat 0) (Ho a)=([]:List aN)) (([]:List aN)=([]:List aN))):=by
  delta Ho aj;rintro x-⟨h0,h1⟩;rw[aG (n:=(0:Int)-0) ab ab,aG ab ab];refine aw (λa=>?_) (λa=>aw (λa=>?_) (λa=>rfl))
  .grind
  .grind
theorem SF:aB 205 ax4.spec:=aF Tryz.func205 (M8 aC (d:=25)) aT Ty
theorem NO{α:Type}{l:List (List α)}{j:Int}(h0:0<=j)(h1:j<l.length):(l.take (j+1).toNat).flatten=(l.take j.toNat).flatten++l.getD j.toNat default:=by
 have a:j.toNat<l.length:=ab
 have e:(j+1).toNat=j.toNat+1:=ab
 rw[e,yf a,List.flatten_append,bJ,cK a,f9]
 simp
theorem JU{α:Type}(l:List (List α))(k:Nat):(l.take k).flatten.length<=l.flatten.length:=by
 conv=>rhs;rw[← ng k l,List.flatten_append,cA]
 omega
def MF:Ct:=⟨[.val (.sl (.sl dh))],[.own 96 dh],λd=>[(d.1.flatten.length:Int)<=1073741824],λd=>((d.1.flatten,()),())⟩
def ax3:bw MF.ps->ce:=(λd=>{loops:=(bp 3 (λS=>{ι:=Int×Int,qn:=ft,μ:=λi=>(d.1.length-i.1).toNat,inv:=λi=>0<=i.1/\i.1<=d.1.length/\i.2=((d.1.take i.1.toNat).flatten.length:Int),keep:=[0,9,10],slots:=λi=>[(3,.int .i64 i.2),(11,.int .i64 i.1)]}) (bp 11 (λS=>{ι:=Int×(List Rt),qn:=ft,μ:=λi=>(d.1.length-i.1).toNat,inv:=λi=>0<=i.1/\i.1<=d.1.length/\i.2=(d.1.take i.1.toNat).flatten,keep:=[25,26],slots:=λi=>[(6,.own 524288 4),(27,.int .i64 i.1)],names:=λi=>[(524288,.live (.row 96 dh i.2))]}) cC))})
def wz(c:aN) :=
 ((0<=c.1.1/\c.1.1<=4294967295)/\aq c.1.2)/\(c.2.1.length<=maxLen/\ ∀(d:Int),d∈c.2.1->aq d)/\aq c.2.2
theorem Ut :
 ∀(a:List (List aN)),(a.length<=maxLen/\ ∀(b:List aN),b∈a->b.length<=maxLen/\ ∀(c:aN),c∈b->(wz c))/\True->((length (List.flatten a)):Int)<=1073741824->(∃(b:Int) (c:Int),(0<=b/\b<=(ac a)/\c=((length (List.flatten (take b.toNat a))):Int))/\a=a/\0=c/\a=a/\(ac a)=(ac a)/\0=b/\True)/\ ∀(b c:Int),0<=b/\b<=(ac a)/\c=((length (List.flatten (take b.toNat a))):Int)->ao (decide (b<(ac a))) (0<=b/\b<(ac a)/\ao (decide (aj (c+((length (ai a b)):Int))<0)) False (∃(d:Int) (e:Int),(0<=d/\d<=(ac a)/\e=((length (List.flatten (take d.toNat a))):Int))/\toNat ((ac a) -d)<toNat ((ac a) -b)/\a=a/\aj (c+((length (ai a b)):Int))=e/\a=a/\(ac a)=(ac a)/\aj (b+1)=d/\True)) (0<=c/\c<=1073741824/\(∃(d:Int) (e:List Rt),(0<=d/\d<=(ac a)/\e=List.flatten (take d.toNat a))/\a=a/\(ac a)=(ac a)/\0=d/\([]:List aN)=e/\True)/\ ∀(d:Int)
 (e:List Rt),0<=d/\d<=(ac a)/\e=List.flatten (take d.toNat a)->ao (decide (d<(ac a))) (0<=d/\d<(ac a)/\(e.length+length (ai a d))*(48:Nat)<=(pS)/\ ∃(f:Int) (g:List Rt),(0<=f/\f<=(ac a)/\g=List.flatten (take f.toNat a))/\toNat ((ac a) -f)<toNat ((ac a) -d)/\a=a/\(ac a)=(ac a)/\aj (d+1)=f/\e++ai a d=g/\True) (e=List.flatten a)):=by
  delta wz pS aj ai ac;rintro x ⟨⟨hl,-⟩,-⟩ ht;simp only[maxLen] at hl;refine⟨⟨0,0,⟨ab,ab,aA⟩,aP⟩,?_⟩;rintro j s ⟨c,h1,h2⟩;have hle:=JU x j.toNat
  refine bT (λa=>?_) (λa=>?_)
  .have e:=NO c a;have b:=JU x (j+1).toNat
   have el:((x.take (j+1).toNat).flatten.length:Int)=s+(x.getD j.toNat default).length:=by rw[e,cA];omega
   rw[aG ab ab];refine⟨c,a,bT (λhc=>?_) (λhc=>?_)⟩
   .omega
   .exact⟨j+1,_,⟨ab,ab,el.symm⟩,ab,aP⟩
  .refine⟨ab,ab,⟨0,[],⟨ab,ab,aA⟩,aP⟩,?_⟩;rintro k ys ⟨d,k1,rfl⟩;refine bT (λa=>?_) (λa=>?_)
   .have e:=NO d a;have b:=JU x (k+1).toNat
    refine⟨d,a,?_,k+1,_,⟨ab,ab,e.symm⟩,ab,aP⟩;grind
   .rw[fe ab]
theorem ZU:aB 188 MF.spec:=aF Tryz.func188 (av aC SF) ax3 Ut
theorem r7{α:Type} [Inhabited α] {l:List α} {j:Int} (h0:0<=j) (h1:j<l.length):l.set j.toNat (l.getD j.toNat default)=l:=by
 simp_all
def OR:Ct:=⟨[.val (.sl dh),.val cI,.val cI,.val (.sl dh)],[.own 96 dh],λd=>[0<=d.2.1,d.2.1<=d.1.length,0<=d.2.2.1,d.2.2.1<=d.1.length,(d.1.length:Int)<=134217728,(d.2.2.2.1.length:Int)<=134217728,∀ y∈d.1,(y.2.1.length:Int)<=1099511627776,∀ y∈d.2.2.2.1,(y.2.1.length:Int)<=1099511627776],λd=>((d.1.take d.2.1.toNat++(d.2.2.2.1++d.1.drop d.2.2.1.toNat),()),())⟩
def ax1:bw OR.ps->ce:=(λd=>{loops:=(bp 3 (λS=>{ι:=Int,μ:=λi=>(((d.1.take d.2.1.toNat++(d.2.2.2.1++d.1.drop d.2.2.1.toNat)).length:Int)-i).toNat,inv:=λi=>0<=i/\i<=((d.1.take d.2.1.toNat++(d.2.2.2.1++d.1.drop d.2.2.1.toNat)).length:Int),keep:=[9,20,21],slots:=λi=>[(22,.int .i64 i)],keepN:=[320]}) cC)})
def A4(a:List aN)(b c:Int)(d:List aN) :=
 List.flatten [cL a (toNat 0) b.toNat,d,cL a c.toNat (toNat (ac a))]
def Aq(a:List aN)(b c:Int)(d:List aN) :=
 ((length (take b.toNat a++(d++drop c.toNat a))):Int)
def uU(a:List aN)(b c:Int)(d:List aN) :=
 ((length (A4 a b c d)):Int)
def FU(e:aN) :=
 ((0<=e.1.1/\e.1.1<=4294967295)/\aq e.1.2)/\(e.2.1.length<=maxLen/\ ∀(f:Int),f∈e.2.1->aq f)/\aq e.2.2
theorem aS0 :
 ∀(a:List aN)(b c:Int)(d:List aN),(a.length<=maxLen/\ ∀(e:aN),e∈a->(FU e))/\aq b/\aq c/\(d.length<=maxLen/\ ∀(e:aN),e∈d->(FU e))/\True->(0<=b/\b<=(ac a)/\0<=c/\c<=(ac a)/\(ac a)<=134217728/\(ac d)<=134217728/\(∀(e:aN),e∈a->(ac e.2.1)<=1099511627776)/\ ∀(e:aN),e∈d->(ac e.2.1)<=1099511627776)->(0:Int)<=0/\0<=b/\b<=(ac a)/\0<=c/\c<=(ac a)/\(ac a)<=(ac a)/\(uU a b c d)<=1073741824/\(∃(e:Int),(0<=e/\e<=(Aq a b c d))/\(uU a b c d)=(uU a b c d)/\0=e/\List.flatten [cL a (toNat 0) b.toNat,d,cL a c.toNat (toNat (ac a))]=List.flatten [cL a (toNat 0) b.toNat,d,cL a c.toNat (toNat (ac a))]/\True)/\ ∀(e:Int),0<=e/\e<=(Aq a b c d)->ao (decide (e<(uU a b c d))) (0<=e/\e<(uU a b c d)/\((length (getD (A4 a b c d) e.toNat default).2.1):Int)<=1099511627776/\0<=e/\e<(uU a b c d)/\ ∃(f:Int),(0<=f/\f<=(Aq a b c
 d))/\toNat ((Aq a b c d) -f)<toNat ((Aq a b c d) -e)/\(uU a b c d)=(uU a b c d)/\aj (e+1)=f/\List.set (A4 a b c d) e.toNat (getD (A4 a b c d) e.toNat default)=List.flatten [cL a (toNat 0) b.toNat,d,cL a c.toNat (toNat (ac a))]/\True) (List.flatten [cL a (toNat 0) b.toNat,d,cL a c.toNat (toNat (ac a))]=take b.toNat a++(d++drop c.toNat a)):=by
  delta A4 Aq uU FU aj ac;rintro l a b m-⟨h0,h1,h2,h3,h4,h5,h6,h7⟩;have e:List.flatten [cL l (toNat (0:Int)) (toNat a),m,cL l (toNat b) (toNat (l.length:Int))]=l.take a.toNat++(m++l.drop b.toNat):=by
   simp[cL]
  rw[e];have d:∀ y∈l.take a.toNat++(m++l.drop b.toNat),(y.2.1.length:Int)<=1099511627776:=by
   grind
  have hlen:(l.take a.toNat++(m++l.drop b.toNat)).length<=l.length+(m.length+l.length):=by
   grind
  refine⟨ab,h0,h1,h2,h3,ab,ab,⟨0,⟨ab,ab⟩,aP⟩,?_⟩;rintro j ⟨f,j1⟩;refine aw (λc=>?_) (λc=>rfl);have c:=aI c;refine⟨f,c,d _ (bR f c),f,c,j+1,⟨ab,ab⟩,ab,rfl,aG ab ab,r7 f c,bv⟩
theorem Mr:aB 160 OR.spec:=aF Tryz.func160 (av (av aC ZU) PL) ax1 aS0
def Wb:Cn:=⟨[.val (.sl dh),.agg m8],[.val cI,.val .bool],λ_=>[],λd y=>0<=y.1.1/\y.1.1<=d.1.length/\(cJ d.1->(∀ z∈d.1.take y.1.1.toNat,bI z.1 d.2.1)∧∀ z∈d.1.drop y.1.1.toNat,¬ bI z.1 d.2.1)/\y.1.2.1=decide (y.1.1<d.1.length/\(d.1.getD y.1.1.toNat default).1=d.2.1),λd h=>let ⟨k,h0,h1,h2⟩:=Nu d.1 d.2.1;⟨((k,decide (k<d.1.length/\(d.1.getD k.toNat default).1=d.2.1),()),()),h0,h1,h2,rfl⟩⟩
def Cw(a:List aN)(b c d:Int)(e:Bool) :=
 d<=(ac a)/\(cJ a->(∀(f:aN),f∈take d.toNat a->bI f.1 (b,c))/\ ∀(f:aN),f∈drop d.toNat a-> ¬bI f.1 (b,c))/\e=decide (d<(ac a)/\(ai a d).1=(b,c))
theorem aa5 :
 ∀(a:List aN)(b c:Int),(sY a)/\((0<=b/\b<=4294967295)/\aq c)/\True->True-> ∀(d:Int)(e:Bool),0<=d/\(Cw a b c d e)->0<=d/\(Cw a b c d e):=by
  delta sY Cw ai ac;grind
theorem Kz:aB 114 Wb.spec:=qw Tryz.func114 (av aC aw0) aT aa5
def f6(l:List Rt)(r:Rt):List Rt:=l.filter (λa=>decide (bI a.1 r.1))++r::l.filter (λa=>decide (bI r.1 a.1))
def jt(l:List Rt)(p:d9):List Rt:=l.filter (λa=>decide (a.1≠p))
def okL(l:List Rt):Prop:=(l.length:Int)<=134217728∧∀ y∈l,(y.2.1.length:Int)<=1099511627776
def tC(a:Int)(b:Option Rt)(r:Rt):Option Rt:=if dS r.1 a then match b with|none=>some r|some q=>if q.1.2<r.1.2 then some r else some q else b
def lZ(l:List Rt)(a:Int):Option Rt:=l.foldl (tC a) none
def bf(l:List Rt)(a:Int):Rt:=match lZ l a with|none=>((0,0),[],0)|some r=>r
def ia(l:List Rt)(a:Int):Bool:=(lZ l a).isSome
theorem Rg{l:List Rt}{p:d9}{k:Nat}(h1:∀ z∈l.take k,bI z.1 p)(h2:∀ z∈l.drop k,¬ bI z.1 p):l.take k=l.filter (λa=>decide (bI a.1 p)):=by
 conv=>rhs;rw[← ng k l]
 rw[qx,List.filter_eq_self.2 (by simpa using h1),List.filter_eq_nil_iff.2 (by simpa using h2),jx]
theorem LG{l:List Rt}{i:Int}(h0:0<=i)(h1:i<l.length):l=l.take i.toNat++l.getD i.toNat default::l.drop (i+1).toNat:=by
 have a:i.toNat<l.length:=ab
 rw[bJ,cK a,f9,show (i+1).toNat=i.toNat+1 from by omega,← sm a,ng]
theorem Oe{l:List Rt}{p:d9}{i:Int}(hs:cJ l)(h0:0<=i)(hl:i<l.length)(f:∀ z∈l.take i.toNat,bI z.1 p)(g:(l.getD i.toNat default).1=p):l.drop (i+1).toNat=l.filter (λa=>decide (bI p a.1))/\l.take i.toNat++l.drop (i+1).toNat=jt l p:=by
 have d:=LG h0 hl
 have hp:(l.getD i.toNat default::l.drop (i+1).toNat).Pairwise λa b=>bI a.1 b.1:=by
  have:=hs;rw[d] at this;exact (List.pairwise_append.1 this).2.1
 have h:∀ z∈l.drop (i+1).toNat,bI p z.1:=λz c=>by rw[← g];exact (List.pairwise_cons.1 hp).1 z c
 generalize l.getD i.toNat default=r at *
 generalize l.take i.toNat=A at *
 generalize l.drop (i+1).toNat=B at *
 subst d
 subst g
 constructor
 .rw[qx,List.filter_cons,af (by simp[rb]),List.filter_eq_nil_iff.2 (by simpa using λz c=>xd (f z c)),si,List.filter_eq_self.2 (by simpa using h)]
 .rw[jt,qx,List.filter_cons,af aA,List.filter_eq_self.2 (λz c=>cM (λ(e:z.1=r.1)=>rb _ (e▸f z c))),List.filter_eq_self.2 (λz c=>cM (λ(e:z.1=r.1)=>rb _ (e▸h z c)))]
theorem K3{l:List Rt}{p:d9}{i:Int}(hs:cJ l)(h0:0<=i)(j:∀ z∈l.take i.toNat,bI z.1 p)(g:∀ z∈l.drop i.toNat,¬ bI z.1 p)(he:¬ (i<l.length/\(l.getD i.toNat default).1=p)):l.drop i.toNat=l.filter (λa=>decide (bI p a.1))/\l=jt l p:=by
 have h3:∀ z∈l.drop i.toNat,bI p z.1:=by
  intro z c;rcases E6 (g z c) with e|h
  .exfalso;by_cases hl:i<l.length
   .have k:i.toNat<l.length:=ab;have d:(l.getD i.toNat default).1≠p:=λe=>he ⟨hl,e⟩;rw[bJ,cK k,f9] at d;have m:(l.drop i.toNat).Pairwise λa b=>bI a.1 b.1:=List.Pairwise.drop hs;rw[sm k] at c m g;rcases dK.1 c with rfl|c
    .exact d e
    .exact g _ (fY) (e▸(List.pairwise_cons.1 m).1 z c)
   .rw[List.drop_eq_nil_of_le ab] at c;simp at c
  .exact h
 have f:=ng i.toNat l
 constructor
 .conv=>rhs;rw[← f]
  rw[qx,List.filter_eq_nil_iff.2 (by simpa using λz c=>xd (j z c)),si,List.filter_eq_self.2 (by simpa using h3)]
 .symm;apply List.filter_eq_self.2;intro z c;rw[← f] at c;apply cM;rcases dB.1 c with c|c
  .exact λe=>rb _ (e▸j z c)
  .grind
def Yr:Ct:=⟨[.val (.sl dh),.agg dh],[.own 96 dh],λd=>[cJ d.1,okL d.1,(d.2.1.2.1.length:Int)<=1099511627776],λd=>((f6 d.1 d.2.1,()),())⟩
def FR(a:List aN) :=
 a.length<=maxLen/\ ∀(f:aN),f∈a->((0<=f.1.1/\f.1.1<=4294967295)/\aq f.1.2)/\(f.2.1.length<=maxLen/\ ∀(g:Int),g∈f.2.1->aq g)/\aq f.2.2
theorem Sz :
 ∀(a:List aN)(b c:Int)(d:ae)(e:Int),(FR a)/\(((0<=b/\b<=4294967295)/\aq c)/\(d.length<=maxLen/\ ∀(f:Int),f∈d->aq f)/\aq e)/\True->cJ a/\okL a/\(ac d)<=1099511627776-> ∀(f:Int)(g:Bool),0<=f/\f<=(ac a)/\(cJ a->(∀(h:aN),h∈take f.toNat a->bI h.1 (b,c))/\ ∀(h:aN),h∈drop f.toNat a-> ¬bI h.1 (b,c))/\g=decide (f<(ac a)/\(ai a f).1=(b,c))->ao g (0<=f/\f<=(ac a)/\0<=aj (f+1)/\aj (f+1)<=(ac a)/\(ac a)<=134217728/\((length [((b,c),d,e)]):Int)<=134217728/\(∀(h:aN),h∈a->(ac h.2.1)<=1099511627776)/\(∀(h:aN),h∈[((b,c),d,e)]->(ac h.2.1)<=1099511627776)/\take f.toNat a++([((b,c),d,e)]++drop (toNat (aj (f+1))) a)=f6 a ((b,c),d,e)) (0<=f/\f<=(ac a)/\0<=f/\f<=(ac a)/\(ac a)<=134217728/\((length [((b,c),d,e)]):Int)<=134217728/\(∀(h:aN),h∈a->(ac h.2.1)<=1099511627776)/\(∀(h:aN),h∈[((b,c),d,e)]->(ac
 h.2.1)<=1099511627776)/\take f.toNat a++([((b,c),d,e)]++drop f.toNat a)=f6 a ((b,c),d,e)):=by
  delta FR aj ai ac;rintro l a n nx b-⟨e,⟨k,m⟩,o⟩ i f ⟨d,g,c,rfl⟩;obtain⟨c,h⟩:=c e;refine bT (λj=>?_) (λj=>?_)
  .obtain⟨f1,f2⟩:=j;rw[aG ab ab];refine⟨d,g,ab,ab,k,aA,m,by simpa using o,?_⟩;rw[(Oe e d f1 c f2).1,Rg c h];rfl
  .refine⟨d,g,d,g,k,aA,m,by simpa using o,?_⟩;rw[(K3 e d c h j).1,Rg c h];rfl
theorem LS:aB 113 Yr.spec:=aF Tryz.func113 (av (av aC Kz) Mr) aT Sz
def aU9:Ct:=⟨[.val (.sl dh),.agg m8],[.own 96 dh],λd=>[cJ d.1,okL d.1],λd=>((jt d.1 d.2.1,()),())⟩
def AE(a:List aN) :=
 (ac a)<=134217728/\ ∀(d:Rt),d∈a->(ac d.2.1)<=1099511627776
theorem aB9 :
 ∀(a:List aN)(b c:Int),(sY a)/\((0<=b/\b<=4294967295)/\aq c)/\True->(cJ a/\(AE a))-> ∀(d:Int)(e:Bool),0<=d/\(Cw a b c d e)->ao e (0<=d/\d<=(ac a)/\0<=aj (d+1)/\aj (d+1)<=(ac a)/\(ac a)<=134217728/\(↑(0:Nat):Int)<=134217728/\(∀(f:aN),f∈a->(ac f.2.1)<=1099511627776)/\(∀(f:aN),f∈([]:List aN)->(ac f.2.1)<=1099511627776)/\take d.toNat a++drop (toNat (aj (d+1))) a=jt a (b,c)) (0<=d/\d<=(ac a)/\0<=d/\d<=(ac a)/\(ac a)<=134217728/\(↑(0:Nat):Int)<=134217728/\(∀(f:aN),f∈a->(ac f.2.1)<=1099511627776)/\(∀(f:aN),f∈([]:List aN)->(ac f.2.1)<=1099511627776)/\take d.toNat a++drop d.toNat a=jt a (b,c)):=by
  delta sY Cw AE aj ai ac;rintro l a n-⟨d,h,j⟩ i f ⟨b,e,c,rfl⟩;obtain⟨c,h3⟩:=c d;refine bT (λg=>?_) (λg=>?_)
  .obtain⟨f1,f2⟩:=g;rw[aG ab ab];exact⟨b,e,ab,ab,h,aA,j,aA,(Oe d b f1 c f2).2⟩
  .refine⟨b,e,b,e,h,aA,j,aA,?_⟩;rw[ng];exact (K3 d b c h3 g).2
theorem Rx:aB 112 aU9.spec:=aF Tryz.func112 (av (av aC Kz) Mr) aT aB9
theorem YF{l:List Rt}{a i:Int}(h0:0<=i)(h1:i<l.length):lZ (l.take (i+1).toNat) a=tC a (lZ (l.take i.toNat) a) (l.getD i.toNat default):=by
 have b:i.toNat<l.length:=ab
 rw[show (i+1).toNat=i.toNat+1 from by omega,yf b,lZ,iD,bJ,cK b,f9]
 rfl
theorem aD0{l:List Rt}{a b i:Int}(h0:0<=i)(h1:i<l.length)(h:lZ (l.take i.toNat) a=if b<0 then none else some (l.getD b.toNat default))(c:Bool)
  (hc:c=(bif dS (l.getD i.toNat default).1 a then bif decide (b<0) then true else decide ((l.getD b.toNat default).1.2<(l.getD i.toNat default).1.2) else false)) :
  lZ (l.take (i+1).toNat) a=if (if c then i else b)<0 then none else some (l.getD (if c then i else b).toNat default):=by
 rw[YF h0 h1,h]
 unfold tC
 grind
theorem X6{l:List Rt}{a:Int}{k:Nat}(h:∀ z∈l.drop k,dS z.1 a=false):lZ l a=lZ (l.take k) a:=by
 conv=>lhs;rw[← ng k l]
 unfold lZ
 rw[iD]
 generalize List.foldl (tC a) none (l.take k)=s
 generalize l.drop k=m at h
 induction m generalizing s with
 | nil=>rfl
 | cons z r ih =>
  rw[List.foldl_cons,show tC a s z=s from by rw[tC.eq_def,af (by simp[h z fY])]];simp_all
theorem ad2{p:d9}{a:Int}(h:¬ bI p (a,33)):dS p a=false:=by
 unfold dS jS
 unfold bI at h
 grind
def Px:Ct:=⟨[.val (.sl dh),.val cP],[.agg dh,.val .bool],λd=>[cJ d.1,okL d.1],λd=>((bf d.1 d.2.1,ia d.1 d.2.1,()),())⟩
def TT:bw Px.ps->ce:=(λd=>{loops:=(bp 4 (λS=>{ι:=Int×Int×Int,qn:=sf,μ:=λi=>(i.2.2-i.1).toNat,inv:=λi=>0<=i.1/\i.1<=i.2.2/\i.2.2<=d.1.length ∧ -1<=i.2.1/\i.2.1<i.1/\lZ (d.1.take i.1.toNat) d.2.1=(if i.2.1<0 then none else some (d.1.getD i.2.1.toNat default))/\(cJ d.1→∀ z∈d.1.drop i.2.2.toNat,¬ bI z.1 (d.2.1,33)),keep:=[0,1,4],slots:=λi=>[(8,.int .i64 i.2.1),(17,.int .i64 i.2.2),(18,.int .i64 i.1)],keepN:=[80]}) cC)})
def Gq(a:List aN)(b j k l:Int) :=
 0<=j/\j<=l/\l<=(ac a)/\ -1<=k/\k<j/\(lZ (take j.toNat a) b=if k<0 then none else some (ai a k))/\(cJ a-> ∀(m:aN),m∈drop l.toNat a-> ¬bI m.1 (b,(33:Int)))
def Kh(a:List aN)(b e f g:Int) :=
 e<=g/\g<=(ac a)/\ -1<=f/\f<e/\(lZ (take e.toNat a) b=if f<0 then none else some (ai a f))/\(cJ a-> ∀(h:aN),h∈drop g.toNat a-> ¬bI h.1 (b,(33:Int)))
theorem aI8 :
 ∀(a:List aN)(b:Int),(a.length<=maxLen/\ ∀(c:aN),c∈a->(wz c))/\(0<=b/\b<=4294967295)/\True->(cJ a/\(ac a)<=134217728/\ ∀(c:Rt),c∈a->(ac c.2.1)<=1099511627776)-> ∀(c:Int)(d:Bool),0<=c/\c<=(ac a)/\(cJ a->(∀(e:aN),e∈take c.toNat a->bI e.1 (b,(33:Int)))/\ ∀(e:aN),e∈drop c.toNat a-> ¬bI e.1 (b,(33:Int)))/\d=decide (c<(ac a)/\(ai a c).1=(b,(33:Int)))->(∃(e:Int) (f:Int),∃(g:Int),(0<=e/\(Kh a b e f g))/\a=a/\b=b/\-1=f/\c=g/\0=e/\(0:Int)=0/\(0:Int)=0/\(0:Int)=0/\True)/\ ∀(e f g:Int),0<=e/\(Kh a b e f g)->ao (decide (e<g)) (0<=e/\e<(ac a)/\ ∀(h:Bool),h=dS (ai a e).1 b->(ah h)/\(ah h)/\ ∀(i:Bool),i=decide (f<0)->((h&& ! i)->(ar (h&& ! i))/\(ar (h&& ! i))/\0<=e/\e<(ac a)/\True)/\(ah (h&& ! i))/\(ah (h&& ! i))/\(ah (h&& ! i))/\((h&& ! i)->(ar (h&& ! i))/\(ar (h&& ! i))/\0<=f/\f<(ac a)/\True)/\(ah (h&& ! i))/\(ah (h&& ! i))/\(ah (h&&
 ! i))/\((h&& ! i)->(ar (h&& ! i))/\(ar (h&& ! i))/\True)/\(h->(ar h)/\(i=false->(h&& ! i))/\True)/\(ar h)/\ao (bif h then bif i then true else decide ((ai a f).1.2<(ai a e).1.2) else false) (∃(j:Int) (k:Int),∃(l:Int),(Gq a b j k l)/\toNat (l -j)<toNat (g -e)/\a=a/\b=b/\e=k/\g=l/\aj (e+1)=j/\(0:Int)=0/\(0:Int)=0/\(0:Int)=0/\True) (∃(j:Int) (k:Int),∃(l:Int),(Gq a b j k l)/\toNat (l -j)<toNat (g -e)/\a=a/\b=b/\f=k/\g=l/\aj (e+1)=j/\(0:Int)=0/\(0:Int)=0/\(0:Int)=0/\True)) (ao (decide (f<0)) ((((0:Int),(0:Int)),([]:ae),(0:Int))=bf a b/\false=ia a b) (0<=f/\f<(ac a)/\((length (ai a f).2.1):Int)<=1099511627776/\ai a f=bf a b/\true=ia a b)):=by
  delta wz Gq Kh ah ar aj ai ac;rintro l a ⟨⟨hl,-⟩,-⟩⟨k,hk,hx⟩ n f ⟨n0,n1,n2,-⟩;refine⟨⟨0,-1,n,⟨ab,ab,ab,ab,ab,by simp[lZ],λ_=>(n2 k).2⟩,aP⟩,?_⟩;rintro i b n ⟨m,h1,o,h3,h4,p,g⟩;refine bT (λhi=>?_) (λhi=>?_)
  .have d:=aD0 m ab p;refine⟨m,ab,?_⟩
   (repeat (refine bX ?_;repeat refine bZ ?_));refine aw (λh=>?_) (λh=>?_)
   .have d:=d true h.symm;refine⟨i+1,i,n,⟨ab,ab,o,ab,ab,by simpa using d,g⟩,ab,aP⟩
   .have d:=d false h.symm;refine⟨i+1,b,n,⟨ab,ab,o,ab,ab,by simpa using d,g⟩,ab,aP⟩
  .have e:i=n:=ab;subst e;have c:lZ l a=lZ (l.take i.toNat) a:=X6 (λz hz=>ad2 (g k z hz));rw[p] at c;refine bT (λj=>?_) (λj=>?_)
   .rw[am j] at c;simp[bf,ia,c]
   .rw[af j] at c;refine⟨ab,ab,hx _ (bR ab ab),?_,?_⟩
    .rw[bf,c]
    .rw[ia,c];rfl
theorem HF:aB 48 Px.spec:=aF Tryz.func48 (av (av (av aC Kz) PL) Mx) TT aI8
def mz(l links:ae)(j:Nat):Prop:=(0<j->l.getD (j-1) default<l.getD j default)/\l.getD j default∈links
instance (l links:ae) (j:Nat):Decidable (mz l links j):=by unfold mz;infer_instance
def wE(l links:ae):Prop:=l.length<=16∧∀ j:Nat,j<l.length->mz l links j
instance (l links:ae):Decidable (wE l links):=by unfold wE;infer_instance
def lf(r:Rt)(links:ae):Prop:=wE r.2.1 links/\1<=r.2.2/\r.2.2<=3
instance (r:Rt) (links:ae):Decidable (lf r links):=by unfold lf;infer_instance
def chk(links:ae):Option d9->List Rt->Int
 | _,[]=>0
 | q,r::rs=>if jS r.1=false then 10 else if q.any (λq=>decide (0<=gB q r.1)) then 6 else if ¬ lf r links then 12 else chk links (some r.1) rs
def dL(l:List Rt)(links:ae):Int:=if (64:Int)<l.length then 5 else chk links none l
def sE(l:List Rt)(i:Int):Option d9:=if i=0 then none else some (l.getD (i-1).toNat default).1
theorem KP{l a:ae}{i:Int}(h0:0<=i)(h:0<i->l.getD (i.toNat-1) default<l.getD i.toNat default)(h2:l.getD i.toNat default∈a):mz l a i.toNat :=
 ⟨λhi=>h ab,h2⟩
theorem MY{l a:ae}{i:Int}(h0:0<=i)(h:∀ j:Nat,(j:Int)<i->mz l a j)(h2:mz l a i.toNat):∀ j:Nat,(j:Int)<i+1->mz l a j:=by
 grind
theorem Me{l:List Rt}{a:ae}{i:Int}{q:Option d9}(h0:0<=i)(h1:i<l.length):chk a q (l.drop i.toNat)=if jS (l.getD i.toNat default).1=false then 10 else if q.any (λq=>decide (0<=gB q (l.getD i.toNat default).1)) then 6 else if ¬ lf (l.getD i.toNat default) a then 12 else chk a (some (l.getD i.toNat default).1) (l.drop (i+1).toNat):=by
 have b:i.toNat<l.length:=ab
 have e:(i+1).toNat=i.toNat+1:=ab
 rw[sm b,chk,bJ,cK b,f9,e]
def Pd:Ct:=⟨[.agg dh,.val (.sl cI)],[.val .bool],λ_=>[],λd=>((decide (lf d.1 d.2.1),()),())⟩
def Za:bw Pd.ps->ce:=(λd=>{loops:=(bp 4 (λS=>{ι:=Int,μ:=λi=>(d.1.2.1.length-i).toNat,inv:=λi=>0<=i/\i<=d.1.2.1.length∧∀ j:Nat,(j:Int)<i->mz d.1.2.1 d.2.1 j,keep:=[1,2,22,23],slots:=λi=>[(24,.int .i64 i)],keepN:=[48]}) cC)})
theorem Xd :
 ∀(a b:Int)(c:ae)(d:Int)(e:ae),(((0<=a/\a<=4294967295)/\aq b)/\(c.length<=maxLen/\ ∀(f:Int),f∈c->aq f)/\aq d)/\(e.length<=maxLen/\ ∀(f:Int),f∈e->aq f)/\True->True-> ∀(f:Bool),f=decide (16<(ac c))->(ah (! f))/\(ah (! f))/\(aE f)/\ ∀(g:Bool),(g=bif f then true else decide (d<1))->(ah (! g))/\(ah (! g))/\(aE g)/\ao (bif g then true else decide (3<d)) (false=decide (lf ((a,b),c,d) e)) ((∃(h:Int),(0<=h/\h<=(ac c)/\ ∀(i:Nat),(↑i:Int)<h->mz c e i)/\e=e/\c=c/\(ac c)=(ac c)/\0=h/\a=a/\b=b/\c=c/\d=d/\True)/\ ∀(h:Int),(0<=h/\h<=(ac c)/\ ∀(i:Nat),(↑i:Int)<h->mz c e i)->ao (decide (h<(ac c))) (0<=h/\h<(ac c)/\ ∀(i:Bool),i=decide (0<h)->(ah i)/\(ah i)/\(i->(ar i)/\(ar i)/\0<=aj (h -1)/\aj (h -1)<(ac c)/\True)/\(ah i)/\(i->(ar i)/\(ar i)/\True)/\(ar i)/\ ∀(j:Bool),(j=bif i then decide (ai c h<=ai c (aj (h -1))) else false)->((! j)->(ar (!
 j))/\(ar (! j))/\True)/\(ah (! j))/\(aE j)/\ao (bif j then true else ! decide (ai c h∈e)) (false=decide (lf ((a,b),c,d) e)) (∃(k:Int),(0<=k/\k<=(ac c)/\ ∀(l:Nat),(↑l:Int)<k->mz c e l)/\toNat ((ac c) -k)<toNat ((ac c) -h)/\e=e/\c=c/\(ac c)=(ac c)/\aj (h+1)=k/\a=a/\b=b/\c=c/\d=d/\True)) (true=decide (lf ((a,b),c,d) e))):=by
  delta ah ar aE aj ai ac;rintro a n l b ks ⟨⟨⟨-,-⟩,⟨hl,-⟩,-⟩,-⟩ -
  (repeat (refine bX ?_;repeat refine bZ ?_));refine aw (λc=>?_) (λc=>?_)
  .have c:¬ (l.length<=16/\1<=b/\b<=3):=by simp[-List.getD_eq_getElem?_getD,-Int.default_eq_zero,dE] at c;omega
   symm;apply dP;rintro⟨⟨g,-⟩,e⟩;exact c ⟨g,e⟩
  .have c:l.length<=16/\1<=b/\b<=3:=by simp[-List.getD_eq_getElem?_getD,-Int.default_eq_zero,dE] at c;omega
   refine⟨⟨0,⟨ab,ab,ab⟩,aP⟩,?_⟩;rintro i ⟨f,g,e⟩;refine bT (λhi=>?_) (λhi=>?_)
   .refine⟨f,hi,?_⟩;rw[aG ab ab]
    (repeat (refine bX ?_;repeat refine bZ ?_));refine aw (λd=>?_) (λd=>?_)
    .have d:¬ mz l ks i.toNat:=by
      rintro⟨k1,k2⟩;simp[-List.getD_eq_getElem?_getD,-Int.default_eq_zero,dE,k2] at d;omega
     symm;apply dP;rintro⟨⟨-,h3⟩,-⟩;exact d (h3 _ (show i.toNat<l.length by omega))
    .have d:mz l ks i.toNat:=by
      simp[-List.getD_eq_getElem?_getD,-Int.default_eq_zero,dE] at d;refine KP f (λhp=>?_) d.2;omega
     exact⟨i+1,⟨ab,ab,MY f e d⟩,ab,rfl,rfl,rfl,aG ab ab,aP⟩
   .symm;apply cM;exact⟨⟨c.1,λj hj=>e j (by simp only at hj;omega)⟩,c.2⟩
theorem Xb:aB 184 Pd.spec:=aF Tryz.func184 (av aC Un) Za Xd
def MT:Ct:=⟨[.val (.sl dh),.val (.sl cI)],[.val cI],λ_=>[],λd=>((dL d.1 d.2.1,()),())⟩
def ZH:bw MT.ps->ce:=(λd=>{loops:=(bp 4 (λS=>{ι:=Int,μ:=λi=>(d.1.length-i).toNat,inv:=λi=>0<=i/\i<=d.1.length/\dL d.1 d.2.1=chk d.2.1 (sE d.1 i) (d.1.drop i.toNat),keep:=[0,1,10,11],slots:=λi=>[(12,.int .i64 i)]}) cC)})
def yT(a:List aN)(b:ae)(c:Int) :=
 c<=(ac a)/\dL a b=chk b (sE a c) (drop c.toNat a)
theorem aN0 :
 ∀(a:List aN)(b:ae),(a.length<=maxLen/\ ∀(c:aN),c∈a->(wz c))/\(b.length<=maxLen/\ ∀(c:Int),c∈b->aq c)/\True->True->ao (decide (64<(ac a))) (5=dL a b) ((∃(c:Int),(0<=c/\(yT a b c))/\a=a/\b=b/\a=a/\(ac a)=(ac a)/\0=c/\True)/\ ∀(c:Int),0<=c/\(yT a b c)->ao (decide (c<(ac a))) (0<=c/\c<(ac a)/\ao (! jS (ai a c).1) (10=dL a b) (∀(d:Bool),d=decide (0<c)->(ah d)/\(d->(ar d)/\(ar d)/\0<=aj (c -1)/\aj (c -1)<(ac a)/\True)/\(ah d)/\(ah d)/\(ah d)/\(d->(ar d)/\(ar d)/\True)/\(ah d)/\(ar d)/\ao (bif d then decide (0<=gB (ai a (aj (c -1))).1 (ai a c).1) else false) (6=dL a b) (ao (! decide (lf (ai a c) b)) (12=dL a b) (∃(e:Int),(0<=e/\e<=(ac a)/\dL a b=chk b (sE a e) (drop e.toNat a))/\toNat ((ac a) -e)<toNat ((ac a) -c)/\a=a/\b=b/\a=a/\(ac a)=(ac a)/\aj (c+1)=e/\True)))) (0=dL a b)):=by
  delta wz yT ah ar aj ai ac;rintro l ks ⟨⟨hl,-⟩,-⟩ -;refine bT (λa=>?_) (λa=>?_)
  .rw[dL,am a]
  .refine⟨⟨0,⟨ab,ab,by rw[dL,af a];rfl⟩,aP⟩,?_⟩;rintro i ⟨g,h1,h2⟩;rw[h2];refine bT (λhi=>?_) (λhi=>?_)
   .rw[Me g hi,aG ab ab];refine⟨g,hi,aw (λc=>?_) (λc=>?_)⟩
    .simp_all
    .simp only[vK] at c;rw[af (by simp[-List.getD_eq_getElem?_getD,-Int.default_eq_zero,c])]
     (repeat (refine bX ?_;repeat refine bZ ?_));have he:(Option.any (λq=>decide (0<=gB q (l.getD i.toNat default).1)) (sE l i))=(bif decide (0<i) then decide (0<=gB (l.getD (i-1).toNat default).1 (l.getD i.toNat default).1) else false):=by
      unfold sE;by_cases e:i=0
      .simp[e]
      .rw[af e,Option.any_some];simp[show 0<i from by omega]
     rw[he];refine aw (λd=>?_) (λd=>?_)
     .rw[am d]
     .rw[af (by rw[d];decide)];refine aw (λf=>?_) (λf=>?_)
      .simp_all
      .simp at f;rw[af (λh=>h f)];refine⟨i+1,⟨ab,ab,?_⟩,ab,aP⟩;rw[sE,af ab,show i+1-1=i from by omega]
   .rw[List.drop_eq_nil_of_le ab,chk]
theorem N3:aB 154 MT.spec:=aF Tryz.func154 (av (av (av aC Xb) Ld) Ls) ZH aN0
def PI:Ct:=⟨[.val (.sl cI),.val (.sl cI)],[.val .bool],λ_=>[],λd=>((decide (wE d.1 d.2.1),()),())⟩
def Ss:bw PI.ps->ce:=(λd=>{loops:=(bp 4 (λS=>{ι:=Int,μ:=λi=>(d.1.length-i).toNat,inv:=λi=>0<=i/\i<=d.1.length∧∀ j:Nat,(j:Int)<i->mz d.1 d.2.1 j,keep:=[0,1],slots:=λi=>[(5,.int .i64 i)]}) (bp 8 (λS=>{ι:=Int×Bool,qn:=ft,μ:=λi=>(d.2.1.length-i.1).toNat,inv:=λi=>0<=i.1/\i.1<=d.2.1.length/\i.2=decide (d.1.getD (S.i 5).toNat default∈d.2.1.take i.1.toNat),keep:=[0,1,5],slots:=λi=>[(6,.bool i.2),(7,.int .i64 i.1)]}) cC))})
theorem ar9 :
 ∀(a b:ae),(a.length<=maxLen/\ ∀(c:Int),c∈a->aq c)/\(b.length<=maxLen/\ ∀(c:Int),c∈b->aq c)/\True->True->ao (decide (16<(ac a))) (false=decide (wE a b)) ((∃(c:Int),(0<=c/\c<=(ac a)/\ ∀(d:Nat),(↑d:Int)<c->mz a b d)/\a=a/\b=b/\0=c/\True)/\ ∀(c:Int),(0<=c/\c<=(ac a)/\ ∀(d:Nat),(↑d:Int)<c->mz a b d)->ao (decide (c<(ac a))) ((∃(d:Int) (e:Bool),(0<=d/\d<=(ac b)/\e=decide (ai a c∈take d.toNat b))/\a=a/\b=b/\c=c/\false=e/\0=d/\True)/\ ∀(d:Int)(e:Bool),0<=d/\d<=(ac b)/\e=decide (ai a c∈take d.toNat b)->ao (decide (d<(ac b))) (∀(f:Bool),f=e->((! f)->(ar (! f))/\(ar (! f))/\0<=d/\d<(ac b)/\True)/\(ah (! f))/\((! f)->(ar (! f))/\(ar (! f))/\0<=c/\c<(ac a)/\True)/\(ah (! f))/\((! f)->(ar (! f))/\(ar (! f))/\True)/\(aE f)/\ ∃(g:Int) (h:Bool),(0<=g/\g<=(ac b)/\h=decide (ai a c∈take g.toNat b))/\toNat ((ac b) -g)<toNat ((ac b)
 -d)/\a=a/\b=b/\c=c/\(bif f then true else decide (ai b d=ai a c))=h/\aj (d+1)=g/\True) (∀(f:Bool),f= ! e->(ah (! f))/\(ah (! f))/\ ∀(g:Bool),g=decide (0<c)->(ah (! f&&g))/\((! f&&g)->(ar (! f&&g))/\(ar (! f&&g))/\0<=aj (c -1)/\aj (c -1)<(ac a)/\True)/\(ah (! f&&g))/\((! f&&g)->(ar (! f&&g))/\(ar (! f&&g))/\0<=c/\c<(ac a)/\True)/\(ah (! f&&g))/\((! f&&g)->(ar (! f&&g))/\(ar (! f&&g))/\True)/\((! f)->(ar (! f))/\(g->(! f&&g))/\True)/\(aE f)/\ao (bif f then true else bif g then decide (ai a c<=ai a (aj (c -1))) else false) (false=decide (wE a b)) (∃(h:Int),(0<=h/\h<=(ac a)/\ ∀(i:Nat),(↑i:Int)<h->mz a b i)/\toNat ((ac a) -h)<toNat ((ac a) -c)/\a=a/\b=b/\aj (c+1)=h/\True))) (true=decide (wE a b))):=by
  delta ah ar aE aj ai ac;rintro l ks ⟨⟨hl,-⟩,⟨hk,-⟩,-⟩ -;simp only[maxLen] at hl hk;refine bT (λhb=>?_) (λhb=>?_)
  .symm;apply dP;rintro⟨h1,-⟩;omega
  .refine⟨⟨0,⟨ab,ab,ab⟩,aP⟩,?_⟩;rintro i ⟨d,h1,g⟩;refine bT (λhi=>?_) (λhi=>?_)
   .refine⟨⟨0,false,⟨ab,ab,aA⟩,aP⟩,?_⟩;rintro k f ⟨k0,k1,rfl⟩;refine bT (λa=>?_) (λa=>?_)
    .have e:(k+1).toNat=k.toNat+1:=ab;have c:k.toNat<ks.length:=ab
     (repeat (refine bX ?_;repeat refine bZ ?_));refine⟨k+1,_,⟨ab,ab,rfl⟩,ab,rfl,rfl,rfl,?_,aG ab ab,aP⟩;rw[e,yf c,bJ (l:=ks),cK c,f9];grind
    .rw[fe ab,aG ab ab]
     (repeat (refine bX ?_;repeat refine bZ ?_));refine aw (λa=>?_) (λa=>?_)
     .have a:¬ mz l ks i.toNat:=by
       rintro⟨k1,k2⟩;simp[-List.getD_eq_getElem?_getD,-Int.default_eq_zero,dE] at a;grind
      symm;apply dP;rintro⟨-,h3⟩;exact a (h3 _ ab)
     .have a:mz l ks i.toNat:=by
       simp[-List.getD_eq_getElem?_getD,-Int.default_eq_zero,dE] at a;refine KP d (λhp=>?_) a.1;omega
      exact⟨i+1,⟨ab,ab,MY d g a⟩,ab,aP⟩
   .symm;apply cM;exact⟨ab,λj hj=>g j ab⟩
theorem av1:aB 137 PI.spec:=aF Tryz.func137 aC Ss ar9
def Rv:Ct:=⟨[.val (.sl dh),.val (.sl cI)],[.val cI],λ_=>[],λd=>((dL d.1 d.2.1,()),())⟩
def Tx:bw Rv.ps->ce:=(λd=>{loops:=(bp 4 (λS=>{ι:=Int,μ:=λi=>(d.1.length-i).toNat,inv:=λi=>0<=i/\i<=d.1.length/\dL d.1 d.2.1=chk d.2.1 (sE d.1 i) (d.1.drop i.toNat),keep:=[0,1],slots:=λi=>[(5,.int .i64 i)]}) cC)})
theorem ak5 :
 ∀(a:List aN)(b:ae),(a.length<=maxLen/\ ∀(c:aN),c∈a->(wz c))/\(b.length<=maxLen/\ ∀(c:Int),c∈b->aq c)/\True->True->ao (decide (64<(ac a))) (5=dL a b) ((∃(c:Int),(0<=c/\(yT a b c))/\a=a/\b=b/\0=c/\True)/\ ∀(c:Int),0<=c/\(yT a b c)->ao (decide (c<(ac a))) (0<=c/\c<(ac a)/\ao (! jS (ai a c).1) (10=dL a b) (∀(d:Bool),d=decide (0<c)->(ah d)/\(d->(ar d)/\(ar d)/\0<=aj (c -1)/\aj (c -1)<(ac a)/\True)/\(ah d)/\(ah d)/\(d->(ar d)/\(ar d)/\0<=c/\c<(ac a)/\True)/\(ah d)/\(ah d)/\(d->(ar d)/\(ar d)/\True)/\(ah d)/\(ar d)/\ao (bif d then decide (0<=gB (ai a (aj (c -1))).1 (ai a c).1) else false) (6=dL a b) (0<=c/\c<(ac a)/\ ∀(e:Bool),e= ! decide (wE (ai a c).2.1 b)->((! e)->(ar (! e))/\(ar (! e))/\0<=c/\c<(ac a)/\True)/\(ah (! e))/\(ah (! e))/\(ah (! e))/\(aE e)/\ ∀(f:Bool),(f=bif e then true else decide ((ai a
 c).2.2<1))->((! f)->(ar (! f))/\(ar (! f))/\0<=c/\c<(ac a)/\True)/\(ah (! f))/\(ah (! f))/\(ah (! f))/\(aE f)/\ao (bif f then true else decide (3<(ai a c).2.2)) (12=dL a b) (∃(g:Int),(0<=g/\g<=(ac a)/\dL a b=chk b (sE a g) (drop g.toNat a))/\toNat ((ac a) -g)<toNat ((ac a) -c)/\a=a/\b=b/\aj (c+1)=g/\True)))) (0=dL a b)):=by
  delta wz yT ah ar aE aj ai ac;rintro l j ⟨⟨hl,-⟩,-⟩ -;refine bT (λc=>?_) (λc=>?_)
  .rw[dL,am c]
  .refine⟨⟨0,⟨ab,ab,by rw[dL,af c];rfl⟩,aP⟩,?_⟩;rintro i ⟨d,h1,h2⟩;rw[h2];refine bT (λhi=>?_) (λhi=>?_)
   .rw[Me d hi,aG ab ab];refine⟨d,hi,aw (λf=>?_) (λf=>?_)⟩
    .simp_all
    .simp only[vK] at f;rw[af (by simp[-List.getD_eq_getElem?_getD,-Int.default_eq_zero,f])]
     (repeat (refine bX ?_;repeat refine bZ ?_));have he:(Option.any (λq=>decide (0<=gB q (l.getD i.toNat default).1)) (sE l i))=(bif decide (0<i) then decide (0<=gB (l.getD (i-1).toNat default).1 (l.getD i.toNat default).1) else false):=by
      unfold sE;by_cases e:i=0
      .simp[e]
      .rw[af e,Option.any_some];simp[show 0<i from by omega]
     rw[he];refine aw (λg=>?_) (λg=>?_)
     .rw[am g]
     .rw[af (by rw[g];decide)];refine⟨d,hi,?_⟩
      (repeat (refine bX ?_;repeat refine bZ ?_));refine aw (λa=>?_) (λa=>?_)
      .have a:¬ lf (l.getD i.toNat default) j:=by
        rintro⟨r1,r2,r3⟩;grind
       rw[am a]
      .have a:lf (l.getD i.toNat default) j:=by
        simp[-List.getD_eq_getElem?_getD,-Int.default_eq_zero,dE] at a;exact⟨a.1.1,ab,ab⟩
       rw[af (λh=>h a)];refine⟨i+1,⟨ab,ab,?_⟩,ab,aP⟩;rw[sE,af ab,show i+1-1=i from by omega]
   .rw[List.drop_eq_nil_of_le ab,chk]
theorem Sd:aB 69 Rv.spec:=aF Tryz.func69 (av (av (av aC av1) aU0) Qm) Tx ak5
theorem L8{l:List Rt}{i:Int}(h0:0<=i)(h1:i<l.length):l.take (i+1).toNat=l.take i.toNat++[l.getD i.toNat default]:=by
 have hj:i.toNat<l.length:=ab
 rw[show (i+1).toNat=i.toNat+1 from by omega,yf hj,bJ,cK hj,f9]
theorem Kv{m:List Rt}{r:Rt}(h:∀ z∈m,bI z.1 r.1):f6 m r=m++[r]:=by
 rw[f6,List.filter_eq_self.2 (λz hz=>cM (h z hz)),List.filter_eq_nil_iff.2 (λz hz=>by simpa using xd (h z hz))]
theorem IB{m:List Rt}{r e:Rt}(h:bI r.1 e.1):f6 (m++[e]) r=f6 m r++[e]:=by
 rw[f6,f6,qx,qx,List.filter_cons,af (by simpa using xd h),List.filter_cons,am (by simpa using h)]
 simp
theorem LH{m:List Rt}{r e:Rt}(h:∀ z∈m,bI z.1 r.1)(he:e.1=r.1):f6 (m++[e]) r=m++[r]:=by
 have hi:¬ bI e.1 r.1:=by rw[he];exact rb _
 have hj:¬ bI r.1 e.1:=by rw[he];exact rb _
 have f1:m.filter (λa=>decide (bI a.1 r.1))=m:=List.filter_eq_self.2 (λz hz=>cM (h z hz))
 have f2:m.filter (λa=>decide (bI r.1 a.1))=[]:=List.filter_eq_nil_iff.2 (λz hz=>by simpa using xd (h z hz))
 simp[f6,f1,f2,hi,hj]
theorem later{l:List Rt}{p:d9}{i:Int}(hs:cJ l)(h0:0<=i)(h1:i<l.length){z:Rt}(hz:z∈l.take i.toNat)(hp:¬ bI z.1 p):bI p (l.getD i.toNat default).1:=by
 have hsp:=LG h0 h1
 unfold cJ at hs
 rw[hsp] at hs
 have:=(List.pairwise_append.1 hs).2.2 z hz _ fY
 rcases E6 hp with e|h
 .rw[← e];exact this
 .exact Cu h this
def Mu:Ct:=⟨[.val (.sl dh),.agg dh],[.own 96 dh],λd=>[cJ d.1,okL d.1,(d.2.1.2.1.length:Int)<=1099511627776],λd=>((f6 d.1 d.2.1,()),())⟩
def aR7:bw Mu.ps->ce:=(λd=>{loops:=(bp 4 (λS=>{ι:=Int×Bool×(List Rt),qn:=sf,μ:=λi=>(d.1.length-i.1).toNat,inv:=λi=>0<=i.1/\i.1<=d.1.length/\(i.2.2.length:Int)<=i.1+1/\(i.2.1=false->(∀ z∈d.1.take i.1.toNat,bI z.1 d.2.1.1)/\i.2.2=d.1.take i.1.toNat)/\(i.2.1=true->(∃ z∈d.1.take i.1.toNat,¬ bI z.1 d.2.1.1)/\i.2.2=f6 (d.1.take i.1.toNat) d.2.1),keep:=[0,3],slots:=λi=>[(5,.own 524288 4),(6,.bool i.2.1),(7,.int .i64 i.1)],keepN:=[64],names:=λi=>[(524288,.live (.row 96 dh i.2.2))]}) cC)})
def B6(a:List aN)(b c:Int)(d:ae)(e j:Int)(k:Bool)(l:List Rt) :=
 0<=j/\j<=(ac a)/\(ac l)<=j+1/\(k=false->(∀(m:aN),m∈take j.toNat a->bI m.1 (b,c))/\l=take j.toNat a)/\(k=true->(∃(m:aN),m∈take j.toNat a/\ ¬bI m.1 (b,c))/\l=f6 (take j.toNat a) ((b,c),d,e))
def Ir(a:List aN)(b c:Int)(d:ae)(e f:Int)(g:Bool)(h:List Rt) :=
 f<=(ac a)/\(ac h)<=f+1/\(g=false->(∀(i:aN),i∈take f.toNat a->bI i.1 (b,c))/\h=take f.toNat a)/\(g=true->(∃(i:aN),i∈take f.toNat a/\ ¬bI i.1 (b,c))/\h=f6 (take f.toNat a) ((b,c),d,e))
theorem VN :
 ∀(a:List aN)(b c:Int)(d:ae)(e:Int),(FR a)/\(((0<=b/\b<=4294967295)/\aq c)/\(d.length<=maxLen/\ ∀(f:Int),f∈d->aq f)/\aq e)/\True->cJ a/\okL a/\(ac d)<=1099511627776->(∃(f:Int) (g:Bool),∃(h:List Rt),(0<=f/\(Ir a b c d e f g h))/\a=a/\false=g/\0=f/\b=b/\c=c/\d=d/\e=e/\h=([]:List aN)/\True)/\ ∀(f:Int)(g:Bool)(h:List Rt),0<=f/\(Ir a b c d e f g h)->ao (decide (f<(ac a))) (0<=f/\f<(ac a)/\ ∀(i:Bool),i=decide (0<=gB (ai a f).1 (b,c))->(ah i)/\(ar i)/\ao (bif i then ! g else false) ((ac d)<=1099511627776/\(h.length+length [((b,c),d,e)])*(48:Nat)<=(pS)/\ao (! decide (gB (ai a f).1 (b,c)=0)) (0<=f/\f<(ac a)/\((length (ai a f).2.1):Int)<=1099511627776/\(length (h++[((b,c),d,e)])+length [ai a f])*(48:Nat)<=(pS)/\ ∃(j:Int) (k:Bool),∃(l:List Rt),(B6 a b c d e j k l)/\toNat ((ac a) -j)<toNat ((ac a)
 -f)/\a=a/\true=k/\aj (f+1)=j/\b=b/\c=c/\d=d/\e=e/\h++[((b,c),d,e)]++[ai a f]=l/\True) (∃(j:Int) (k:Bool),∃(l:List Rt),(B6 a b c d e j k l)/\toNat ((ac a) -j)<toNat ((ac a) -f)/\a=a/\true=k/\aj (f+1)=j/\b=b/\c=c/\d=d/\e=e/\h++[((b,c),d,e)]=l/\True)) (ao (! decide (gB (ai a f).1 (b,c)=0)) (0<=f/\f<(ac a)/\((length (ai a f).2.1):Int)<=1099511627776/\(h.length+length [ai a f])*(48:Nat)<=(pS)/\ ∃(j:Int) (k:Bool),∃(l:List Rt),(B6 a b c d e j k l)/\toNat ((ac a) -j)<toNat ((ac a) -f)/\a=a/\g=k/\aj (f+1)=j/\b=b/\c=c/\d=d/\e=e/\h++[ai a f]=l/\True) (∃(j:Int) (k:Bool),∃(l:List Rt),(B6 a b c d e j k l)/\toNat ((ac a) -j)<toNat ((ac a) -f)/\a=a/\g=k/\aj (f+1)=j/\b=b/\c=c/\d=d/\e=e/\h=l/\True))) (ao (! g) ((ac d)<=1099511627776/\(h.length+length [((b,c),d,e)])*(48:Nat)<=(pS)/\h++[((b,c),d,e)]=f6 a ((b,c),d,e)) (h=f6 a
 ((b,c),d,e))):=by
  delta B6 FR Ir pS ah ar aj ai ac;rintro l a n nx b ⟨⟨hl0,-⟩,-⟩⟨hs,⟨hl,hx⟩,hn⟩;refine⟨⟨0,false,[],⟨ab,ab,aA,λ_=>aA,λh=>by simp at h⟩,aP⟩,?_⟩;rintro i dn ys ⟨h0,h1,h2,h3,h4⟩;refine bT (λhi=>?_) (λhi=>?_)
  .have ht:=L8 h0 hi;have hxi:=hx _ (bR h0 hi);have hlt:∀(z:Rt),z∈l.take i.toNat->z∈l.take (i+1).toNat:=λz hz=>by rw[ht];exact gu _ hz
   have hsi:l.getD i.toNat default∈l.take (i+1).toNat:=by rw[ht];simp[-List.getD_eq_getElem?_getD,-Int.default_eq_zero]
   have hlater:=λz hz hp=>later (p:=(a,n)) (z:=z) hs h0 hi hz hp;generalize l.getD i.toNat default=e at *;refine⟨h0,hi,?_⟩
   (repeat (refine bX ?_;repeat refine bZ ?_));refine aw (λhc=>?_) (λhc=>?_)
   .have hq:¬ bI e.1 (a,n)/\dn=false:=by rw[← HG];simpa[dE] using hc
    clear hc;obtain⟨hc,rfl⟩:=hq;obtain⟨k1,rfl⟩:=h3 rfl;refine⟨hn,by simp only[gc];omega,aw (λhz=>?_) (λhz=>?_)⟩
    .have hz:¬ gB e.1 (a,n)=0:=by simpa using hz
     have hgt:bI (a,n) e.1:=by
      rcases E6 hc with h|h
      .exact absurd (CW.2 h) hz
      .exact h
     refine⟨h0,hi,hxi,by simp only[cA,gc];omega,i+1,true,_,⟨ab,ab,?_,aA,λ_=>⟨⟨e,hsi,hc⟩,rfl⟩⟩,ab,rfl,rfl,aG ab ab,rfl,rfl,rfl,rfl,?_,bv⟩
     .rw[ht,IB hgt,Kv k1];simp only[cA,gc,dA];omega
     .rw[ht,IB hgt,Kv k1]
    .have hz:gB e.1 (a,n)=0:=by simpa using hz
     have hz:=CW.1 hz;refine⟨i+1,true,_,⟨ab,ab,?_,aA,λ_=>⟨⟨e,hsi,hc⟩,rfl⟩⟩,ab,rfl,rfl,aG ab ab,rfl,rfl,rfl,rfl,?_,bv⟩
     .rw[ht,LH k1 hz];simp only[cA,gc,dA];omega
     .rw[ht,LH k1 hz]
   .have hc:¬ (¬ bI e.1 (a,n)/\dn=false):=by rw[← HG];simpa[dE] using hc
    cases dn with
    | false =>
     have hc:bI e.1 (a,n):=fj λh=>hc ⟨h,rfl⟩;obtain⟨k1,rfl⟩:=h3 rfl;have hz:¬ gB e.1 (a,n)=0:=by have:=BM.2 hc;omega
     rw[dP hz];refine⟨h0,hi,hxi,by simp only[gc];omega,i+1,false,_,⟨ab,ab,?_,λ_=>⟨?_,rfl⟩,aA⟩,ab,rfl,rfl,aG ab ab,rfl,rfl,rfl,rfl,ht.symm,bv⟩
     .simp only[dA];omega
     .rw[ht];intro z hz;rcases dB.1 hz with hz|hz
      .exact k1 z hz
      .rw[iI.1 hz];exact hc
    | true =>
     obtain⟨⟨z,z1,z2⟩,rfl⟩:=h4 rfl;have hgt:=hlater z z1 z2;have hz:¬ gB e.1 (a,n)=0:=λh=>by have h:=CW.1 h;rw[h] at hgt;exact rb _ hgt
     rw[dP hz];have hp:=IB (m:=l.take i.toNat) (r:=((a,n),nx,b)) hgt;refine⟨h0,hi,hxi,by simp only[gc];omega,i+1,true,_,⟨ab,ab,?_,aA,λ_=>⟨⟨z,hlt z z1,z2⟩,rfl⟩⟩,ab,rfl,rfl,aG ab ab,rfl,rfl,rfl,rfl,?_,bv⟩
     .rw[ht,hp,cA,gc];omega
     .rw[ht,hp]
  .rw[fe ab] at h3 h4;refine aw (λhd=>?_) (λhd=>?_)
   .obtain⟨k1,rfl⟩:=h3 (by simpa using hd);exact⟨hn,by simp only[gc];omega,(Kv k1).symm⟩
   .exact (h4 (by simpa using hd)).2
theorem RC:aB 139 Mu.spec:=aF Tryz.func139 (av (av aC Q5) Qm) aR7 VN
theorem NA{m:List Rt}{p:d9}{e:Rt}:jt (m++[e]) p=jt m p++(if e.1=p then [] else [e]):=by
 rw[jt,jt,qx,List.filter_cons,List.filter_nil]
 by_cases h:e.1=p <;> simp[h]
theorem PY(m:List Rt)(p:d9):(jt m p).length<=m.length:=List.length_filter_le _ _
def Q0:Ct:=⟨[.val (.sl dh),.agg m8],[.own 96 dh],λd=>[okL d.1],λd=>((jt d.1 d.2.1,()),())⟩
def aM1:bw Q0.ps->ce:=(λd=>{loops:=(bp 3 (λS=>{ι:=Int×(List Rt),qn:=ft,μ:=λi=>(d.1.length-i.1).toNat,inv:=λi=>0<=i.1/\i.1<=d.1.length/\i.2=jt (d.1.take i.1.toNat) d.2.1,keep:=[0,3],slots:=λi=>[(5,.own 524288 4),(6,.int .i64 i.1)],keepN:=[64],names:=λi=>[(524288,.live (.row 96 dh i.2))]}) cC)})
theorem at1 :
 ∀(a:List aN)(b c:Int),(sY a)/\((0<=b/\b<=4294967295)/\aq c)/\True->(AE a)->(∃(d:Int) (e:List Rt),(0<=d/\d<=(ac a)/\e=jt (take d.toNat a) (b,c))/\a=a/\0=d/\b=b/\c=c/\e=([]:List aN)/\True)/\ ∀(d:Int)(e:List Rt),0<=d/\d<=(ac a)/\e=jt (take d.toNat a) (b,c)->ao (decide (d<(ac a))) (0<=d/\d<(ac a)/\ao (! (decide ((ai a d).1.1=b)&&(decide ((ai a d).1.2=c)&&true))) (0<=d/\d<(ac a)/\((length (ai a d).2.1):Int)<=1099511627776/\(e.length+length [ai a d])*(48:Nat)<=(pS)/\ ∃(f:Int) (g:List Rt),(0<=f/\f<=(ac a)/\g=jt (take f.toNat a) (b,c))/\toNat ((ac a) -f)<toNat ((ac a) -d)/\a=a/\aj (d+1)=f/\b=b/\c=c/\e++[ai a d]=g/\True) (∃(f:Int) (g:List Rt),(0<=f/\f<=(ac a)/\g=jt (take f.toNat a) (b,c))/\toNat ((ac a) -f)<toNat ((ac a) -d)/\a=a/\aj (d+1)=f/\b=b/\c=c/\e=g/\True)) (e=jt a (b,c)):=by
  delta sY AE pS aj ai ac;rintro l a n ⟨⟨hl0,-⟩,-⟩⟨hl,hx⟩;refine⟨⟨0,[],⟨ab,ab,by simp[jt]⟩,aP⟩,?_⟩;rintro i ys ⟨h0,h1,rfl⟩;refine bT (λhi=>?_) (λhi=>?_)
  .have ht:=L8 h0 hi;have hxi:=hx _ (bR h0 hi);have hle:=PY (l.take i.toNat) (a,n);have hle2:(l.take i.toNat).length<=l.length:=by simp only[dA];omega
   generalize l.getD i.toNat default=e at *;obtain⟨⟨c,f⟩,g⟩:=e;refine⟨h0,hi,aw (λhc=>?_) (λhc=>?_)⟩
   .have hc:¬ (c,f)=(a,n):=by
     intro h;cases h;simp at hc
    refine⟨h0,hi,hxi,by simp only[gc];omega,i+1,_,⟨ab,ab,rfl⟩,ab,rfl,aG ab ab,rfl,rfl,?_,bv⟩;rw[ht,NA,af hc]
   .have hc:(c,f)=(a,n):=by
     simp at hc;rw[hc.1,hc.2]
    refine⟨i+1,_,⟨ab,ab,rfl⟩,ab,rfl,aG ab ab,rfl,rfl,?_,bv⟩;rw[ht,NA,am hc,jx]
  .rw[fe ab]
theorem P8:aB 138 Q0.spec:=aF Tryz.func138 (av aC Q5) aM1 at1
def m7(l:List Rt)(p:d9):Bool:=decide ((jt l p).length<l.length)
def Yy:Ct:=⟨[.val (.sl dh),.agg m8],[.val .bool],λd=>[okL d.1],λd=>((m7 d.1 d.2.1,()),())⟩
theorem W7 :
 ∀(a:List aN)(b c:Int),(sY a)/\((0<=b/\b<=4294967295)/\aq c)/\True->(AE a)->okL a/\decide (((length (jt a (b,c))):Int)<(ac a))=m7 a (b,c):=by
  delta sY AE ac;rintro l a n-h;exact⟨h,decide_eq_decide.2 Int.ofNat_lt⟩
theorem Qj:aB 71 Yy.spec:=aF Tryz.func71 (av aC P8) aT W7
theorem K0{l:List Rt}{r z:Rt}:z∈f6 l r↔z=r∨(z∈l/\z.1≠r.1):=by
 unfold f6
 simp only[dB,dK,List.mem_filter,mh]
 constructor
 .rintro (⟨h,k⟩|h|⟨h,k⟩)
  .exact .inr ⟨h,λe=>rb _ (e▸k)⟩
  .exact .inl h
  .exact .inr ⟨h,λe=>rb _ (e▸k)⟩
 .rintro (h|⟨h,k⟩)
  .exact .inr (.inl h)
  .by_cases hp:bI z.1 r.1
   .exact .inl ⟨h,hp⟩
   .rcases E6 hp with e|e
    .exact absurd e k
    .exact .inr (.inr ⟨h,e⟩)
theorem Ib{l:List Rt}{r:Rt}(hs:cJ l):cJ (f6 l r):=by
 unfold cJ f6
 refine List.pairwise_append.2 ⟨List.Pairwise.filter _ hs,List.pairwise_cons.2 ⟨λz hz=>?_,List.Pairwise.filter _ hs⟩,λx hx y hy=>?_⟩
 .simpa using (List.mem_filter.1 hz).2
 .have hx:bI x.1 r.1:=by simpa using (List.mem_filter.1 hx).2
  rcases dK.1 hy with rfl|hy
  .exact hx
  .exact Cu hx (by simpa using (List.mem_filter.1 hy).2)
theorem KR(l:List Rt)(r:Rt):(f6 l r).length<=l.length+1:=by
 unfold f6
 rw[cA,dN]
 suffices h:(l.filter (λa=>decide (bI a.1 r.1))).length+(l.filter (λa=>decide (bI r.1 a.1))).length<=l.length by omega
 induction l with
 | nil=>simp
 | cons a l ih =>
  simp only[List.filter_cons];by_cases h1:bI a.1 r.1
  .have h2:=xd h1;simp only[h1,h2,decide_true,decide_false,if_true,dN];simp;omega
  .by_cases h2:bI r.1 a.1
   .simp[h1,h2];omega
   .simp[h1,h2];omega
def J5(m:List Rt)(a:Int):Option Rt->Prop
 | none=>∀ z∈m,dS z.1 a=false
 | some r=>r∈m/\dS r.1 a=true∧∀ z∈m,dS z.1 a=true->z.1.2<=r.1.2
theorem ag5(a:Int)(l:List Rt):∀(m:List Rt)(s:Option Rt),J5 m a s->J5 (m++l) a (l.foldl (tC a) s):=by
 induction l with
 | nil=>intro m s h;simpa using h
 | cons e l ih =>
  intro m s h;rw[List.foldl_cons,show m++e::l=(m++[e])++l from by simp];apply ih;unfold tC;by_cases hc:dS e.1 a=true
  .rw[am hc];cases s with
   | none =>
    refine⟨aA,hc,λz hz hq=>?_⟩;rcases dB.1 hz with hz|hz
    .rw[h z hz] at hq;cases hq
    .rw[iI.1 hz];omega
   | some q =>
    obtain⟨h1,h2,h3⟩:=h;by_cases hl:q.1.2<e.1.2
    .simp only[hl,if_true];refine⟨aA,hc,λz hz hq=>?_⟩;rcases dB.1 hz with hz|hz
     .have:=h3 z hz hq;omega
     .rw[iI.1 hz];omega
    .simp only[hl,if_false];refine⟨gu _ h1,h2,λz hz hq=>?_⟩;rcases dB.1 hz with hz|hz
     .exact h3 z hz hq
     .rw[iI.1 hz];omega
  .rw[af hc];cases s with
   | none =>
    intro z hz;rcases dB.1 hz with hz|hz
    .exact h z hz
    .rw[iI.1 hz];simpa using hc
   | some q =>
    obtain⟨h1,h2,h3⟩:=h;refine⟨gu _ h1,h2,λz hz hq=>?_⟩;rcases dB.1 hz with hz|hz
    .exact h3 z hz hq
    .rw[iI.1 hz] at hq;exact absurd hq hc
theorem OL(l:List Rt)(a:Int):J5 l a (lZ l a):=ag5 a l [] none (by intro z hz;cases hz)
theorem T1(l:List Rt)(a:Int):ia l a=decide (∃ z∈l,dS z.1 a=true):=by
 have h:=OL l a
 unfold ia
 cases hl:lZ l a with
 | none =>
  rw[hl] at h;symm;apply dP;rintro⟨z,hz,hq⟩;rw[h z hz] at hq;cases hq
 | some r =>
  rw[hl] at h;symm;apply cM;exact⟨r,h.1,h.2.1⟩
theorem au3{l:List Rt}{a:Int}(hb:∃ z∈l,dS z.1 a=true):bf l a∈l/\dS (bf l a).1 a=true∧∀ z∈l,dS z.1 a=true->z.1.2<=(bf l a).1.2:=by
 have h:=OL l a
 unfold bf
 cases hl:lZ l a with
 | none =>
  rw[hl] at h;obtain⟨z,hz,hq⟩:=hb;rw[h z hz] at hq;cases hq
 | some r=>rw[hl] at h;exact h
theorem aT9(l:List Rt)(p:d9):m7 l p=decide (∃ z∈l,z.1=p):=by
 unfold m7 jt
 apply decide_eq_decide.2
 rw[List.length_filter_lt_length_iff_exists]
 simp
abbrev w(n:Int):Int:=IntKind.i64.wrap n
def Co(b:Int×Int)(at':Int):Int×Int:=(w (b.1*b.2),at')
def ta(b t:Int×Int)(at':Int):Int:=min (w (t.1+w (at'-t.2))) (w (b.1*b.2))
def kH(b t:Int×Int)(at':Int):(Int×Int)×Bool :=
 if b=(0,0) then ((0,max at' t.2),true) else
  if ta b t (max at' t.2)<b.2 then ((ta b t (max at' t.2),max at' t.2),false) else ((w (ta b t (max at' t.2)-b.2),max at' t.2),true)
def XK:Ct:=⟨[.agg xh],[.val .bool],λ_=>[],λd=>((decide (d.1=(0,0)),()),())⟩
theorem aS7 :
 ∀(a b:Int),(aq a/\aq b)/\True->True->(decide (a=0)&&(decide (b=0)&&true))=decide ((a,b)=((0:Int),(0:Int))):=by
  rintro x y - -;simp
theorem QY:aB 195 XK.spec:=aF Tryz.func195 aC aT aS7
def Uc:Ct:=⟨[.agg xh,.agg wC,.val cI],[.val cI],λ_=>[],λd=>((ta d.1 d.2.1 d.2.2.1,()),())⟩
theorem Vp :
 ∀(a b c d e:Int),(aq a/\aq b)/\(aq c/\aq d)/\aq e/\True->True->min (aj (c+aj (e -d))) (aj (a*b))=ta (a,b) (c,d) e:=by
  delta aj;rintro x y a b c - -;rfl
theorem aH0:aB 231 Uc.spec:=aF Tryz.func231 aC aT Vp
def Vb:Ct:=⟨[.agg xh,.val cI],[.agg wC],λ_=>[],λd=>((Co d.1 d.2.1,()),())⟩
theorem Yv :
 ∀(a b c:Int),(aq a/\aq b)/\aq c/\True->True->(aj (a*b),c)=(w (a*b),c):=by
  delta aj;rintro x y a - -;rfl
theorem Y7:aB 98 Vb.spec:=aF Tryz.func98 aC aT Yv
def aX4:Ct:=⟨[.agg xh,.agg wC,.val cI],[.agg wC,.val .bool],λ_=>[],λd=>(((kH d.1 d.2.1 d.2.2.1).1,(kH d.1 d.2.1 d.2.2.1).2,()),())⟩
theorem Tr :
 ∀(a b c d e:Int),(aq a/\aq b)/\(aq c/\aq d)/\aq e/\True->True->ao (decide ((a,b)=((0:Int),(0:Int)))) (((0:Int),max e d)=(kH (a,b) (c,d) e).1/\true=(kH (a,b) (c,d) e).2) (ao (decide (ta (a,b) (c,d) (max e d)<b)) ((ta (a,b) (c,d) (max e d),max e d)=(kH (a,b) (c,d) e).1/\false=(kH (a,b) (c,d) e).2) ((aj (ta (a,b) (c,d) (max e d) -b),max e d)=(kH (a,b) (c,d) e).1/\true=(kH (a,b) (c,d) e).2)):=by
  delta aj;rintro x y a b c - -;simp only[kH];refine bT (λhb=>?_) (λhb=>?_)
  .rw[am hb];exact⟨rfl,rfl⟩
  .rw[af hb];refine bT (λh=>?_) (λh=>?_)
   .rw[am h];exact⟨rfl,rfl⟩
   .rw[af h];exact⟨rfl,rfl⟩
theorem MU:aB 221 aX4.spec:=aF Tryz.func221 (av (av aC QY) aH0) aT Tr
def NC(up:Bool)(l:ae):Prop:=l.length<=39/\(∀ x∈l,0<=x/\x<=8000)/\(up=true->l.Pairwise (· ≤ ·))
def g7(b:Int×Int):Int:=if b=(0,0)∨(1<=b.1/\b.1<=65536/\1<=b.2/\b.2<=1073741824) then 0 else 1
def bo(x:au):ae:=(ay x).map (·.2)
def mg(x:au):ae:=(ay x).map (·.1)
def gX(q:Int×Int->Bool)(l:List (Int×Int)):Int:=if l.findIdx q<l.length then (l.findIdx q:Int) else -1
def gZ(a:Int)(p:Int×Int):Bool:=decide (p.1=a)
def ic(k:Int)(p:Int×Int):Bool:=decide (p.2=k)
def jq(x:au)(a:Int):Int:=gX (gZ a) (ay x)
def cu(x:au)(k:Int):Int:=gX (ic k) (ay x)
def dC(x:au)(a:Int):Bool:=decide (0<=jq x a)||(!decide (fA x=0)&&decide (fA x=a))
theorem rD{α:Type} [Inhabited α] {l:List α} {k:Int} (h0:0<=k) (h1:k<l.length):l.take (k+1).toNat=l.take k.toNat++[l.getD k.toNat default]:=by
 rw[show (k+1).toNat=k.toNat+1 by omega,List.take_add_one,cK ab,bJ,cK ab];rfl
def aP3:Ct:=⟨[.agg xh],[.val cI],λ_=>[],λd=>((g7 d.1,()),())⟩
theorem ai3 :
 ∀(a b:Int),(aq a/\aq b)/\True->True-> ∀(c:Bool),c= ! decide ((a,b)=((0:Int),(0:Int)))->(ah c)/\(ah c)/\(ah c)/\ ∀(d:Bool),d=decide (a<1)->(ah (c&& ! d))/\(ah (c&& ! d))/\(c->(ar c)/\(d=false->(c&& ! d))/\True)/\(ah c)/\ ∀(e:Bool),(e=bif d then true else decide (65536<a))->(ah (c&& ! e))/\(ah (c&& ! e))/\(c->(ar c)/\(e=false->(c&& ! e))/\True)/\(ah c)/\ ∀(f:Bool),(f=bif e then true else decide (b<1))->(ah (c&& ! f))/\(ah (c&& ! f))/\(c->(ar c)/\(f=false->(c&& ! f))/\True)/\(ar c)/\ao (bif c then bif f then true else decide (1073741824<b) else false) (1=g7 (a,b)) (0=g7 (a,b)):=by
  delta ah ar;rintro a b - -
  (repeat (refine bX ?_;repeat refine bZ ?_));unfold g7;refine aw (λh=>?_) (λh=>?_)
  .simp at h;rw[af (by simp;omega)]
  .simp at h;rw[am (by simp;omega)]
theorem VU:aB 181 aP3.spec:=aF Tryz.func181 (av aC QY) aT ai3
def ZJ:Ct:=⟨[.agg xh],[.val cI],λ_=>[],λd=>((g7 d.1,()),())⟩
theorem SK :
 ∀(a b:Int),(aq a/\aq b)/\True->True-> ∀(c:Bool),c=(decide (a=0)&&(decide (b=0)&&true))->(ah (! c))/\(ah (! c))/\(ah (! c))/\ ∀(d:Bool),d=decide (1<=a)->(ah (! c&&d))/\(ah (! c&&d))/\((! c)->(ar (! c))/\(d->(! c&&d))/\True)/\(ah (! c))/\ ∀(e:Bool),(e=bif d then decide (a<=65536) else false)->(ah (! c&&e))/\(ah (! c&&e))/\((! c)->(ar (! c))/\(e->(! c&&e))/\True)/\(ah (! c))/\ ∀(f:Bool),(f=bif e then decide (1<=b) else false)->(ah (! c&&f))/\(ah (! c&&f))/\((! c)->(ar (! c))/\(f->(! c&&f))/\True)/\(aE c)/\ao (bif c then true else bif f then decide (b<=1073741824) else false) (0=g7 (a,b)) (1=g7 (a,b)):=by
  delta ah ar aE;rintro a b - -
  (repeat (intro (b_:Bool) (hb_:b_=_);(repeat refine⟨(by first|(simp;done)|(rw[hb_];simp;done)|(rw[hb_];simp;omega)|(rw[hb_];simp;intros;omega)|(rw[hb_];simp +contextual;done)),?_⟩);subst hb_));unfold g7;refine⟨by intro h;rw[h];rfl,?_⟩;refine aw (λh=>?_) (λh=>?_)
  .simp at h;rw[am (by simp;omega)]
  .simp at h;rw[af (by simp;omega)]
theorem WC:aB 68 ZJ.spec:=aF Tryz.func68 aC aT SK
def ah6:Ct:=⟨[.val cP],[.val .bool],λd=>[],λd=>((decide (fB d.1),()),())⟩
theorem X0 :
 ∀(a:Int),(0<=a/\a<=4294967295)/\True->True-> ∀(b:Bool),b=decide (fG a=0)->(ah (! b))/\(aE b)/\(bif b then true else decide (fG a=3))=decide (fB a):=by
  delta ah aE;rintro a - -
  (repeat (refine bX ?_;repeat refine bZ ?_));rw[ut,om];simp[fB,dE]
theorem U6:aB 179 ah6.spec:=aF Tryz.func179 (av aC Mc) aT X0
def Ua:Ct:=⟨[.agg tA,.box 35 cP],[.val .bool],λd=>[],λd=>((gZ d.2.1 d.1,()),(d.2.1,()))⟩
theorem aK5 :
 ∀(a b c:Int),((0<=a/\a<=4294967295)/\aq b)/\(0<=c/\c<=4294967295)/\True->True->decide (a=c)=gZ c (a,b)/\c=c:=by
  rintro a b c - -;exact⟨rfl,rfl⟩
theorem Tg:aB 166 Ua.spec:=aF Tryz.func166 aC aT aK5
def aC9:Ct:=⟨[.agg tA,.box 3 cI],[.val .bool],λd=>[],λd=>((ic d.2.1 d.1,()),(d.2.1,()))⟩
theorem ax6 :
 ∀(a b c:Int),((0<=a/\a<=4294967295)/\aq b)/\aq c/\True->True->decide (b=c)=ic c (a,b)/\c=c:=by
  rintro a b c - -;exact⟨rfl,rfl⟩
theorem TS:aB 123 aC9.spec:=aF Tryz.func123 aC aT ax6
def M2:Ct:=⟨[.val (.sl tA),.fn 166 1,.box 35 cP],[.val cI],λd=>[],λd=>((gX (gZ d.2.2.1) d.1,()),(d.2.2.1,()))⟩
def aH1:bw M2.ps->ce:=(λd=>{loops:=(bp 2 (λS=>{ι:=Int,μ:=λi=>(d.1.length-i).toNat,inv:=λi=>0<=i/\i<=d.1.length∧∀ x∈d.1.take i.toNat,gZ d.2.2.1 x=false,keep:=[0,1,6,7],slots:=λi=>[(8,.int .i64 i)],keepN:=[1048576]}) cC)})
theorem WF :
 ∀(a:List (Int×Int))(b:Int),(a.length<=maxLen/\ ∀(c:Int×Int),c∈a->(0<=c.1/\c.1<=4294967295)/\aq c.2)/\True/\(0<=b/\b<=4294967295)/\True->True->(∃(c:Int),(0<=c/\c<=(ac a)/\ ∀(d:Int×Int),d∈take c.toNat a->gZ b d=false)/\a=a/\a=a/\(ac a)=(ac a)/\0=c/\b=b/\True)/\ ∀(c:Int),(0<=c/\c<=(ac a)/\ ∀(d:Int×Int),d∈take c.toNat a->gZ b d=false)->ao (decide (c<(ac a))) (0<=c/\c<(ac a)/\ao (gZ b (ai a c)) (c=gX (gZ b) a/\b=b) (∃(d:Int),(0<=d/\d<=(ac a)/\ ∀(e:Int×Int),e∈take d.toNat a->gZ b e=false)/\toNat ((ac a) -d)<toNat ((ac a) -c)/\a=a/\a=a/\(ac a)=(ac a)/\aj (c+1)=d/\b=b/\True)) (-1=gX (gZ b) a/\b=b):=by
  delta aj ai ac;rintro l a ⟨⟨hl,-⟩,-⟩ -;simp only[maxLen] at hl;refine⟨⟨0,⟨ab,ab,aA⟩,aP⟩,?_⟩;rintro j ⟨j0,j1,hj⟩;refine bT (λhk=>?_) (λhk=>?_)
  .refine⟨j0,hk,aw (λhm=>?_) (λhm=>?_)⟩
   .exact⟨xx j0 hk hj hm,rfl⟩
   .exact⟨j+1,⟨ab,ab,nN j0 hk hj hm⟩,ab,aP⟩
  .exact⟨xQ hk hj,rfl⟩
theorem UV:aB 122 M2.spec:=aF Tryz.func122 (av aC Tg) aH1 WF
def Ru:Ct:=⟨[.val (.sl tA),.fn 123 1,.box 3 cI],[.val cI],λd=>[],λd=>((gX (ic d.2.2.1) d.1,()),(d.2.2.1,()))⟩
def XR:bw Ru.ps->ce:=(λd=>{loops:=(bp 2 (λS=>{ι:=Int,μ:=λi=>(d.1.length-i).toNat,inv:=λi=>0<=i/\i<=d.1.length∧∀ x∈d.1.take i.toNat,ic d.2.2.1 x=false,keep:=[0,1,6,7],slots:=λi=>[(8,.int .i64 i)],keepN:=[1048576]}) cC)})
theorem T4 :
 ∀(a:List (Int×Int))(b:Int),(a.length<=maxLen/\ ∀(c:Int×Int),c∈a->(0<=c.1/\c.1<=4294967295)/\aq c.2)/\True/\aq b/\True->True->(∃(c:Int),(0<=c/\c<=(ac a)/\ ∀(d:Int×Int),d∈take c.toNat a->ic b d=false)/\a=a/\a=a/\(ac a)=(ac a)/\0=c/\b=b/\True)/\ ∀(c:Int),(0<=c/\c<=(ac a)/\ ∀(d:Int×Int),d∈take c.toNat a->ic b d=false)->ao (decide (c<(ac a))) (0<=c/\c<(ac a)/\ao (ic b (ai a c)) (c=gX (ic b) a/\b=b) (∃(d:Int),(0<=d/\d<=(ac a)/\ ∀(e:Int×Int),e∈take d.toNat a->ic b e=false)/\toNat ((ac a) -d)<toNat ((ac a) -c)/\a=a/\a=a/\(ac a)=(ac a)/\aj (c+1)=d/\b=b/\True)) (-1=gX (ic b) a/\b=b):=by
  delta aj ai ac;rintro l a ⟨⟨hl,-⟩,-⟩ -;simp only[maxLen] at hl;refine⟨⟨0,⟨ab,ab,aA⟩,aP⟩,?_⟩;rintro j ⟨j0,j1,hj⟩;refine bT (λhk=>?_) (λhk=>?_)
  .refine⟨j0,hk,aw (λhm=>?_) (λhm=>?_)⟩
   .exact⟨xx j0 hk hj hm,rfl⟩
   .exact⟨j+1,⟨ab,ab,nN j0 hk hj hm⟩,ab,aP⟩
  .exact⟨xQ hk hj,rfl⟩
theorem ay1:aB 122 Ru.spec:=aF Tryz.func122 (av aC TS) XR T4
def VZ:Ct:=⟨[.agg bU,.val cP],[.val cI],λd=>[],λd=>((jq d.1 d.2.1,()),())⟩
theorem ao1 :
 ∀(a:au)(b:Int),CT.wf bU a/\(0<=b/\b<=4294967295)/\True->True->gX (gZ b) a.1=jq a b:=by
  rintro d x - -;rfl
theorem Sb:aB 120 VZ.spec:=aF Tryz.func120 (av aC UV) aT ao1
def TJ:Ct:=⟨[.agg bU,.val cI],[.val cI],λd=>[],λd=>((cu d.1 d.2.1,()),())⟩
theorem ak8 :
 ∀(a:au)(b:Int),CT.wf bU a/\aq b/\True->True->gX (ic b) a.1=cu a b:=by
  rintro d x - -;rfl
theorem Bm:aB 55 TJ.spec:=aF Tryz.func55 (av aC ay1) aT ak8
def as8:Ct:=⟨[.agg bU,.val cP],[.val .bool],λd=>[],λd=>((dC d.1 d.2.1,()),())⟩
theorem Ze :
 ∀(a:au)(b:Int),CT.wf bU a/\(0<=b/\b<=4294967295)/\True->True-> ∀(c:Int),c=jq a b-> ∀(d:Bool),d=decide (0<=c)->(ah (! d))/\(ah (! d))/\(ah (! d))/\ ∀(e:Bool),e= ! decide (a.2.1=0)->(ah (! d&&e))/\((! d&&e)->(ar (! d&&e))/\(ar (! d&&e))/\True)/\((! d)->(ar (! d))/\(e->(! d&&e))/\True)/\(aE d)/\(bif d then true else bif e then decide (a.2.1=b) else false)=dC a b:=by
  delta ah ar aE;rintro d x - - q hq;unfold dC;rw[show fA d=d.2.1 from rfl,← hq];generalize d.2.1=z;intro b hb;refine⟨aA,aA,aA,?_⟩;intro b1 hb1
  (repeat refine⟨(by cases b <;> cases b1 <;> simp),?_⟩);rw[hb,hb1];cases decide (0<=q) <;> cases decide (z=0) <;> cases decide (z=x) <;> rfl
theorem HA:aB 50 as8.spec:=aF Tryz.func50 (av aC (Ct.named Sb)) aT Ze
def NB:Ct:=⟨[.agg bU],[.own 3 cI],λd=>[(ay d.1).length<=100000],λd=>((bo d.1,()),())⟩
def Z9:bw NB.ps->ce:=(λd=>{loops:=(bp 3 (λS=>{ι:=Int×ae,qn:=ft,μ:=λi=>((ay d.1).length-i.1).toNat,inv:=λi=>0<=i.1/\i.1<=(ay d.1).length/\i.2=(bo d.1).take i.1.toNat,keep:=[1,7,8],slots:=λi=>[(3,.own 524288 1),(9,.int .i64 i.1)],keepN:=[32],names:=λi=>[(524288,.live (.row 3 cI i.2))]}) cC)})
def Aw(a:au) :=
 ((length (ay a)):Int)
theorem TC :
 ∀(a:au),CT.wf bU a/\True->length (ay a)<=(100000:Nat)->(∃(b:Int) (c:ae),(0<=b/\b<=(Aw a)/\c=take b.toNat (bo a))/\a.1=a.1/\(ac a.1)=(ac a.1)/\0=b/\a.1=a.1/\a.2.1=a.2.1/\a.2.2.1=a.2.2.1/\a.2.2.2.1=a.2.2.2.1/\a.2.2.2.2.1=a.2.2.2.2.1/\a.2.2.2.2.2.1=a.2.2.2.2.2.1/\a.2.2.2.2.2.2.1=a.2.2.2.2.2.2.1/\a.2.2.2.2.2.2.2.1=a.2.2.2.2.2.2.2.1/\a.2.2.2.2.2.2.2.2.1=a.2.2.2.2.2.2.2.2.1/\a.2.2.2.2.2.2.2.2.2.1=a.2.2.2.2.2.2.2.2.2.1/\a.2.2.2.2.2.2.2.2.2.2.1.1=a.2.2.2.2.2.2.2.2.2.2.1.1/\a.2.2.2.2.2.2.2.2.2.2.1.2=a.2.2.2.2.2.2.2.2.2.2.1.2/\a.2.2.2.2.2.2.2.2.2.2.2.1=a.2.2.2.2.2.2.2.2.2.2.2.1/\a.2.2.2.2.2.2.2.2.2.2.2.2.1=a.2.2.2.2.2.2.2.2.2.2.2.2.1/\a.2.2.2.2.2.2.2.2.2.2.2.2.2.1=a.2.2.2.2.2.2.2.2.2.2.2.2.2.1/\a.2.2.2.2.2.2.2.2.2.2.2.2.2.2=a.2.2.2.2.2.2.2.2.2.2.2.2.2.2/\c=([]:ae)/\True)/\ ∀(b:Int)(c:ae),0<=b/\b<=(Aw a)/\c=take b.toNat (bo a)->ao (decide
 (b<(ac a.1))) (0<=b/\b<(ac a.1)/\(c.length+length [(getD a.1 b.toNat default).2])*(8:Nat)<=(140737488355328:Nat)/\ ∃(d:Int) (e:ae),(0<=d/\d<=(Aw a)/\e=take d.toNat (bo a))/\toNat ((Aw a) -d)<toNat ((Aw a) -b)/\a.1=a.1/\(ac a.1)=(ac a.1)/\aj
 (b+1)=d/\a.1=a.1/\a.2.1=a.2.1/\a.2.2.1=a.2.2.1/\a.2.2.2.1=a.2.2.2.1/\a.2.2.2.2.1=a.2.2.2.2.1/\a.2.2.2.2.2.1=a.2.2.2.2.2.1/\a.2.2.2.2.2.2.1=a.2.2.2.2.2.2.1/\a.2.2.2.2.2.2.2.1=a.2.2.2.2.2.2.2.1/\a.2.2.2.2.2.2.2.2.1=a.2.2.2.2.2.2.2.2.1/\a.2.2.2.2.2.2.2.2.2.1=a.2.2.2.2.2.2.2.2.2.1/\a.2.2.2.2.2.2.2.2.2.2.1.1=a.2.2.2.2.2.2.2.2.2.2.1.1/\a.2.2.2.2.2.2.2.2.2.2.1.2=a.2.2.2.2.2.2.2.2.2.2.1.2/\a.2.2.2.2.2.2.2.2.2.2.2.1=a.2.2.2.2.2.2.2.2.2.2.2.1/\a.2.2.2.2.2.2.2.2.2.2.2.2.1=a.2.2.2.2.2.2.2.2.2.2.2.2.1/\a.2.2.2.2.2.2.2.2.2.2.2.2.2.1=a.2.2.2.2.2.2.2.2.2.2.2.2.2.1/\a.2.2.2.2.2.2.2.2.2.2.2.2.2.2=a.2.2.2.2.2.2.2.2.2.2.2.2.2.2/\c++[(getD a.1 b.toNat default).2]=e/\True) (c=bo a):=by
  delta Aw aj ac;rintro d-hl;have hlen:(bo d).length=(ay d).length:=by simp[bo]
  refine⟨⟨0,[],⟨ab,ab,rfl⟩,aP⟩,?_⟩;rintro j l ⟨j0,j1,rfl⟩;have hd:d.1=ay d:=rfl;rw[hd];refine bT (λhk=>?_) (λhk=>?_)
  .refine⟨j0,hk,by simp only[dA,dN,List.length_nil];omega,j+1,_,⟨ab,ab,rfl⟩,ab,?_⟩
   (repeat refine jp ?_);refine⟨?_,bv⟩;rw[rD j0 (by rw[hlen];exact hk)];unfold bo;rw[bJ,bJ,List.getElem?_map,cK ab];rfl
  .rw[fe ab]
theorem Yu:aB 182 NB.spec:=aF Tryz.func182 aC Z9 TC
end Go.RS
