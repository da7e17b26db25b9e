/- Reply: answers. -/
import Derived.Test.YtgcnlmckfpcgpaaGreatDoorAddr
import Derived.Test.YtgcnlmckfpcgpaaGreatDoorIdent
set_option maxRecDepth 100000
set_option linter.all false
open Int (toNat)
open List (length take set drop)
open BitVec renaming ofInt->cc8
open Bool renaming false->bZ6,true->bZ3
open Decidable renaming decide->bZ2
open Go renaming maxLen->cb2
open Go.BinOp renaming and->cc6
open Go.IntKind renaming bits->ce4,i64->bZ4,u64->ca1,wrap->bZ5,wrap_i64->ch4
open Inhabited renaming default->Sk
open Int renaming default_eq_zero->cf2,lt_trichotomy->cx9,natAbs->cw8,ofNat->ci4,toNat->it
open List renaming drop_drop->cj8,drop_eq_nil_of_le->ce2,filter->cf5,filter_cons->cg5,filter_eq_nil_iff->cf4,filter_eq_self->cd1,findIdx->cB3,flatten->cc9,flatten_append->cj1,getD->Om,getD_eq_getElem?_getD->cd7,getElem_append_left->cg6,getElem_drop->cw9,getElem_mem->cc3,length->be,length_filter_le->ci0,map->cg4,map_congr_left->ci7,mem_filter->ce8,mem_iff_getElem->cb5,pairwise_append->cf0,pairwise_cons->ca4,replicate->cq2
open List.Pairwise renaming drop->co8,filter->cm2
open Option renaming some->bZ1
namespace Go.RS
open Go.SX Go.Proofs
abbrev Dm:CT := .pair dw (.pair cI (.pair cI (.pair cI (.pair cI cI))))
abbrev oE:Type:=Int×Int×Int×Int×Int×Int
def AE:oE:=(0,0,0,0,0,0)
def jg(a:Int):Int :=
 if a/16777216=0 then 1 else if a/16777216=127 then 2
 else if a/16777216=10∨(a/16777216=172/\16<=a/65536%256/\a/65536%256<32)∨(a/16777216=192/\a/65536%256=168) then 3
 else if a/16777216=169/\a/65536%256=254 then 4
 else if 224<=a/16777216/\a/16777216<240 then 5 else if 240<=a/16777216 then 6 else 0
def ga(a:Int):Prop:=jg a=0∨jg a=3
instance (a:Int):Decidable (ga a):=by unfold ga;infer_instance
def MF(x:ny):Int:=x.1.2.2.2.1
def OU(x:ny):Prop:=8<=be x.2/\(x.1.2.2.2.1=1->Om x.2 0 Sk=8)/\(x.1.2.2.2.1=6->14<=be x.2->bits .and .u8 (Om x.2 13 Sk) 4=0)/\ga x.1.2.2.2.2.2.1
instance (x:ny):Decidable (OU x):=by unfold OU;infer_instance
def fJ(b:ad):Prop:=dN b=0/\OU (cJ b)
instance (b:ad):Decidable (fJ b):=by unfold fJ;infer_instance
def DQ(b:ad):Prop:=dN b=0/\8<=(cJ b).2.length/\(MF (cJ b)=1->(cJ b).2.getD 0 Sk=8)/\(MF (cJ b)=6->14<=(cJ b).2.length->bits .and .u8 ((cJ b).2.getD 13 Sk) 4=0)
instance (b:ad):Decidable (DQ b):=by unfold DQ;infer_instance
def wa(b:ad):ny:=if DQ b then cJ b else (tM,[])
def lv(id ttl:Int):Prop:=(0<=id/\id<=65535)/\0<=ttl/\ttl<=255
instance (i t:Int):Decidable (lv i t):=by unfold lv;infer_instance
def kR(src dst proto id ttl:Int)(data:ad):ny:=((0,id,ttl,proto,bZ6,src,dst),data)
def dF(b:ad):Int:=(cB b).2.2.2.2.2.1
def gV(b:ad):Int:=(cB b).2.2.2.2.2.2
def fi(b:ad):Int:=(cB b).2.2.2.1
def yM(kind code id ttl:Int):Prop:=(kind=11∨kind=3)/\(0<=code/\code<=255)/\lv id ttl
instance (k c i t:Int):Decidable (yM k c i t):=by unfold yM;infer_instance
def iW(b:ad)(kind code id ttl:Int):Int:=if ¬ yM kind code id ttl then 1 else if fJ b then 0 else 17
def kU(b:ad)(src kind code id ttl:Int):ad:=if iW b kind code id ttl=0 then gM (kR src (dF b) 1 id ttl (j9 (kind,code,b.take 28))) else []
def ou(s:mJ):mJ:=(s.2.1,s.1,0,(s.2.2.1+1)%4294967296,20,0,[])
def Cx(b:ad):Prop:=fJ b/\((fi b=1/\lm (b.drop 20)=0)∨(fi b=17/\mn (dF b) (gV b) (b.drop 20)=0) ∨
 (fi b=6/\kV (dF b) (gV b) (b.drop 20)=0/\bits .and .i64 (gn (dF b) (gV b) (b.drop 20)).2.2.2.2.1 2≠0/\bits .and .i64 (gn (dF b) (gV b) (b.drop 20)).2.2.2.2.1 4=0))
instance (b:ad):Decidable (Cx b):=by unfold Cx;infer_instance
def jd(b:ad)(id ttl:Int):Int:=if ¬ lv id ttl then 1 else if Cx b then 0 else 17
def lS(b:ad)(src id ttl:Int):ad :=
 if jd b id ttl=0 then
  if fi b=1 then gM (kR src (dF b) 1 id ttl (gD (bZ3,(gT (b.drop 20)).2)))
  else if fi b=17 then kU b src 3 3 id ttl
  else gM (kR src (dF b) 6 id ttl (gQ src (dF b) (ou (gn (dF b) (gV b) (b.drop 20)))))
 else []
def Gt(b:ad):Prop:=iT b=0/\be b=28/\(cB b).1=0/\(cB b).2.2.2.2.1=bZ3
instance (b:ad):Decidable (Gt b):=by unfold Gt;infer_instance
def Bb(b:ad):Int:=if fi b=1 then aR b 22-16384 else if fi b=17∨fi b=6 then aR b 20-20000 else 0
def uO(b:ad):bo:=(dF b,gV b,fi b,Bb b,(cB b).2.1,(cB b).2.2.1)
def tG(b:ad):Prop :=
 (fi b=1/\aR b 2=30/\aR b 20=2048/\aR b 24=21075/\aR b 26=(cB b).2.1) ∨
 (fi b=17/\aR b 2=30/\aR b 22=33434/\aR b 24=aR b 2-20/\aR b 26=(cB b).2.1+1) ∨
 (fi b=6/\aR b 2=40/\aR b 22=80/\gP ((b.drop 24).take 4)=(cB b).2.1)
instance (b:ad):Decidable (tG b):=by unfold tG;infer_instance
def oR(b:ad):bo×Bool:=if Gt b then (uO b,bZ2 (tG b/\cT (uO b)=0)) else (O4,bZ6)
def tX(p:bo)(t:Int):bo:=(p.1,p.2.1,p.2.2.1,p.2.2.2.1,p.2.2.2.2.1,t)
def vP(ty code:Int):Int:=if ty=11 then 1 else if code=3 then 3 else 5
abbrev Gd:Type:=bo×oE×Bool
def C6:Gd:=(O4,AE,bZ6)
def lW(dst:Int)(b:ad):Gd :=
 if nh b=0 then (tX (oR (mB b).2.2).1 0,(0,vP (mB b).1 (mB b).2.1,(mB b).2.1,0,0,(oR (mB b).2.2).1.2.2.2.2.2),(oR (mB b).2.2).2&&bZ2 ((oR (mB b).2.2).1.1=dst)) else C6
def E0(b:ad):Prop:=lm b=0/\(gT b).1=bZ3/\(gT b).2.1=21075/\(gT b).2.2.2.length=2
instance (b:ad):Decidable (E0 b):=by unfold E0;infer_instance
def o4(src dst:Int)(b:ad):Gd:=if E0 b then ((dst,src,1,aR b 2-18432,(gT b).2.2.1,0),(0,2,0,0,0,0),bZ3) else C6
def Fw(src dst:Int)(b:ad):Prop:=kV src dst b=0/\(gn src dst b).1=80/\(gn src dst b).2.2.1=0/\(gn src dst b).2.2.2.2.1=20/\(gn src dst b).2.2.2.2.2.1=0/\(gn src dst b).2.2.2.2.2.2=[]
instance (s d:Int) (b:ad):Decidable (Fw s d b):=by unfold Fw;infer_instance
def pz(src dst:Int)(b:ad):Gd:=if Fw src dst b then ((dst,src,6,(gn src dst b).2.1-20000,(gn src dst b).2.2.2.1-1,0),(0,4,0,0,0,0),bZ3) else C6
def kr(b:ad):Gd :=
 if fi b=1/\0<be (b.drop 20)/\Om (b.drop 20) 0 Sk=0 then o4 (dF b) (gV b) (b.drop 20)
 else if fi b=1 then lW (gV b) (b.drop 20) else if fi b=6 then pz (dF b) (gV b) (b.drop 20) else C6
def BJ(b:ad):Prop:=dN b=0/\(kr b).2.2=bZ3/\cT (tX (kr b).1 1)=0
instance (b:ad):Decidable (BJ b):=by unfold BJ;infer_instance
def fN(b:ad):bo×oE:=if BJ b then ((kr b).1,(dF b,(kr b).2.1.2.1,(kr b).2.1.2.2.1,(cB b).2.2.1,(cB b).2.1,(kr b).2.1.2.2.2.2.2)) else (O4,AE)
def oU(b:ad):Int:=if BJ b then 0 else 17
theorem ZN(n:Int):bits .and .i64 n 4294967295=n%4294967296:=by
 have a:(cc8 64 4294967295).toNat=2^32-1:=aB
 have b:(cc8 64 n &&& cc8 64 4294967295).toNat=(n%((2^64:Nat):Int)).toNat%2^32:=by
  rw[BitVec.toNat_and,BitVec.toNat_ofInt,a,Hb]
 show bZ4.wrap ((cc8 64 n &&& cc8 64 4294967295).toNat:Nat)=n%4294967296
 rw[b,ch4]
 omega
theorem z5{p n a s:Int}(hs:sz n=s)(hn:0<=n/\n<=32)(hp:p%s=0):iO (p,n) a=bZ2 (p<=a/\a<p+s):=by
 unfold iO nH
 simp_all
theorem Ng{b:ad}:fJ b↔DQ b/\ga (cJ b).1.2.2.2.2.2.1:=⟨λh=>⟨⟨h.1,h.2.1,h.2.2.1,h.2.2.2.1⟩,h.2.2.2.2⟩,λh=>⟨h.1.1,h.1.2.1,h.1.2.2.1,h.1.2.2.2,h.2⟩⟩
theorem Tn{b:ad}(h:fJ b):wa b=(cB b,b.drop 20):=by rw[wa,aj (Ng.1 h).1,cJ,aj h.1]
theorem ur{b:ad}(h:fJ b):dN b=0/\28<=be b/\(fi b=1->Om (b.drop 20) 0 Sk=8)/\(fi b=6->14<=be (b.drop 20)->bits .and .u8 (Om (b.drop 20) 13 Sk) 4=0)/\ga (dF b):=by
 have ⟨a,c⟩:=h
 rw[cJ,aj a] at c
 have ⟨k1,k2,k3,k4⟩:=c
 simp at k1
 exact⟨a,ab,k2,k3,k4⟩
theorem ap1{b:ad}(a:dN b=0)(h2:28<=be b)(h3:fi b=1->Om (b.drop 20) 0 Sk=8)(h4:fi b=6->14<=be (b.drop 20)->bits .and .u8 (Om (b.drop 20) 13 Sk) 4=0)(h5:ga (dF b)):fJ b:=by
 refine⟨a,?_⟩
 rw[cJ,aj a]
 exact⟨by simp;omega,h3,h4,h5⟩
theorem Eg{src dst proto id e:Int}{data:ad}(hn:lv id e)(hp:0<=proto/\proto<=255)(hl:(be data:Int)<=1480):jh (kR src dst proto id e data)=0:=by
 have ⟨⟨a,b⟩,c,d⟩:=hn
 rw[jh,ah,ah (by simp only[kR];omega)]
 rw[uj]
 exact⟨⟨io _,by simp only[kR];omega⟩,⟨c,d⟩,hp,a,b⟩
theorem Ij{b:ad}{src kind code id a:Int}(c:yM kind code id a)(d:fJ b) :
  iW b kind code id a=0/\kU b src kind code id a=gM (kR src (dF b) 1 id a (j9 (kind,code,b.take 28)))/\lF (kind,code,b.take 28)=0/\jh (kR src (dF b) 1 id a (j9 (kind,code,b.take 28)))=0:=by
 have e:iW b kind code id a=0:=by rw[iW,ah (λk=>k c),aj d]
 obtain⟨-,hl,-⟩:=ur d
 have ⟨h1,h2,h3⟩:=c
 refine⟨e,by rw[kU,aj e],?_,Eg h3 ab (MQ _)⟩
 have ht:be (b.take 28)=28:=by rw[eM];omega
 rw[lF,ah,ah,ah]
 .simp only;omega
 .simp only;omega
 .grind
theorem bn1{b:ad}{src kind code id a:Int}(hg:¬ yM kind code id a):([]:ad)=kU b src kind code id a/\1=iW b kind code id a:=by
 have he:iW b kind code id a=1:=by rw[iW,aj hg]
 rw[kU,he];exact⟨rfl,rfl⟩
theorem aT0{b:ad}{src kind code id a:Int}(hg:yM kind code id a)(ha:¬ fJ b):([]:ad)=kU b src kind code id a/\17=iW b kind code id a:=by
 have he:iW b kind code id a=17:=by rw[iW,ah (λk=>k hg),ah ha]
 rw[kU,he];exact⟨rfl,rfl⟩
theorem bz8(b:ad):bY b (it 0) (it 28)=b.take 28:=by
 show bY b 0 28=_
 simp[bY]
theorem bk1{b:ad}{src id a:Int}(hn:¬ lv id a):([]:ad)=lS b src id a/\1=jd b id a:=by
 have he:jd b id a=1:=by rw[jd,aj hn]
 rw[lS,he];exact⟨rfl,rfl⟩
theorem EZ{b:ad}{src id a:Int}(hn:lv id a)(ha:¬ Cx b):([]:ad)=lS b src id a/\17=jd b id a:=by
 have he:jd b id a=17:=by rw[jd,ah (λk=>k hn),ah ha]
 rw[lS,he];exact⟨rfl,rfl⟩
theorem G2{b:ad}{id a:Int}(hn:lv id a)(ha:Cx b):jd b id a=0:=by rw[jd,ah (λk=>k hn),aj ha]
theorem J2{b:ad}{src id a:Int}(hn:lv id a)(ha:fJ b)(h:fi b=1)(he:lm (b.drop 20)=0) :
  lS b src id a=gM (kR src (dF b) 1 id a (gD (bZ3,(gT (b.drop 20)).2)))/\jd b id a=0:=by
 have c:=G2 hn ⟨ha,.inl ⟨h,he⟩⟩
 rw[lS,aj c,aj h];exact⟨rfl,c⟩
theorem IH{b:ad}{src id a:Int}(hn:lv id a)(ha:fJ b)(h:fi b=17)(he:mn (dF b) (gV b) (b.drop 20)=0) :
  lS b src id a=kU b src 3 3 id a/\jd b id a=0:=by
 have c:=G2 hn ⟨ha,.inr (.inl ⟨h,he⟩)⟩
 rw[lS,aj c,ah ab,aj h];exact⟨rfl,c⟩
theorem Ki{b:ad}{src id a:Int}(hn:lv id a)(ha:fJ b)(h:fi b=6)(he:kV (dF b) (gV b) (b.drop 20)=0)
  (h2:bits .and .i64 (gn (dF b) (gV b) (b.drop 20)).2.2.2.2.1 2≠0) (h4:bits .and .i64 (gn (dF b) (gV b) (b.drop 20)).2.2.2.2.1 4=0) :
  lS b src id a=gM (kR src (dF b) 6 id a (gQ src (dF b) (ou (gn (dF b) (gV b) (b.drop 20)))))/\jd b id a=0:=by
 have c:=G2 hn ⟨ha,.inr (.inr ⟨h,he,h2,h4⟩)⟩
 rw[lS,aj c,ah ab,ah ab];exact⟨rfl,c⟩
theorem NK{b:ad}{id a:Int}(hn:lv id a)(ha:fJ b):iW b 3 3 id a=0:=by
 rw[iW,ah (λk=>k ⟨.inr rfl,⟨ab,ab⟩,hn⟩),aj ha]
theorem Xc(b:ad):(gT b).2.2.2.length<=be b:=by
 unfold gT;split
 .simp_all
 .simp
theorem aU3(b:ad):(mB b).2.2.length<=be b:=by
 unfold mB;split
 .simp_all
 .simp
theorem WW{s d:Int}{b:ad}(a:bytes b):(0<=(gn s d b).2.1/\(gn s d b).2.1<=65535)/\(0<=(gn s d b).2.2.1/\(gn s d b).2.2.1<=4294967295)/\0<=(gn s d b).2.2.2.1/\(gn s d b).2.2.2.1<=4294967295:=by
 unfold gn;split
 .have h1:=rI a (it 2);have h2:=rI a (it 4);have h3:=rI a (it 6);have h4:=rI a (it 8);have h5:=rI a (it 10);simp only;omega
 .simp
def wN(k:Int):fB:=Om ([(0,8),(2130706432,8),(167772160,8),(2886729728,12),(3232235520,16),(2851995648,16),(3758096384,4),(4026531840,4)]:List fB) (it k) (0,0)
def WJ:Ct:=⟨[.val dw],[.val cI],λd=>[],λd=>((jg d.1,()),())⟩
def aS4:bw WJ.ps->bL:=(λd=>{cuts:=(bu 6 (λS=>{ι:=Unit,inv:=λi=>iO (wN (S.i 6)) d.1=bZ6,keep:=[0,5,6],slots:=λi=>[]}) cC),unr:=λn=>match n with|2=>9|_=>0})
def qT:=cw8 (2^ce4 bZ4)
def CL(a b c:Nat):=((a%b+1)%cw8 (2^c)+1)%qT
def IG(a b c:Nat):=CL (a%b+1) (cw8 (2^c)) (ce4 bZ4)
def SE(a:Int)(b c:Prop):=aZ a 0 8 1 ((2130706432:Int)=(2130706432:Int)) (aZ 8 2 167772160 8 ((3:Int)=(3:Int)) (aZ 2886729728 12 3 3232235520 ((16:Int)=(16:Int)) (aZ 3 2851995648 16 4 ((3758096384:Int)=(3758096384:Int)) (aZ 4 5 4026531840 4 b c))))
def Lm(a:Int):=ao (ao (ao a+1)+1)
def Fm(a:Int):=Lm (ao a+1)
def yV(a b c:Int):=∃(d:Unit),iO (wN a) b=bZ6/\SE b ((6:Int)=(6:Int)) (ai (c=c))
def E8(a:fB)(b:Int)(c:Bool)(d e f:Prop):=∀(g:Unit),iO a b=bZ6->ar c d e/\ ∀(h:Unit),f
def uM:=0+1
def Cd(a:Nat):=ci4 (IG (a+1) qT (ce4 bZ4))
def zn:=ao (ao (0+1)+1)
def GS:=(uM%qT+1)%qT
theorem bw2:
 ∀(a:Int),dW (aO a) (ar (iO (0,8) a) (1=jg a) (yV 0 a 0)/\E8 (wN 0) a (iO (2130706432,8) a) (2=jg a) (yV (ci4 (uM%qT)) a (ao (0+1))) (iO (wN (ci4 (uM%qT))) a=bZ6->ar (iO (167772160,8) a) (3=jg a) (yV (ci4 GS) a zn)/\E8 (wN (ci4 GS)) a (iO (2886729728,12) a) (3=jg a) (yV (ci4 (CL uM qT (ce4 bZ4))) a (Lm (0+1))) (iO (wN (ci4 (CL uM qT (ce4 bZ4)))) a=bZ6->ar (iO (3232235520,16) a) (3=jg a) (yV (ci4 (IG uM qT (ce4 bZ4))) a (Fm (0+1)))/\E8 (wN (ci4 (IG uM qT (ce4 bZ4)))) a (iO (2851995648,16) a) (4=jg a) (yV (Cd (uM%qT)) a (Fm (ao (0+1)+1))) (iO (wN (Cd (uM%qT)))
 a=bZ6->ar (iO (3758096384,4) a) (5=jg a) (yV (Cd GS) a (Fm (zn+1)))/\E8 (wN (Cd GS)) a (iO (4026531840,4) a) (6=jg a) (yV (Cd (CL uM qT (ce4 bZ4))) a (Fm (Lm (0+1)+1))) (iO (wN (Cd (CL uM qT (ce4 bZ4)))) a=bZ6->0=jg a))))):= by
  delta ao aZ bN bp aO IG CL SE Fm Lm ai qT yV E8 uM Cd dW bn zn GS
  rintro a ⟨⟨a0,a1⟩,-⟩ -
  have b:=z5 (p:=0) (n:=8) (a:=a) (s:=16777216) rfl ab ab
  have c:=z5 (p:=2130706432) (n:=8) (a:=a) (s:=16777216) rfl ab ab
  have d:=z5 (p:=167772160) (n:=8) (a:=a) (s:=16777216) rfl ab ab
  have e:=z5 (p:=2886729728) (n:=12) (a:=a) (s:=1048576) rfl ab ab
  have f:=z5 (p:=3232235520) (n:=16) (a:=a) (s:=65536) rfl ab ab
  have g:=z5 (p:=2851995648) (n:=16) (a:=a) (s:=65536) rfl ab ab
  have i:=z5 (p:=3758096384) (n:=4) (a:=a) (s:=268435456) rfl ab ab
  have j:=z5 (p:=4026531840) (n:=4) (a:=a) (s:=268435456) rfl ab ab
  refine⟨aw (λh=>?_) (λh=>⟨(),h,aI⟩),?_⟩
  .rw[b] at h
   have h:=aX h
   unfold jg;rw[aj ab]
  rintro-h
  have h:iO (0,8) a=false:=h
  rw[b] at h
  have h0:=bg h
  refine⟨aw (λh=>?_) (λh=>⟨(),h,aI⟩),?_⟩
  .rw[c] at h
   have h:=aX h
   unfold jg;rw[ah ab,aj ab]
  rintro-h
  have h:iO (2130706432,8) a=false:=h
  rw[c] at h
  have h1:=bg h
  refine⟨aw (λh=>?_) (λh=>⟨(),h,aI⟩),?_⟩
  .rw[d] at h
   have h:=aX h
   unfold jg;rw[ah ab,ah ab,aj ab]
  rintro-h
  have h:iO (167772160,8) a=false:=h
  rw[d] at h
  have h2:=bg h
  refine⟨aw (λh=>?_) (λh=>⟨(),h,aI⟩),?_⟩
  .rw[e] at h
   have h:=aX h
   unfold jg;rw[ah ab,ah ab,aj ab]
  rintro-h
  have h:iO (2886729728,12) a=false:=h
  rw[e] at h
  have h3:=bg h
  refine⟨aw (λh=>?_) (λh=>⟨(),h,aI⟩),?_⟩
  .rw[f] at h
   have h:=aX h
   unfold jg;rw[ah ab,ah ab,aj ab]
  rintro-h
  have h:iO (3232235520,16) a=false:=h
  rw[f] at h
  have h4:=bg h
  refine⟨aw (λh=>?_) (λh=>⟨(),h,aI⟩),?_⟩
  .rw[g] at h
   have h:=aX h
   unfold jg;rw[ah ab,ah ab,ah ab,aj ab]
  rintro-h
  have h:iO (2851995648,16) a=false:=h
  rw[g] at h
  have h5:=bg h
  refine⟨aw (λh=>?_) (λh=>⟨(),h,aI⟩),?_⟩
  .rw[i] at h
   have h:=aX h
   unfold jg;rw[ah ab,ah ab,ah ab,ah ab,aj ab]
  rintro-h
  have h:iO (3758096384,4) a=false:=h
  rw[i] at h
  have h6:=bg h
  refine⟨aw (λh=>?_) (λh=>⟨(),h,aI⟩),?_⟩
  .rw[j] at h
   have h:=aX h
   unfold jg;rw[ah ab,ah ab,ah ab,ah ab,ah ab,aj ab]
  rintro-h
  have h:iO (4026531840,4) a=false:=h
  rw[j] at h
  have h7:=bg h
  unfold jg;rw[ah ab,ah ab,ah ab,ah ab,ah ab,ah ab]
theorem Kz:aC 113 WJ.spec:=aF Tryz.func113 (Xl (ap aD VH) (d:=8)) aS4 bw2
def be3:Ct:=⟨[.val (.sl bm)],[.agg D5,.val .bool],λd=>[(be d.1:Int)<=1099511627776],λd=>((wa d.1,bZ2 (fJ d.1),()),())⟩
def qS(a b:Bool)(c d:Prop):=∀(e:Bool),e=a->cV e (bR e) (bv e/\ar (bq e b) c d)
def Hq(a:Int)(b:ny)(c:ad):=∀(d:Bool),d=aV (jg a)->bR d/\bv d/\b=wa c/\bq d (bZ2 (jg a=3))=bZ2 (fJ c)
def H9(a:ad):=(rp,[])=wa a/\bZ6=bZ2 (fJ a)
theorem bJ9:
 ∀(a:ad),sM a (aT a) (∀(b:ny)(c:Int),b=cJ a/\c=dN a->qS ( !aV c) (ax (ac b.2) 8) (H9 a) (ar (iN b.1.2.2.2.1) (am 0 (0<ac b.2) (ar (cP (ae b.2 0) 8) (H9 a) (Hq b.1.2.2.2.2.2.1 b a))) (ar (bZ2 (b.1.2.2.2.1=6)) (∀(d:Bool),d=ax 13 (ac b.2)->cj d d ((d->d)/\am 13 (13<ac b.2) True) (d->aJ d) (uc d d (br d ( !aV (bits cc6 IntKind.u8 (ae b.2 13) 4))) (H9 a) (Hq b.1.2.2.2.2.2.1 b a))) (Hq b.1.2.2.2.2.2.1 b a)))):= by
  delta ae ac aQ bR aJ aT cj bq br cV am bv aV ai qS rp Hq cP uc ax H9 iN sM
  rintro b ⟨⟨-,hb⟩,-⟩ hl
  refine⟨hl,?_⟩
  rintro d e ⟨rfl,rfl⟩
  have f:¬ DQ b->(((0,0,0,0,bZ6,0,0),[]):ny)=wa b/\bZ6=bZ2 (fJ b):=λh=>by rw[wa,ah h,eT (λk=>h (Ng.1 k).1)];exact⟨rfl,rfl⟩
  have a:DQ b->cJ b=wa b/\(bif bZ2 (jg (cJ b).1.2.2.2.2.2.1=0) then bZ3 else bZ2 (jg (cJ b).1.2.2.2.2.2.1=3))=bZ2 (fJ b):=by
   intro h
   refine⟨by rw[wa,aj h],?_⟩
   rw[yq,sC,Ng]
   simp[h,ga,ic]
  (repeat (refine cL ?_;repeat refine cK ?_))
  refine aw (λh=>?_) (λh=>?_)
  .refine f (λk=>?_)
   obtain⟨k1,k2,-⟩:=k
   grind
  have j:dN b=0:=by
   simp_all
  have l:8<=(cJ b).2.length:=by
   grind
  refine aw (λc=>?_) (λc=>?_)
  .have c:MF (cJ b)=1:=aX c
   refine⟨ab,ab,aw (λi=>?_) (λi=>?_)⟩
   .refine f (λk=>?_)
    have:=k.2.2.1 c
    simp_all
   ·(repeat (refine cL ?_;repeat refine cK ?_))
    exact a ⟨j,l,λ_=>by simpa using i,λk=>ab⟩
  have c:=bg c
  refine ci (λg=>?_) (λg=>?_)
  .have g:=g
   (repeat (refine cL ?_;repeat refine cK ?_))
   refine aw (λi=>?_) (λi=>?_)
   .refine f (λk=>?_)
    have:=k.2.2.2 g
    grind
   ·(repeat (refine cL ?_;repeat refine cK ?_))
    refine a ⟨j,l,λk=>absurd k c,λ_ hk=>?_⟩
    grind
  .have g:=g
   (repeat (refine cL ?_;repeat refine cK ?_))
   exact a ⟨j,l,λk=>absurd k c,λk=>absurd k g⟩
theorem VJ:aC 298 be3.spec:=aF Tryz.func298 (ap (ap aD (Ct.named GZ)) Kz) aU bJ9
def aw2:Ct:=⟨[.val cI,.val cI],[.val .bool],λd=>[],λd=>((bZ2 (lv d.1 d.2.1),()),())⟩
theorem bq8:
 ∀(a b:Int),dV a b->True-> ∀(c:Bool),c=fp a->(c->aJ c)/\(c->c)/\ ∀(d:Bool),d=br c (bZ2 (a<=65535))->(d->aJ d)/\(d->d)/\wR (br d (fp b)) (bZ2 (b<=255)) (bZ2 (lv a b)):= by
  delta aq aK aJ br ai wR dV fp
  rintro id ttl - -
  (repeat (refine cL ?_;repeat refine cK ?_))
  rw[yq];simp[lv,ic,and_assoc]
theorem R5:aC 297 aw2.spec:=aF Tryz.func297 aD aU bq8
def aS6:Ct:=⟨[.val dw,.val dw,.val cI,.val cI,.val cI,.val (.sl bm)],[.own 5 bm,.val cI],λd=>[(be d.2.2.2.2.2.1:Int)<=1073741824],λd=>((gM (kR d.1 d.2.1 d.2.2.1 d.2.2.2.1 d.2.2.2.2.1 d.2.2.2.2.2.1),jh (kR d.1 d.2.1 d.2.2.1 d.2.2.2.1 d.2.2.2.2.1 d.2.2.2.2.2.1),()),())⟩
theorem bV5:
 ∀(a b c d e:Int)(f:ad),aO a/\aO b/\bG c d (aq e) (ai (aQ f))->fA f->fA f/\gM ((0,d,e,c,bZ6,a,b),f)=gM (kR a b c d e f)/\jh ((0,d,e,c,bZ6,a,b),f)=jh (kR a b c d e f):= by
  delta ac aq aK aQ aO bG fA ai
  rintro s d p i t data-hl
  exact⟨hl,rfl,rfl⟩
theorem TL:aC 299 aS6.spec:=aF Tryz.func299 (ap aD P4) aU bV5
def aA1:Ct:=⟨[.val (.sl bm),.val dw,.val cI,.val cI,.val cI,.val cI],[.own 5 bm,.val cI],λd=>[(be d.1:Int)<=1099511627776],λd=>((kU d.1 d.2.1 d.2.2.1 d.2.2.2.1 d.2.2.2.2.1 d.2.2.2.2.2.1,iW d.1 d.2.2.1 d.2.2.2.1 d.2.2.2.2.1 d.2.2.2.2.2.1,()),())⟩
theorem bx8:
 ∀(a:ad)(b c d e f:Int),aQ a/\aO b/\bG c d (aq e) (ai (aq f))->aT a-> ∀(g:Bool),g=cP c 11->(g->aJ g)/\(g->g)/\ ∀(h:Bool),h=br g (cP c 3)->bR h/\bv h/\ ∀(i:Bool),sk i h (dH d) (bv i) (∀(j:Bool),j=bq i (ax 255 d)->gq j/\jE j (bq j ( !bZ2 (lv e f))) (fw (kU a b c d e f)/\1=iW a c d e f) (aT a/\ ∀(k:ny)(l:Bool),k=wa a/\l=bZ2 (fJ a)->ar ( !l) (fw (kU a b c d e f)/\17=iW a c d e f) (bt 0 28 (28<=ac a) (fA (fU a 0 28)/\ ∀(m:ad)(n:Int),m=j9 (c,d,fU a 0 28)/\n=lF (c,d,fU a 0 28)->ar ( !aV n) (fw (kU a b c d e f)/\n=iW a c d e f) (fA m/\gM (kR b k.1.2.2.2.2.2.1 1 e f m)=kU a b c d e f/\jh (kR b k.1.2.2.2.2.2.1 1 e f m)=iW a c d e f))))):= by
  delta ac aq aK aQ bR aJ aO bG aT bq br am bv gq aV fU sk fA bt ai jE dA cP dH ax fw
  rintro b src kind code id ttl ⟨⟨-,hb⟩,-⟩ hl
  (repeat (refine cL ?_;repeat refine cK ?_))
  by_cases c:yM kind code id ttl
  rotate_left
  .refine aw (λ_=>bn1 c) (λh=>absurd ?_ c)
   by_cases i:lv id ttl
   .rw[ft i] at h
    refine⟨?_,?_,i⟩ <;> simp[ic] at h <;> omega
   .simp_all
  have f:=c
  have ⟨g1,g2,g3⟩:=f
  refine aw (λh=>?_) (λ_=>⟨hl,?_⟩)
  .grind
  rintro d e ⟨rfl,rfl⟩
  refine aw (λh=>aT0 c (by simpa using h)) (λh=>?_)
  have g:fJ b:=by simpa using h
  have a:=Ij (src:=src) c g
  obtain⟨-,h28,-⟩:=ur g
  rw[Tn g,bz8]
  refine⟨ab,ab,ab,by rw[eM];omega,?_⟩
  rintro n e ⟨rfl,rfl⟩
  rw[a.2.2.1]
  have:=MQ (kind,code,b.take 28)
  refine⟨ab,a.2.1.symm,?_⟩
  rw[a.1];exact a.2.2.2
theorem UY:aC 301 aA1.spec:=aF Tryz.func301 (ap (ap (ap (ap aD R5) (Ct.named VJ)) (Ct.named az7)) TL) aU bx8
def bz5:Ct:=⟨[.val (.sl bm),.val dw,.val cI,.val cI],[.own 5 bm,.val cI],λd=>[(be d.1:Int)<=1099511627776],λd=>((lS d.1 d.2.1 d.2.2.1 d.2.2.2.1,jd d.1 d.2.2.1 d.2.2.2.1,()),())⟩
def CB(a:ad)(b c d:Int):=fw (lS a b c d)/\17=jd a c d
def pI(a:Prop)(b:Int)(c d:Prop):=∀(e:Int),a/\e=b->ar ( !aV e) c d
def LZ(a:ad)(b c d e f:Int)(g:ad):=fA a/\gM (kR b c d e f a)=lS g b e f/\jh (kR b c d e f a)=jd g e f
theorem bB5:
 ∀(a:ad)(b c d:Int),aQ a/\aO b/\dV c d->aT a->ar ( !bZ2 (lv c d)) (fw (lS a b c d)/\1=jd a c d) (aT a/\ ∀(e:ny)(f:Bool),e=wa a/\f=bZ2 (fJ a)->ar ( !f) (CB a b c d) (ar (iN e.1.2.2.2.1) (bV e.2/\ ∀(g:Bool)(h i:Int)(j:ad),pI ((g,h,i,j)=gT e.2) (lm e.2) (CB a b c d) (fA j/\ ∀(k:ad),qp (k=gD (bZ3,h,i,j)) (oh (bZ3,h,i,j)) (LZ k b e.1.2.2.2.2.2.1 e.1.2.2.2.1 c d a))) (ar (bZ2 (e.1.2.2.2.1=17)) (bV e.2/\ ∀(g h:Int)(i:ad),pI ((g,h,i)=uz e.1.2.2.2.2.2.1 e.1.2.2.2.2.2.2 e.2) (mn e.1.2.2.2.2.2.1 e.1.2.2.2.2.2.2 e.2) (CB a b c d) (aT a/\kU a b 3 3 c d=lS a b c d/\iW a 3 3 c d=jd a c d)) (ar (bZ2 (e.1.2.2.2.1=6)) (bV e.2/\ ∀(g:mJ)(h:Int),g=gn e.1.2.2.2.2.2.1 e.1.2.2.2.2.2.2 e.2/\h=kV e.1.2.2.2.2.2.1 e.1.2.2.2.2.2.2 e.2-> ∀(i:Bool),i=( !aV
 h)->cV i (bR i) (bv i/\qS (bq i (aV (bits cc6 bZ4 g.2.2.2.2.1 2))) ( !aV (bits cc6 bZ4 g.2.2.2.2.1 4)) (CB a b c d) ((↑((0:Nat)):Int)<=1000000/\ ∀(j:ad),qp (j=gQ b e.1.2.2.2.2.2.1 (g.2.1,g.1,0,bits cc6 bZ4 (ao (g.2.2.1+1)) 4294967295,20,fL)) (pA (g.2.1,g.1,0,bits cc6 bZ4 (ao (g.2.2.1+1)) 4294967295,20,fL)) (LZ j b e.1.2.2.2.2.2.1 e.1.2.2.2.1 c d a)))) (CB a b c d))))):= by
  delta ac ao aq aK aQ bR aJ aO aT bq cV bv aV bV fA ai qS fL dV CB pI iN LZ qp fw
  rintro b src id ttl ⟨⟨-,hb⟩,-⟩ y
  by_cases c:lv id ttl
  rotate_left
  .exact aw (λ_=>bk1 c) (λh=>absurd (by simpa using h) c)
  refine aw (λh=>by simp[c] at h) (λ_=>⟨y,?_⟩)
  rintro _ _ ⟨rfl,rfl⟩
  refine aw (λh=>EZ c (λk=>?_)) (λh=>?_)
  .have:=k.1;simp[this] at h
  have l:fJ b:=by simpa using h
  obtain⟨u,h28,hp1,hp6,-⟩:=ur l
  have hdl:=DB u
  rw[Tn l]
  have v:bytes (b.drop 20):=yx hb
  have hdr:be (b.drop 20)<=1480:=by rw[gw];omega
  refine aw (λf=>?_) (λf=>aw (λa=>?_) (λa=>aw (λg=>?_) (λg=>?_)))
  .have f:fi b=1:=aX f
   refine⟨by show (be (b.drop 20):Int)<=_;omega,?_⟩
   rintro r i q n e ⟨z,rfl⟩
   refine aw (λh=>?_) (λh=>?_)
   .refine EZ c (λk=>?_)
    obtain⟨-,⟨-,k⟩|⟨k,-⟩|⟨k,-⟩⟩:=k
    .simp[k] at h
    .omega
    .omega
   have h:lm (b.drop 20)=0:=by simpa using h
   have hh:=J2 (src:=src) c l f h
   have hlen:=Xc (b.drop 20)
   have A:(i,q,n)=(gT (b.drop 20)).2:=dP Prod.snd z
   have e3:n=(gT (b.drop 20)).2.2.2:=by rw[← A]
   refine⟨by rw[e3];omega,?_⟩
   rintro o e ⟨rfl,rfl⟩
   rw[show ((bZ3,i,q,n):qN)=(bZ3,(i,q,n)) from rfl,A]
   have j:=at2 (bZ3,(gT (b.drop 20)).2)
   refine⟨ab,?_,?_⟩
   .rw[hh.1,← f];rfl
   .rw[hh.2];exact Eg c (by have:=f;unfold fi at this;simp only;omega) j
  .have f:=bg f
   have a:fi b=17:=aX a
   refine⟨by show (be (b.drop 20):Int)<=_;omega,?_⟩
   rintro sp dp n e ⟨z,rfl⟩
   refine aw (λh=>?_) (λh=>?_)
   .refine EZ c (λk=>?_)
    obtain⟨-,⟨k,-⟩|⟨-,k⟩|⟨k,-⟩⟩:=k
    .omega
    .have k:mn (cB b).2.2.2.2.2.1 (cB b).2.2.2.2.2.2 (b.drop 20)=0:=k
     simp[k] at h
    .omega
   have h:mn (dF b) (gV b) (b.drop 20)=0:=by
    have:mn (cB b).2.2.2.2.2.1 (cB b).2.2.2.2.2.2 (b.drop 20)=0:=by simpa using h
    exact this
   have hh:=IH (src:=src) c l a h
   exact⟨y,hh.1.symm,by rw[hh.2,NK c l]⟩
  .have f:=bg f
   have g:fi b=6:=aX g
   refine⟨by show (be (b.drop 20):Int)<=_;omega,?_⟩
   rintro t e ⟨m,rfl⟩
   have m:t=gn (dF b) (gV b) (b.drop 20):=m
   have hr:=WW (s:=dF b) (d:=gV b) v
   rw[← m] at hr
   have ee:kV (cB b).2.2.2.2.2.1 (cB b).2.2.2.2.2.2 (b.drop 20)=kV (dF b) (gV b) (b.drop 20):=rfl
   rw[ee]
   (repeat (refine cL ?_;repeat refine cK ?_))
   refine aw (λh=>?_) (λh=>?_)
   .refine EZ c (λk=>?_)
    obtain⟨-,⟨k,-⟩|⟨k,-⟩|⟨-,p,w,B⟩⟩:=k
    .omega
    .omega
    .simp_all
   have p:kV (dF b) (gV b) (b.drop 20)=0:=jn λk=>by simp[k] at h
   have w:bits .and .i64 t.2.2.2.2.1 2≠0:=λk=>by simp[p,k] at h
   have B:bits .and .i64 t.2.2.2.2.1 4=0:=jn λk=>by simp[p,w,k] at h
   have hh:=Ki (src:=src) c l g p (by rw[← m];exact w) (by rw[← m];exact B)
   refine⟨az,?_⟩
   rintro o e ⟨rfl,rfl⟩
   rw[aG ab ab,ZN]
   have j:=bL2 src (dF b) (ou t)
   refine⟨by show (be (gQ src (dF b) (ou t)):Int)<=_;omega,?_,?_⟩
   .rw[hh.1,← m,← g];rfl
   .rw[hh.2];exact Eg c (by have:=g;unfold fi at this;simp only;omega) j
  .have f:=bg f
   have a:=bg a
   have g:=bg g
   refine EZ c (λk=>?_)
   obtain⟨-,⟨k,-⟩|⟨k,-⟩|⟨k,-⟩⟩:=k
   .exact f k
   .exact a k
   .exact g k
theorem bO7:aC 272 bz5.spec:=aF Tryz.func272 (ap (ap (ap (ap (ap (ap (ap (ap (ap aD R5) (Ct.named VJ)) (Ct.named UW)) (Ct.named XJ)) (Ct.named aW0)) (Ct.named Zr)) (Ct.named Zt)) UY) TL) aU bB5
def ZB:Ct:=⟨[.val (.sl bm),.val cI,.val cI],[.val cI],λd=>[(be d.1:Int)<=1099511627776],λd=>((bI d.1 d.2.1 d.2.2.1,()),())⟩
theorem bX2:
 ∀(a:ad)(b c:Int),aQ a/\dV b c->aT a->aK (ac a)/\bI a b c=bI a b c:= by
  delta ac aq aK aQ aT ai dV
  grind
theorem Rg:aC 235 ZB.spec:=aF Tryz.func235 (ap aD Dg) aU bX2
def ak5:Ct:=⟨[.val (.sl bm)],[.agg sF,.val .bool],λd=>[(be d.1:Int)<=1000000],λd=>(((oR d.1).1,(oR d.1).2,()),())⟩
def D4(a:Bool)(b c:Int)(d:bY2)(e:ad)(f:Int):=fq a a a ((b,c,d)=(oR e).1) (br a (aV f)=(oR e).2)
def vv(a:Bool)(b c d:Int)(e:Int×Int×Int)(f:ad)(g:bo):=(a->bZ6)/\ ∀(h:Bool),h=br a bZ6->D4 h b c (d,e) f (cT g)
def EI(a:Bool)(b:ad)(c d e:Int)(f:bY2)(g:Int):=(a->a)/\aT (i9 b)/\ ∀(h:Int),h=bI (i9 b) 6 2->cj a a (aJ a) (a->a) (∀(i:Bool),i=jm a h c->D4 i d e f b g)
def Fe(a:Bool)(b:ad)(c d e:Int)(f:bY2)(g:Int):=(a->a)/\aT (i9 b)/\ ∀(h:Int),h=bI (i9 b) 6 2->fq a a (aJ a) (a->a) (∀(i:Bool),i=jm a h c->D4 i d e f b g)
def kz(a b c:Int):=(ao (a -20000),b,c)
def nA:=((0:Int),(0:Int),(0:Int),(0:Int),(0:Int),(0:Int))
def pE(a b c:Int):=(ao (a -16384),b,c)
def Pw(a:Bool)(b:ad)(c d e:Int)(f:bY2)(g:Int):=(a->a)/\aT (i9 b)/\ ∀(h:Int),h=bI (i9 b) 4 4->cj a a (aJ a) (a->a) (∀(i:Bool),i=jm a h c->D4 i d e f b g)
theorem bn2:
 ∀(a:ad),ai (aQ a)->bV a->aT a/\ ∀(b:dK)(c d:Int),b=sI a/\c=qX a/\d=iT a->CU ( !aV d) (cP (ac a) 28) ( !aV b.1) ( !b.2.2.2.2.1) (nA=(oR a).1/\bZ6=(oR a).2) (bt 20 (ac a) (ph a) (ar (iN b.2.2.2.1) (aT (i9 a)/\ ∀(e:Int),e=bI (i9 a) 2 2-> ∀(f:Bool),f=bZ2 (c=30)->pg f f (aT (i9 a)) (∀(g:Int),g=bI (i9 a) 0 2->(f->f)/\ ∀(h:Bool),h=jm f g 2048->pg h h (aT (i9 a)) (∀(i:Int),i=bI (i9 a) 4 2->(h->h)/\ ∀(j:Bool),j=jm h i 21075->ar j (EI j a b.2.1 b.2.2.2.2.2.1 b.2.2.2.2.2.2 (b.2.2.2.1,pE e b.2.1 b.2.2.1) (cT (b.2.2.2.2.2.1,b.2.2.2.2.2.2,b.2.2.2.1,pE e b.2.1 b.2.2.1))) ((j->aJ j)/\j=bZ6/\vv j b.2.2.2.2.2.1 b.2.2.2.2.2.2 b.2.2.2.1 (pE e b.2.1 b.2.2.1) a (b.2.2.2.2.2.1,b.2.2.2.2.2.2,b.2.2.2.1,pE e b.2.1 b.2.2.1))) (h->bZ6) (∀(i:Bool),i=br h bZ6->ar i (EI i a b.2.1
 b.2.2.2.2.2.1 b.2.2.2.2.2.2 (b.2.2.2.1,pE e b.2.1 b.2.2.1) (cT (b.2.2.2.2.2.1,b.2.2.2.2.2.2,b.2.2.2.1,pE e b.2.1 b.2.2.1))) ((i->aJ i)/\i=bZ6/\vv i b.2.2.2.2.2.1 b.2.2.2.2.2.2 b.2.2.2.1 (pE e b.2.1 b.2.2.1) a (b.2.2.2.2.2.1,b.2.2.2.2.2.2,b.2.2.2.1,pE e b.2.1 b.2.2.1)))) (f->bZ6) (∀(g:Bool),g=br f bZ6->pg g g (aT (i9 a)) (∀(h:Int),h=bI (i9 a) 4 2->(g->g)/\ ∀(i:Bool),i=jm g h 21075->ar i (EI i a b.2.1 b.2.2.2.2.2.1 b.2.2.2.2.2.2 (b.2.2.2.1,pE e b.2.1 b.2.2.1) (cT (b.2.2.2.2.2.1,b.2.2.2.2.2.2,b.2.2.2.1,pE e b.2.1 b.2.2.1))) ((i->aJ i)/\i=bZ6/\vv i b.2.2.2.2.2.1 b.2.2.2.2.2.2 b.2.2.2.1 (pE e b.2.1 b.2.2.1) a (b.2.2.2.2.2.1,b.2.2.2.2.2.2,b.2.2.2.1,pE e b.2.1 b.2.2.1))) (g->bZ6) (∀(h:Bool),h=br g bZ6->ar h (EI h a b.2.1 b.2.2.2.2.2.1 b.2.2.2.2.2.2 (b.2.2.2.1,pE e b.2.1 b.2.2.1) (cT
 (b.2.2.2.2.2.1,b.2.2.2.2.2.2,b.2.2.2.1,pE e b.2.1 b.2.2.1))) ((h->aJ h)/\h=bZ6/\vv h b.2.2.2.2.2.1 b.2.2.2.2.2.2 b.2.2.2.1 (pE e b.2.1 b.2.2.1) a (b.2.2.2.2.2.1,b.2.2.2.2.2.2,b.2.2.2.1,pE e b.2.1 b.2.2.1))))) (ar (bZ2 (b.2.2.2.1=17)) (aT (i9 a)/\ ∀(e:Int),e=bI (i9 a) 0 2-> ∀(f:Bool),f=bZ2 (c=30)->pg f f (aT (i9 a)) (∀(g:Int),g=bI (i9 a) 2 2->(f->f)/\ ∀(h:Bool),h=jm f g 33434->ar h ((h->h)/\aT (i9 a)/\ ∀(i:Int),i=bI (i9 a) 4 2->cj h h (aJ h) (h->h) (∀(j:Bool),j=jm h i (ao (c -20))->ar j (Fe j a (ao (b.2.1+1)) b.2.2.2.2.2.1 b.2.2.2.2.2.2 (b.2.2.2.1,kz e b.2.1 b.2.2.1) (cT (b.2.2.2.2.2.1,b.2.2.2.2.2.2,b.2.2.2.1,kz e b.2.1 b.2.2.1))) (cj j j (aJ j) (j=bZ6) (vv j b.2.2.2.2.2.1 b.2.2.2.2.2.2 b.2.2.2.1 (kz e b.2.1 b.2.2.1) a (b.2.2.2.2.2.1,b.2.2.2.2.2.2,b.2.2.2.1,kz e b.2.1 b.2.2.1))))) ((h->aJ
 h)/\h=bZ6/\(h->bZ6)/\ ∀(i:Bool),i=br h bZ6->ar i (Fe i a (ao (b.2.1+1)) b.2.2.2.2.2.1 b.2.2.2.2.2.2 (b.2.2.2.1,kz e b.2.1 b.2.2.1) (cT (b.2.2.2.2.2.1,b.2.2.2.2.2.2,b.2.2.2.1,kz e b.2.1 b.2.2.1))) (cj i i (aJ i) (i=bZ6) (vv i b.2.2.2.2.2.1 b.2.2.2.2.2.2 b.2.2.2.1 (kz e b.2.1 b.2.2.1) a (b.2.2.2.2.2.1,b.2.2.2.2.2.2,b.2.2.2.1,kz e b.2.1 b.2.2.1))))) (f->bZ6) (∀(g:Bool),g=br f bZ6->ar g ((g->g)/\aT (i9 a)/\ ∀(h:Int),h=bI (i9 a) 4 2->cj g g (aJ g) (g->g) (∀(i:Bool),i=jm g h (ao (c -20))->ar i (Fe i a (ao (b.2.1+1)) b.2.2.2.2.2.1 b.2.2.2.2.2.2 (b.2.2.2.1,kz e b.2.1 b.2.2.1) (cT (b.2.2.2.2.2.1,b.2.2.2.2.2.2,b.2.2.2.1,kz e b.2.1 b.2.2.1))) (cj i i (aJ i) (i=bZ6) (vv i b.2.2.2.2.2.1 b.2.2.2.2.2.2 b.2.2.2.1 (kz e b.2.1 b.2.2.1) a (b.2.2.2.2.2.1,b.2.2.2.2.2.2,b.2.2.2.1,kz e b.2.1 b.2.2.1))))) ((g->aJ
 g)/\g=bZ6/\(g->bZ6)/\ ∀(h:Bool),h=br g bZ6->ar h (Fe h a (ao (b.2.1+1)) b.2.2.2.2.2.1 b.2.2.2.2.2.2 (b.2.2.2.1,kz e b.2.1 b.2.2.1) (cT (b.2.2.2.2.2.1,b.2.2.2.2.2.2,b.2.2.2.1,kz e b.2.1 b.2.2.1))) (cj h h (aJ h) (h=bZ6) (vv h b.2.2.2.2.2.1 b.2.2.2.2.2.2 b.2.2.2.1 (kz e b.2.1 b.2.2.1) a (b.2.2.2.2.2.1,b.2.2.2.2.2.2,b.2.2.2.1,kz e b.2.1 b.2.2.1)))))) (ar (bZ2 (b.2.2.2.1=6)) (aT (i9 a)/\ ∀(e:Int),e=bI (i9 a) 0 2-> ∀(f:Bool),f=bZ2 (c=40)->pg f f (aT (i9 a)) (∀(g:Int),g=bI (i9 a) 2 2->(f->f)/\ ∀(h:Bool),h=jm f g 80->ar h (Pw h a b.2.1 b.2.2.2.2.2.1 b.2.2.2.2.2.2 (b.2.2.2.1,kz e b.2.1 b.2.2.1) (cT (b.2.2.2.2.2.1,b.2.2.2.2.2.2,b.2.2.2.1,kz e b.2.1 b.2.2.1))) ((h->aJ h)/\h=bZ6/\vv h b.2.2.2.2.2.1 b.2.2.2.2.2.2 b.2.2.2.1 (kz e b.2.1 b.2.2.1) a (b.2.2.2.2.2.1,b.2.2.2.2.2.2,b.2.2.2.1,kz e b.2.1
 b.2.2.1))) (f->bZ6) (∀(g:Bool),g=br f bZ6->ar g (Pw g a b.2.1 b.2.2.2.2.2.1 b.2.2.2.2.2.2 (b.2.2.2.1,kz e b.2.1 b.2.2.1) (cT (b.2.2.2.2.2.1,b.2.2.2.2.2.2,b.2.2.2.1,kz e b.2.1 b.2.2.1))) ((g->aJ g)/\g=bZ6/\vv g b.2.2.2.2.2.1 b.2.2.2.2.2.2 b.2.2.2.1 (kz e b.2.1 b.2.2.1) a (b.2.2.2.2.2.1,b.2.2.2.2.2.2,b.2.2.2.1,kz e b.2.1 b.2.2.1)))) (∀(e:Bool),e=bZ6->D4 e b.2.2.2.2.2.1 b.2.2.2.2.2.2 (b.2.2.2.1,0,b.2.1,b.2.2.1) a (cT (b.2.2.2.2.2.1,b.2.2.2.2.2.2,b.2.2.2.1,0,b.2.1,b.2.2.1))))))):= by
  delta ac ao aQ bR aJ aT cj bq br D4 i9 cV am bv aV fU bV lC fq vv bt ai EI Fe kz nA CU pg cP pE Pw jm iN ph
  rintro b ⟨⟨-,hb⟩,-⟩ hl
  refine⟨ab,?_⟩
  rintro d n e ⟨rfl,rfl,rfl⟩
  (repeat (refine cL ?_;repeat refine cK ?_))
  refine aw (λh=>?_) (λh=>?_)
  .rw[oR,ah]
   .exact⟨rfl,rfl⟩
   rintro⟨k1,k2,k3,k4⟩
   rw[sI,aj k1] at h;simp[k1,k2,k3,k4] at h
  have k1:iT b=0:=jn λk=>by simp[k] at h
  rw[sI,aj k1] at h ⊢
  have hq:Gt b:=by
   simp[ic,k1] at h
   exact⟨k1,by have:=h.1.1;omega,h.1.2,h.2⟩
  clear h
  obtain⟨-,h28,-,-⟩:=id hq
  have hs:bY b (it 20) (it (be b:Int))=b.drop 20:=Bp b 20
  have hdl:(be (b.drop 20):Int)=8:=by rw[gw];omega
  have wd:∀ i,aR (b.drop 20) i=aR b (20+i):=λi=>by unfold aR;rw[cj8]
  have g0:bI (b.drop 20) 0 2=aR b 20:=by rw[tO ab ab,wd];rfl
  have g2:bI (b.drop 20) 2 2=aR b 22:=by rw[tO ab ab,wd];rfl
  have g4:bI (b.drop 20) 4 2=aR b 24:=by rw[tO ab ab,wd];rfl
  have g6:bI (b.drop 20) 6 2=aR b 26:=by rw[tO ab ab,wd];rfl
  have g44:bI (b.drop 20) 4 4=gP ((b.drop 24).take 4):=by rw[Nf ab ab,cj8];rfl
  have w20:=rI hb 20
  have w22:=rI hb 22
  have hid:=rI hb 4
  have hlen:=rI hb 2
  have eid:(cB b).2.1=aR b 4:=rfl
  rw[oR,aj hq,hs,qX,aj k1,g0,g2,g4,g6,g44]
  have le1:(be (b.drop 20):Int)<=1099511627776:=ab
  have e22:bZ4.wrap (aR b 22-16384)=aR b 22-16384:=aG ab ab
  have e20:bZ4.wrap (aR b 20-20000)=aR b 20-20000:=aG ab ab
  have e2:bZ4.wrap (aR b 2-20)=aR b 2-20:=aG ab ab
  have e1:bZ4.wrap ((cB b).2.1+1)=(cB b).2.1+1:=aG (by rw[eid];omega) (by rw[eid];omega)
  refine⟨ab,ab,ab,?_⟩
  have ep:(cB b).2.2.2.1=fi b:=rfl
  rw[ep]
  refine aw (λh1=>?_) (λh1=>aw (λh17=>?_) (λh17=>aw (λh6=>?_) (λh6=>?_)))
  .have h1:=aX h1
   have eP:uO b=((cB b).2.2.2.2.2.1,(cB b).2.2.2.2.2.2,fi b,aR b 22-16384,(cB b).2.1,(cB b).2.2.1):=by
    rw[uO,Bb,aj h1];rfl
   have eR:tG b↔(aR b 2=30/\aR b 20=2048/\aR b 24=21075/\aR b 26=(cB b).2.1):=by
    unfold tG;simp[h1]
   refine⟨le1,?_⟩
   rintro _ rfl
   rw[eP,e22]
   simp only[eR]
   by_cases c1:aR b 2=30 <;> by_cases c2:aR b 20=2048 <;> by_cases c3:aR b 24=21075 <;> by_cases c4:aR b 26=(cB b).2.1 <;> simp[ar,c1,c2,c3,c4,h28]
  .have h1:=bg h1
   have h17:=aX h17
   have eP:uO b=((cB b).2.2.2.2.2.1,(cB b).2.2.2.2.2.2,fi b,aR b 20-20000,(cB b).2.1,(cB b).2.2.1):=by
    rw[uO,Bb,ah h1,aj (.inl h17)];rfl
   have eR:tG b↔(aR b 2=30/\aR b 22=33434/\aR b 24=aR b 2-20/\aR b 26=(cB b).2.1+1):=by
    unfold tG;simp[h17]
   refine⟨le1,?_⟩
   rintro _ rfl
   rw[eP,e20]
   simp only[eR]
   by_cases c1:aR b 2=30 <;> by_cases c2:aR b 22=33434 <;> by_cases c3:aR b 24=10 <;> by_cases c4:aR b 26=(cB b).2.1+1 <;> simp[ar,c1,c2,c3,c4,h28,e1,e2,show bZ4.wrap 10=10 from rfl]
  .have h1:=bg h1
   have h17:=bg h17
   have h6:=aX h6
   have eP:uO b=((cB b).2.2.2.2.2.1,(cB b).2.2.2.2.2.2,fi b,aR b 20-20000,(cB b).2.1,(cB b).2.2.1):=by
    rw[uO,Bb,ah h1,aj (.inr h6)];rfl
   have eR:tG b↔(aR b 2=40/\aR b 22=80/\gP ((b.drop 24).take 4)=(cB b).2.1):=by
    unfold tG;simp[h6]
   refine⟨le1,?_⟩
   rintro _ rfl
   rw[eP,e20]
   simp only[eR]
   by_cases c1:aR b 2=40 <;> by_cases c2:aR b 22=80 <;> by_cases c3:gP ((b.drop 24).take 4)=(cB b).2.1 <;> simp[ar,c1,c2,c3,h28]
  .have h1:=bg h1
   have h17:=bg h17
   have h6:=bg h6
   have eP:uO b=((cB b).2.2.2.2.2.1,(cB b).2.2.2.2.2.2,fi b,0,(cB b).2.1,(cB b).2.2.1):=by
    rw[uO,Bb,ah h1,ah ab];rfl
   have eR:¬ tG b:=by
    unfold tG;simp[h1,h17,h6]
   rw[eP]
   simp[eR]
theorem br5:aC 237 ak5.spec:=aF Tryz.func237 (ap (ap (ap aD (Ct.named Rx)) (Ct.named Rg)) HF) aU bn2
def a87:Ct:=⟨[.agg pC,.val (.sl bm)],[.agg sF,.agg Dm,.val .bool],λd=>[(be d.2.1:Int)<=1000000],λd=>(((lW d.1.2.2.2.2.2.2 d.2.1).1,(lW d.1.2.2.2.2.2.2 d.2.1).2.1,(lW d.1.2.2.2.2.2.2 d.2.1).2.2,()),())⟩
def IM(a:Bool)(b c:Prop)(d e:Int)(f:Bool):=∀(g:Bool),g=a->fq g g (dA g) (g->g) (b/\c/\jm g d e=f)
theorem ah3:
 ∀(a:dK)(b:ad),CT.wf pC a/\ai (aQ b)->bV b->bV b/\ ∀(c d:Int)(e:ad),pI ((c,d,e)=mB b) (nh b) (nA=(lW a.2.2.2.2.2.2 b).1/\nA=(lW a.2.2.2.2.2.2 b).2.1/\bZ6=(lW a.2.2.2.2.2.2 b).2.2) (bV e/\ ∀(f g h i j k:Int)(l:Bool),(f,g,h,i,j,k)=(oR e).1/\l=(oR e).2->ar (bZ2 (c=11)) (IM l ((f,g,h,i,j,0)=(lW a.2.2.2.2.2.2 b).1) ((0,1,d,0,0,k)=(lW a.2.2.2.2.2.2 b).2.1) f a.2.2.2.2.2.2 (lW a.2.2.2.2.2.2 b).2.2) (ar (bZ2 (d=3)) (IM l ((f,g,h,i,j,0)=(lW a.2.2.2.2.2.2 b).1) ((0,3,d,0,0,k)=(lW a.2.2.2.2.2.2 b).2.1) f a.2.2.2.2.2.2 (lW a.2.2.2.2.2.2 b).2.2) (IM l ((f,g,h,i,j,0)=(lW a.2.2.2.2.2.2 b).1) ((0,5,d,0,0,k)=(lW a.2.2.2.2.2.2 b).2.1) f a.2.2.2.2.2.2 (lW a.2.2.2.2.2.2 b).2.2))):= by
  delta ac aQ aJ cj br aV bV fq ai nA dA pI jm IM
  rintro h b ⟨-,⟨-,hb⟩,-⟩ hl
  refine⟨hl,?_⟩
  rintro ty code q e ⟨g,rfl⟩
  refine aw (λc=>?_) (λc=>?_)
  .have c:¬ nh b=0:=by simpa using c
   rw[lW,ah c];exact⟨rfl,rfl,rfl⟩
  have c:nh b=0:=by simpa using c
  have a:=aU3 b
  rw[lW,aj c,← g]
  rw[← g] at a
  refine⟨by simp only at a;omega,?_⟩
  rintro s d p f t l ok ⟨hp,rfl⟩
  rw[← hp]
  simp only[tX,vP]
  refine aw (λh1=>?_) (λh1=>aw (λh3=>?_) (λh3=>?_))
  .simp_all
  .simp_all
  .simp_all
theorem a81:aC 189 a87.spec:=aF Tryz.func189 (ap (ap aD (Ct.named bq0)) (Ct.named br5)) aU ah3
def bM8:Ct:=⟨[.agg pC,.val (.sl bm)],[.agg sF,.agg Dm,.val .bool],λd=>[(be d.2.1:Int)<=1000000],λd=>(((o4 d.1.2.2.2.2.2.1 d.1.2.2.2.2.2.2 d.2.1).1,(o4 d.1.2.2.2.2.2.1 d.1.2.2.2.2.2.2 d.2.1).2.1,(o4 d.1.2.2.2.2.2.1 d.1.2.2.2.2.2.2 d.2.1).2.2,()),())⟩
theorem bh1:
 ∀(a:dK)(b:ad),CT.wf pC a/\ai (aQ b)->bV b->bV b/\ ∀(c:Bool)(d e:Int)(f:ad)(g:Int),(c,d,e,f)=gT b/\g=lm b-> ∀(h:Bool),h=( !aV g)->cV h (bv h) (∀(i:Bool),i=bq h ( !c)->cV i (bv i) (qS (bq i (cP d 21075)) (cP (ac f) 2) (nA=(o4 a.2.2.2.2.2.1 a.2.2.2.2.2.2 b).1/\nA=(o4 a.2.2.2.2.2.1 a.2.2.2.2.2.2 b).2.1/\bZ6=(o4 a.2.2.2.2.2.1 a.2.2.2.2.2.2 b).2.2) (aT b/\ ∀(j:Int),j=bI b 2 2->(a.2.2.2.2.2.2,a.2.2.2.2.2.1,1,ao (j -18432),e,0)=(o4 a.2.2.2.2.2.1 a.2.2.2.2.2.2 b).1/\(0,2,0,0,0,0)=(o4 a.2.2.2.2.2.1 a.2.2.2.2.2.2 b).2.1/\bZ3=(o4 a.2.2.2.2.2.1 a.2.2.2.2.2.2 b).2.2))):= by
  delta ac ao aQ bR aJ aT bq cV bv aV bV ai qS nA cP
  rintro h b ⟨-,⟨-,hb⟩,-⟩ hl
  refine⟨hl,?_⟩
  rintro r i q dt e ⟨c,rfl⟩
  (repeat (intro (b_:Bool) (a:b_=_);(repeat refine⟨(by first|(simp +contextual;done)|(rw[a];omega)),?_⟩)));subst_vars
  refine aw (λk=>?_) (λk=>?_)
  .rw[o4,ah]
   .exact⟨rfl,rfl,rfl⟩
   .rintro⟨k1,k2,k3,k4⟩
    grind
  .have f:E0 b:=by
    simp[ic] at k
    refine⟨k.1.1.1,?_,?_,?_⟩ <;> rw[← c] <;> simp only
    .exact k.1.1.2
    .exact k.1.2
    .omega
   have h8:=(aT5 f.1).1
   have hw:=rI hb 2
   refine⟨ab,?_⟩
   rintro _ rfl
   rw[tO ab ab,show it 2=2 from rfl,aG ab ab,o4,aj f,← c]
   exact⟨rfl,rfl,rfl⟩
theorem aO4:aC 188 bM8.spec:=aF Tryz.func188 (ap (ap aD (Ct.named UW)) (Ct.named Rg)) aU bh1
def bJ7:Ct:=⟨[.agg pC,.val (.sl bm)],[.agg sF,.agg Dm,.val .bool],λd=>[(be d.2.1:Int)<=1000000],λd=>(((pz d.1.2.2.2.2.2.1 d.1.2.2.2.2.2.2 d.2.1).1,(pz d.1.2.2.2.2.2.1 d.1.2.2.2.2.2.2 d.2.1).2.1,(pz d.1.2.2.2.2.2.1 d.1.2.2.2.2.2.2 d.2.1).2.2,()),())⟩
theorem bO6:
 ∀(a:dK)(b:ad),CT.wf pC a/\ai (aQ b)->bV b->bV b/\ ∀(c:mJ)(d:Int),c=gn a.2.2.2.2.2.1 a.2.2.2.2.2.2 b/\d=kV a.2.2.2.2.2.1 a.2.2.2.2.2.2 b-> ∀(e:Bool),e=( !aV d)->cV e (bv e) (∀(f:Bool),f=bq e (cP c.1 80)->cV f (bv f) (∀(g:Bool),g=bq f ( !aV c.2.2.1)->cV g (bv g) (∀(h:Bool),h=bq g (cP c.2.2.2.2.1 20)->cV h (bv h) (qS (bq h ( !aV c.2.2.2.2.2.1)) (ax 0 (ac c.2.2.2.2.2.2)) (nA=(pz a.2.2.2.2.2.1 a.2.2.2.2.2.2 b).1/\nA=(pz a.2.2.2.2.2.1 a.2.2.2.2.2.2 b).2.1/\bZ6=(pz a.2.2.2.2.2.1 a.2.2.2.2.2.2 b).2.2) ((a.2.2.2.2.2.2,a.2.2.2.2.2.1,6,kz c.2.1 (ao (c.2.2.2.1 -1)) 0)=(pz a.2.2.2.2.2.1 a.2.2.2.2.2.2 b).1/\(0,4,0,0,0,0)=(pz a.2.2.2.2.2.1 a.2.2.2.2.2.2 b).2.1/\bZ3=(pz a.2.2.2.2.2.1 a.2.2.2.2.2.2 b).2.2))))):= by
  delta ac ao aQ bR aJ bq cV bv aV bV ai qS kz nA cP ax
  rintro h b ⟨-,⟨-,hb⟩,-⟩ hl
  refine⟨hl,?_⟩
  rintro t e ⟨ht,rfl⟩
  (repeat (intro (b_:Bool) (a:b_=_);(repeat refine⟨(by first|(simp +contextual;done)|(rw[a];omega)),?_⟩)));subst_vars
  refine aw (λk=>?_) (λk=>?_)
  .rw[pz,ah]
   .exact⟨rfl,rfl,rfl⟩
   .rintro⟨k1,k2,k3,k4,k5,k6⟩
    simp_all
  .have hg:Fw h.2.2.2.2.2.1 h.2.2.2.2.2.2 b:=by
    simp[ic] at k
    exact⟨k.1.1.1.1.1,k.1.1.1.1.2,k.1.1.1.2,k.1.1.2,k.1.2,k.2⟩
   have hr:=WW (s:=h.2.2.2.2.2.1) (d:=h.2.2.2.2.2.2) hb
   rw[aG ab ab,aG ab ab,pz,aj hg]
   exact⟨rfl,rfl,rfl⟩
theorem ac5:aC 190 bJ7.spec:=aF Tryz.func190 (ap aD (Ct.named Zr)) aU bO6
def bI9:Ct:=⟨[.val (.sl bm)],[.agg sF,.agg Dm,.val cI],λd=>[(be d.1:Int)<=1000000],λd=>(((fN d.1).1,(fN d.1).2,oU d.1,()),())⟩
def Dw(a:ad):=nA=(fN a).1/\nA=(fN a).2/\17=oU a
theorem aA7:
 ∀(a:ad),ai (aQ a)->bV a->aT a/\ ∀(b:ny),pI (b=cJ a) (dN a) (Dw a) (∀(c:Bool),c=iN b.1.2.2.2.1->fq c c (aJ c) (c->c) (∀(d:Bool),d=br c (ax 0 (ac b.2))->cj d d (qJ d (ac b.2)) (d->aJ d) ((d->aJ d)/\(d->d)/\ar (br d (aV (ae b.2 0))) (bV b.2/\ ∀(e f g h i j k l m n o p:Int)(q:Bool),(e,f,g,h,i,j)=(o4 b.1.2.2.2.2.2.1 b.1.2.2.2.2.2.2 b.2).1/\(k,l,m,n,o,p)=(o4 b.1.2.2.2.2.2.1 b.1.2.2.2.2.2.2 b.2).2.1/\q=(o4 b.1.2.2.2.2.2.1 b.1.2.2.2.2.2.2 b.2).2.2->lC ( !q) ( !aV (cT (e,f,g,h,i,1))) (Dw a) ((e,f,g,h,i,j)=(fN a).1/\(b.1.2.2.2.2.2.1,l,m,b.1.2.2.1,b.1.2.1,p)=(fN a).2/\0=oU a)) (ar (iN b.1.2.2.2.1) (bV b.2/\ ∀(e f g h i j k l m n o p:Int)(q:Bool),(e,f,g,h,i,j)=(lW b.1.2.2.2.2.2.2 b.2).1/\(k,l,m,n,o,p)=(lW b.1.2.2.2.2.2.2 b.2).2.1/\q=(lW b.1.2.2.2.2.2.2 b.2).2.2->lC ( !q) ( !aV
 (cT (e,f,g,h,i,1))) (Dw a) ((e,f,g,h,i,j)=(fN a).1/\(b.1.2.2.2.2.2.1,l,m,b.1.2.2.1,b.1.2.1,p)=(fN a).2/\0=oU a)) (ar (bZ2 (b.1.2.2.2.1=6)) (bV b.2/\ ∀(e f g h i j k l m n o p:Int)(q:Bool),(e,f,g,h,i,j)=(pz b.1.2.2.2.2.2.1 b.1.2.2.2.2.2.2 b.2).1/\(k,l,m,n,o,p)=(pz b.1.2.2.2.2.2.1 b.1.2.2.2.2.2.2 b.2).2.1/\q=(pz b.1.2.2.2.2.2.1 b.1.2.2.2.2.2.2 b.2).2.2->lC ( !q) ( !aV (cT (e,f,g,h,i,1))) (Dw a) ((e,f,g,h,i,j)=(fN a).1/\(b.1.2.2.2.2.2.1,l,m,b.1.2.2.1,b.1.2.1,p)=(fN a).2/\0=oU a)) (lC ( !bZ6) ( !bZ2 (cT (0,0,0,0,0,1)=0)) (Dw a) (nA=(fN a).1/\(b.1.2.2.2.2.2.1,0,0,b.1.2.2.1,b.1.2.1,0)=(fN a).2/\0=oU a))))))):= by
  delta ae ac aQ bR aJ aT cj bq br cV am bv aV bV lC fq ai Dw nA qJ pI ax iN
  rintro b ⟨⟨-,hb⟩,-⟩ hl
  refine⟨ab,?_⟩
  rintro d e ⟨rfl,rfl⟩
  have A:¬ BJ b->((0,0,0,0,0,0):bo)=(fN b).1/\((0,0,0,0,0,0):oE)=(fN b).2/\(17:Int)=oU b:=λk=>by
   rw[fN,oU,ah k,ah k];exact⟨rfl,rfl,rfl⟩
  refine aw (λh=>A (λk=>?_)) (λh=>?_)
  .simp[k.1] at h
  have h:dN b=0:=by simpa using h
  rw[cJ,aj h]
  have v:(be (b.drop 20):Int)<=1000000:=by rw[gw];omega
  have C:(cB b).2.2.2.1=fi b:=rfl
  have D:(cB b).2.2.2.2.2.1=dF b:=rfl
  have E:(cB b).2.2.2.2.2.2=gV b:=rfl
  simp only[C,D,E]
  have m:∀ r,r=kr b→∀(a c f i j n s o p t u q:Int)(ok:Bool),(a,c,f,i,j,n)=r.1/\(s,o,p,t,u,q)=r.2.1/\ok=r.2.2 →
    ar (bif !ok then bZ3 else !bZ2 (cT (a,c,f,i,j,1)=0)) (((0,0,0,0,0,0):bo)=(fN b).1/\((0,0,0,0,0,0):oE)=(fN b).2/\(17:Int)=oU b)
     (((a,c,f,i,j,n):bo)=(fN b).1/\((dF b,o,p,(cB b).2.2.1,(cB b).2.1,q):oE)=(fN b).2/\(0:Int)=oU b):=by
   rintro r rfl a c f i j n s o p t u q ok ⟨hp,ha,rfl⟩
   have F:tX (kr b).1 1=(a,c,f,i,j,1):=by rw[← hp];rfl
   refine aw (λk=>A (λg=>?_)) (λk=>?_)
   .have G:=g.2.2
    rw[F] at G
    simp[g.2.1,G] at k
   .have g:BJ b:=by
     simp[ic] at k
     exact⟨h,k.1,by rw[F];exact k.2⟩
    rw[fN,oU,aj g,aj g]
    grind
  (repeat (refine cL ?_;repeat refine cK ?_))
  refine aw (λB=>?_) (λB=>?_)
  .have c3:=jn λk=>by
    have k:¬ Om (b.drop 20) (it 0) Sk=0:=k
    rw[eT k] at B;simp at B
   simp[ic] at B
   have w:o4 (dF b) (gV b) (b.drop 20)=kr b:=by
    rw[kr,aj]
    grind
   refine⟨v,?_⟩
   rintro a c f i j n s o p t u q ok hh
   have:=m _ w a c f i j n s o p t u q ok hh
   (repeat (refine cL ?_;repeat refine cK ?_))
   exact this
  have y:¬ (fi b=1/\0<be (b.drop 20)/\Om (b.drop 20) 0 Sk=0):=by
   grind
  refine aw (λl=>?_) (λl=>aw (λz=>?_) (λz=>?_))
  .have l:=aX l
   have w:lW (gV b) (b.drop 20)=kr b:=by
    rw[kr,ah y,aj l]
   refine⟨v,?_⟩
   rintro a c f i j n s o p t u q ok hh
   have:=m _ w a c f i j n s o p t u q ok hh
   (repeat (refine cL ?_;repeat refine cK ?_))
   exact this
  .have l:=bg l
   have z:=aX z
   have w:pz (dF b) (gV b) (b.drop 20)=kr b:=by
    rw[kr,ah y,ah l,aj z]
   refine⟨v,?_⟩
   rintro a c f i j n s o p t u q ok hh
   have:=m _ w a c f i j n s o p t u q ok hh
   (repeat (refine cL ?_;repeat refine cK ?_))
   exact this
  .have l:=bg l
   have z:=bg z
   have w:C6=kr b:=by rw[kr,ah y,ah l,ah z]
   have:=m _ w 0 0 0 0 0 0 0 0 0 0 0 0 bZ6 ⟨rfl,rfl,rfl⟩
   (repeat (refine cL ?_;repeat refine cK ?_))
   exact this
theorem aP3:aC 128 bI9.spec:=aF Tryz.func128 (ap (ap (ap (ap (ap aD (Ct.named GZ)) (Ct.named aO4)) (Ct.named a81)) (Ct.named ac5)) HF) aU aA7
abbrev rk:CT := .pair sF (.pair cI (.pair cI (.pair .bool (.pair .bool (.pair cI Dm)))))
abbrev cU:CT := .pair cI (.pair cI (.pair cI (.pair cI (.pair dw (.pair cI (.pair cI (.pair cI (.pair .bool (.pair .bool (.pair cI Dm))))))))))
abbrev jX:CT := .pair cI (.pair cI (.pair cI (.pair dw (.pair cI (.pair (.sl rk) (.sl cU))))))
abbrev dE:Type:=bo×Int×Int×Bool×Bool×Int×oE
abbrev av:Type:=Int×Int×Int×Int×Int×Int×Int×Int×Bool×Bool×Int×oE
abbrev ct:Type:=Int×Int×Int×Int×Int×List dE×List av
def ai8:ct:=(0,0,0,0,0,[],[])
def Hw(v:ct):Int:=v.2.2.2.1
def vT(v:ct):Int:=v.2.2.2.2.1
def vW(v:ct):List dE:=v.2.2.2.2.2.1
def vR(v:ct):List av:=v.2.2.2.2.2.2
def lr(x:dE):Int:=x.2.2.1
def na(v:ct)(x:dE):av:=(v.1,v.2.1,x.2.1,x.2.2.1,x.1.2.1,x.1.2.2.1,x.1.2.2.2.1,x.1.2.2.2.2.2,x.2.2.2.1,x.2.2.2.2.1,if x.2.2.2.1 then x.2.2.2.2.2.1 else bZ4.wrap (x.2.2.1+v.2.2.2.2.1),x.2.2.2.2.2.2)
def n8(t at':Int)(x:dE):Bool:=bZ2 (bZ4.wrap (x.2.2.1+t)<=at')
def Mn(v:ct)(w:List dE)(r:List av):ct:=(v.1,v.2.1,v.2.2.1,v.2.2.2.1,v.2.2.2.2.1,w,r)
def CW(v:ct)(o:dE->Bool):ct:=Mn v ((vW v).filter λx => !o x) (vR v++((vW v).filter o).map (na v))
def iI(v:ct)(at':Int):ct:=CW v (n8 (vT v) at')
def xH(v:ct):ct:=CW v (λ_=>bZ3)
def Cy(id run t:Int):Prop:=(0<=id/\id<16)/\(0<=run/\run<64)/\1<=t/\t<=1073741824
instance (i r t:Int):Decidable (Cy i r t):=by unfold Cy;infer_instance
def py(id run a t:Int):Int:=if ¬ Cy id run t then 1 else if ¬ ga a then 10 else 0
def qR(id run a t:Int):ct:=if py id run a t=0 then (id,run,0,a,t,[],[]) else ai8
def uB(run n:Int):Int:=bZ4.wrap (bZ4.wrap (run*1000)+n)
def wh(v:ct)(dst proto flow ttl tag:Int):bo:=(Hw v,dst,proto,flow,tag,ttl)
def nE(v:ct)(at' dst proto flow ttl:Int):Int :=
 if cT (wh v dst proto flow ttl 0)≠0 then cT (wh v dst proto flow ttl 0) else if ¬ ga dst then 10
 else if 1000<=v.2.2.1∨256<=be (vW (iI v at')) then 5 else cT (wh v dst proto flow ttl (uB v.2.1 v.2.2.1))
def Yw(v:ct)(x:dE):ct:=(v.1,v.2.1,v.2.2.1+1,v.2.2.2.1,v.2.2.2.2.1,vW v++[x],vR v)
def mN(v:ct)(at' dst proto flow ttl:Int):ct :=
 if nE v at' dst proto flow ttl=0 then Yw (iI v at') (wh v dst proto flow ttl (uB v.2.1 v.2.2.1),v.2.2.1,at',bZ6,bZ6,0,AE) else v
def sj(v:ct)(at' dst proto flow ttl:Int):ad:=if nE v at' dst proto flow ttl=0 then build (wh v dst proto flow ttl (uB v.2.1 v.2.2.1)) else []
def uo(p:bo)(x:dE):Bool:=bZ2 (tX x.1 p.2.2.2.2.2=p)
def mY(at':Int)(a:oE)(x:dE):dE :=
 if x.2.2.2.1=bZ6 then (x.1,x.2.1,x.2.2.1,bZ3,x.2.2.2.2.1,at',a) else if x.2.2.2.2.2.2≠a then (x.1,x.2.1,x.2.2.1,x.2.2.2.1,bZ3,x.2.2.2.2.2.1,x.2.2.2.2.2.2) else x
def xZ(w:ct)(p:bo):Nat:=(vW w).findIdx (uo p)
def pF(v:ct)(at':Int)(b:ad):Int :=
 if oU b≠0∨(fN b).1.1≠Hw v then 17 else if xZ (iI v at') (fN b).1<be (vW (iI v at')) then 0 else 8
def mA(v:ct)(at':Int)(b:ad):ct :=
 if pF v at' b=0 then Mn (iI v at') ((vW (iI v at')).set (xZ (iI v at') (fN b).1) (mY at' (fN b).2 (Om (vW (iI v at')) (xZ (iI v at') (fN b).1) Sk))) (vR (iI v at')) else iI v at'
theorem Va{α:Type}(o:α->Bool):∀(l:List α),(∀ i j (d:j<be l) (h:i<=j),o l[j]=bZ3->o (l[i]'ab)=bZ3)→∃ k,k<=be l/\l.filter o=l.take k/\(l.filter λx => !o x)=l.drop k/\(∀ i (b:i<be l),k<=i->o l[i]=bZ6)
 | [],_=>⟨0,az,rfl,rfl,λi b=>by simp at b⟩
 | a::l,h=>by
  cases e:o a with
  | true =>
   obtain⟨k,k0,k1,k2,k3⟩:=Va o l (λi j d hij hh=>by
    have:=h (i+1) (j+1) (by simpa using d) ab (by simpa using hh);simpa using this)
   refine⟨k+1,by simpa using k0,by simp[e,k1],by simp[e,k2],λi b hki=>?_⟩;grind
  | false =>
   have c:∀ i (b:i<be (a::l)),o (a::l)[i]=false:=λi b=>by
    cases hh:o (a::l)[i] with
    | false=>rfl
    | true =>
     have:=h 0 i b ab hh;simp_all
   have allm:∀ x∈a::l,o x=false:=λx hx=>by
    obtain⟨i,b,rfl⟩:=cb5.1 hx;exact c i b
   refine⟨0,ab,?_,?_,λi b _=>c i b⟩
   .simp_all
   .simp_all
theorem Lg{α:Type} [Inhabited α] {l:List α} {k:Int} (h0:0<=k) (h1:k<be l) (o:α->Bool) :
  (l.take (it (k+1))).filter o=(l.take (it k)).filter o++(if o (Om l (it k) Sk)=bZ3 then [Om l (it k) Sk] else []):=by
 rw[qZ h0 h1,Ao]
 grind
structure kI (v:ct) (L:List dE) (m:Nat) (at':Int):Prop where
 w:vW v=L.drop m
 r:vR v=(L.take m).map (na v)
 m:m<=be L
 next:v.2.2.1=be L
 t:1<=vT v/\vT v<=1073741824
 now:0<=at'∧at'<=1000000000
 at0:∀ x∈L,0<=lr x/\lr x<=at'
 srt:∀ i j (hj:j<be L) (h:i<=j),lr (L[i]'(by omega))<=lr L[j]
 num:∀ i (hi:i<be L),L[i].2.1=i
 back:∀ x∈L,(x.2.2.2.1=bZ3->lr x<=x.2.2.2.2.2.1/\x.2.2.2.2.2.1<lr x+vT v)
theorem Vt{t at':Int}{x:dE}(ht:1<=t/\t<=1073741824)(hx:0<=lr x/\lr x<=1000000000):n8 t at' x=bZ2 (lr x+t<=at'):=by
 unfold n8 lr at *
 rw[aG ab ab]
theorem Nx{v a:ct}(h1:a.1=v.1)(h2:a.2.1=v.2.1)(h3:vT a=vT v)(x:dE):na a x=na v x:=by
 unfold na vT at *;rw[h1,h2,h3]
theorem kI.expire{v:ct}{L:List dE}{m:Nat}{at' a:Int}(h:kI v L m at')(h2:at'<=a)(h3:a<=1000000000) :
  ∃ d,kI (iI v a) L d a∧∀ i (hi:i<be L),d<=i->a<lr L[i]+vT v:=by
 have hm:=h.m
 have b:∀ x∈L,0<=lr x/\lr x<=1000000000:=λx c=>by have:=h.at0 x c;omega
 have ⟨k,k0,k1,k2,k3⟩:=Va (n8 (vT v) a) (L.drop m) (λi j hj hij hh=>by
  simp at hj;rw[cw9] at hh ⊢;rw[Vt h.t (b _ (cc3 _))] at hh ⊢;have:=h.srt (m+i) (m+j) ab ab;have:=aX hh;exact ft ab)
 simp at k0
 refine⟨m+k,⟨?_,?_,ab,h.next,h.t,⟨by have:=h.now;omega,h3⟩,λx c=>by have:=h.at0 x c;omega,h.srt,h.num,h.back⟩,?_⟩
 .show (vW v).filter _=_;rw[h.w,k2,cj8]
 .show vR v++((vW v).filter _).map (na v)=_;rw[h.r,h.w,k1,← kJ];have:L.take (m+k)=L.take m++(L.drop m).take k:=by rw[List.take_add]
  rw[this];exact ci7 λx _=>(Nx rfl rfl rfl x).symm
 .intro i hi hmi;have:=k3 (i-m) (by simp;omega) ab;rw[cw9,Vt h.t (b _ (cc3 _))] at this;grind
theorem kI.finish{v:ct}{L:List dE}{m:Nat}{at':Int}(h:kI v L m at'):vW (xH v)=[]/\vR (xH v)=L.map (na v):=by
 constructor
 .show (vW v).filter (λx => !bZ3)=[]
  simp
 .show vR v++((vW v).filter λ_=>bZ3).map (na v)=_;rw[h.r,h.w,cd1.2 (λ_ _=>rfl),← kJ,kP]
theorem kI.later{v:ct}{L:List dE}{m:Nat}{at' a:Int}(h:kI v L m at')(h2:at'<=a)(h3:a<=1000000000):kI v L m a :=
 ⟨h.w,h.r,h.m,h.next,h.t,⟨by have:=h.now;omega,h3⟩,λx hx=>by have:=h.at0 x hx;omega,h.srt,h.num,h.back⟩
def XI(L L':List dE):Prop:=be L'=be L∧∀ i (h:i<be L) (h':i<be L'),L'[i].1=L[i].1/\lr L'[i]=lr L[i]
theorem aw0(L:List dE):XI L L:=⟨rfl,λi h h'=>⟨rfl,rfl⟩⟩
theorem XG(at':Int)(a:oE)(x:dE):(mY at' a x).1=x.1/\lr (mY at' a x)=lr x/\(mY at' a x).2.1=x.2.1:=by
 unfold mY lr;split
 .exact⟨rfl,rfl,rfl⟩
 .grind
theorem bE9{at':Int}{a:oE}{x:dE}{t:Int}(h0:lr x<=at')(h1:at'<lr x+t)(h:x.2.2.2.1=bZ3->lr x<=x.2.2.2.2.2.1/\x.2.2.2.2.2.1<lr x+t) :
  (mY at' a x).2.2.2.1=bZ3->lr (mY at' a x)<=(mY at' a x).2.2.2.2.2.1/\(mY at' a x).2.2.2.2.2.1<lr (mY at' a x)+t:=by
 rw[(XG at' a x).2.1]
 unfold mY
 grind
theorem kI.recv{v:ct}{L:List dE}{m:Nat}{at' a:Int}{b:ad}(h:kI v L m at')(h2:at'<=a)(h3:a<=1000000000) :
  ∃ u c,kI (mA v a b) u c a/\XI L u:=by
 have ⟨c,d,p⟩:=h.expire h2 h3
 unfold mA
 split
 next q=>
  have g:xZ (iI v a) (fN b).1<be (vW (iI v a)):=by
   unfold pF at q;grind
  have y:vT (iI v a)=vT v:=rfl;generalize xZ (iI v a) (fN b).1=i at g ⊢;generalize iI v a=w at d g y ⊢;rw[d.w] at g ⊢;simp at g;have l:Om (L.drop c) i Sk=L[c+i]:=by
   simp_all
  rw[l];have z:=XG a (fN b).2 L[c+i];have f:∀ j (o:j<be L),(L.set (c+i) (mY a (fN b).2 L[c+i]))[j]'(by rw[gd];exact o)=if c+i=j then mY a (fN b).2 L[c+i] else L[j]:=λj o=>List.getElem_set _;refine⟨L.set (c+i) (mY a (fN b).2 L[c+i]),c,⟨?_,?_,by rw[gd];exact d.m,by rw[gd];exact d.next,d.t,d.now,?_,?_,?_,?_⟩,?_⟩
  .show (L.drop c).set i _=_;rw[List.drop_set,ah ab];congr 1;omega
  .show vR w=_;rw[d.r,List.take_set_of_le ab];exact ci7 λx _=>Nx rfl rfl rfl x
  .intro x l;obtain l|rfl:=Ae l
   .exact d.at0 x l
   .rw[z.2.1];exact d.at0 _ (cc3 _)
  .intro j k hk hjk;rw[gd] at hk;have e:∀ n (s:n<be L),lr ((L.set (c+i) (mY a (fN b).2 L[c+i]))[n]'(by rw[gd];exact s))=lr L[n]:=λn s=>by
    rw[f n s];split
    .simp_all
    .rfl
   rw[e j ab,e k hk];exact d.srt j k hk hjk
  .intro j o;rw[gd] at o;rw[f j o];split
   next e=>subst e;rw[z.2.2];exact d.num _ o
   .exact d.num j o
  .intro x l;obtain l|rfl:=Ae l
   .exact d.back x l
   .have ht:vT (Mn w ((L.drop c).set i (mY a (fN b).2 L[c+i])) (vR w))=vT w:=rfl;rw[ht];have ho:=p (c+i) ab ab;have q:=d.at0 _ (cc3 (show c+i<be L by omega));have A:=d.back _ (cc3 (show c+i<be L by omega));rw[y] at A ⊢;exact bE9 q.2 ho A
  .refine⟨by rw[gd],λj o hj'=>?_⟩;rw[f j o];split
   .simp_all
   .exact⟨rfl,rfl⟩
 .exact⟨L,c,d,aw0 L⟩
theorem kI.add{v:ct}{L:List dE}{m:Nat}{at':Int}(h:kI v L m at'){p:bo} :
  kI (Yw v (p,v.2.2.1,at',bZ6,bZ6,0,AE)) (L++[(p,v.2.2.1,at',bZ6,bZ6,0,AE)]) m at':=by
 have d:=h.m
 have b:be (L++[(p,v.2.2.1,at',bZ6,bZ6,0,AE)])=be L+1:=az
 refine⟨?_,?_,ab,?_,h.t,h.now,?_,?_,?_,?_⟩
 .show vW v++_=_;rw[h.w,List.drop_append_of_le_length d]
 .show vR v=_;rw[h.r,List.take_append_of_le_length d];exact ci7 λx _=>Nx rfl rfl rfl x
 .rw[b];show v.2.2.1+1=_;rw[h.next];omega
 .intro x a;obtain a|a:=dI.1 a
  .exact h.at0 x a
  .simp at a;subst a;exact⟨h.now.1,io _⟩
 .intro i j hj hij;by_cases c:j<be L
  .rw[cg6 c,cg6 ab];exact h.srt i j c hij
  .have e:j=be L:=ab;subst e;simp;by_cases h2:i<be L
   .rw[cg6 h2];exact (h.at0 _ (cc3 _)).2
   .simp_all
 .intro i hi;by_cases c:i<be L
  .rw[cg6 c];exact h.num i c
  .have e:i=be L:=ab;subst e;rw[List.getElem_append_right ab];simp;exact h.next
 .intro x a;obtain a|a:=dI.1 a
  .exact h.back x a
  .simp_all
abbrev IU:OT := .pair cI (.pair cI (.pair cI (.pair dw (.pair cI (.pair (.row 179 rk) (.row 56 cU))))))
def mF(v:ct):Prop:=(be (vW v):Int)<=100000/\(be (vR v):Int)<=100000
def aB5:Ct:=⟨[.val dw],[.val .bool],λd=>[],λd=>((bZ2 (ga d.1),()),())⟩
def Ia:=∀(a:Int),dW (aO a) (∀(b:Bool),b=aV (jg a)->bR b/\bv b/\bq b (bZ2 (jg a=3))=bZ2 (ga a))
theorem bL7:
 Ia:= by
 delta bR aJ aO bq bv aV ai Ia dW
 unfold ga
 grind
theorem XD:aC 54 aB5.spec:=aF Tryz.func54 (ap aD Kz) aU bL7
def bR2:Ct:=⟨[.val cI,.val cI,.val dw,.val cI],[.agg jX,.val cI],λd=>[],λd=>((qR d.1 d.2.1 d.2.2.1 d.2.2.2.1,py d.1 d.2.1 d.2.2.1 d.2.2.2.1,()),())⟩
def JF(a b c d:Int):=ar ( !bZ2 (ga a)) ((0,0,0,0,0,[],[])=qR b c a d/\10=py b c a d) ((b,c,0,a,d,[],[])=qR b c a d/\0=py b c a d)
def Ip(a b c d:Int):=(0,0,0,0,0,[],[])=qR a b c d/\1=py a b c d
def t9(a b:Bool)(c d:Prop):=∀(e:Bool),e=a->jE e (bq e b) c d
theorem bP9:
 ∀(a b c d:Int),bG a b (aO c) (ai (aq d))->True-> ∀(e:Bool),e=dH a->jE e (bq e (bZ2 (16<=a))) (ar (bq e (bZ2 (16<=a))) (Ip a b c d) (JF c a b d)) (∀(f:Bool),f=dH b->jE f (bq f (bZ2 (64<=b))) (ar (bq f (bZ2 (64<=b))) (Ip a b c d) (JF c a b d)) (t9 (ax d 1) (ax 1073741824 d) (Ip a b c d) (JF c a b d))):= by
  delta aq aK bR aJ aO bG bq bv JF ai jE dH Ip t9 ax
  intro x x_1 x_2 x_3 _ _
  have bad:py x x_1 x_2 x_3≠0->((0,0,0,0,0,[],[]):ct)=qR x x_1 x_2 x_3:=λh=>by rw[qR,ah h];rfl
  have l:¬ Cy x x_1 x_3->((0,0,0,0,0,[],[]):ct)=qR x x_1 x_2 x_3/\(1:Int)=py x x_1 x_2 x_3:=λh=>by
   have e:py x x_1 x_2 x_3=1:=by rw[py,aj h]
   simp_all
  have b2:Cy x x_1 x_3→¬ ga x_2->((0,0,0,0,0,[],[]):ct)=qR x x_1 x_2 x_3/\(10:Int)=py x x_1 x_2 x_3:=λh k=>by
   have e:py x x_1 x_2 x_3=10:=by rw[py,ah (λq=>q h),aj k]
   simp_all
  have b3:Cy x x_1 x_3->ga x_2->((x,x_1,0,x_2,x_3,[],[]):ct)=qR x x_1 x_2 x_3/\(0:Int)=py x x_1 x_2 x_3:=λh k=>by
   have e:py x x_1 x_2 x_3=0:=by rw[py,ah (λq=>q h),ah (λq=>q k)]
   exact⟨by rw[qR,aj e],e.symm⟩
  have c:∀{a b:Bool}{y n:Prop},((a=bZ3∨b=bZ3)->y)->(a=bZ6->b=bZ6->n)->ar (bif a then bZ3 else b) y n:=λ{a b y n} hy hn=>by
   cases a <;> cases b <;> simp_all[ar]
  (repeat (intro (f:Bool) (d:f=_);(repeat refine⟨(by first|(simp;done)),?_⟩);subst d))
  refine c (λg=>?_) (λg o=>?_)
  .refine c (λ_=>l (λq=>?_)) (λk1 k2=>?_)
   .have ⟨p,r,s⟩:=q;simp at g;omega
   .simp_all
  (repeat (intro (f:Bool) (d:f=_);(repeat refine⟨(by first|(simp;done)),?_⟩);subst d))
  refine c (λi=>?_) (λi t=>?_)
  .refine c (λ_=>l (λq=>?_)) (λk1 k2=>?_)
   .have ⟨p,r,s⟩:=q;simp at i;omega
   .simp_all
  (repeat (intro (f:Bool) (d:f=_);(repeat refine⟨(by first|(simp;done)),?_⟩);subst d))
  refine c (λj=>l (λq=>?_)) (λj u=>?_)
  .have ⟨p,r,s⟩:=q;simp at j;omega
  .have v:Cy x x_1 x_3:=by
    simp at g o i t j u
    exact⟨⟨g,o⟩,⟨i,t⟩,j,u⟩
   refine aw (λm=>b2 v (by simpa using m)) (λm=>b3 v (by simpa using m))
theorem aT8:aC 23 bR2.spec:=aF Tryz.func23 (ap aD XD) aU bP9
def bw5:Ct:=⟨[.val cI,.val cI],[.val cI],λd=>[],λd=>((uB d.1 d.2.1,()),())⟩
theorem aw6:
 ∀(a b:Int),dV a b->True->ao (ao (a*1000)+b)=uB a b:= by
  delta ao aq aK ai dV
  intro x x_1 _ _
  rfl
theorem ar5:aC 67 bw5.spec:=aF Tryz.func67 aD aU aw6
def aF2:Ct:=⟨[.val (.sl rk)],[.own 179 rk],λd=>[(be d.1:Int)<=100000],λd=>((d.1,()),())⟩
def IJ(a:List dE):=be a<=cb2/\ ∀(b:dE),b∈a->(aO b.1.1/\aO b.1.2.1/\bG b.1.2.2.1 b.1.2.2.2.1 (aq b.1.2.2.2.2.1) (aq b.1.2.2.2.2.2))/\bG b.2.1 b.2.2.1 True (True/\aq b.2.2.2.2.2.1/\aO b.2.2.2.2.2.2.1/\bG b.2.2.2.2.2.2.2.1 b.2.2.2.2.2.2.2.2.1 (aq b.2.2.2.2.2.2.2.2.2.1) (aq b.2.2.2.2.2.2.2.2.2.2.1/\aq b.2.2.2.2.2.2.2.2.2.2.2))
theorem a25:
 ∀(a:List dE),ai (IJ a)->ac a<=100000->lq (be a=0) ([]=a) (bP ((0+be a)*120)/\a=a):= by
  delta ac aq aK aO bG bP ai IJ lq
  rintro x ⟨⟨hl,-⟩,-⟩ h b hb
  refine aw (λh1=>?_) (λh1=>⟨ab,rfl⟩)
  simp_all
theorem as9:aC 131 aF2.spec:=aF Tryz.func131 aD aU a25
def aF1:Ct:=⟨[.val (.sl cU)],[.own 56 cU],λd=>[(be d.1:Int)<=100000],λd=>((d.1,()),())⟩
def xK(a:List av):=be a<=cb2/\ ∀(b:av),b∈a->bG b.1 b.2.1 (aq b.2.2.1) (aq b.2.2.2.1/\aO b.2.2.2.2.1/\bG b.2.2.2.2.2.1 b.2.2.2.2.2.2.1 (aq b.2.2.2.2.2.2.2.1) (True/\True/\aq b.2.2.2.2.2.2.2.2.2.2.1/\aO b.2.2.2.2.2.2.2.2.2.2.2.1/\bG b.2.2.2.2.2.2.2.2.2.2.2.2.1 b.2.2.2.2.2.2.2.2.2.2.2.2.2.1 (aq b.2.2.2.2.2.2.2.2.2.2.2.2.2.2.1) (aq b.2.2.2.2.2.2.2.2.2.2.2.2.2.2.2.1/\aq b.2.2.2.2.2.2.2.2.2.2.2.2.2.2.2.2)))
theorem aC6:
 ∀(a:List av),ai (xK a)->ac a<=100000->lq (be a=0) ([]=a) (bP ((0+be a)*128)/\a=a):= by
  delta ac aq aK xK aO bG bP ai lq
  rintro x ⟨⟨hl,-⟩,-⟩ h b hb
  refine aw (λh1=>?_) (λh1=>⟨ab,rfl⟩)
  simp_all
theorem PV:aC 85 aF1.spec:=aF Tryz.func85 aD aU aC6
def aG0:Ct:=⟨[.agg jX],[.agg IU],λd=>[mF d.1],λd=>((d.1,()),())⟩
def w8(a:ct):=ac (vW a)<=100000/\ac (vR a)<=100000
theorem av0:
 ∀(a:ct),ai (CT.wf jX a)->w8 a->ac a.2.2.2.2.2.1<=100000/\ac a.2.2.2.2.2.2<=100000/\a=a:= by
  delta ac ai w8
  intro d _ h
  exact⟨h.1,h.2,rfl⟩
theorem Pj:aC 65 aG0.spec:=aF Tryz.func65 (ap (ap aD as9) PV) aU av0
def aq2:Ct:=⟨[.agg jX,.agg rk],[.agg cU],λd=>[],λd=>((na d.1 d.2.1,()),())⟩
theorem bl4:
 ∀(a:ct)(b:dE),CT.wf jX a/\ai (CT.wf rk b)->True->ar ( !b.2.2.2.1) ((a.1,a.2.1,b.2.1,b.2.2.1,b.1.2.1,b.1.2.2.1,b.1.2.2.2.1,b.1.2.2.2.2.2,b.2.2.2.1,b.2.2.2.2.1,ao (b.2.2.1+a.2.2.2.2.1),b.2.2.2.2.2.2)=na a b) ((a.1,a.2.1,b.2.1,b.2.2.1,b.1.2.1,b.1.2.2.1,b.1.2.2.2.1,b.1.2.2.2.2.2,b.2.2.2)=na a b):= by
  delta ao ai
  intro d x _ _
  unfold na
  refine aw (λh=>?_) (λh=>?_)
  .simp_all
  .grind
theorem Vg:aC 140 aq2.spec:=aF Tryz.func140 aD aU bl4
def ZO:Ct:=⟨[.agg rk,.box 94 jX,.box 3 cI],[.val .bool],λd=>[],λd=>((n8 (vT d.2.1) d.2.2.1 d.1,()),(d.2.1,d.2.2.1,()))⟩
theorem aR5:
 ∀(a:dE)(b:ct)(c:Int),CT.wf rk a/\CT.wf jX b/\ai (aq c)->True->bZ2 (ao (a.2.2.1+b.2.2.2.2.1)<=c)=n8 (vT b) c a/\b=b/\c=c:= by
  delta ao aq aK ai
  intro d v x _ _
  exact⟨rfl,rfl,rfl⟩
theorem bH9:aC 132 ZO.spec:=aF Tryz.func132 aD aU aR5
def aF0:Ct:=⟨[.agg rk],[.val .bool],λd=>[],λd=>((bZ3,()),())⟩
theorem af7:
 ∀(a:dE),dW (CT.wf rk a) true:= by
  delta ai dW
  intro d _ _
  rfl
theorem bw3:aC 72 aF0.spec:=aF Tryz.func72 aD aU af7
def X2:Ct:=⟨[.agg jX,.fn 132 2,.box 94 jX,.box 3 cI],[.agg IU],λd=>[mF d.1],λd=>((CW d.1 (n8 (vT d.2.2.1) d.2.2.2.1),()),(d.2.2.1,d.2.2.2.1,()))⟩
def bv8:bw X2.ps->bL:=(λd=>{loops:=(bu 4 (λS=>{ι:=Int×(List dE)×(List av),qn:=oB,μ:=λi=>it (be (vW d.1)-i.1),inv:=λi=>0<=i.1/\i.1<=be (vW d.1)/\i.2.1=((vW d.1).take (it i.1)).filter (λx => !(n8 (vT d.2.2.1) d.2.2.2.1) x)/\i.2.2=vR d.1++(((vW d.1).take (it i.1)).filter (n8 (vT d.2.2.1) d.2.2.2.1)).map (na d.1),keep:=[1,2,4,11,12],slots:=λi=>[(13,.int .i64 i.1),(5,.own 524288 17)],keepN:=[160,80,1048576,1048577],names:=λi=>[(48,.live (.cells 94 [.int .i64 d.1.1,.int .i64 d.1.2.1,.int .i64 d.1.2.2.1,.int .u32 d.1.2.2.2.1,.int .i64 d.1.2.2.2.2.1,.own 160 17,.own 524289 17])),(524288,.live (.row 179 rk i.2.1)),(524289,.live (.row 56 cU i.2.2))]}) cC)})
def D0(a b:Int)(c:List dE)(d e:Int):=[(a,b,(ae c d).2.1,(ae c d).2.2.1,(ae c d).1.2.1,(ae c d).1.2.2.1,(ae c d).1.2.2.2.1,(ae c d).1.2.2.2.2.2,(ae c d).2.2.2.1,(ae c d).2.2.2.2.1,if (ae c d).2.2.2.1 then (ae c d).2.2.2.2.2.1 else ao ((ae c d).2.2.1+e),(ae c d).2.2.2.2.2.2)]
def F9(a:Int)(b:ct)(c:List dE)(d:ct)(e:Int)(f:List av):=bt a (ac (vW b)) (c=cf5 (λ(g:dE)=> !n8 (vT d) e g) (take (it a) (vW b))) (f=vR b++cg4 (na b) (cf5 (n8 (vT d) e) (take (it a) (vW b))))
def Fg(a:ct)(b c:Int)(d:List dE)(e f:Prop):=bj (ac (vW a)) b c/\ac d=ac d/\bf c b/\d=d/\aZ 0 0 0 0 e f
def wY(a:List av)(b:List av):=bP ((be a+be b)*128)
theorem ZY:
 ∀(a b:ct)(c:Int),CT.wf jX a/\True/\CT.wf jX b/\ai (aq c)->w8 a->mF a/\(∃(d:Int) (e:List dE) (f:List av),F9 d a e b c f/\bn (ac a.2.2.2.2.2.1) (ac a.2.2.2.2.2.1) 0 d (a.2.2.2.2.2.1=a.2.2.2.2.2.1) (aZ 0 0 0 0 ((0:Int)=(0:Int)) (aZ b.1 b.2.1 b.2.2.1 b.2.2.2.1 (b.2.2.2.2.1=b.2.2.2.2.1) (b.2.2.2.2.2.1=b.2.2.2.2.2.1/\b.2.2.2.2.2.2=b.2.2.2.2.2.2/\aZ c a.1 a.2.1 a.2.2.1 (a.2.2.2.1=a.2.2.2.1) (a.2.2.2.2.1=a.2.2.2.2.1/\e=[]/\ai (a.2.2.2.2.2.2=f))))))/\ ∀(d:Int)(e:List dE)(f:List av),F9 d a e b c f->fh d (ac a.2.2.2.2.2.1) (d<ac a.2.2.2.2.2.1) (ar (n8 (vT b) c (ae a.2.2.2.2.2.1 d)) (wY f (D0 a.1 a.2.1 a.2.2.2.2.2.1 d a.2.2.2.2.1)/\ ∃(g:Int) (h:List dE) (i:List av),F9 g a h b c i/\Fg a g d a.2.2.2.2.2.1 ((0:Int)=(0:Int)) (aZ b.1 b.2.1 b.2.2.1 b.2.2.2.1 (b.2.2.2.2.1=b.2.2.2.2.1)
 (b.2.2.2.2.2.1=b.2.2.2.2.2.1/\b.2.2.2.2.2.2=b.2.2.2.2.2.2/\aZ c a.1 a.2.1 a.2.2.1 (a.2.2.2.1=a.2.2.2.1) (a.2.2.2.2.1=a.2.2.2.2.1/\e=h/\ai (f++D0 a.1 a.2.1 a.2.2.2.2.2.1 d a.2.2.2.2.1=i))))) (bP ((be e+be [ae a.2.2.2.2.2.1 d])*120)/\ ∃(g:Int) (h:List dE) (i:List av),F9 g a h b c i/\Fg a g d a.2.2.2.2.2.1 ((0:Int)=(0:Int)) (aZ b.1 b.2.1 b.2.2.1 b.2.2.2.1 (b.2.2.2.2.1=b.2.2.2.2.1) (b.2.2.2.2.2.1=b.2.2.2.2.2.1/\b.2.2.2.2.2.2=b.2.2.2.2.2.2/\aZ c a.1 a.2.1 a.2.2.1 (a.2.2.2.1=a.2.2.2.1) (a.2.2.2.2.1=a.2.2.2.2.1/\e++[ae a.2.2.2.2.2.1 d]=h/\ai (f=i)))))) ((a.1,a.2.1,a.2.2.1,a.2.2.2.1,a.2.2.2.2.1,e,f)=CW a (n8 (vT b) c)) (b=b/\c=c):= by
  delta ae ac ao aq aK aZ bN bp bj am bP D0 fh F9 bt ai bf cN w8 Fg ax bn wY
  rintro d v x ⟨-,-,-,-,-⟩⟨hw,hr⟩
  refine⟨⟨hw,hr⟩,⟨0,[],vR d,⟨ab,ab,az,az⟩,aI⟩,?_⟩
  rintro k ls rs ⟨c,k1,rfl,rfl⟩
  have eW:d.2.2.2.2.2.1=vW d:=rfl
  rw[eW]
  refine ci (λa=>?_) (λa=>?_)
  .have f:=Lg c a (n8 (vT v) x)
   have g:=Lg c a (λy => !n8 (vT v) x y)
   have l1:=ci0 (n8 (vT v) x) ((vW d).take (it k))
   have l2:=ci0 (λy => !n8 (vT v) x y) ((vW d).take (it k))
   have l3:be ((vW d).take (it k))<=be (vW d):=by rw[eM];omega
   refine⟨c,a,aw (λb=>?_) (λb=>?_)⟩
   .rw[b] at f
    rw[show (!n8 (vT v) x (Om (vW d) (it k) Sk))=bZ6 by rw[b];rfl] at g
    refine⟨by simp;omega,k+1,_,_,⟨ab,ab,rfl,rfl⟩,ab,rfl,aG ab ab,?_⟩
    (repeat refine uI ?_)
    refine⟨?_,?_,aP⟩
    .rw[g];simp
    .rw[f];simp;rfl
   .rw[b] at f
    refine⟨by simp;omega,k+1,_,_,⟨ab,ab,rfl,rfl⟩,ab,rfl,aG ab ab,?_⟩
    simp_all
  .have e:(vW d).take (it k)=vW d:=gN ab
   rw[e]
   exact⟨rfl,rfl,rfl⟩
theorem aG2:aC 71 X2.spec:=aF Tryz.func71 (ap (ap (ap aD Pj) bH9) Vg) bv8 ZY
def SM:Ct:=⟨[.agg jX,.fn 72 0],[.agg IU],λd=>[mF d.1],λd=>((CW d.1 (λ_=>bZ3),()),())⟩
def aX6:bw SM.ps->bL:=(λd=>{loops:=(bu 4 (λS=>{ι:=Int×(List dE)×(List av),qn:=oB,μ:=λi=>it (be (vW d.1)-i.1),inv:=λi=>0<=i.1/\i.1<=be (vW d.1)/\i.2.1=((vW d.1).take (it i.1)).filter (λx => !(λ_=>bZ3) x)/\i.2.2=vR d.1++(((vW d.1).take (it i.1)).filter (λ_=>bZ3)).map (na d.1),keep:=[1,2,4,11,12],slots:=λi=>[(13,.int .i64 i.1),(5,.own 524288 17)],keepN:=[160,80],names:=λi=>[(48,.live (.cells 94 [.int .i64 d.1.1,.int .i64 d.1.2.1,.int .i64 d.1.2.2.1,.int .u32 d.1.2.2.2.1,.int .i64 d.1.2.2.2.2.1,.own 160 17,.own 524289 17])),(524288,.live (.row 179 rk i.2.1)),(524289,.live (.row 56 cU i.2.2))]}) cC)})
def Li(a:Int)(b:ct)(c:List dE)(d:List av):=bt a (ac (vW b)) (c=cf5 (λ(e:dE)=> !bZ3) (take (it a) (vW b))) (d=vR b++cg4 (na b) (cf5 (λ(e:dE)=>bZ3) (take (it a) (vW b))))
theorem bV2:
 ∀(a:ct),CT.wf jX a/\ai True->w8 a->mF a/\(∃(b:Int) (c:List dE) (d:List av),Li b a c d/\bn (ac a.2.2.2.2.2.1) (ac a.2.2.2.2.2.1) 0 b (a.2.2.2.2.2.1=a.2.2.2.2.2.1) (aZ 0 0 0 0 ((0:Int)=(0:Int)) (aZ a.1 a.2.1 a.2.2.1 a.2.2.2.1 (a.2.2.2.2.1=a.2.2.2.2.1) (c=[]/\ai (a.2.2.2.2.2.2=d)))))/\ ∀(b:Int)(c:List dE)(d:List av),Li b a c d->ar (ax b (ac a.2.2.2.2.2.1)) (bJ b (ac a.2.2.2.2.2.1) (wY d (D0 a.1 a.2.1 a.2.2.2.2.2.1 b a.2.2.2.2.1)) (∃(e:Int) (f:List dE) (g:List av),Li e a f g/\Fg a e b a.2.2.2.2.2.1 ((0:Int)=(0:Int)) (aZ a.1 a.2.1 a.2.2.1 a.2.2.2.1 (a.2.2.2.2.1=a.2.2.2.2.1) (c=f/\ai (d++D0 a.1 a.2.1 a.2.2.2.2.2.1 b a.2.2.2.2.1=g))))) ((a.1,a.2.1,a.2.2.1,a.2.2.2.1,a.2.2.2.2.1,c,d)=CW a (λ(e:dE)=>bZ3)):= by
  delta ae ac ao aZ bN bp bj am bP D0 bt ai Li bf cN w8 bJ Fg ax bn wY
  rintro d-⟨hw,hr⟩
  refine⟨⟨hw,hr⟩,⟨0,[],vR d,⟨ab,ab,az,az⟩,aI⟩,?_⟩
  rintro k ls rs ⟨b,k1,rfl,rfl⟩
  have eW:d.2.2.2.2.2.1=vW d:=rfl
  rw[eW]
  refine ci (λa=>?_) (λa=>?_)
  .have f1:=Lg b a (λ_=>bZ3)
   have f2:=Lg b a (λ_ => !bZ3)
   have l1:=ci0 (λ_=>bZ3) ((vW d).take (it k))
   have l3:be ((vW d).take (it k))<=be (vW d):=by rw[eM];omega
   refine⟨b,a,?_⟩
   refine⟨by simp;omega,k+1,_,_,⟨ab,ab,rfl,rfl⟩,ab,rfl,aG ab ab,?_⟩
   (repeat refine uI ?_)
   refine⟨?_,?_,aP⟩
   .rw[f2];simp
   .rw[f1];simp;rfl
  .have e:(vW d).take (it k)=vW d:=gN ab
   rw[e]
   rfl
theorem ZR:aC 71 SM.spec:=aF Tryz.func71 (ap (ap (ap aD Pj) bw3) Vg) aX6 bV2
def aY9:Ct:=⟨[.agg jX,.val cI],[.agg IU],λd=>[mF d.1],λd=>((iI d.1 d.2.1,()),())⟩
theorem bO9:
 ∀(a:ct)(b:Int),CT.wf jX a/\ai (aq b)->w8 a->mF a/\(a.1,a.2.1,a.2.2.1,a.2.2.2.1,a.2.2.2.2.1,cf5 (λ(c:dE)=> !n8 (vT a) b c) (vW a),vR a++cg4 (na a) (cf5 (n8 (vT a) b) (vW a)))=iI a b:= by
  delta ac aq aK ai w8
  rintro d x-⟨hw,hr⟩
  exact⟨⟨hw,hr⟩,rfl⟩
theorem Y4:aC 66 aY9.spec:=aF Tryz.func66 (ap aD aG2) aU bO9
def a64:Ct:=⟨[.agg jX],[.agg jX],λd=>[mF d.1],λd=>((xH d.1,()),())⟩
theorem aB0:
 ∀(a:ct),ai (CT.wf jX a)->w8 a->mF a/\(a.1,a.2.1,a.2.2.1,a.2.2.2.1,a.2.2.2.2.1,cf5 (λ(b:dE)=> !bZ3) (vW a),vR a++cg4 (na a) (cf5 (λ(b:dE)=>bZ3) (vW a)))=xH a:= by
  delta ac ai w8
  rintro d-⟨hw,hr⟩
  exact⟨⟨hw,hr⟩,rfl⟩
theorem Z4:aC 30 a64.spec:=aF Tryz.func30 (ap aD ZR) aU aB0
def aC5:Ct:=⟨[.agg jX,.val cI,.val dw,.val cI,.val cI,.val cI],[.agg jX,.own 5 bm,.val cI],λd=>[mF d.1,0<=d.1.2.2.1],λd=>((mN d.1 d.2.1 d.2.2.1 d.2.2.2.1 d.2.2.2.2.1 d.2.2.2.2.2.1,sj d.1 d.2.1 d.2.2.1 d.2.2.2.1 d.2.2.2.2.1 d.2.2.2.2.2.1,nE d.1 d.2.1 d.2.2.1 d.2.2.2.1 d.2.2.2.2.1 d.2.2.2.2.2.1,()),())⟩
theorem ad2:
 ∀(a:ct)(b c d e f:Int),CT.wf jX a/\aq b/\aO c/\bG d e (aq f) True->mF a/\0<=a.2.2.1->lY (aV (cT (a.2.2.2.1,c,d,e,0,f))) (mF a) (a=mN a b c d e f/\fw (sj a b c d e f)/\cT (a.2.2.2.1,c,d,e,0,f)=nE a b c d e f) ( !bZ2 (ga c)) (mF a/\a=mN a b c d e f/\fw (sj a b c d e f)/\10=nE a b c d e f) (mF a/\ ∀(g h i j k:Int)(l:List dE)(m:List av),(g,h,i,j,k,l,m)=iI a b->qS (bZ2 (1000<=a.2.2.1)) (bZ2 (256<=ac l)) (mF a/\a=mN a b c d e f/\fw (sj a b c d e f)/\5=nE a b c d e f) (ar ( !aV (cT (a.2.2.2.1,c,d,e,uB a.2.1 a.2.2.1,f))) (mF a/\a=mN a b c d e f/\fw (sj a b c d e f)/\cT (a.2.2.2.1,c,d,e,uB a.2.1 a.2.2.1,f)=nE a b c d e f) (bP ((be l+be [((a.2.2.2.1,c,d,e,uB a.2.1 a.2.2.1,f),a.2.2.1,b,bZ6,bZ6,(0:Int),nA)])*120)/\(g,h,ao (i+1),j,k,l++[((a.2.2.2.1,c,d,e,uB
 a.2.1 a.2.2.1,f),a.2.2.1,b,bZ6,bZ6,0,nA)],m)=mN a b c d e f/\build (a.2.2.2.1,c,d,e,uB a.2.1 a.2.2.1,f)=sj a b c d e f/\0=nE a b c d e f))):= by
  delta ac ao aq aK bR aJ aO bG bq cV bP bv aV ai qS nA lY fw
  rintro d x dst c f a ⟨-,-,-,-,-,-,-⟩⟨⟨hw,hr⟩,hn⟩
  have j:mF d:=⟨hw,hr⟩
  have l:nE d x dst c f a≠0->d=mN d x dst c f a/\([]:ad)=sj d x dst c f a:=λh=>by
   rw[mN,sj,ah h,ah h];exact⟨rfl,rfl⟩
  refine aw (λh=>⟨j,?_⟩) (λh=>?_)
  .have h:¬ cT (wh d dst c f a 0)=0:=jC h
   have e:nE d x dst c f a=cT (wh d dst c f a 0):=by rw[nE,aj h]
   have ⟨n,o⟩:=l (by rw[e];exact h)
   exact⟨n,o,e.symm⟩
  have h:=jx h
  refine aw (λg=>⟨j,?_⟩) (λg=>⟨j,?_⟩)
  .have g:¬ ga dst:=by simpa using g
   have e:nE d x dst c f a=10:=by rw[nE,ah (λk=>k h),aj g]
   grind
  have g:ga dst:=by simpa using g
  rintro a1 a2 p a4 a5 a6 a7 ha
  have t:p=d.2.2.1:=dP (λq:ct=>q.2.2.1) ha
  have e6:a6=vW (iI d x):=dP (λq:ct=>q.2.2.2.2.2.1) ha
  (repeat (intro (b_:Bool) (r:b_=_);(repeat refine⟨(by first|(simp;done)),?_⟩);subst r))
  refine aw (λm=>⟨j,?_⟩) (λm=>?_)
  .have m:1000<=d.2.2.1∨256<=be (vW (iI d x)):=by
    grind
   have e:nE d x dst c f a=5:=by rw[nE,ah (λk=>k h),ah (λk=>k g),aj m]
   grind
  have m:¬ (1000<=d.2.2.1∨256<=be (vW (iI d x))):=by
   grind
  have s:nE d x dst c f a=cT (wh d dst c f a (uB d.2.1 d.2.2.1)):=by rw[nE,ah (λk=>k h),ah (λk=>k g),ah m]
  refine aw (λi=>⟨j,?_⟩) (λi=>⟨?_,?_⟩)
  .have i:=jC i
   have ⟨n,o⟩:=l (by rw[s];exact i)
   exact⟨n,o,s.symm⟩
  .grind
  .have i:=jx i
   have e:=s.trans i
   refine⟨?_,by rw[sj,aj e];rfl,e.symm⟩
   rw[mN,aj e,← ha]
   have:bZ4.wrap (p+1)=p+1:=aG (by rw[t];omega) (by rw[t];omega)
   rw[this]
   rfl
theorem bC9:aC 28 aC5.spec:=aF Tryz.func28 (ap (ap (ap (ap (ap (ap aD HF) Pj) XD) (Ct.named Y4)) ar5) ae3) aU ad2
def aD6:Ct:=⟨[.agg rk,.box 81 sF],[.val .bool],λd=>[],λd=>((uo d.2.1 d.1,()),(d.2.1,()))⟩
def qw(a b c d:Int)(e f:Bool):=bZ2 (a=b)&&(bZ2 (c=d)&&(e&&f))
theorem bm6:
 ∀(a:dE)(b c d e f g:Int),CT.wf rk a/\qC b c d e f g->True->qw a.1.1 b a.1.2.1 c (bZ2 (a.1.2.2.1=d)) (qw a.1.2.2.2.1 e a.1.2.2.2.2.1 f (bZ2 (g=g)) bZ3)=uo (b,c,d,e,f,g) a/\(b,c,d,e,f,g)=(b,c,d,e,f,g):= by
  delta aq aK aO bG qw ai qC
  unfold uo tX
  simp_all
theorem bI2:aC 130 aD6.spec:=aF Tryz.func130 aD aU bm6
def YJ:Ct:=⟨[.val (.sl rk),.fn 130 1,.box 81 sF],[.val cI],λd=>[],λd=>((if d.1.findIdx (uo d.2.2.1)<be d.1 then (d.1.findIdx (uo d.2.2.1):Int) else -1,()),(d.2.2.1,()))⟩
def by1:bw YJ.ps->bL:=(λd=>{loops:=(bu 2 (λS=>{ι:=Int,μ:=λi=>it (be d.1-i),inv:=λi=>0<=i/\i<=be d.1∧∀ x∈d.1.take (it i),uo d.2.2.1 x=bZ6,keep:=[0,1,6,7],slots:=λi=>[(8,.int .i64 i)],keepN:=[1048576]}) cC)})
def FC(a b c d e f:Int)(g:List dE):=if cB3 (uo (a,b,c,d,e,f)) g<be g then (cB3 (uo (a,b,c,d,e,f)) g:Int) else (-1:Int)
def IE(a:Int)(b:List dE)(c d:Int)(e:bY2):=am a (a<=ac b) (∀(f:dE),f∈take (it a) b->uo (c,d,e) f=bZ6)
theorem aW1:
 ∀(a:List dE)(b c d e f g:Int),IJ a/\True/\qC b c d e f g->True->(∃(h:Int),IE h a b c (d,e,f,g)/\a=a/\a=a/\ac a=ac a/\0=h/\aZ b c d e (f=f) (ai (g=g)))/\ ∀(h:Int),IE h a b c (d,e,f,g)->fh h (ac a) (h<ac a) (ar (uo (b,c,d,e,f,g) (ae a h)) (h=FC b c d e f g a/\(b,c,d,e,f,g)=(b,c,d,e,f,g)) (∃(i:Int),IE i a b c (d,e,f,g)/\bj (ac a) i h/\a=a/\a=a/\ac a=ac a/\bf h i/\aZ b c d e (f=f) (ai (g=g)))) ((-1)=FC b c d e f g a) ((b,c,d,e,f,g)=(b,c,d,e,f,g)):= by
  delta ae ac ao aq aK aZ bN bp aO bG bj am fh ai IJ bf qC cN FC IE ax bn
  rintro l a b c e f g ⟨⟨hl,-⟩,-⟩ -
  simp only[cb2] at hl
  refine⟨⟨0,⟨ab,ab,az⟩,aI⟩,?_⟩
  rintro j ⟨h,j1,i⟩
  refine ci (λd=>?_) (λd=>?_)
  .refine⟨h,d,aw (λk=>?_) (λk=>?_)⟩
   .exact⟨Fx h d i k,rfl⟩
   .exact⟨j+1,⟨ab,ab,yG h d i k⟩,ab,rfl,rfl,rfl,aG ab ab,aI⟩
  .exact⟨IT d i,rfl⟩
theorem a79:aC 129 YJ.spec:=aF Tryz.func129 (ap aD bI2) by1 aW1
def bD8:Ct:=⟨[.agg jX,.val cI,.val (.sl bm)],[.agg jX,.val cI],λd=>[mF d.1,(be d.2.2.1:Int)<=1000000],λd=>((mA d.1 d.2.1 d.2.2.1,pF d.1 d.2.1 d.2.2.1,()),())⟩
def z6(a:List dE)(b:Int):=set a (it b) ((ae a b).1,(ae a b).2.1,(ae a b).2.2.1,bZ3,(ae a b).2.2.2.2)
def U4(a:List dE)(b c:Int):=((ae (z6 a b) b).1,(ae (z6 a b) b).2.1,(ae (z6 a b) b).2.2.1,(ae (z6 a b) b).2.2.2.1,(ae (z6 a b) b).2.2.2.2.1,c,(ae (z6 a b) b).2.2.2.2.2.2)
def zx(a:List dE)(b c:Int):=set (z6 a b) (it b) (U4 a b c)
theorem aR1:
 ∀(a:ct)(b:Int)(c:ad),CT.wf jX a/\aq b/\ai (aQ c)->mF a/\bV c->mF a/\ ∀(d e f g h:Int)(i:List dE)(j:List av),(d,e,f,g,h,i,j)=iI a b->bV c/\ ∀(k l m n o p q r s t u v w:Int),(k,l,m,n,o,p)=(fN c).1/\(q,r,s,t,u,v)=(fN c).2/\w=oU c-> ∀(x:Bool),x=( !aV w)->cV x (gq x) (bv x/\ar (bq x (cP k g)) ((d,e,f,g,h,i,j)=mA a b c/\17=pF a b c) (∀(y z A B C D E:Int),y=FC k l m n o p i/\(z,A,B,C,D,E)=(k,l,m,n,o,p)->ar (dH y) ((d,e,f,g,h,i,j)=mA a b c/\8=pF a b c) (am y (y<ac i) (lY (ae i y).2.2.2.1 ((d,e,f,g,h,set (zx i y b) (it y) ((ae (zx i y b) y).1,(ae (zx i y b) y).2.1,(ae (zx i y b) y).2.2.1,(ae (zx i y b) y).2.2.2.1,(ae (zx i y b) y).2.2.2.2.1,(ae (zx i y b) y).2.2.2.2.2.1,q,r,s,t,u,v),j)=mA a b c) (0=pF a b c) ( !qw (ae i y).2.2.2.2.2.2.1 q (ae i y).2.2.2.2.2.2.2.1 r (bZ2 ((ae i
 y).2.2.2.2.2.2.2.2.1=s)) (qw (ae i y).2.2.2.2.2.2.2.2.2.1 t (ae i y).2.2.2.2.2.2.2.2.2.2.1 u (bZ2 ((ae i y).2.2.2.2.2.2.2.2.2.2.2=v)) bZ3)) ((d,e,f,g,h,set i (it y) ((ae i y).1,(ae i y).2.1,(ae i y).2.2.1,(ae i y).2.2.2.1,bZ3,(ae i y).2.2.2.2.2),j)=mA a b c/\0=pF a b c) ((d,e,f,g,h,i,j)=mA a b c/\0=pF a b c))))):= by
  delta ae ac aq aK aQ bR aJ zx U4 z6 bq cV am bv gq aV qw bV ai dA cP FC dH ax lY
  rintro d x b ⟨-,-,-,-⟩⟨hs,hl⟩
  refine⟨hs,?_⟩
  rintro a1 a2 a3 a4 a5 a6 a7 ha
  have e4:a4=Hw d:=dP (λq:ct=>q.2.2.2.1) ha
  have e6:a6=vW (iI d x):=dP (λq:ct=>q.2.2.2.2.2.1) ha
  refine⟨hl,?_⟩
  rintro p1 p2 p3 p4 p5 p6 c1 c2 c3 c4 c5 c6 e ⟨hp,hc,rfl⟩
  have ep1:=dP (λq:bo=>q.1) hp
  (repeat (intro (b_:Bool) (hb_:b_=_);(repeat refine⟨(by first|(simp;done)|(rw[hb_];simp +contextual;done)),?_⟩);subst hb_))
  have bad:pF d x b≠0->(a1,a2,a3,a4,a5,a6,a7)=mA d x b:=λh=>by rw[mA,ah h];exact ha
  refine uH (λh=>?_) (λh1 h2=>?_)
  .have e:pF d x b=17:=by
    rw[pF,aj]
    simp_all
   simp_all
  have h1:=jx h1
  have h2:=jx h2
  have hno:¬ (oU b≠0∨(fN b).1.1≠Hw d):=by rw[← ep1,← e4];exact λk=>k.elim (λk=>k h1) (λk=>k h2)
  rintro i q1 q2 q3 q4 q5 q6 ⟨hi,-⟩
  rw[hp] at hi
  have er:a6.findIdx (uo (fN b).1)=xZ (iI d x) (fN b).1:=by rw[e6];rfl
  rw[er] at hi
  refine aw (λh=>?_) (λh=>?_)
  .have h:=aX h
   have hlt:¬ xZ (iI d x) (fN b).1<be a6:=λk=>by rw[aj k] at hi;omega
   have e:pF d x b=8:=by rw[pF,ah hno,ah (by rw[← e6];exact hlt)]
   simp_all
  have h:=bg h
  have hlt:=jn λk=>by rw[ah k] at hi;omega
  have hin:it i=xZ (iI d x) (fN b).1:=ab
  have e:pF d x b=0:=by rw[pF,ah hno,aj (by rw[← e6];exact hlt)]
  have ev:mA d x b=(a1,a2,a3,a4,a5,a6.set (it i) (mY x (fN b).2 (Om a6 (it i) Sk)),a7):=by
   rw[mA,aj e,hin,← ha];rfl
  refine⟨ab,ab,?_⟩
  rw[ev,e,← hc]
  have hil:it i<be a6:=ab
  generalize it i=n at hil
  simp only[List.set_set,lH hil]
  have self:a6.set n (Om a6 n Sk)=a6:=by
   simp_all
  generalize hy:Om a6 n Sk=y at *
  refine aw (λh=>⟨?_,aP⟩) (λh=>aw (λh2=>⟨?_,aP⟩) (λh2=>⟨?_,aP⟩))
  .have h:y.2.2.2.1=false:=by simpa only[qE] using h
   rw[mY,aj h]
  .have h:y.2.2.2.1=true:=by simpa only[Ak] using h
   rw[mY,ah (by rw[h];decide),aj]
   grind
  .have h:y.2.2.2.1=true:=by simpa only[Ak] using h
   have k:y.2.2.2.2.2.2=(c1,c2,c3,c4,c5,c6):=by
    simp at h2
    have ⟨k1,k2,k3,k4,k5,k6⟩:=h2
    simp only[Prod.ext_iff]
    exact⟨k1,k2,k3,k4,k5,k6⟩
   rw[mY,ah (by rw[h];decide),ah (λq=>q k),self]
theorem bs0:aC 63 bD8.spec:=aF Tryz.func63 (ap (ap (ap aD (Ct.named Y4)) (Ct.named aP3)) (Ct.named a79)) aU aR1
abbrev fm:CT := .pair pU (.pair (.sl cI) cI)
abbrev Rt:Type:=fB×ad×Int
def cO(p q:fB):Prop:=p.1<q.1∨p.1=q.1/\p.2<q.2
instance (p q:fB):Decidable (cO p q):=by unfold cO;infer_instance
theorem Tx{a b:Int}(h:a<b):cD a b = -1:=by unfold cD;rw[aj h]
theorem Sl{a b:Int}(h:b<a):cD a b=1:=by unfold cD;rw[ah (by omega),aj h]
theorem QB(a:Int):cD a a=0:=by unfold cD;simp
theorem Oq(p q:fB):(cO p q/\ja p q = -1)∨(p=q/\ja p q=0)∨(cO q p/\ja p q=1):=by
 have ⟨a,b⟩:=p;have ⟨c,e⟩:=q
 unfold ja cO
 obtain h|rfl|h:=cx9 a c
 .simp[Tx h,h]
 .obtain h|rfl|h:=cx9 b e
  .simp[QB,Tx h,h]
  .simp[QB]
  .simp[QB,Sl h,h]
 .simp[Sl h,h]
theorem uu(p:fB):¬ cO p p:=by unfold cO;omega
theorem GA{p q r:fB}(h:cO p q)(k:cO q r):cO p r:=by unfold cO at *;omega
theorem Bn{p q:fB}(h:cO p q):¬ cO q p:=by unfold cO at *;omega
theorem It{p q:fB}(h:¬ cO p q):p=q∨cO q p:=by rcases Oq p q with⟨k,-⟩|⟨k,-⟩|⟨k,-⟩ <;> simp_all
theorem Tm{p q r:fB}(h:¬ cO p q)(k:cO p r):¬ cO r q:=λe=>h (GA k e)
theorem EW{p q:fB}:ja p q<0↔cO p q:=by
 obtain⟨h,e⟩|⟨rfl,e⟩|⟨h,e⟩:=Oq p q <;> rw[e]
 .simp[h]
 .simp[uu]
 .simp[Bn h]
theorem I9{p q:fB}:ja p q=0↔p=q:=by
 obtain⟨h,e⟩|⟨h,e⟩|⟨h,e⟩:=Oq p q <;> rw[e]
 .simp;rintro rfl;exact uu _ h
 .simp[h]
 .simp;rintro rfl;exact uu _ h
theorem Oz{p q:fB}:0<=ja p q↔¬ cO p q:=by rw[← EW];omega
def dU(l:List Rt):Prop:=l.Pairwise λa b=>cO a.1 b.1
theorem ae5{l:List Rt}{p:fB}{h:Int}(hs:dU l)(h0:0<=h)(h1:h<be l)(a:cO (Om l (it h) Sk).1 p):∀ y∈l.take (it (h+1)),cO y.1 p:=by
 intro y b
 have c:it h<be l:=ab
 obtain b|rfl:=V3 h0 h1 b
 .obtain⟨k,hk,rfl⟩:=cb5.1 b;rw[cq,cG c,iA] at a;simp at hk ⊢;exact GA (List.pairwise_iff_getElem.1 hs k (it h) ab c ab) a
 .exact a
theorem bV8{l:List Rt}{p:fB}{h:Int}(hs:dU l)(h0:0<=h)(h1:h<be l)(d:¬ cO (Om l (it h) Sk).1 p):∀ y∈l.drop (it h),¬ cO y.1 p:=by
 intro y c
 have e:it h<be l:=ab
 rw[cq,cG e,iA] at d
 rw[s9 e] at c
 obtain rfl|c:=dO.1 c
 .exact d
 .have f:((l.drop (it h))).Pairwise λa b=>cO a.1 b.1:=co8 hs;rw[s9 e] at f;exact Tm d (List.rel_of_pairwise_cons f c)
def bM9:Ct:=⟨[.val (.sl cI)],[.own 3 cI],λd=>[(be d.1:Int)<=1099511627776],λd=>((d.1,()),())⟩
theorem by5:
 ∀(a:ad),ai (cS a)->aT a->lq (be a=0) (fw a) (bP ((0+be a)*8)/\a=a):= by
  delta ac aq aK cS aT bP ai lq fw
  rintro x ⟨⟨hl,-⟩,-⟩ h b hb
  refine aw (λh1=>?_) (λh1=>⟨by simp;omega,by simp⟩)
  simp_all
theorem D8:aC 110 bM9.spec:=aF Tryz.func110 aD aU by5
def bT0:Ct:=⟨[.agg fm],[.agg fm],λd=>[(be d.1.2.1:Int)<=1099511627776],λd=>((d.1,()),())⟩
theorem ad0:
 ∀(a b:Int)(c:ad)(d:Int),ai (dB a b c d)->aT c->aT c/\((a,b),c,d)=((a,b),c,d):= by
  delta ac aq aK dB aO cS aT ai
  simp_all
theorem XV:aC 232 bT0.spec:=aF Tryz.func232 (ap aD D8) aU ad0
def bd0:Ct:=⟨[.agg fm],[.agg fm],λd=>[(be d.1.2.1:Int)<=1099511627776],λd=>((d.1,()),())⟩
theorem bg9:
 ∀(a b:Int)(c:ad)(d:Int),ai (dB a b c d)->aT c->bP (be c*8)/\((a,b),c,d)=((a,b),c,d):= by
  delta ac aq aK dB aO cS aT bP ai
  grind
theorem Tp:aC 167 bd0.spec:=aF Tryz.func167 aD aU bg9
def at3:Ct:=⟨[.agg fm,.agg pU],[.val cI],λ_=>[],λd=>((ja d.1.1 d.2.1,()),())⟩
theorem bm7:
 ∀(a b:Int)(c:ad)(d e f:Int),dB a b c d/\ai (aO e/\aq f)->True->ja (a,b) (e,f)=ja (a,b) (e,f):= by
  delta aq aK dB aO cS ai
  intros;trivial
theorem aS1:aC 230 at3.spec:=aF Tryz.func230 (ap aD SU) aU bm7
theorem W9{i j:Int}(h0:0<=i)(h1:i<=j)(h2:j<=9223372036854775807):bZ5 bZ4 (eZ ca1 (bZ5 ca1 (bZ5 bZ4 (i+j))) (1:Int))=(i+j)/2:=by
 have hw:bZ5 ca1 (bZ5 bZ4 (i+j))=i+j:=by
  rw[ch4,IntKind.wrap_u64];omega
 rw[hw]
 have:eZ ca1 (i+j) 1=(i+j)/2:=by
  unfold eZ;rw[Er _ aB];rfl
 rw[this,aG ab ab]
theorem TN(l:List Rt)(p:fB):∃ k:Int,0<=k/\k<=be l/\(dU l->(∀ z∈l.take (it k),cO z.1 p)∧∀ z∈l.drop (it k),¬ cO z.1 p):=by
 induction l with
 | nil=>exact⟨0,az,az,az⟩
 | cons a l ih =>
  have ⟨k,h0,h1,h2⟩:=ih;by_cases d:cO a.1 p
  .refine⟨k+1,ab,by simp;omega,λb=>?_⟩;have ⟨q1,q2⟩:=h2 (ca4.1 b).2;have e:it (k+1)=it k+1:=ab;grind
  .refine⟨0,ab,by simp;omega,λb=>⟨az,λz c=>?_⟩⟩;obtain rfl|c:=dO.1 c
   .exact d
   .exact Tm d ((ca4.1 b).1 z c)
def Ua:Cn:=⟨[.val (.sl fm),.agg pU,.fn 230 0],[.val cI,.val .bool],λ_=>[],λd y=>0<=y.1.1/\y.1.1<=be d.1/\(dU d.1->(∀ z∈d.1.take (it y.1.1),cO z.1 d.2.1)∧∀ z∈d.1.drop (it y.1.1),¬ cO z.1 d.2.1)/\y.1.2.1=bZ2 (y.1.1<be d.1/\(Om d.1 (it y.1.1) Sk).1=d.2.1),λd h=>let ⟨k,h0,h1,h2⟩:=TN d.1 d.2.1;⟨((k,bZ2 (k<be d.1/\(Om d.1 (it k) Sk).1=d.2.1),()),()),h0,h1,h2,rfl⟩⟩
def by9:bw Ua.ps->bL:=(λd=>{loops:=(bu 3 (λS=>{ι:=Int×Int,qn:=fH,μ:=λi=>it (i.2-i.1),inv:=λi=>0<=i.1/\i.1<=i.2/\i.2<=be d.1/\(dU d.1->(∀ z∈d.1.take (it i.1),cO z.1 d.2.1)∧∀ z∈d.1.drop (it i.2),¬ cO z.1 d.2.1),keep:=[0,2,4,8],slots:=λi=>[(9,.int .i64 i.1),(10,.int .i64 i.2)],keepN:=[80]}) cC)})
def Di(a b:List cz)(c:bg8)(d:List cz):=dU a->(∀(e:cz),e∈b->cO e.1 c)/\ ∀(e:cz),e∈d-> ¬cO e.1 c
def ya(a:Int)(b:List cz)(c d:Int)(e:Bool):=bt a (ac b) (Di b (take (it a) b) (c,d) (drop (it a) b)) (e=bZ2 (a<ac b/\(ae b a).1=(c,d)))
def iP(a:Bool)(b:Prop)(c:Int)(d:Prop):=(a->a)/\(b->b)/\am c d True
def ux(a b:Int):=ao (eZ ca1 (bZ5 ca1 (ao (a+b))) 1)
def m5(a b:Int):=a=a/\ai (b=b)
def Fh(a b:Int)(c:List cz)(d e:Int):=bt a b (b<=ac c) (Di c (take (it a) c) (d,e) (drop (it b) c))
theorem av3:
 ∀(a:List cz)(b c:Int),c9 a/\(aO b/\aq c)/\ai True->True->(∃(d e:Int),Fh d e a b c/\a=a/\bn (ac a) (ac a) 0 d (ac a=e) (m5 b c))/\ ∀(d e:Int),Fh d e a b c->ar (ax d e) (am 1 (0<=ux d e) (ux d e<ac a/\ar (dH (ja (ae a (ux d e)).1 (b,c))) (∃(f g:Int),Fh f g a b c/\cN (g -f) (e -d)/\a=a/\ac a=ac a/\bf (ux d e) f/\e=g/\m5 b c) (∃(f g:Int),Fh f g a b c/\cN (g -f) (e -d)/\a=a/\bn (ac a) (ac a) d f (ux d e=g) (m5 b c)))) (∀(f:Bool),f=ax d (ac a)->(f->iP f f d (d<ac a))/\cj f f ((f->f)/\dA f) (f->aJ f) ((f->f)/\ya d a b c (br f (aV (ja (ae a d).1 (b,c)))))):= by
  delta ae ac ao aq aK aJ c9 dB aO cS cj br am aV Di bt ai ya iP ux bf m5 dA Fh cN dH ax bn
  rintro x p q ⟨⟨hl,-⟩,-⟩ -
  simp only[cb2] at hl
  refine⟨⟨0,be x,⟨ab,ab,ab,λ_=>az⟩,aI⟩,?_⟩
  rintro i j ⟨d,h1,f,e⟩
  refine ci (λhb=>?_) (λhb=>?_)
  .rw[W9 d h1 ab]
   refine⟨ab,ab,ab,ci (λa=>?_) (λa=>?_)⟩
   .have a:=EW.1 a
    refine⟨(i+j)/2+1,j,⟨ab,ab,f,λc=>⟨ae5 c ab ab a,(e c).2⟩⟩,ab,aI⟩
   .have a:¬ cO _ _:=λh=>absurd (EW.2 h) a
    refine⟨i,(i+j)/2,⟨d,ab,ab,λc=>⟨(e c).1,bV8 c ab ab a⟩⟩,ab,aI⟩
  .have:i=j:=ab
   subst this
   (repeat (refine cL ?_;repeat refine cK ?_))
   refine⟨d,f,e,?_⟩
   by_cases h:i<be x <;> simp[h,I9]
theorem aS8:aC 229 Ua.spec:=lL Tryz.func229 (ap aD aS1) by9 av3
def a53:Ct:=⟨[.nils,.val cI],[.own 153 fm],λd=>[0<=d.2.1,d.2.1<=1073741824],λd=>(([],()),())⟩
def uX(a:Int):=ao (a -ao (0 -0))
theorem a29:
 ∀(a:Int),True/\ai (aq a)->0<=a/\a<=1073741824->ar (dH a) False (ar (ax 0 (uX a)) (bp 0 0 (0<=uX a) (uX a*(↑((48:Nat)):Int)<=140737488355328/\am 0 (0<=ac (cq2 (it (uX a)) (((0:Int),(0:Int)),([]:ad),(0:Int)))) (take (it 0) (cq2 (it (uX a)) (((0:Int),(0:Int)),([]:ad),(0:Int)))=([]:List cz)))) (([]:List cz)=([]:List cz))):= by
  delta ac ao aq aK bp am ai dH uX ax bn
  rintro x-⟨h0,h1⟩
  rw[aG (n:=(0:Int)-0) ab ab,aG ab ab]
  refine aw (λa=>?_) (λa=>aw (λa=>?_) (λa=>rfl))
  .grind
  .grind
theorem ah9:aC 278 a53.spec:=aF Tryz.func278 (Gx aD (d:=25)) aU a29
theorem I0{α:Type}{l:List (List α)}{j:Int}(h0:0<=j)(h1:j<be l):(l.take (it (j+1))).flatten=(l.take (it j)).flatten++Om l (it j) default:=by
 have a:it j<be l:=ab
 have e:it (j+1)=it j+1:=ab
 rw[e,zu a,cj1,cq,cG a,iA]
 simp
theorem C8{α:Type}(l:List (List α))(k:Nat):(l.take k).flatten.length<=be l.flatten:=by
 conv=>rhs;rw[← kP k l,cj1,bM]
 omega
def Rm:Ct:=⟨[.val (.sl (.sl fm))],[.own 153 fm],λd=>[(be d.1.flatten:Int)<=1073741824],λd=>((d.1.flatten,()),())⟩
def bp4:bw Rm.ps->bL:=(λd=>{loops:=(bu 3 (λS=>{ι:=Int×Int,qn:=fH,μ:=λi=>it (be d.1-i.1),inv:=λi=>0<=i.1/\i.1<=be d.1/\i.2=((d.1.take (it i.1)).flatten.length:Int),keep:=[0,9,10],slots:=λi=>[(3,.int .i64 i.2),(11,.int .i64 i.1)]}) (bu 11 (λS=>{ι:=Int×(List Rt),qn:=fH,μ:=λi=>it (be d.1-i.1),inv:=λi=>0<=i.1/\i.1<=be d.1/\i.2=(d.1.take (it i.1)).flatten,keep:=[25,26],slots:=λi=>[(6,.own 524288 4),(27,.int .i64 i.1)],names:=λi=>[(524288,.live (.row 153 fm i.2))]}) cC))})
def yg(a:List Rt)(b:List cz):=bP ((be a+be b)*48)
def Lk(a:Int)(b:List (List cz))(c:Int):=am a (a<=ac b) (c=ac (cc9 (take (it a) b)))
theorem ac4:
 ∀(a:List (List cz)),ai (be a<=cb2/\ ∀(b:List cz),b∈a->c9 b)->ac (cc9 a)<=1073741824->(∃(b c:Int),Lk b a c/\a=a/\0=c/\a=a/\ac a=ac a/\ai (0=b))/\ ∀(b c:Int),Lk b a c->ar (ax b (ac a)) (am b (b<ac a) (ar (dH (ao (c+ac (ae a b)))) False (∃(d e:Int),Lk d a e/\bj (ac a) d b/\a=a/\ao (c+ac (ae a b))=e/\a=a/\ac a=ac a/\ai (bf b d)))) (bt c 1073741824 (∃(d:Int) (e:List Rt),am d (d<=ac a) (e=cc9 (take (it d) a))/\a=a/\ac a=ac a/\0=d/\ai ([]=e)) (∀(d:Int)(e:List Rt),am d (d<=ac a) (e=cc9 (take (it d) a))->ar (ax d (ac a)) (bJ d (ac a) (yg e (ae a d)) (∃(f:Int) (g:List Rt),am f (f<=ac a) (g=cc9 (take (it f) a))/\bj (ac a) f d/\a=a/\ac a=ac a/\bf d f/\ai (e++ae a d=g))) (e=cc9 a))):= by
  delta ae ac ao aq aK c9 dB aO cS bj am bP bt ai bf cN bJ dH yg ax Lk
  rintro x ⟨⟨hl,-⟩,-⟩ ht
  simp only[cb2] at hl
  refine⟨⟨0,0,⟨ab,ab,az⟩,aI⟩,?_⟩
  rintro j s ⟨c,h1,h2⟩
  have hle:=C8 x (it j)
  refine ci (λa=>?_) (λa=>?_)
  .have e:=I0 c a
   have b:=C8 x (it (j+1))
   have el:((x.take (it (j+1))).flatten.length:Int)=s+be (Om x (it j) Sk):=by rw[e,bM];omega
   rw[aG ab ab]
   refine⟨c,a,ci (λhc=>?_) (λhc=>?_)⟩
   .omega
   .exact⟨j+1,_,⟨ab,ab,el.symm⟩,ab,aI⟩
  .refine⟨ab,ab,⟨0,[],⟨ab,ab,az⟩,aI⟩,?_⟩
   rintro k ys ⟨d,k1,rfl⟩
   refine ci (λa=>?_) (λa=>?_)
   .have e:=I0 d a
    have b:=C8 x (it (k+1))
    refine⟨d,a,?_,k+1,_,⟨ab,ab,e.symm⟩,ab,aI⟩
    grind
   .rw[gN ab]
theorem bL6:aC 231 Rm.spec:=aF Tryz.func231 (ap aD ah9) bp4 ac4
theorem zX{α:Type} [Inhabited α] {l:List α} {j:Int} (h0:0<=j) (h1:j<be l):l.set (it j) (Om l (it j) Sk)=l:=by
 simp_all
def SO:Ct:=⟨[.val (.sl fm),.val cI,.val cI,.val (.sl fm)],[.own 153 fm],λd=>[0<=d.2.1,d.2.1<=be d.1,0<=d.2.2.1,d.2.2.1<=be d.1,(be d.1:Int)<=134217728,(be d.2.2.2.1:Int)<=134217728,∀ y∈d.1,(be y.2.1:Int)<=1099511627776,∀ y∈d.2.2.2.1,(be y.2.1:Int)<=1099511627776],λd=>((d.1.take (it d.2.1)++(d.2.2.2.1++d.1.drop (it d.2.2.1)),()),())⟩
def bF1:bw SO.ps->bL:=(λd=>{loops:=(bu 3 (λS=>{ι:=Int,μ:=λi=>it ((be (d.1.take (it d.2.1)++(d.2.2.2.1++d.1.drop (it d.2.2.1))):Int)-i),inv:=λi=>0<=i/\i<=(be (d.1.take (it d.2.1)++(d.2.2.2.1++d.1.drop (it d.2.2.1))):Int),keep:=[9,20,21],slots:=λi=>[(22,.int .i64 i)],keepN:=[320]}) cC)})
def qK(a:List cz)(b:Int)(c:List cz)(d:Int):=cc9 [bY a (it 0) (it b),c,bY a (it d) (it (ac a))]
def rN(a b c:Int)(d e:Prop):=(0<=a/\a<=b)/\bj b a c/\d/\e
def uE(a b:Int)(c d:Prop):=∃(e:Int),rN e a b c (bf b e/\d)
def vC(a:List cz):=∀(b:cz),b∈a->aT b.2.1
def ub(a:Int)(b c:Prop):=∃(d:Int),(0<=d/\d<=a)/\b/\0=d/\c
def Co(a:Int)(b c:List cz)(d:Int):=take (it a) b++(c++drop (it d) b)
theorem a72:
 ∀(a:List cz)(b c:Int)(d:List cz),c9 a/\bG b c (c9 d) True->am b (b<=ac a) (bt c (ac a) (ac a<=134217728) (ac d<=134217728/\vC a/\vC d))->bt 0 b (b<=ac a) (bt c (ac a) (ac a<=ac a) (ac (qK a b d c)<=1073741824/\ub (ac (Co b a d c)) (ac (qK a b d c)=ac (qK a b d c)) (ai (qK a b d c=qK a b d c))/\ ∀(e:Int),0<=e/\e<=ac (Co b a d c)->ar (ax e (ac (qK a b d c))) (bJ e (ac (qK a b d c)) (aT (ae (qK a b d c) e).2.1) (am e (e<ac (qK a b d c)) (uE (ac (Co b a d c)) e (ac (qK a b d c)=ac (qK a b d c)) (ai (set (qK a b d c) (it e) (ae (qK a b d c) e)=qK a b d c))))) (qK a b d c=Co b a d c))):= by
  delta ae ac ao aq aK c9 dB aO cS bG aT bj qK am bt ai bf uE rN vC cN ub bJ ax Co
  rintro l a b m-⟨h0,h1,h2,h3,h4,h5,h6,h7⟩
  have e:cc9 [bY l (it (0:Int)) (it a),m,bY l (it b) (it (be l:Int))]=l.take (it a)++(m++l.drop (it b)):=by
   simp[bY]
  rw[e]
  have d:∀ y∈l.take (it a)++(m++l.drop (it b)),(be y.2.1:Int)<=1099511627776:=by
   grind
  have hlen:be (l.take (it a)++(m++l.drop (it b)))<=be l+(be m+be l):=by
   grind
  refine⟨ab,h0,h1,h2,h3,ab,ab,⟨0,⟨ab,ab⟩,aI⟩,?_⟩
  rintro j ⟨f,j1⟩
  refine aw (λc=>?_) (λc=>rfl)
  have c:=aX c
  refine⟨f,c,d _ (dm f c),f,c,j+1,⟨ab,ab⟩,ab,rfl,aG ab ab,zX f c,aP⟩
theorem Ti:aC 186 SO.spec:=aF Tryz.func186 (ap (ap aD bL6) XV) bF1 a72
def bj3:Cn:=⟨[.val (.sl fm),.agg pU],[.val cI,.val .bool],λ_=>[],λd y=>0<=y.1.1/\y.1.1<=be d.1/\(dU d.1->(∀ z∈d.1.take (it y.1.1),cO z.1 d.2.1)∧∀ z∈d.1.drop (it y.1.1),¬ cO z.1 d.2.1)/\y.1.2.1=bZ2 (y.1.1<be d.1/\(Om d.1 (it y.1.1) Sk).1=d.2.1),λd h=>let ⟨k,h0,h1,h2⟩:=TN d.1 d.2.1;⟨((k,bZ2 (k<be d.1/\(Om d.1 (it k) Sk).1=d.2.1),()),()),h0,h1,h2,rfl⟩⟩
theorem as2:
 ∀(a:List cz)(b c:Int),c9 a/\ai (aO b/\aq c)->True-> ∀(d:Int)(e:Bool),ya d a b c e->ya d a b c e:= by
  delta ae ac aq aK c9 dB aO cS am Di bt ai ya
  grind
theorem Nu:aC 185 bj3.spec:=lL Tryz.func185 (ap aD aS8) aU as2
def ie(l:List Rt)(r:Rt):List Rt:=l.filter (λa=>bZ2 (cO a.1 r.1))++r::l.filter (λa=>bZ2 (cO r.1 a.1))
def lG(l:List Rt)(p:fB):List Rt:=l.filter (λa=>bZ2 (a.1≠p))
def okL(l:List Rt):Prop:=(be l:Int)<=134217728∧∀ y∈l,(be y.2.1:Int)<=1099511627776
def A0(a:Int)(b:Option Rt)(r:Rt):Option Rt:=if iO r.1 a then match b with|none=>bZ1 r|some q=>if q.1.2<r.1.2 then bZ1 r else bZ1 q else b
def rO(l:List Rt)(a:Int):Option Rt:=l.foldl (A0 a) none
def cR(l:List Rt)(a:Int):Rt:=match rO l a with|none=>((0,0),[],0)|some r=>r
def tE(l:List Rt)(a:Int):Bool:=(rO l a).isSome
theorem Zl{l:List Rt}{p:fB}{k:Nat}(h1:∀ z∈l.take k,cO z.1 p)(h2:∀ z∈l.drop k,¬ cO z.1 p):l.take k=l.filter (λa=>bZ2 (cO a.1 p)):=by
 conv=>rhs;rw[← kP k l]
 rw[Ao,cd1.2 (by simpa using h1),cf4.2 (by simpa using h2),iX]
theorem WS{l:List Rt}{i:Int}(h0:0<=i)(h1:i<be l):l=l.take (it i)++Om l (it i) Sk::l.drop (it (i+1)):=by
 have a:it i<be l:=ab
 rw[cq,cG a,iA,show it (i+1)=it i+1 from by omega,← s9 a,kP]
theorem Xz{l:List Rt}{p:fB}{i:Int}(hs:dU l)(h0:0<=i)(hl:i<be l)(f:∀ z∈l.take (it i),cO z.1 p)(g:(Om l (it i) Sk).1=p):l.drop (it (i+1))=l.filter (λa=>bZ2 (cO p a.1))/\l.take (it i)++l.drop (it (i+1))=lG l p:=by
 have d:=WS h0 hl
 have hp:(Om l (it i) Sk::l.drop (it (i+1))).Pairwise λa b=>cO a.1 b.1:=by
  have:=hs;rw[d] at this;exact (cf0.1 this).2.1
 have h:∀ z∈l.drop (it (i+1)),cO p z.1:=λz c=>by rw[← g];exact (ca4.1 hp).1 z c
 generalize Om l (it i) Sk=r at *
 generalize l.take (it i)=A at *
 generalize l.drop (it (i+1))=B at *
 subst d
 subst g
 constructor
 .rw[Ao,cg5,ah (by simp[uu]),cf4.2 (by simpa using λz c=>Bn (f z c)),yv,cd1.2 (by simpa using h)]
 .rw[lG,Ao,cg5,ah az,cd1.2 (λz c=>ft (λ(e:z.1=r.1)=>uu _ (e▸f z c))),cd1.2 (λz c=>ft (λ(e:z.1=r.1)=>uu _ (e▸h z c)))]
theorem Vr{l:List Rt}{p:fB}{i:Int}(hs:dU l)(h0:0<=i)(j:∀ z∈l.take (it i),cO z.1 p)(g:∀ z∈l.drop (it i),¬ cO z.1 p)(he:¬ (i<be l/\(Om l (it i) Sk).1=p)):l.drop (it i)=l.filter (λa=>bZ2 (cO p a.1))/\l=lG l p:=by
 have h3:∀ z∈l.drop (it i),cO p z.1:=by
  intro z c;obtain e|h:=It (g z c)
  .exfalso;by_cases hl:i<be l
   .have k:it i<be l:=ab;have d:(Om l (it i) Sk).1≠p:=λe=>he ⟨hl,e⟩;rw[cq,cG k,iA] at d;have m:(l.drop (it i)).Pairwise λa b=>cO a.1 b.1:=co8 hs;rw[s9 k] at c m g;obtain rfl|c:=dO.1 c
    .exact d e
    .exact g _ (eV) (e▸(ca4.1 m).1 z c)
   .rw[ce2 ab] at c;simp at c
  .exact h
 have f:=kP (it i) l
 constructor
 .conv=>rhs;rw[← f]
  rw[Ao,cf4.2 (by simpa using λz c=>Bn (j z c)),yv,cd1.2 (by simpa using h3)]
 .symm;apply cd1.2;intro z c;rw[← f] at c;apply ft;obtain c|c:=dI.1 c
  .exact λe=>uu _ (e▸j z c)
  .grind
def bG2:Ct:=⟨[.val (.sl fm),.agg fm],[.own 153 fm],λd=>[dU d.1,okL d.1,(be d.2.1.2.1:Int)<=1099511627776],λd=>((ie d.1 d.2.1,()),())⟩
def JX(a:Bool)(b:Int)(c:List cz)(d:Int)(e f g:Prop):=ar a (am b (b<=ac c) (bt (ao (b+1)) (ac c) (ac c<=134217728) (d<=134217728/\e/\f))) (am b (b<=ac c) (bt b (ac c) (ac c<=134217728) (d<=134217728/\e/\g)))
def ob(a:cz):=[a]
theorem bG6:
 ∀(a:List cz)(b c:Int)(d:ad)(e:Int),c9 a/\ai (dB b c d e)->dU a/\okL a/\aT d-> ∀(f:Int)(g:Bool),ya f a b c g->JX g f a (ac (ob ((b,c),d,e))) (vC a) (vC (ob ((b,c),d,e))/\take (it f) a++(ob ((b,c),d,e)++drop (jL (f+1)) a)=ie a ((b,c),d,e)) (vC (ob ((b,c),d,e))/\Co f a (ob ((b,c),d,e)) f=ie a ((b,c),d,e)):= by
  delta ae ac ao aq aK c9 dB aO cS aT am Di bt ai ya vC JX jL ob Co
  rintro l a n nx b-⟨e,⟨k,m⟩,o⟩ i f ⟨d,g,c,rfl⟩
  have ⟨c,h⟩:=c e
  refine ci (λj=>?_) (λj=>?_)
  .have ⟨f1,f2⟩:=j
   rw[aG ab ab]
   refine⟨d,g,ab,ab,k,az,m,by simpa using o,?_⟩
   rw[(Xz e d f1 c f2).1,Zl c h];rfl
  .refine⟨d,g,d,g,k,az,m,by simpa using o,?_⟩
   rw[(Vr e d c h j).1,Zl c h];rfl
theorem Zd:aC 127 bG2.spec:=aF Tryz.func127 (ap (ap aD Nu) Ti) aU bG6
def bi8:Ct:=⟨[.val (.sl fm),.agg pU],[.own 153 fm],λd=>[dU d.1,okL d.1],λd=>((lG d.1 d.2.1,()),())⟩
def vE(a:List cz):=ac a<=134217728/\ ∀(b:Rt),b∈a->aT b.2.1
theorem bm1:
 ∀(a:List cz)(b c:Int),c9 a/\ai (aO b/\aq c)->dU a/\vE a-> ∀(d:Int)(e:Bool),ya d a b c e->JX e d a (↑((0:Nat)):Int) (vC a) (vC []/\take (it d) a++drop (jL (d+1)) a=lG a (b,c)) (vC []/\take (it d) a++drop (it d) a=lG a (b,c)):= by
  delta ae ac ao aq aK c9 dB aO cS aT am Di bt ai ya vE vC JX jL
  rintro l a n-⟨d,h,j⟩ i f ⟨b,e,c,rfl⟩
  have ⟨c,h3⟩:=c d
  refine ci (λg=>?_) (λg=>?_)
  .have ⟨f1,f2⟩:=g
   rw[aG ab ab]
   exact⟨b,e,ab,ab,h,az,j,az,(Xz d b f1 c f2).2⟩
  .refine⟨b,e,b,e,h,az,j,az,?_⟩
   rw[kP];exact (Vr d b c h3 g).2
theorem TK:aC 126 bi8.spec:=aF Tryz.func126 (ap (ap aD Nu) Ti) aU bm1
theorem ay3{l:List Rt}{a i:Int}(h0:0<=i)(h1:i<be l):rO (l.take (it (i+1))) a=A0 a (rO (l.take (it i)) a) (Om l (it i) Sk):=by
 have b:it i<be l:=ab
 rw[show it (i+1)=it i+1 from by omega,zu b,rO,lT,cq,cG b,iA]
 rfl
theorem a49{l:List Rt}{a b i:Int}(h0:0<=i)(h1:i<be l)(h:rO (l.take (it i)) a=if b<0 then none else bZ1 (Om l (it b) Sk))(c:Bool)
  (hc:c=(bif iO (Om l (it i) Sk).1 a then bif bZ2 (b<0) then bZ3 else bZ2 ((Om l (it b) Sk).1.2<(Om l (it i) Sk).1.2) else bZ6)) :
  rO (l.take (it (i+1))) a=if (if c then i else b)<0 then none else bZ1 (Om l (it (if c then i else b)) Sk):=by
 rw[ay3 h0 h1,h]
 unfold A0
 grind
theorem bi4{l:List Rt}{a:Int}{k:Nat}(h:∀ z∈l.drop k,iO z.1 a=bZ6):rO l a=rO (l.take k) a:=by
 conv=>lhs;rw[← kP k l]
 unfold rO
 rw[lT]
 generalize List.foldl (A0 a) none (l.take k)=s
 generalize l.drop k=m at h
 induction m generalizing s with
 | nil=>rfl
 | cons z r ih =>
  rw[List.foldl_cons,show A0 a s z=s from by rw[A0.eq_def,ah (by simp[h z eV])]];simp_all
theorem ba8{p:fB}{a:Int}(h:¬ cO p (a,33)):iO p a=false:=by
 unfold iO nH
 unfold cO at h
 grind
def Yl:Ct:=⟨[.val (.sl fm),.val dw],[.agg fm,.val .bool],λd=>[dU d.1,okL d.1],λd=>((cR d.1 d.2.1,tE d.1 d.2.1,()),())⟩
def bq6:bw Yl.ps->bL:=(λd=>{loops:=(bu 4 (λS=>{ι:=Int×Int×Int,qn:=oB,μ:=λi=>it (i.2.2-i.1),inv:=λi=>0<=i.1/\i.1<=i.2.2/\i.2.2<=be d.1 ∧ -1<=i.2.1/\i.2.1<i.1/\rO (d.1.take (it i.1)) d.2.1=(if i.2.1<0 then none else bZ1 (Om d.1 (it i.2.1) Sk))/\(dU d.1→∀ z∈d.1.drop (it i.2.2),¬ cO z.1 (d.2.1,33)),keep:=[0,1,4],slots:=λi=>[(8,.int .i64 i.2.1),(17,.int .i64 i.2.2),(18,.int .i64 i.1)],keepN:=[80]}) cC)})
def Ox(a:List cz)(b j k l:Int) :=
 0<=j/\j<=l/\l<=(ac a)/\ -1<=k/\k<j/\(rO (take (it j) a) b=if k<0 then none else bZ1 (ae a k))/\(dU a-> ∀(m:cz),m∈drop (it l) a-> ¬cO m.1 (b,(33:Int)))
def NC(a:List cz)(b e f g:Int) :=
 e<=g/\g<=(ac a)/\ -1<=f/\f<e/\(rO (take (it e) a) b=if f<0 then none else bZ1 (ae a f))/\(dU a-> ∀(h:cz),h∈drop (it g) a-> ¬cO h.1 (b,(33:Int)))
def KN :=
 (0:Int)=0/\(0:Int)=0/\(0:Int)=0/\True
theorem be4 :
 ∀(a:List cz)(b:Int),(be a<=cb2/\ ∀(c:cz),c∈a->((0<=c.1.1/\c.1.1<=4294967295)/\KO c.1.2)/\(be c.2.1<=cb2/\ ∀(d:Int),d∈c.2.1->KO d)/\KO c.2.2)/\(0<=b/\b<=4294967295)/\True->(dU a/\(ac a)<=134217728/\ ∀(c:Rt),c∈a->(ac c.2.1)<=1099511627776)-> ∀(c:Int)(d:Bool),0<=c/\c<=(ac a)/\(dU a->(∀(e:cz),e∈take (it c) a->cO e.1 (b,(33:Int)))/\ ∀(e:cz),e∈drop (it c) a-> ¬cO e.1 (b,(33:Int)))/\d=bZ2 (c<(ac a)/\(ae a c).1=(b,(33:Int)))->(∃(e:Int) (f:Int),∃(g:Int),(0<=e/\(NC a b e f g))/\a=a/\b=b/\-1=f/\c=g/\0=e/\(KN))/\ ∀(e f g:Int),0<=e/\(NC a b e f g)->ar (bZ2 (e<g)) (0<=e/\e<(ac a)/\ ∀(h:Bool),h=iO (ae a e).1 b->(tf h)/\(tf h)/\ ∀(i:Bool),i=bZ2 (f<0)->((h&& ! i)->(rf (h&& ! i))/\(rf (h&& ! i))/\0<=e/\e<(ac a)/\True)/\(tf (h&& ! i))/\(tf (h&& ! i))/\(tf (h&& ! i))/\((h&& ! i)->(rf (h&& ! i))/\(rf (h&& !
 i))/\0<=f/\f<(ac a)/\True)/\(tf (h&& ! i))/\(tf (h&& ! i))/\(tf (h&& ! i))/\((h&& ! i)->(rf (h&& ! i))/\(rf (h&& ! i))/\True)/\(h->(rf h)/\(i=bZ6->(h&& ! i))/\True)/\(rf h)/\ar (bif h then bif i then bZ3 else bZ2 ((ae a f).1.2<(ae a e).1.2) else bZ6) (∃(j:Int) (k:Int),∃(l:Int),(Ox a b j k l)/\it (l -j)<it (g -e)/\a=a/\b=b/\e=k/\g=l/\ao (e+1)=j/\(KN)) (∃(j:Int) (k:Int),∃(l:Int),(Ox a b j k l)/\it (l -j)<it (g -e)/\a=a/\b=b/\f=k/\g=l/\ao (e+1)=j/\(KN))) (ar (bZ2 (f<0)) ((((0:Int),(0:Int)),([]:ad),(0:Int))=cR a b/\bZ6=tE a b) (0<=f/\f<(ac a)/\((be (ae a f).2.1):Int)<=1099511627776/\ae a f=cR a b/\bZ3=tE a b)):=by
  delta Ox NC KN tf rf ao ae ac;rintro l a ⟨⟨hl,-⟩,-⟩⟨k,hk,hx⟩ n f ⟨n0,n1,n2,-⟩;refine⟨⟨0,-1,n,⟨ab,ab,ab,ab,ab,by simp[rO],λ_=>(n2 k).2⟩,aI⟩,?_⟩;rintro i b n ⟨m,h1,o,h3,h4,p,g⟩;refine ci (λhi=>?_) (λhi=>?_)
  .have d:=a49 m ab p;refine⟨m,ab,?_⟩
   (repeat (refine cL ?_;repeat refine cK ?_));refine aw (λh=>?_) (λh=>?_)
   .have d:=d bZ3 h.symm;refine⟨i+1,i,n,⟨ab,ab,o,ab,ab,by simpa using d,g⟩,ab,aI⟩
   .have d:=d bZ6 h.symm;refine⟨i+1,b,n,⟨ab,ab,o,ab,ab,by simpa using d,g⟩,ab,aI⟩
  .have e:i=n:=ab;subst e;have c:=bi4 (λz hz=>ba8 (g k z hz));rw[p] at c;refine ci (λj=>?_) (λj=>?_)
   .rw[aj j] at c;simp[cR,tE,c]
   .rw[ah j] at c;refine⟨ab,ab,hx _ (dm ab ab),?_,?_⟩
    .rw[cR,c]
    .rw[tE,c];rfl
theorem ak0:aC 307 Yl.spec:=aF Tryz.func307 (ap (ap (ap aD Nu) XV) VH) bq6 be4
def vI(l links:ad)(j:Nat):Prop:=(0<j->Om l (j-1) Sk<Om l j Sk)/\Om l j Sk∈links
instance (l links:ad) (j:Nat):Decidable (vI l links j):=by unfold vI;infer_instance
def Oa(l links:ad):Prop:=be l<=16∧∀ j:Nat,j<be l->vI l links j
instance (l links:ad):Decidable (Oa l links):=by unfold Oa;infer_instance
def pm(r:Rt)(links:ad):Prop:=Oa r.2.1 links/\1<=r.2.2/\r.2.2<=3
instance (r:Rt) (links:ad):Decidable (pm r links):=by unfold pm;infer_instance
def chk(links:ad):Option fB->List Rt->Int
 | _,[]=>0
 | q,r::rs=>if nH r.1=bZ6 then 10 else if q.any (λq=>bZ2 (0<=ja q r.1)) then 6 else if ¬ pm r links then 12 else chk links (bZ1 r.1) rs
def jq(l:List Rt)(links:ad):Int:=if (64:Int)<be l then 5 else chk links none l
def Ft(l:List Rt)(i:Int):Option fB:=if i=0 then none else bZ1 (Om l (it (i-1)) Sk).1
theorem aB6{l a:ad}{i:Int}(h0:0<=i)(h:0<i->Om l (it i-1) Sk<Om l (it i) Sk)(h2:Om l (it i) Sk∈a):vI l a (it i) :=
 ⟨λhi=>h ab,h2⟩
theorem bH2{l a:ad}{i:Int}(h0:0<=i)(h:∀ j:Nat,(j:Int)<i->vI l a j)(h2:vI l a (it i)):∀ j:Nat,(j:Int)<i+1->vI l a j:=by
 grind
theorem aP4{l:List Rt}{a:ad}{i:Int}{q:Option fB}(h0:0<=i)(h1:i<be l):chk a q (l.drop (it i))=if nH (Om l (it i) Sk).1=bZ6 then 10 else if q.any (λq=>bZ2 (0<=ja q (Om l (it i) Sk).1)) then 6 else if ¬ pm (Om l (it i) Sk) a then 12 else chk a (bZ1 (Om l (it i) Sk).1) (l.drop (it (i+1))):=by
 have b:it i<be l:=ab
 have e:it (i+1)=it i+1:=ab
 rw[s9 b,chk,cq,cG b,iA,e]
def WV:Ct:=⟨[.agg fm,.val (.sl cI)],[.val .bool],λ_=>[],λd=>((bZ2 (pm d.1 d.2.1),()),())⟩
def aY5:bw WV.ps->bL:=(λd=>{loops:=(bu 4 (λS=>{ι:=Int,μ:=λi=>it (be d.1.2.1-i),inv:=λi=>0<=i/\i<=be d.1.2.1∧∀ j:Nat,(j:Int)<i->vI d.1.2.1 d.2.1 j,keep:=[1,2,22,23],slots:=λi=>[(24,.int .i64 i)],keepN:=[48]}) cC)})
def IV(a:Int)(b c:ad):=am a (a<=ac b) (∀(d:Nat),(d:Int)<a->vI b c d)
theorem bQ9:
 ∀(a b:Int)(c:ad)(d:Int)(e:ad),dB a b c d/\ai (cS e)->True-> ∀(f:Bool),f=ax 16 (ac c)->cV f (bv f) (lC (bq f (ax d 1)) (ax 3 d) (bZ6=bZ2 (pm ((a,b),c,d) e)) ((∃(g:Int),IV g c e/\e=e/\gv c (ac c) (0=g) (bp a b (c=c) (ai (d=d))))/\ ∀(g:Int),IV g c e->ar (ax g (ac c)) (am g (g<ac c) (∀(h:Bool),h=ax 0 g->cj h h (aJ h) (h->iP h h (ao (g -1)) (ao (g -1)<ac c)) (cj h h (dA h) (h->h) (∀(i:Bool),i=br h (bZ2 (ae c g<=ae c (ao (g -1))))->gq i/\jE i (bq i ( !bZ2 (ae c g∈e))) (bZ6=bZ2 (pm ((a,b),c,d) e)) (∃(j:Int),IV j c e/\bj (ac c) j g/\e=e/\gv c (ac c) (bf g j) (bp a b (c=c) (ai (d=d)))))))) (bZ3=bZ2 (pm ((a,b),c,d) e)))):= by
  delta ae ac ao aq aK bR bp aJ dB aO cS cj bq bj br cV am bv gq lC ai gv iP jE bf dA cN IV ax bn
  rintro a n l b ks ⟨⟨⟨-,-⟩,⟨hl,-⟩,-⟩,-⟩ -
  (repeat (refine cL ?_;repeat refine cK ?_))
  refine aw (λc=>?_) (λc=>?_)
  .have c:¬ (be l<=16/\1<=b/\b<=3):=by simp[-cd7,-cf2,ic] at c;omega
   symm;apply eT
   rintro⟨⟨g,-⟩,e⟩;exact c ⟨g,e⟩
  .have c:be l<=16/\1<=b/\b<=3:=by simp[-cd7,-cf2,ic] at c;omega
   refine⟨⟨0,⟨ab,ab,ab⟩,aI⟩,?_⟩
   rintro i ⟨f,g,e⟩
   refine ci (λhi=>?_) (λhi=>?_)
   .refine⟨f,hi,?_⟩
    rw[aG ab ab]
    (repeat (refine cL ?_;repeat refine cK ?_))
    refine aw (λd=>?_) (λd=>?_)
    .have d:¬ vI l ks (it i):=by
      rintro⟨k1,k2⟩
      simp[-cd7,-cf2,ic,k2] at d
      omega
     symm;apply eT
     rintro⟨⟨-,h3⟩,-⟩;exact d (h3 _ (show it i<be l by omega))
    .have d:vI l ks (it i):=by
      simp[-cd7,-cf2,ic] at d
      refine aB6 f (λhp=>?_) d.2
      omega
     exact⟨i+1,⟨ab,ab,bH2 f e d⟩,ab,rfl,rfl,rfl,aG ab ab,aI⟩
   .symm;apply ft
    exact⟨⟨c.1,λj hj=>e j (by simp only at hj;omega)⟩,c.2⟩
theorem aa4:aC 223 WV.spec:=aF Tryz.func223 (ap aD aI0) aY5 bQ9
def Ya:Ct:=⟨[.val (.sl fm),.val (.sl cI)],[.val cI],λ_=>[],λd=>((jq d.1 d.2.1,()),())⟩
def af4:bw Ya.ps->bL:=(λd=>{loops:=(bu 4 (λS=>{ι:=Int,μ:=λi=>it (be d.1-i),inv:=λi=>0<=i/\i<=be d.1/\jq d.1 d.2.1=chk d.2.1 (Ft d.1 i) (d.1.drop (it i)),keep:=[0,1,10,11],slots:=λi=>[(12,.int .i64 i)]}) cC)})
def Iz(a:Int)(b:List cz)(c:ad):=am a (a<=ac b) (jq b c=chk c (Ft b a) (drop (it a) b))
def wo(a:List cz)(b c:Int)(d e:Prop):=bj (ac a) b c/\a=a/\d/\e
theorem aU4:
 ∀(a:List cz)(b:ad),c9 a/\ai (cS b)->True->ar (ax 64 (ac a)) (5=jq a b) ((∃(c:Int),Iz c a b/\a=a/\b=b/\a=a/\ac a=ac a/\ai (0=c))/\ ∀(c:Int),Iz c a b->sm c (ac a) (c<ac a) (ar ( !nH (ae a c).1) (10=jq a b) (∀(d:Bool),d=ax 0 c->cj d d (iP d d (ao (c -1)) (ao (c -1)<ac a)) (d->aJ d) (fq d d (dA d) (d->aJ d) ((d->d)/\ar (br d (fp (ja (ae a (ao (c -1))).1 (ae a c).1))) (6=jq a b) (ar ( !bZ2 (pm (ae a c) b)) (12=jq a b) (∃(e:Int),Iz e a b/\wo a e c (b=b) (a=a/\ac a=ac a/\ai (bf c e)))))))) (jq a b)):= by
  delta ae ac ao aq aK aJ c9 dB aO cS cj bj br am fq ai iP bf dA cN fp Iz sm ax wo
  rintro l ks ⟨⟨hl,-⟩,-⟩ -
  refine ci (λa=>?_) (λa=>?_)
  .rw[jq,aj a]
  .refine⟨⟨0,⟨ab,ab,by rw[jq,ah a];rfl⟩,aI⟩,?_⟩
   rintro i ⟨g,h1,h2⟩
   rw[h2]
   refine ci (λhi=>?_) (λhi=>?_)
   .rw[aP4 g hi,aG ab ab]
    refine⟨g,hi,aw (λc=>?_) (λc=>?_)⟩
    .simp_all
    .simp only[Ak] at c
     rw[ah (by simp[-cd7,-cf2,c])]
     (repeat (refine cL ?_;repeat refine cK ?_))
     have he:(Option.any (λq=>bZ2 (0<=ja q (Om l (it i) Sk).1)) (Ft l i))=(bif bZ2 (0<i) then bZ2 (0<=ja (Om l (it (i-1)) Sk).1 (Om l (it i) Sk).1) else bZ6):=by
      unfold Ft
      by_cases e:i=0
      .simp[e]
      .rw[ah e,Option.any_some];simp[show 0<i from by omega]
     rw[he]
     refine aw (λd=>?_) (λd=>?_)
     .rw[aj d]
     .rw[ah (by rw[d];decide)]
      refine aw (λf=>?_) (λf=>?_)
      .simp_all
      .simp at f
       rw[ah (λh=>h f)]
       refine⟨i+1,⟨ab,ab,?_⟩,ab,aI⟩
       rw[Ft,ah ab,show i+1-1=i from by omega]
   .rw[ce2 ab,chk]
theorem SB:aC 176 Ya.spec:=aF Tryz.func176 (ap (ap (ap aD aa4) XQ) SU) af4 aU4
theorem UH{l:List Rt}{i:Int}(h0:0<=i)(h1:i<be l):l.take (it (i+1))=l.take (it i)++[Om l (it i) Sk]:=by
 have hj:it i<be l:=ab
 rw[show it (i+1)=it i+1 from by omega,zu hj,cq,cG hj,iA]
theorem PE{m:List Rt}{r:Rt}(h:∀ z∈m,cO z.1 r.1):ie m r=m++[r]:=by
 rw[ie,cd1.2 (λz hz=>ft (h z hz)),cf4.2 (λz hz=>by simpa using Bn (h z hz))]
theorem Q4{m:List Rt}{r e:Rt}(h:cO r.1 e.1):ie (m++[e]) r=ie m r++[e]:=by
 rw[ie,ie,Ao,Ao,cg5,ah (by simpa using Bn h),cg5,aj (by simpa using h)]
 simp
theorem UG{m:List Rt}{r e:Rt}(h:∀ z∈m,cO z.1 r.1)(he:e.1=r.1):ie (m++[e]) r=m++[r]:=by
 have hi:¬ cO e.1 r.1:=by rw[he];exact uu _
 have hj:¬ cO r.1 e.1:=by rw[he];exact uu _
 have f1:=cd1.2 (λz hz=>ft (h z hz))
 have f2:m.filter (λa=>bZ2 (cO r.1 a.1))=[]:=cf4.2 (λz hz=>by simpa using Bn (h z hz))
 simp[ie,f1,f2,hi,hj]
theorem later{l:List Rt}{p:fB}{i:Int}(hs:dU l)(h0:0<=i)(h1:i<be l){z:Rt}(hz:z∈l.take (it i))(hp:¬ cO z.1 p):cO p (Om l (it i) Sk).1:=by
 have hsp:=WS h0 h1
 unfold dU at hs
 rw[hsp] at hs
 have:=(cf0.1 hs).2.2 z hz _ eV
 obtain e|h:=It hp
 .rw[← e];exact this
 .exact GA h this
def WT:Ct:=⟨[.val (.sl fm),.agg fm],[.own 153 fm],λd=>[dU d.1,okL d.1,(be d.2.1.2.1:Int)<=1099511627776],λd=>((ie d.1 d.2.1,()),())⟩
def Z2:bw WT.ps->bL:=(λd=>{loops:=(bu 4 (λS=>{ι:=Int×Bool×(List Rt),qn:=oB,μ:=λi=>it (be d.1-i.1),inv:=λi=>0<=i.1/\i.1<=be d.1/\(be i.2.2:Int)<=i.1+1/\(i.2.1=bZ6->(∀ z∈d.1.take (it i.1),cO z.1 d.2.1.1)/\i.2.2=d.1.take (it i.1))/\(i.2.1=bZ3->(∃ z∈d.1.take (it i.1),¬ cO z.1 d.2.1.1)/\i.2.2=ie (d.1.take (it i.1)) d.2.1),keep:=[0,3],slots:=λi=>[(5,.own 524288 4),(6,.bool i.2.1),(7,.int .i64 i.1)],keepN:=[64],names:=λi=>[(524288,.live (.row 153 fm i.2.2))]}) cC)})
def Tl(a:Int)(b:List cz)(c d:Int):=∀(e:cz),e∈take (it a) b->cO e.1 (c,d)
def Cl(a:Int)(b:List cz)(c d:Int)(e:List Rt)(f:ad)(g:Int):=(∃(h:cz),h∈take (it a) b/\ ¬cO h.1 (c,d))/\e=ie (take (it a) b) ((c,d),f,g)
def Cs(a:Bool)(b:Int)(c:List cz)(d e:Int)(f:List Rt):=a=bZ6->Tl b c d e/\f=take (it b) c
def C0(a b:Bool)(c d:Prop):=∀(e:Bool),e=a->(e->aJ e)/\(e->e)/\ar (br e b) c d
theorem ax1:
 ∀(a:List cz)(b c:Int)(d:ad)(e:Int),c9 a/\ai (dB b c d e)->dU a/\okL a/\aT d->(∃(f:Int) (g:Bool) (h:List Rt),bt f (ac a) (ac h<=f+1) (Cs g f a b c h/\(g->Cl f a b c h d e))/\a=a/\bZ6=g/\0=f/\bp b c (d=d) (e=e/\ai (h=[])))/\ ∀(f:Int)(g:Bool)(h:List Rt),bt f (ac a) (ac h<=f+1) (Cs g f a b c h/\(g->Cl f a b c h d e))->ar (ax f (ac a)) (am f (f<ac a) (C0 (fp (ja (ae a f).1 (b,c))) ( !g) (aT d/\yg h (ob ((b,c),d,e))/\ar ( !aV (ja (ae a f).1 (b,c))) (bJ f (ac a) (aT (ae a f).2.1) (yg (h++ob ((b,c),d,e)) (ob (ae a f))/\ ∃(i:Int) (j:Bool) (k:List Rt),bt i (ac a) (ac k<=i+1) (Cs j i a b c k/\(j->Cl i a b c k d e))/\wo a i f (bZ3=j) (bf f i/\bp b c (d=d) (e=e/\ai (h++ob ((b,c),d,e)++ob (ae a f)=k))))) (∃(i:Int) (j:Bool) (k:List Rt),bt i (ac a) (ac k<=i+1) (Cs j i
 a b c k/\(j->Cl i a b c k d e))/\wo a i f (bZ3=j) (bf f i/\bp b c (d=d) (e=e/\ai (h++ob ((b,c),d,e)=k))))) (ar ( !aV (ja (ae a f).1 (b,c))) (bJ f (ac a) (aT (ae a f).2.1) (yg h (ob (ae a f))/\ ∃(i:Int) (j:Bool) (k:List Rt),bt i (ac a) (ac k<=i+1) (Cs j i a b c k/\(j->Cl i a b c k d e))/\wo a i f (g=j) (bf f i/\bp b c (d=d) (e=e/\ai (h++ob (ae a f)=k))))) (∃(i:Int) (j:Bool) (k:List Rt),bt i (ac a) (ac k<=i+1) (Cs j i a b c k/\(j->Cl i a b c k d e))/\wo a i f (g=j) (bf f i/\bp b c (d=d) (e=e/\ai (h=k))))))) (ar ( !g) (aT d/\yg h (ob ((b,c),d,e))/\h++ob ((b,c),d,e)=ie a ((b,c),d,e)) (h=ie a ((b,c),d,e))):= by
  delta ae ac ao aq aK bp aJ c9 dB aO cS aT bj br am bP aV Tl Cl bt ai bf cN fp bJ Cs C0 yg ob ax bn wo
  rintro l a n nx b ⟨⟨hl0,-⟩,-⟩⟨hs,⟨hl,hx⟩,hn⟩
  refine⟨⟨0,bZ6,[],⟨ab,ab,az,λ_=>az,λh=>by simp at h⟩,aI⟩,?_⟩
  rintro i dn ys ⟨h0,h1,h2,h3,h4⟩
  refine ci (λhi=>?_) (λhi=>?_)
  .have ht:=UH h0 hi
   have hxi:=hx _ (dm h0 hi)
   have hlt:∀(z:Rt),z∈l.take (it i)->z∈l.take (it (i+1)):=λz hz=>by rw[ht];exact ip _ hz
   have hsi:Om l (it i) Sk∈l.take (it (i+1)):=by rw[ht];simp[-cd7,-cf2]
   have hlater:=λz hz hp=>later (p:=(a,n)) (z:=z) hs h0 hi hz hp
   generalize Om l (it i) Sk=e at *
   refine⟨h0,hi,?_⟩
   (repeat (refine cL ?_;repeat refine cK ?_))
   refine aw (λhc=>?_) (λhc=>?_)
   .have hq:¬ cO e.1 (a,n)/\dn=false:=by rw[← Oz];simpa[ic] using hc
    clear hc
    obtain⟨hc,rfl⟩:=hq
    obtain⟨k1,rfl⟩:=h3 rfl
    refine⟨hn,by simp only[eI];omega,aw (λhz=>?_) (λhz=>?_)⟩
    .have hz:¬ ja e.1 (a,n)=0:=by simpa using hz
     have hgt:cO (a,n) e.1:=by
      obtain h|h:=It hc
      .exact absurd (I9.2 h) hz
      .exact h
     refine⟨h0,hi,hxi,by simp only[bM,eI];omega,i+1,bZ3,_,⟨ab,ab,?_,az,λ_=>⟨⟨e,hsi,hc⟩,rfl⟩⟩,ab,rfl,rfl,aG ab ab,rfl,rfl,rfl,rfl,?_,aP⟩
     .rw[ht,Q4 hgt,PE k1];simp only[bM,eI,eM];omega
     .rw[ht,Q4 hgt,PE k1]
    .have hz:ja e.1 (a,n)=0:=by simpa using hz
     have hz:=I9.1 hz
     refine⟨i+1,bZ3,_,⟨ab,ab,?_,az,λ_=>⟨⟨e,hsi,hc⟩,rfl⟩⟩,ab,rfl,rfl,aG ab ab,rfl,rfl,rfl,rfl,?_,aP⟩
     .rw[ht,UG k1 hz];simp only[bM,eI,eM];omega
     .rw[ht,UG k1 hz]
   .have hc:¬ (¬ cO e.1 (a,n)/\dn=bZ6):=by rw[← Oz];simpa[ic] using hc
    cases dn with
    | false =>
     have hc:=jn λh=>hc ⟨h,rfl⟩
     obtain⟨k1,rfl⟩:=h3 rfl
     have hz:¬ ja e.1 (a,n)=0:=by have:=EW.2 hc;omega
     rw[eT hz]
     refine⟨h0,hi,hxi,by simp only[eI];omega,i+1,bZ6,_,⟨ab,ab,?_,λ_=>⟨?_,rfl⟩,az⟩,ab,rfl,rfl,aG ab ab,rfl,rfl,rfl,rfl,ht.symm,aP⟩
     .simp only[eM];omega
     .rw[ht];intro z hz
      obtain hz|hz:=dI.1 hz
      .exact k1 z hz
      .rw[kY.1 hz];exact hc
    | true =>
     obtain⟨⟨z,z1,z2⟩,rfl⟩:=h4 rfl
     have hgt:=hlater z z1 z2
     have hz:¬ ja e.1 (a,n)=0:=λh=>by have h:=I9.1 h;rw[h] at hgt;exact uu _ hgt
     rw[eT hz]
     have hp:=Q4 (m:=l.take (it i)) (r:=((a,n),nx,b)) hgt
     refine⟨h0,hi,hxi,by simp only[eI];omega,i+1,bZ3,_,⟨ab,ab,?_,az,λ_=>⟨⟨z,hlt z z1,z2⟩,rfl⟩⟩,ab,rfl,rfl,aG ab ab,rfl,rfl,rfl,rfl,?_,aP⟩
     .rw[ht,hp,bM,eI];omega
     .rw[ht,hp]
  .rw[gN ab] at h3 h4
   refine aw (λhd=>?_) (λhd=>?_)
   .obtain⟨k1,rfl⟩:=h3 (by simpa using hd)
    exact⟨hn,by simp only[eI];omega,(PE k1).symm⟩
   .exact (h4 (by simpa using hd)).2
theorem ap3:aC 97 WT.spec:=aF Tryz.func97 (ap (ap aD Tp) bo9) Z2 ax1
theorem UI{m:List Rt}{p:fB}{e:Rt}:lG (m++[e]) p=lG m p++(if e.1=p then [] else [e]):=by
 rw[lG,lG,Ao,cg5,List.filter_nil]
 by_cases h:e.1=p <;> simp[h]
theorem Ts(m:List Rt)(p:fB):be (lG m p)<=be m:=ci0 _ _
def SA:Ct:=⟨[.val (.sl fm),.agg pU],[.own 153 fm],λd=>[okL d.1],λd=>((lG d.1 d.2.1,()),())⟩
def bc6:bw SA.ps->bL:=(λd=>{loops:=(bu 3 (λS=>{ι:=Int×(List Rt),qn:=fH,μ:=λi=>it (be d.1-i.1),inv:=λi=>0<=i.1/\i.1<=be d.1/\i.2=lG (d.1.take (it i.1)) d.2.1,keep:=[0,3],slots:=λi=>[(5,.own 524288 4),(6,.int .i64 i.1)],keepN:=[64],names:=λi=>[(524288,.live (.row 153 fm i.2))]}) cC)})
def Qa(a:List cz)(b c d:Int)(e:List Rt):=∃(f:Int) (g:List Rt),am f (f<=ac a) (g=lG (take (it f) a) (b,c))/\wo a f d (bf d f) (bp b c (e=g) True)
theorem ad3:
 ∀(a:List cz)(b c:Int),c9 a/\ai (aO b/\aq c)->vE a->(∃(d:Int) (e:List Rt),am d (d<=ac a) (e=lG (take (it d) a) (b,c))/\a=a/\0=d/\bp b c (e=[]) True)/\ ∀(d:Int)(e:List Rt),am d (d<=ac a) (e=lG (take (it d) a) (b,c))->ar (ax d (ac a)) (am d (d<ac a) (ar ( !(bZ2 ((ae a d).1.1=b)&&(bZ2 ((ae a d).1.2=c)&&bZ3))) (bJ d (ac a) (aT (ae a d).2.1) (yg e (ob (ae a d))/\Qa a b c d (e++ob (ae a d)))) (Qa a b c d e))) (e=lG a (b,c)):= by
  delta ae ac ao aq aK bp c9 dB aO cS aT bj am bP ai vE bf cN bJ Qa yg ob ax bn wo
  rintro l a n ⟨⟨hl0,-⟩,-⟩⟨hl,hx⟩
  refine⟨⟨0,[],⟨ab,ab,by simp[lG]⟩,aI⟩,?_⟩
  rintro i ys ⟨h0,h1,rfl⟩
  refine ci (λhi=>?_) (λhi=>?_)
  .have ht:=UH h0 hi
   have hxi:=hx _ (dm h0 hi)
   have hle:=Ts (l.take (it i)) (a,n)
   have hle2:be (l.take (it i))<=be l:=by simp only[eM];omega
   generalize Om l (it i) Sk=e at *
   have ⟨⟨c,f⟩,g⟩:=e
   refine⟨h0,hi,aw (λhc=>?_) (λhc=>?_)⟩
   .have hc:¬ (c,f)=(a,n):=by
     intro h;cases h;simp at hc
    refine⟨h0,hi,hxi,by simp only[eI];omega,i+1,_,⟨ab,ab,rfl⟩,ab,rfl,aG ab ab,rfl,rfl,?_,aP⟩
    rw[ht,UI,ah hc]
   .have hc:(c,f)=(a,n):=by
     simp at hc;rw[hc.1,hc.2]
    refine⟨i+1,_,⟨ab,ab,rfl⟩,ab,rfl,aG ab ab,rfl,rfl,?_,aP⟩
    rw[ht,UI,aj hc,iX]
  .rw[gN ab]
theorem bi0:aC 165 SA.spec:=aF Tryz.func165 (ap aD Tp) bc6 ad3
def sa(l:List Rt)(p:fB):Bool:=bZ2 (be (lG l p)<be l)
def bn3:Ct:=⟨[.val (.sl fm),.agg pU],[.val .bool],λd=>[okL d.1],λd=>((sa d.1 d.2.1,()),())⟩
theorem a22:
 ∀(a:List cz)(b c:Int),c9 a/\ai (aO b/\aq c)->vE a->okL a/\ax (ac (lG a (b,c))) (ac a)=sa a (b,c):= by
  delta ac aq aK c9 dB aO cS aT ai vE ax
  rintro l a n-h
  exact⟨h,decide_eq_decide.2 Int.ofNat_lt⟩
theorem aj1:aC 96 bn3.spec:=aF Tryz.func96 (ap aD bi0) aU a22
theorem Zb{l:List Rt}{r z:Rt}:z∈ie l r↔z=r∨(z∈l/\z.1≠r.1):=by
 unfold ie
 simp only[dI,dO,ce8,rF]
 constructor
 .rintro (⟨h,k⟩|h|⟨h,k⟩)
  .exact .inr ⟨h,λe=>uu _ (e▸k)⟩
  .exact .inl h
  .exact .inr ⟨h,λe=>uu _ (e▸k)⟩
 .rintro (h|⟨h,k⟩)
  .exact .inr (.inl h)
  .by_cases hp:cO z.1 r.1
   .exact .inl ⟨h,hp⟩
   .obtain e|e:=It hp
    .exact absurd e k
    .exact .inr (.inr ⟨h,e⟩)
theorem OZ{l:List Rt}{r:Rt}(hs:dU l):dU (ie l r):=by
 unfold dU ie
 refine cf0.2 ⟨cm2 _ hs,ca4.2 ⟨λz hz=>?_,cm2 _ hs⟩,λx hx y hy=>?_⟩
 .simpa using (ce8.1 hz).2
 .have hx:cO x.1 r.1:=by simpa using (ce8.1 hx).2
  obtain rfl|hy:=dO.1 hy
  .exact hx
  .exact GA hx (by simpa using (ce8.1 hy).2)
theorem Wj(l:List Rt)(r:Rt):be (ie l r)<=be l+1:=by
 unfold ie
 rw[bM,cX]
 suffices h:be (l.filter (λa=>bZ2 (cO a.1 r.1)))+be (l.filter (λa=>bZ2 (cO r.1 a.1)))<=be l by omega
 induction l with
 | nil=>simp
 | cons a l ih =>
  simp only[cg5];by_cases h1:cO a.1 r.1
  .have h2:=Bn h1;simp only[h1,h2,decide_true,decide_false,if_true,cX];simp;omega
  .by_cases h2:cO r.1 a.1
   .simp[h1,h2];omega
   .simp[h1,h2];omega
theorem ai5(l:List Rt)(p:fB):sa l p=bZ2 (∃ z∈l,z.1=p):=by
 unfold sa lG
 apply decide_eq_decide.2
 rw[List.length_filter_lt_length_iff_exists]
 simp
abbrev w(n:Int):Int:=bZ4.wrap n
def zC(b:bg8)(at':Int):Int×Int:=(w (b.1*b.2),at')
def wS(b t:bg8)(at':Int):Int:=min (w (t.1+w (at'-t.2))) (w (b.1*b.2))
def gh(b t:bg8)(at':Int):bg8×Bool :=
 if b=(0,0) then ((0,max at' t.2),bZ3) else
  if wS b t (max at' t.2)<b.2 then ((wS b t (max at' t.2),max at' t.2),bZ6) else ((w (wS b t (max at' t.2)-b.2),max at' t.2),bZ3)
def aC8:Ct:=⟨[.agg xp],[.val .bool],λ_=>[],λd=>((bZ2 (d.1=(0,0)),()),())⟩
theorem bw8:
 ∀(a b:Int),dW (aq a/\aq b) ((aV a&&(aV b&&bZ3))=bZ2 ((a,b)=((0:Int),(0:Int)))):= by
  delta aq aK aV ai dW
  rintro x y - -
  simp
theorem Zm:aC 114 aC8.spec:=aF Tryz.func114 aD aU bw8
def bg1:Ct:=⟨[.agg xp,.agg yT,.val cI],[.val cI],λ_=>[],λd=>((wS d.1 d.2.1 d.2.2.1,()),())⟩
theorem az6:
 ∀(a b c d e:Int),(aq a/\aq b)/\(aq c/\aq d)/\ai (aq e)->True->min (ao (c+ao (e -d))) (ao (a*b))=wS (a,b) (c,d) e:= by
  delta ao aq aK ai
  rintro x y a b c - -
  rfl
theorem ZL:aC 181 bg1.spec:=aF Tryz.func181 aD aU az6
def bu3:Ct:=⟨[.agg xp,.val cI],[.agg yT],λ_=>[],λd=>((zC d.1 d.2.1,()),())⟩
theorem bu8:
 ∀(a b c:Int),(aq a/\aq b)/\ai (aq c)->True->(ao (a*b),c)=(w (a*b),c):= by
  delta ao aq aK ai
  rintro x y a - -
  rfl
theorem VO:aC 111 bu3.spec:=aF Tryz.func111 aD aU bu8
def aR8:Ct:=⟨[.agg xp,.agg yT,.val cI],[.agg yT,.val .bool],λ_=>[],λd=>(((gh d.1 d.2.1 d.2.2.1).1,(gh d.1 d.2.1 d.2.2.1).2,()),())⟩
theorem bj9:
 ∀(a b c d e:Int),(aq a/\aq b)/\(aq c/\aq d)/\ai (aq e)->True->ar (bZ2 ((a,b)=((0:Int),(0:Int)))) ((0,max e d)=(gh (a,b) (c,d) e).1/\bZ3=(gh (a,b) (c,d) e).2) (ar (ax (wS (a,b) (c,d) (max e d)) b) ((wS (a,b) (c,d) (max e d),max e d)=(gh (a,b) (c,d) e).1/\bZ6=(gh (a,b) (c,d) e).2) ((ao (wS (a,b) (c,d) (max e d) -b),max e d)=(gh (a,b) (c,d) e).1/\bZ3=(gh (a,b) (c,d) e).2)):= by
  delta ao aq aK ai ax
  rintro x y a b c - -
  simp only[gh]
  refine ci (λhb=>?_) (λhb=>?_)
  .rw[aj hb];exact⟨rfl,rfl⟩
  .rw[ah hb]
   refine ci (λh=>?_) (λh=>?_)
   .rw[aj h];exact⟨rfl,rfl⟩
   .rw[ah h];exact⟨rfl,rfl⟩
theorem Ow:aC 118 aR8.spec:=aF Tryz.func118 (ap (ap aD Zm) ZL) aU bj9
def H8(b:bg8):Prop:=b=(0,0)∨(1<=b.1/\b.1<=4/\1<=b.2/\b.2<=1000)
def jj(b:bg8):Int:=if b=(0,0)∨(1<=b.1/\b.1<=65536/\1<=b.2/\b.2<=1073741824) then 0 else 1
def de(x:au):ad:=(aS x).map (·.2)
def wV(x:au):ad:=(aS x).map (·.1)
def j4(q:Int×Int->Bool)(l:bX8):Int:=if l.findIdx q<be l then (l.findIdx q:Int) else -1
def pc(a:Int)(p:bg8):Bool:=bZ2 (p.1=a)
def mM(k:Int)(p:bg8):Bool:=bZ2 (p.2=k)
def pi(x:au)(a:Int):Int:=j4 (pc a) (aS x)
def fS(x:au)(k:Int):Int:=j4 (mM k) (aS x)
def oZ(x:au)(a:Int):Bool:=bZ2 (0<=pi x a)||(!bZ2 (kL x=0)&&bZ2 (kL x=a))
theorem JO{α:Type} [Inhabited α] {l:List α} {k:Int} (h0:0<=k) (h1:k<be l):l.take (it (k+1))=l.take (it k)++[Om l (it k) Sk]:=by
 rw[show it (k+1)=it k+1 by omega,List.take_add_one,cG ab,cq,cG ab];rfl
def bc7:Ct:=⟨[.agg xp],[.val cI],λ_=>[],λd=>((jj d.1,()),())⟩
def ui(a b:Bool):=a->(a->a)/\ai (b=bZ6->a&& !b)
theorem ai6:
 ∀(a b:Int),dW (aq a/\aq b) (∀(c:Bool),c=( !bZ2 ((a,b)=((0:Int),(0:Int))))->cj c c (aJ c) (c->aJ c) (∀(d:Bool),d=ax a 1->cj (c&& !d) (c&& !d) (aJ (c&& !d)) (ui c d) ((c->aJ c)/\ ∀(e:Bool),e=bq d (ax 65536 a)->cj (c&& !e) (c&& !e) (aJ (c&& !e)) (ui c e) ((c->aJ c)/\ ∀(f:Bool),f=bq e (ax b 1)->cj (c&& !f) (c&& !f) (aJ (c&& !f)) (ui c f) ((c->c)/\ar (br c (bq f (ax 1073741824 b))) (1=jj (a,b)) (0=jj (a,b))))))):= by
  delta aq aK aJ cj bq br ai ui dW ax
  rintro a b - -
  (repeat (refine cL ?_;repeat refine cK ?_))
  unfold jj
  refine aw (λh=>?_) (λh=>?_)
  .simp at h
   rw[ah (by simp;omega)]
  .simp at h
   rw[aj (by simp;omega)]
theorem UF:aC 56 bc7.spec:=aF Tryz.func56 (ap aD Zm) aU ai6
def al8:Ct:=⟨[.val dw],[.val .bool],λd=>[],λd=>((bZ2 (ga d.1),()),())⟩
theorem aO5:
 Ia:= by
 delta bR aJ aO bq bv aV ai Ia dW
 rintro a - -
 (repeat (refine cL ?_;repeat refine cK ?_))
 rw[yq,sC];simp[ga,ic]
theorem bc1:aC 214 al8.spec:=aF Tryz.func214 (ap aD Kz) aU aO5
def bP6:Ct:=⟨[.agg xq,.box 52 dw],[.val .bool],λd=>[],λd=>((pc d.2.1 d.1,()),(d.2.1,()))⟩
theorem ay6:
 ∀(a b c:Int),(aO a/\aq b)/\ai (aO c)->True->bZ2 (a=c)=pc c (a,b)/\c=c:= by
  delta aq aK aO ai
  rintro a b c - -
  exact⟨rfl,rfl⟩
theorem bf1:aC 261 bP6.spec:=aF Tryz.func261 aD aU ay6
def a61:Ct:=⟨[.agg xq,.box 3 cI],[.val .bool],λd=>[],λd=>((mM d.2.1 d.1,()),(d.2.1,()))⟩
theorem bb7:
 ∀(a b c:Int),(aO a/\aq b)/\ai (aq c)->True->bZ2 (b=c)=mM c (a,b)/\c=c:= by
  delta aq aK aO ai
  rintro a b c - -
  exact⟨rfl,rfl⟩
theorem av2:aC 219 a61.spec:=aF Tryz.func219 aD aU bb7
def TG:Ct:=⟨[.val (.sl xq),.fn 261 1,.box 52 dw],[.val cI],λd=>[],λd=>((j4 (pc d.2.2.1) d.1,()),(d.2.2.1,()))⟩
def bt0:bw TG.ps->bL:=(λd=>{loops:=(bu 2 (λS=>{ι:=Int,μ:=λi=>it (be d.1-i),inv:=λi=>0<=i/\i<=be d.1∧∀ x∈d.1.take (it i),pc d.2.2.1 x=bZ6,keep:=[0,1,6,7],slots:=λi=>[(8,.int .i64 i)],keepN:=[1048576]}) cC)})
def kx(a:bX8):=be a<=cb2/\ ∀(b:bg8),b∈a->aO b.1/\aq b.2
def JL(a:Int)(b:bX8)(c:Int):=am a (a<=ac b) (∀(d:bg8),d∈take (it a) b->pc c d=bZ6)
theorem at6:
 ∀(a:bX8)(b:Int),kx a/\True/\ai (aO b)->True->(∃(c:Int),JL c a b/\a=a/\a=a/\ac a=ac a/\0=c/\ai (b=b))/\ ∀(c:Int),JL c a b->fh c (ac a) (c<ac a) (ar (pc b (ae a c)) (c=j4 (pc b) a/\b=b) (∃(d:Int),JL d a b/\bj (ac a) d c/\a=a/\a=a/\ac a=ac a/\bf c d/\ai (b=b))) ((-1)=j4 (pc b) a) (b=b):= by
  delta ae ac ao aq aK aO bj am fh ai bf kx cN JL ax
  rintro l a ⟨⟨hl,-⟩,-⟩ -
  simp only[cb2] at hl
  refine⟨⟨0,⟨ab,ab,az⟩,aI⟩,?_⟩
  rintro j ⟨j0,j1,hj⟩
  refine ci (λhk=>?_) (λhk=>?_)
  .refine⟨j0,hk,aw (λhm=>?_) (λhm=>?_)⟩
   .exact⟨Fx j0 hk hj hm,rfl⟩
   .exact⟨j+1,⟨ab,ab,yG j0 hk hj hm⟩,ab,aI⟩
  .exact⟨IT hk hj,rfl⟩
theorem aE7:aC 218 TG.spec:=aF Tryz.func218 (ap aD bf1) bt0 at6
def YB:Ct:=⟨[.val (.sl xq),.fn 219 1,.box 3 cI],[.val cI],λd=>[],λd=>((j4 (mM d.2.2.1) d.1,()),(d.2.2.1,()))⟩
def ay2:bw YB.ps->bL:=(λd=>{loops:=(bu 2 (λS=>{ι:=Int,μ:=λi=>it (be d.1-i),inv:=λi=>0<=i/\i<=be d.1∧∀ x∈d.1.take (it i),mM d.2.2.1 x=bZ6,keep:=[0,1,6,7],slots:=λi=>[(8,.int .i64 i)],keepN:=[1048576]}) cC)})
def H2(a:Int)(b:bX8)(c:Int):=am a (a<=ac b) (∀(d:bg8),d∈take (it a) b->mM c d=bZ6)
theorem a62:
 ∀(a:bX8)(b:Int),kx a/\True/\ai (aq b)->True->(∃(c:Int),H2 c a b/\a=a/\a=a/\ac a=ac a/\0=c/\ai (b=b))/\ ∀(c:Int),H2 c a b->fh c (ac a) (c<ac a) (ar (mM b (ae a c)) (c=j4 (mM b) a/\b=b) (∃(d:Int),H2 d a b/\bj (ac a) d c/\a=a/\a=a/\ac a=ac a/\bf c d/\ai (b=b))) ((-1)=j4 (mM b) a) (b=b):= by
  delta ae ac ao aq aK aO bj am fh ai bf kx cN H2 ax
  rintro l a ⟨⟨hl,-⟩,-⟩ -
  simp only[cb2] at hl
  refine⟨⟨0,⟨ab,ab,az⟩,aI⟩,?_⟩
  rintro j ⟨j0,j1,hj⟩
  refine ci (λhk=>?_) (λhk=>?_)
  .refine⟨j0,hk,aw (λhm=>?_) (λhm=>?_)⟩
   .exact⟨Fx j0 hk hj hm,rfl⟩
   .exact⟨j+1,⟨ab,ab,yG j0 hk hj hm⟩,ab,aI⟩
  .exact⟨IT hk hj,rfl⟩
theorem bJ8:aC 218 YB.spec:=aF Tryz.func218 (ap aD av2) ay2 a62
def bC1:Ct:=⟨[.agg eh,.val dw],[.val cI],λd=>[],λd=>((pi d.1 d.2.1,()),())⟩
theorem bP1:
 ∀(a:au)(b:Int),CT.wf eh a/\ai (aO b)->True->j4 (pc b) a.1=pi a b:= by
  delta aO ai
  rintro d x - -
  rfl
theorem XF:aC 215 bC1.spec:=aF Tryz.func215 (ap aD aE7) aU bP1
def bS4:Ct:=⟨[.agg eh,.val cI],[.val cI],λd=>[],λd=>((fS d.1 d.2.1,()),())⟩
theorem bB7:
 ∀(a:au)(b:Int),CT.wf eh a/\ai (aq b)->True->j4 (mM b) a.1=fS a b:= by
  delta aq aK ai
  rintro d x - -
  rfl
theorem KW:aC 171 bS4.spec:=aF Tryz.func171 (ap aD bJ8) aU bB7
def a28:Ct:=⟨[.agg eh,.val dw],[.val .bool],λd=>[],λd=>((oZ d.1 d.2.1,()),())⟩
theorem bg2:
 ∀(a:au)(b:Int),CT.wf eh a/\ai (aO b)->True-> ∀(c:Int),c=pi a b-> ∀(d:Bool),d=fp c->cV d (bR d) (∀(e:Bool),e=( !aV a.2.1)->cj ( !d&&e) ( !d&&e) (dA ( !d&&e)) (wL d e) (bv d/\bq d (jm e a.2.1 b)=oZ a b)):= by
  delta bR aJ aO cj bq br cV bv aV ai dA fp wL jm
  rintro d x - - q hq
  unfold oZ
  rw[show kL d=d.2.1 from rfl,← hq]
  generalize d.2.1=z
  intro b hb
  refine⟨az,az,az,?_⟩
  intro b1 hb1
  (repeat refine⟨(by cases b <;> cases b1 <;> simp),?_⟩)
  rw[hb,hb1]
  cases bZ2 (0<=q) <;> cases bZ2 (z=0) <;> cases bZ2 (z=x) <;> rfl
theorem bs5:aC 226 a28.spec:=aF Tryz.func226 (ap aD (Ct.named XF)) aU bg2
def Wz:Ct:=⟨[.agg eh],[.own 3 cI],λd=>[be (aS d.1)<=100000],λd=>((de d.1,()),())⟩
def ag9:bw Wz.ps->bL:=(λd=>{loops:=(bu 3 (λS=>{ι:=Int×ad,qn:=fH,μ:=λi=>it (be (aS d.1)-i.1),inv:=λi=>0<=i.1/\i.1<=be (aS d.1)/\i.2=(de d.1).take (it i.1),keep:=[1,7,8],slots:=λi=>[(3,.own 524288 1),(9,.int .i64 i.1)],keepN:=[32],names:=λi=>[(524288,.live (.row 3 cI i.2))]}) cC)})
def lp(a b:Int)(c:Bool)(d e:Prop):=bp a b (c=c) (d/\e)
def xk(a b:ad):=bP ((be a+be b)*8)
def qO(a:bX8):=be a<=100000
def Cu(a:au)(b c:Int)(d:bX8)(e f:Prop):=bj (ac (aS a)) b c/\d=d/\ac d=ac d/\bf c b/\e/\f
def Gh(a:Int)(b:au)(c:ad):=am a (a<=ac (aS b)) (c=take (it a) (de b))
def Lx:=∀(a:au),ai (CT.wf eh a)->qO (aS a)->(∃(b:Int) (c:ad),Gh b a c/\a.1=a.1/\bn (ac a.1) (ac a.1) 0 b (a.1=a.1) (lp a.2.1 a.2.2.1 a.2.2.2.1 (a.2.2.2.2.1=a.2.2.2.2.1) (aZ a.2.2.2.2.2.1 a.2.2.2.2.2.2.1 a.2.2.2.2.2.2.2.1 a.2.2.2.2.2.2.2.2.1 (a.2.2.2.2.2.2.2.2.2.1=a.2.2.2.2.2.2.2.2.2.1) (lp a.2.2.2.2.2.2.2.2.2.2.1.1 a.2.2.2.2.2.2.2.2.2.2.1.2 a.2.2.2.2.2.2.2.2.2.2.2.1 (a.2.2.2.2.2.2.2.2.2.2.2.2.1=a.2.2.2.2.2.2.2.2.2.2.2.2.1) (bp a.2.2.2.2.2.2.2.2.2.2.2.2.2.1 a.2.2.2.2.2.2.2.2.2.2.2.2.2.2 (c=[]) True)))))/\ ∀(b:Int)(c:ad),Gh b a c->ar (ax b (ac a.1)) (bJ b (ac a.1) (xk c (bz (ae a.1 b).2)) (∃(d:Int) (e:ad),Gh d a e/\Cu a d b a.1 (a.1=a.1) (lp a.2.1 a.2.2.1 a.2.2.2.1 (a.2.2.2.2.1=a.2.2.2.2.1) (aZ a.2.2.2.2.2.1 a.2.2.2.2.2.2.1 a.2.2.2.2.2.2.2.1 a.2.2.2.2.2.2.2.2.1 (a.2.2.2.2.2.2.2.2.2.1=a.2.2.2.2.2.2.2.2.2.1) (lp
 a.2.2.2.2.2.2.2.2.2.2.1.1 a.2.2.2.2.2.2.2.2.2.2.1.2 a.2.2.2.2.2.2.2.2.2.2.2.1 (a.2.2.2.2.2.2.2.2.2.2.2.2.1=a.2.2.2.2.2.2.2.2.2.2.2.2.1) (bp a.2.2.2.2.2.2.2.2.2.2.2.2.2.1 a.2.2.2.2.2.2.2.2.2.2.2.2.2.2 (c++bz (ae a.1 b).2=e) True)))))) (c=de a)
theorem ay7:
 Lx:= by
 delta ae ac ao aZ bN bp bj Lx am bP bz ai bf lp cN bJ xk ax bn qO Cu Gh
 rintro d-hl
 have hlen:be (de d)=be (aS d):=by simp[de]
 refine⟨⟨0,[],⟨ab,ab,rfl⟩,aI⟩,?_⟩
 rintro j l ⟨j0,j1,rfl⟩
 have hd:d.1=aS d:=rfl
 rw[hd]
 refine ci (λhk=>?_) (λhk=>?_)
 .refine⟨j0,hk,by simp only[eM,cX,List.length_nil];omega,j+1,_,⟨ab,ab,rfl⟩,ab,?_⟩
  (repeat refine ik ?_)
  refine⟨?_,aP⟩
  rw[JO j0 (by rw[hlen];exact hk)]
  unfold de
  rw[cq,cq,List.getElem?_map,cG ab]
  rfl
 .rw[gN ab]
theorem at9:aC 217 Wz.spec:=aF Tryz.func217 aD ag9 ay7
abbrev BF:CT := .pair dw (.pair cI (.pair cI (.pair cI (.pair cI (.pair cI cI)))))
abbrev iH:CT := .pair (.sl BF) xp
abbrev u7:CT := .pair cI (.pair cI cI)
def qm(t:BF.D):Prop:=t.1/16777216=10/\(t.2.1=1∨t.2.1=6∨t.2.1=17)/\(0<=t.2.2.1/\t.2.2.1<=9)/\(1<=t.2.2.2.1/\t.2.2.2.1<=9)/\(0<=t.2.2.2.2.1/\t.2.2.2.2.1<=199)/\(1<=t.2.2.2.2.2.1/\t.2.2.2.2.2.1<=99)/\1<=t.2.2.2.2.2.2/\t.2.2.2.2.2.2<=9
def lV(p:iH.D):Prop:=be p.1<=24/\(∀ t∈p.1,qm t)/\jj p.2=0
def Xa:Ct:=⟨[.agg BF],[.val cI],λd=>[qm d.1],λ_=>((0,()),())⟩
def Z3:bw Xa.ps->bL:=(λd=>{cuts:=(bu 6 (λS=>{ι:=Unit,inv:=λi=>True,keep:=[1,2],slots:=λi=>[],keepN:=[32]}) (bu 13 (λS=>{ι:=Unit,inv:=λi=>True,keep:=[1,2],slots:=λi=>[],keepN:=[32]}) cC))})
def l5(a:Prop):=∃(b:Unit),True/\a
def w9(a b c d e f g:Int):=l5 (aZ 0 a b c (d=d) (bp e f (g=g) True))
def pt(a:Prop):=∀(b:Unit),True->a
theorem bp0:
 ∀(a:Int×bo),ai (CT.wf BF a)->a.1/16777216=10/\(a.2.1=1∨a.2.1=6∨a.2.1=17)/\(0<=a.2.2.1/\a.2.2.1<=9)/\(1<=a.2.2.2.1/\a.2.2.2.1<=9)/\(0<=a.2.2.2.2.1/\a.2.2.2.2.1<=199)/\(1<=a.2.2.2.2.2.1/\a.2.2.2.2.2.1<=99)/\1<=a.2.2.2.2.2.2/\a.2.2.2.2.2.2<=9->ar (iN a.2.1) (ar (iN a.2.1) (w9 a.1 a.2.1 a.2.2.1 a.2.2.2.1 a.2.2.2.2.1 a.2.2.2.2.2.1 a.2.2.2.2.2.2) ((16:Int)=(0:Int))) (ar (bZ2 (a.2.1=6)) (ar (bZ2 (a.2.1=6)) (w9 a.1 a.2.1 a.2.2.1 a.2.2.2.1 a.2.2.2.2.1 a.2.2.2.2.2.1 a.2.2.2.2.2.2) ((16:Int)=(0:Int))) (ar (bZ2 (a.2.1=17)) (w9 a.1 a.2.1 a.2.2.1 a.2.2.2.1 a.2.2.2.2.1 a.2.2.2.2.2.1 a.2.2.2.2.2.2) ((16:Int)=(0:Int))))/\pt (u6 (dH a.2.2.1) (ax 1023 a.2.2.1) ((1:Int)=(0:Int)) (w9 a.1 a.2.1 a.2.2.1 a.2.2.2.1 a.2.2.2.2.1 a.2.2.2.2.2.1 a.2.2.2.2.2.2) (u6 (ax a.2.2.2.1 1) (ax 255 a.2.2.2.1) ((1:Int)=(0:Int)) (w9 a.1 a.2.1 a.2.2.1 a.2.2.2.1
 a.2.2.2.2.1 a.2.2.2.2.2.1 a.2.2.2.2.2.2) (u6 (dH a.2.2.2.2.1) (vx a.2.2.2.2.1) ((1:Int)=(0:Int)) (w9 a.1 a.2.1 a.2.2.1 a.2.2.2.1 a.2.2.2.2.1 a.2.2.2.2.2.1 a.2.2.2.2.2.2) (u6 (ax a.2.2.2.2.2.1 1) (ax 1099511627776 a.2.2.2.2.2.1) ((1:Int)=(0:Int)) (w9 a.1 a.2.1 a.2.2.1 a.2.2.2.1 a.2.2.2.2.1 a.2.2.2.2.2.1 a.2.2.2.2.2.2) (u6 (ax a.2.2.2.2.2.2 1) (ax 1000 a.2.2.2.2.2.2) ((1:Int)=(0:Int)) (w9 a.1 a.2.1 a.2.2.1 a.2.2.2.1 a.2.2.2.2.1 a.2.2.2.2.2.1 a.2.2.2.2.2.2) (ar (vx (ao (a.2.2.2.2.1+ao (ao (a.2.2.2.2.2.2 -1)*a.2.2.2.2.2.1)))) ((1:Int)=(0:Int)) (w9 a.1 a.2.1 a.2.2.1 a.2.2.2.1 a.2.2.2.2.1 a.2.2.2.2.2.1 a.2.2.2.2.2.2))))))/\pt (C0 ( !aV (jg a.1)) (cP (jg a.1) 3) ((10:Int)=(0:Int)) ((0:Int)=(0:Int)))):= by
  delta ao aZ bN bR bp aJ bq br cV bv aV u6 ai l5 w9 cP dH C0 vx pt ax iN bn
  rintro d-⟨h1,h2,⟨f0,f1⟩,⟨l0,l1⟩,⟨s0,s1⟩,⟨e0,e1⟩,c0,c1⟩
  refine⟨?_,λ_ _=>⟨?_,λ_ _=>?_⟩⟩
  .refine aw (λk=>aw (λ_=>⟨(),aP,aI⟩) (λq=>by rw[k] at q;cases q)) (λk1=>aw (λk=>aw (λ_=>⟨(),aP,aI⟩) (λq=>by rw[k] at q;cases q)) (λk2=>aw (λ_=>⟨(),aP,aI⟩) (λk3=>?_)))
   have:=bg k1
   have:=bg k2
   have:=bg k3
   omega
  .iterate 5 ((repeat (refine cL ?_;repeat refine cK ?_));refine aw (λq=>by rw[eT ab,eT ab] at q;cases q) (λ_=>?_))
   have p:=Int.mul_le_mul (show d.2.2.2.2.2.2-1<=8 by omega) e1 ab ab
   have p0:=Int.mul_nonneg (show 0<=d.2.2.2.2.2.2-1 by omega) (show 0<=d.2.2.2.2.2.1 by omega)
   rw[aG (n:=d.2.2.2.2.2.2-1) ab ab,aG (n:=(d.2.2.2.2.2.2-1)*_) ab ab,aG ab ab]
   exact aw (λq=>by rw[eT ab] at q;cases q) (λ_=>⟨(),aP,aI⟩)
  .have e:jg d.1=3:=by unfold jg;rw[ah ab,ah ab,aj (.inl h1)]
   rw[e]
   (repeat (refine cL ?_;repeat refine cK ?_))
   exact aw (λq=>absurd q aB) (λ_=>rfl)
theorem aw4:aC 55 Xa.spec:=aF Tryz.func55 (ap aD Kz) Z3 bp0
def Wo:Ct:=⟨[.agg iH],[.val cI],λd=>[be d.1.1<=24,∀ t∈d.1.1,qm t,jj d.1.2=0],λ_=>((0,()),())⟩
def au4:bw Wo.ps->bL:=(λd=>{loops:=(bu 4 (λS=>{ι:=Int,μ:=λi=>it (be d.1.1-i),inv:=λi=>0<=i/\i<=be d.1.1,keep:=[1,2,11,12],slots:=λi=>[(13,.int .i64 i)],keepN:=[32]}) cC)})
def qj(a:List (Int×bo))(b c:Int):=(be a<=cb2/\ ∀(d:Int×bo),d∈a->aO d.1/\bG d.2.1 d.2.2.1 (aq d.2.2.2.1) (aq d.2.2.2.2.1/\aq d.2.2.2.2.2.1/\aq d.2.2.2.2.2.2))/\aq b/\aq c
def uy(a:List (Int×bo))(b c:Int):=be a<=24/\(∀(d:Int×bo),d∈a->qm d)/\jj (b,c)=0
theorem aR7:
 ∀(a:List (Int×bo))(b c:Int),ai (qj a b c)->uy a b c->ar (ax 64 (ac a)) ((5:Int)=(0:Int)) ((∃(d:Int),(0<=d/\d<=ac a)/\(0:Int)=(0:Int)/\a=a/\bn (ac a) (ac a) 0 d (a=a) (m5 b c))/\ ∀(d:Int),0<=d/\d<=ac a->ar (ax d (ac a)) (bJ d (ac a) (qm (ae a d)) (∃(e:Int),rN e (ac a) d ((0:Int)=(0:Int)) (a=a/\ac a=ac a/\bf d e/\a=a/\m5 b c))) (jj (b,c)=0)):= by
  delta ae ac ao aq aK aO bG bj qj am ai uy bf m5 rN cN bJ ax bn
  rintro x u v-⟨h1,h2,h3⟩
  refine aw (λk=>by have k:=aX k;omega) (λ_=>⟨⟨0,⟨ab,ab⟩,aI⟩,?_⟩)
  rintro i ⟨i0,i1⟩
  refine aw (λk=>?_) (λ_=>h3)
  have k:=aX k
  exact⟨i0,k,h2 _ (dm i0 k),i+1,⟨ab,ab⟩,ab,rfl,rfl,rfl,aG ab ab,aI⟩
theorem a30:aC 24 Wo.spec:=aF Tryz.func24 (ap (ap aD aw4) UF) au4 aR7
end Go.RS
