/- Ipv4: packets without options. -/
import Derived.Test.YtpdpkobkpacbnaaGreatDoorWeq
import Derived.Test.YtpdpkobkpacbnaaGreatDoorIdent
import Derived.Laws.BitsAllLaws
set_option maxRecDepth 100000
set_option linter.unusedVariables false
open Int (toNat)
open List (length take set drop)
namespace Go.RS
open Go.SX Go.Proofs
abbrev jS:CT := .pair cI (.pair cI (.pair cI (.pair cI (.pair .bool (.pair cP cP)))))
abbrev uA:CT := .pair jS (.sl bP)
abbrev cJ:Type:=Int×Int×Int×Int×Bool×Int×Int
abbrev rA:Type:=cJ×ae
def qi(n:Int):Prop:=0<=n/\n<=255
instance (n:Int):Decidable (qi n):=by unfold qi;infer_instance
def kV(h:cJ):Prop:=qi h.1/\qi h.2.2.1/\qi h.2.2.2.1/\0<=h.2.1/\h.2.1<=65535
instance (h:cJ):Decidable (kV h):=by unfold kV;infer_instance
def mr(h:cJ):Int:=if kV h then 0 else 1
def C1(h:cJ)(n:Int):ae:=[69,h.1]++(w2 n++(w2 h.2.1++(w2 (if h.2.2.2.2.1 then 16384 else 0)++[h.2.2.1,h.2.2.2.1])))
def Ku(h:cJ):ae:=w4 h.2.2.2.2.2.1++w4 h.2.2.2.2.2.2
def gU(h:cJ)(n:Int):ae:=C1 h n++([0,0]++Ku h)
def iY(h:cJ)(n:Int):ae:=cR (gU h n) 10 (dg (gU h n))
def fA(p:rA):Int:=if ¬ kV p.1 then 1 else if (1480:Int)<p.2.length then 5 else 0
def d8(p:rA):ae:=if fA p=0 then iY p.1 (20+p.2.length)++p.2 else []
def dX(b:ae):Int :=
 if (b.length:Int)<20 then 3 else if ¬ (b.getD 0 default=69/\(aH b 6=0∨aH b 6=16384)/\20<=aH b 2) then 2
 else if dg (cR (b.take 20) 10 0)≠aH b 10 then 4 else 0
def oY:cJ:=(0,0,0,0,false,0,0)
def bI(b:ae):cJ:=(b.getD 1 default,aH b 4,b.getD 8 default,b.getD 9 default,decide (aH b 6=16384),fp ((b.drop 12).take 4),fp ((b.drop 16).take 4))
def jO(b:ae):cJ:=if dX b=0 then bI b else oY
def i9(b:ae):Int:=if dX b=0 then aH b 2 else 0
def bX(b:ae):Int:=if dX b≠0 then dX b else if aH b 2≠b.length then 2 else if 1500<aH b 2 then 5 else 0
def aY(b:ae):rA:=if bX b=0 then (bI b,b.drop 20) else (oY,[])
def Ae(h:cJ):cJ:=(h.1,h.2.1,h.2.2.1-1,h.2.2.2)
def gu(b:ae):Int:=if bX b≠0 then bX b else if (bI b).2.2.1<2 then 7 else 0
def ig(b:ae):ae:=if gu b=0 then d8 (Ae (bI b),b.drop 20) else []
theorem ab3(h:cJ)(n:Int):(gU h n).length=20:=rfl
theorem sK(h:cJ)(n:Int):(iY h n).length=20:=by unfold iY;rw[mN];rfl
theorem EK{h:cJ}{n:Int}(hk:kV h):bytes (gU h n):=by
 obtain⟨h1,h2,h3,-⟩:=hk
 exact iQ (iQ (mS ab ab (mS h1.1 h1.2 nM)) (iQ (mI _) (iQ (mI _) (iQ (mI _) (mS h2.1 h2.2 (mS h3.1 h3.2 nM))))))
  (iQ (mS ab ab (mS ab ab nM)) (iQ (z6 _) (z6 _)))
theorem JB{h:cJ}{n:Int}(hk:kV h):bytes (iY h n):=tW (EK hk)
theorem lW{n:Nat}{b:ae}(h:n+1<=b.length):∃ x r,b=x::r/\n<=r.length:=by
 cases b with
 | nil=>simp at h
 | cons x r=>exact⟨x,r,rfl,by simpa using h⟩
theorem Wg{b:ae}(h:20<=b.length):∃ x0 x1 x2 x3 x4 x5 x6 x7 x8 x9 x10 x11 x12 x13 x14 x15 x16 x17 x18 x19 r,b=x0::x1::x2::x3::x4::x5::x6::x7::x8::x9::x10::x11::x12::x13::x14::x15::x16::x17::x18::x19::r:=by
 obtain⟨x0,b1,rfl,h1⟩:=lW (n:=19) h
 obtain⟨x1,b2,rfl,h2⟩:=lW (n:=18) h1
 obtain⟨x2,b3,rfl,h3⟩:=lW (n:=17) h2
 obtain⟨x3,b4,rfl,h4⟩:=lW (n:=16) h3
 obtain⟨x4,b5,rfl,h5⟩:=lW (n:=15) h4
 obtain⟨x5,b6,rfl,h6⟩:=lW (n:=14) h5
 obtain⟨x6,b7,rfl,h7⟩:=lW (n:=13) h6
 obtain⟨x7,b8,rfl,h8⟩:=lW (n:=12) h7
 obtain⟨x8,b9,rfl,h9⟩:=lW (n:=11) h8
 obtain⟨x9,b10,rfl,h10⟩:=lW (n:=10) h9
 obtain⟨x10,b11,rfl,h11⟩:=lW (n:=9) h10
 obtain⟨x11,b12,rfl,h12⟩:=lW (n:=8) h11
 obtain⟨x12,b13,rfl,h13⟩:=lW (n:=7) h12
 obtain⟨x13,b14,rfl,h14⟩:=lW (n:=6) h13
 obtain⟨x14,b15,rfl,h15⟩:=lW (n:=5) h14
 obtain⟨x15,b16,rfl,h16⟩:=lW (n:=4) h15
 obtain⟨x16,b17,rfl,h17⟩:=lW (n:=3) h16
 obtain⟨x17,b18,rfl,h18⟩:=lW (n:=2) h17
 obtain⟨x18,b19,rfl,h19⟩:=lW (n:=1) h18
 obtain⟨x19,b20,rfl,h20⟩:=lW (n:=0) h19
 exact⟨x0,x1,x2,x3,x4,x5,x6,x7,x8,x9,x10,x11,x12,x13,x14,x15,x16,x17,x18,x19,b20,rfl⟩
theorem To(a:Int):fp [a]=a:=by simp[fp]
theorem Co(a b c d:Int):fp [a,b,c,d]=((a*256+b)*256+c)*256+d:=by simp[fp]
theorem Ig{b:ae}{a w:Int}(h1:1<=w)(h2:w<=7)(h3:0<=a)(h4:a+w<=b.length):cB b a w=fp ((b.drop a.toNat).take w.toNat):=by
 rw[cB,af ab]
theorem ab7{b:ae}{i:Nat}(h:i<b.length):(b.drop i).take 1=[b.getD i default]:=by
 rw[sI h,bL,cK h];rfl
theorem C2{b:ae}{a:Int}(h3:0<=a)(h4:a+1<=b.length):cB b a 1=b.getD a.toNat default:=by
 rw[Ig ab ab h3 h4,show (1:Int).toNat=1 from rfl,ab7 ab,To]
theorem nw{b:ae}{a:Int}(h3:0<=a)(h4:a+2<=b.length):cB b a 2=aH b a.toNat:=by
 rw[Ig ab ab h3 h4];rfl
theorem BD{b:ae}{a:Int}(h3:0<=a)(h4:a+4<=b.length):cB b a 4=fp ((b.drop a.toNat).take 4):=by
 rw[Ig ab ab h3 h4];rfl
theorem vy{b:ae}{n i:Nat}(h:i<n):(b.take n).getD i default=b.getD i default:=by
 rw[bL,pE,am h,← bL]
theorem zZ{b:ae}{n i k:Nat}(h:i+k<=n):((b.take n).drop i).take k=(b.drop i).take k:=by
 rw[List.drop_take,List.take_take,Nat.min_eq_left ab]
theorem r5{b:ae}{n i:Nat}(h:i+2<=n):aH (b.take n) i=aH b i:=by
 unfold aH;rw[zZ h]
theorem Dx{b:ae}{n:Nat}(h:bytes b):bytes (b.take n):=λx hx=>h x (oI hx)
theorem wA{b:ae}{n:Nat}(h:bytes b):bytes (b.drop n):=λx hx=>h x (yx hx)
theorem yo{b:ae}(h:bytes b){i:Nat}(hi:i<b.length):0<=b.getD i default/\b.getD i default<=255:=by
 have:=bS (xs:=b) (i:=(i:Int)) ab ab
 exact h _ this
theorem nO{b:ae}(h:bytes b)(i:Nat):0<=aH b i/\aH b i<=65535:=by
 have:=C3 2 ((b.drop i).take 2) (by rw[dA];omega) (λx hx=>h x (yx (oI hx)))
 have e:(256:Int)^2=65536:=rfl
 unfold aH;omega
theorem sE{b:ae}(h:bytes b)(i:Nat):0<=fp ((b.drop i).take 4)/\fp ((b.drop i).take 4)<=4294967295:=by
 have:=C3 4 ((b.drop i).take 4) (by rw[dA];omega) (λx hx=>h x (yx (oI hx)))
 have e:(256:Int)^4=4294967296:=rfl
 omega
theorem ml{a:Int}{l:ae}(h:bytes (a::l)):(0<=a/\a<=255)/\bytes l:=⟨h a fW,λx hx=>h x (fL _ hx)⟩
theorem MQ{a b c d:Int}(ha:0<=a/\a<=255)(hb:0<=b/\b<=255)(hc:0<=c/\c<=255)(hd:0<=d/\d<=255):w4 (((a*256+b)*256+c)*256+d)=[a,b,c,d]:=by
 unfold w4
 have e1:(((a*256+b)*256+c)*256+d)/16777216%256=a:=ab
 have e2:(((a*256+b)*256+c)*256+d)/65536%256=b:=ab
 have e3:(((a*256+b)*256+c)*256+d)/256%256=c:=ab
 have e4:(((a*256+b)*256+c)*256+d)%256=d:=ab
 rw[e1,e2,e3,e4]
theorem MD{b:ae}(hb:bytes b)(hl:20<=b.length)(h0:b.getD 0 default=69)(hf:aH b 6=0∨aH b 6=16384) :
  gU (bI b) (aH b 2)=cR (b.take 20) 10 0/\(iY (bI b) (aH b 2)=b.take 20↔dg (cR (b.take 20) 10 0)=aH b 10):=by
 obtain⟨x0,x1,x2,x3,x4,x5,x6,x7,x8,x9,x10,x11,x12,x13,x14,x15,x16,x17,x18,x19,r,rfl⟩:=Wg hl
 have hb0:=hb
 obtain⟨k0,hb⟩:=ml hb
 obtain⟨k1,hb⟩:=ml hb
 obtain⟨k2,hb⟩:=ml hb
 obtain⟨k3,hb⟩:=ml hb
 obtain⟨k4,hb⟩:=ml hb
 obtain⟨k5,hb⟩:=ml hb
 obtain⟨k6,hb⟩:=ml hb
 obtain⟨k7,hb⟩:=ml hb
 obtain⟨k8,hb⟩:=ml hb
 obtain⟨k9,hb⟩:=ml hb
 obtain⟨k10,hb⟩:=ml hb
 obtain⟨k11,hb⟩:=ml hb
 obtain⟨k12,hb⟩:=ml hb
 obtain⟨k13,hb⟩:=ml hb
 obtain⟨k14,hb⟩:=ml hb
 obtain⟨k15,hb⟩:=ml hb
 obtain⟨k16,hb⟩:=ml hb
 obtain⟨k17,hb⟩:=ml hb
 obtain⟨k18,hb⟩:=ml hb
 obtain⟨k19,hb⟩:=ml hb
 have e2:aH (x0::x1::x2::x3::x4::x5::x6::x7::x8::x9::x10::x11::x12::x13::x14::x15::x16::x17::x18::x19::r) 2=x2*256+x3:=ip _ _ _
 have e4:aH (x0::x1::x2::x3::x4::x5::x6::x7::x8::x9::x10::x11::x12::x13::x14::x15::x16::x17::x18::x19::r) 4=x4*256+x5:=ip _ _ _
 have e6:aH (x0::x1::x2::x3::x4::x5::x6::x7::x8::x9::x10::x11::x12::x13::x14::x15::x16::x17::x18::x19::r) 6=x6*256+x7:=ip _ _ _
 have e10:aH (x0::x1::x2::x3::x4::x5::x6::x7::x8::x9::x10::x11::x12::x13::x14::x15::x16::x17::x18::x19::r) 10=x10*256+x11:=ip _ _ _
 have n12:fp (((x0::x1::x2::x3::x4::x5::x6::x7::x8::x9::x10::x11::x12::x13::x14::x15::x16::x17::x18::x19::r).drop 12).take 4)=((x12*256+x13)*256+x14)*256+x15:=Co _ _ _ _
 have n16:fp (((x0::x1::x2::x3::x4::x5::x6::x7::x8::x9::x10::x11::x12::x13::x14::x15::x16::x17::x18::x19::r).drop 16).take 4)=((x16*256+x17)*256+x18)*256+x19:=Co _ _ _ _
 have h0:x0=69:=h0
 subst h0
 rw[e6] at hf
 have hk:w2 (if decide (x6*256+x7=16384) then 16384 else 0)=[x6,x7]:=by
  rcases hf with hf|hf
  .rw[hf];have:x6=0/\x7=0:=ab;rw[this.1,this.2];rfl
  .rw[hf];have:x6=64/\x7=0:=ab;rw[this.1,this.2];rfl
 have hbody:gU (bI (69::x1::x2::x3::x4::x5::x6::x7::x8::x9::x10::x11::x12::x13::x14::x15::x16::x17::x18::x19::r)) (aH (69::x1::x2::x3::x4::x5::x6::x7::x8::x9::x10::x11::x12::x13::x14::x15::x16::x17::x18::x19::r) 2)=cR ((69::x1::x2::x3::x4::x5::x6::x7::x8::x9::x10::x11::x12::x13::x14::x15::x16::x17::x18::x19::r).take 20) 10 0:=by
  unfold gU C1 Ku bI;simp only;rw[e2,e4,e6,n12,n16,hk,D3 k2.1 k2.2 k3.1 k3.2,D3 k4.1 k4.2 k5.1 k5.2,MQ k12 k13 k14 k15,MQ k16 k17 k18 k19];rfl
 refine⟨hbody,?_⟩
 rw[iY,hbody,e10]
 have hc:=qe (b:=cR ((69::x1::x2::x3::x4::x5::x6::x7::x8::x9::x10::x11::x12::x13::x14::x15::x16::x17::x18::x19::r).take 20) 10 0) (tW (λx hx=>hb0 x (oI hx)))
 generalize dg (cR ((69::x1::x2::x3::x4::x5::x6::x7::x8::x9::x10::x11::x12::x13::x14::x15::x16::x17::x18::x19::r).take 20) 10 0)=c at hc ⊢
 have e:cR (cR ((69::x1::x2::x3::x4::x5::x6::x7::x8::x9::x10::x11::x12::x13::x14::x15::x16::x17::x18::x19::r).take 20) 10 0) 10 c=[69,x1,x2,x3,x4,x5,x6,x7,x8,x9,c/256%256,c%256,x12,x13,x14,x15,x16,x17,x18,x19]:=rfl
 rw[e]
 have e':(69::x1::x2::x3::x4::x5::x6::x7::x8::x9::x10::x11::x12::x13::x14::x15::x16::x17::x18::x19::r).take 20=[69,x1,x2,x3,x4,x5,x6,x7,x8,x9,x10,x11,x12,x13,x14,x15,x16,x17,x18,x19]:=rfl
 rw[e']
 constructor
 .intro h;simp only[List.cons.injEq,io,true_and] at h;omega
 .intro h;have:c/256%256=x10/\c%256=x11:=ab;rw[this.1,this.2]
def rM(k:Nat):Nat:=[0,1,2,4,6,8,9,10,12,16,20].getD k 20
theorem aw7{h:cJ}{n f k:Int}(hok:kV h)(n0:0<=n)(n1:n<=65535)(s0:0<=h.2.2.2.2.2.1/\h.2.2.2.2.2.1<=4294967295)(d0:0<=h.2.2.2.2.2.2/\h.2.2.2.2.2.2<=4294967295)(hf:f=if h.2.2.2.2.1 then 16384 else 0)(k0:0<=k)(k1:k<10) :
  cT ((gU h n).take (rM k.toNat)) (lO [69,h.1,n,h.2.1,f,h.2.2.1,h.2.2.2.1,0,h.2.2.2.2.2.1,h.2.2.2.2.2.2] k.toNat) (lO [1,1,2,2,2,1,1,2,4,4] k.toNat)=(gU h n).take (rM (k+1).toNat):=by
 obtain⟨h1,h2,h3,h4,h5⟩:=hok
 have hf0:0<=f/\f<=65535:=by rw[hf];split <;> omega
 have:k=0∨k=1∨k=2∨k=3∨k=4∨k=5∨k=6∨k=7∨k=8∨k=9:=ab
 rcases this with rfl|rfl|rfl|rfl|rfl|rfl|rfl|rfl|rfl|rfl
 .exact tZ (b:=[]) (n:=69) ab ab
 .exact tZ (b:=[69]) h1.1 h1.2
 .exact jM (b:=[69,h.1]) n0 n1
 .exact jM (b:=[69,h.1]++w2 n) h4 h5
 .have:=jM (b:=[69,h.1]++(w2 n++w2 h.2.1)) hf0.1 hf0.2;rw[hf] at this ⊢;exact this
 .exact tZ (b:=(gU h n).take 8) h2.1 h2.2
 .exact tZ (b:=(gU h n).take 9) h3.1 h3.2
 .exact jM (b:=(gU h n).take 10) (n:=0) ab ab
 .exact vW (b:=(gU h n).take 12) s0.1 s0.2
 .exact vW (b:=(gU h n).take 16) d0.1 d0.2
theorem BO{b:ae}(h:dX b=0):20<=b.length:=by
 unfold dX at h
 split at h
 .cases h
 .omega
theorem Ee{b:ae}(h:bX b=0):dX b=0:=by
 unfold bX at h
 split at h
 next k=>exact absurd h k
 next k=>exact o4.1 k
theorem wy{b:ae}(h:bX b=0):(b.length:Int)<=1500/\aH b 2=b.length:=by
 unfold bX at h
 split at h
 next k=>exact absurd h k
 .split at h
  .cases h
  .split at h
   .cases h
   .omega
theorem aR8{b:ae}(hb:bytes b)(h:dX b=0):kV (bI b):=by
 have hl:=BO h
 exact⟨yo hb ab,yo hb ab,yo hb ab,nO hb 4⟩
theorem al1{b:ae}(hb:bytes b)(h:bX b=0)(h2:¬ (bI b).2.2.1<2):kV (Ae (bI b)):=by
 obtain⟨k1,k2,k3,k4⟩:=aR8 hb (Ee h)
 refine⟨k1,?_,k3,k4⟩
 obtain⟨k5,k6⟩:=k2
 show 0<=(bI b).2.2.1-1/\(bI b).2.2.1-1<=255
 omega
def Vz:Ct:=⟨[.val cI],[.val .bool],λd=>[],λd=>((decide (qi d.1),()),())⟩
theorem TS :
 ∀(a:Int),aq a/\True->True-> ∀(b:Bool),b=decide (0<=a)->(ah b)/\(ar b)/\(bif b then decide (a<256) else false)=decide (qi a):=by
  delta ah ar;rintro n - -
  (repeat (refine bY ?_;repeat refine bZ ?_));unfold qi;by_cases h:0<=n <;> simp[h] <;> omega
theorem aj3:aB 235 Vz.spec:=aF Tryz.func235 aD aT TS
def aH9:Ct:=⟨[.agg jS],[.val cI],λd=>[],λd=>((mr d.1,()),())⟩
theorem aw0 :
 ∀(a:cJ),CT.wf jS a/\True->True-> ∀(b:Bool),b= ! decide (qi a.1)->(ah (! b))/\((! b)->(ar (! b))/\(ar (! b))/\True)/\(ah (! b))/\(aE b)/\ ∀(c:Bool),(c=bif b then true else ! decide (qi a.2.2.1))->(ah (! c))/\((! c)->(ar (! c))/\(ar (! c))/\True)/\(ah (! c))/\(aE c)/\ ∀(d:Bool),(d=bif c then true else ! decide (qi a.2.2.2.1))->(ah (! d))/\(ah (! d))/\(aE d)/\ ∀(e:Bool),(e=bif d then true else decide (a.2.1<0))->(ah (! e))/\(ah (! e))/\(aE e)/\ao (bif e then true else decide (65536<=a.2.1)) (1=mr a) (0=mr a):=by
  delta ah ar aE;rintro h - -
  (repeat (refine bY ?_;repeat refine bZ ?_));refine aw (λhc=>?_) (λhc=>?_)
  .rw[mr,af];intro k;obtain⟨k1,k2,k3,k4,k5⟩:=k;simp[k1,k2,k3,dE] at hc;omega
  .rw[mr,am];simp[dE] at hc;exact⟨hc.1.1.1.1,hc.1.1.1.2,hc.1.1.2,ab,ab⟩
theorem ad4:aB 234 aH9.spec:=aF Tryz.func234 (av aD aj3) aT aw0
def OG:Ct:=⟨[.agg uA],[.own 5 bP,.val cI],λd=>[(d.1.2.length:Int)<=1073741824],λd=>((d8 d.1,fA d.1,()),())⟩
def Y4:bw OG.ps->ce:=(λd=>{loops:=(bq 12 (λS=>{ι:=Int×ae,qn:=fj,μ:=λi=>(10-i.1).toNat,inv:=λi=>0<=i.1/\i.1<=10/\i.2=(gU d.1.1 (20+d.1.2.length)).take (rM i.1.toNat),keep:=[1,4,53],slots:=λi=>[(7,.own 524288 1),(54,.int .i64 i.1)],keepN:=[32,80],names:=λi=>[(524288,.live (.row 5 bP i.2))]}) cC)})
def Gb(a:(Int×Int×Int×Int×Bool×Int×Int)×ae)(b:Int)(c:ae) :=
 (2:Int)=2/\a.1.2.2.1=a.1.2.2.1/\(1:Int)=1/\a.1.2.2.2.1=a.1.2.2.2.1/\(1:Int)=1/\(0:Int)=0/\(2:Int)=2/\aj a.1.2.2.2.2.2.1=aj a.1.2.2.2.2.2.1/\(4:Int)=4/\aj a.1.2.2.2.2.2.2=aj a.1.2.2.2.2.2.2/\(4:Int)=4/\0=b/\a.1.1=a.1.1/\a.1.2.1=a.1.2.1/\a.1.2.2.1=a.1.2.2.1/\a.1.2.2.2.1=a.1.2.2.2.1/\a.1.2.2.2.2.1=a.1.2.2.2.2.1/\a.1.2.2.2.2.2.1=a.1.2.2.2.2.2.1/\a.1.2.2.2.2.2.2=a.1.2.2.2.2.2.2/\a.2=a.2/\a.1.1=a.1.1/\a.1.2.1=a.1.2.1/\a.1.2.2.1=a.1.2.2.1/\a.1.2.2.2.1=a.1.2.2.2.1/\a.1.2.2.2.2.1=a.1.2.2.2.2.1/\a.1.2.2.2.2.2.1=a.1.2.2.2.2.2.1/\a.1.2.2.2.2.2.2=a.1.2.2.2.2.2.2/\c=([]:ae)/\True
def Gr(a:(Int×Int×Int×Int×Bool×Int×Int)×ae)(b:Int)(d:ae)(f:Int)(g:ae) :=
 (2:Int)=2/\a.1.2.2.1=a.1.2.2.1/\(1:Int)=1/\a.1.2.2.2.1=a.1.2.2.2.1/\(1:Int)=1/\(0:Int)=0/\(2:Int)=2/\aj a.1.2.2.2.2.2.1=aj a.1.2.2.2.2.2.1/\(4:Int)=4/\aj a.1.2.2.2.2.2.2=aj a.1.2.2.2.2.2.2/\(4:Int)=4/\aj (b+1)=f/\a.1.1=a.1.1/\a.1.2.1=a.1.2.1/\a.1.2.2.1=a.1.2.2.1/\a.1.2.2.2.1=a.1.2.2.2.1/\a.1.2.2.2.2.1=a.1.2.2.2.2.1/\a.1.2.2.2.2.2.1=a.1.2.2.2.2.2.1/\a.1.2.2.2.2.2.2=a.1.2.2.2.2.2.2/\a.2=a.2/\a.1.1=a.1.1/\a.1.2.1=a.1.2.1/\a.1.2.2.1=a.1.2.2.1/\a.1.2.2.2.1=a.1.2.2.2.1/\a.1.2.2.2.2.1=a.1.2.2.2.2.1/\a.1.2.2.2.2.2.1=a.1.2.2.2.2.2.1/\a.1.2.2.2.2.2.2=a.1.2.2.2.2.2.2/\d=g/\True
def E4(c:ae)(d:Int) :=
 set c (toNat 10) (IntKind.wrap .u8 (dF IntKind.i64 d (8:Int)))
def Iy(a:(Int×Int×Int×Int×Bool×Int×Int)×ae)(c:ae) :=
 (ac c)<=1099511627776/\ ∀(d:Int),d=65535 -oc (bO true c)->(0:Int)<=8/\(0:Int)<=10/\10<(ac c)/\(0:Int)<=11/\11<((length (E4 c d)):Int)/\(length (set (E4 c d) (toNat 11) (IntKind.wrap .u8 d))+a.2.length)*(1:Nat)<=(140737488355328:Nat)/\set (E4 c d) (toNat 11) (IntKind.wrap .u8 d)++a.2=d8 a/\0=fA a
def AN(b:Int) :=
 lO [(1:Int),(1:Int),(2:Int),(2:Int),(2:Int),(1:Int),(1:Int),(2:Int),(4:Int),(4:Int)] b.toNat
def m7(a:(Int×Int×Int×Int×Bool×Int×Int)×ae) :=
 (20:Int)+(ac a.2)
def In(a:(Int×Int×Int×Int×Bool×Int×Int)×ae)(b:Int) :=
 lO [(69:Int),a.1.1,aj (m7 a),a.1.2.1,(16384:Int),a.1.2.2.1,a.1.2.2.2.1,(0:Int),aj a.1.2.2.2.2.2.1,aj a.1.2.2.2.2.2.2] b.toNat
theorem YR :
 ∀(a:(Int×Int×Int×Int×Bool×Int×Int)×ae),CT.wf uA a/\True->(ac a.2)<=1073741824->ao (! decide (mr a.1=0)) (([]:ae)=d8 a/\mr a.1=fA a) (ao (decide (1480<(ac a.2))) (([]:ae)=d8 a/\5=fA a) (ao a.1.2.2.2.2.1 ((∃(b:Int) (c:ae),(0<=b/\b<=10/\c=take (rM b.toNat) (gU a.1 (m7 a)))/\(69:Int)=69/\(1:Int)=1/\a.1.1=a.1.1/\(1:Int)=1/\aj (m7 a)=aj (m7 a)/\(2:Int)=2/\a.1.2.1=a.1.2.1/\(2:Int)=2/\(16384:Int)=16384/\(Gb a b c))/\ ∀(b:Int)(c:ae),0<=b/\b<=10/\c=take (rM b.toNat) (gU a.1 (m7 a))->ao (decide (b<10)) (0<=b/\b<(↑(10:Nat):Int)/\(ac c)<=1099511627776/\ ∀(d:ae)(e:Int),d=cT c (In a b) (AN b)/\e=qO (In a b) (AN b)-> ∃(f:Int) (g:ae),(0<=f/\f<=10/\g=take (rM f.toNat) (gU a.1 (m7 a)))/\toNat ((10:Int) -f)<toNat ((10:Int)
 -b)/\(69:Int)=69/\(1:Int)=1/\a.1.1=a.1.1/\(1:Int)=1/\aj (m7 a)=aj (m7 a)/\(2:Int)=2/\a.1.2.1=a.1.2.1/\(2:Int)=2/\(16384:Int)=16384/\(Gr a b d f g)) (Iy a c)) ((∃(b:Int) (c:ae),(0<=b/\b<=10/\c=take (rM b.toNat) (gU a.1 (m7 a)))/\(69:Int)=69/\(1:Int)=1/\a.1.1=a.1.1/\(1:Int)=1/\aj (m7 a)=aj (m7 a)/\(2:Int)=2/\a.1.2.1=a.1.2.1/\(2:Int)=2/\(0:Int)=0/\(Gb a b c))/\ ∀(b:Int)(c:ae),0<=b/\b<=10/\c=take (rM b.toNat) (gU a.1 (m7 a))->ao (decide (b<10)) (0<=b/\b<(↑(10:Nat):Int)/\(ac c)<=1099511627776/\ ∀(d:ae)(e:Int),d=cT c (lO [(69:Int),a.1.1,aj (m7 a),a.1.2.1,(0:Int),a.1.2.2.1,a.1.2.2.2.1,(0:Int),aj a.1.2.2.2.2.2.1,aj a.1.2.2.2.2.2.2] b.toNat) (AN b)/\e=qO (lO [(69:Int),a.1.1,aj (m7 a),a.1.2.1,(0:Int),a.1.2.2.1,a.1.2.2.2.1,(0:Int),aj a.1.2.2.2.2.2.1,aj a.1.2.2.2.2.2.2] b.toNat) (AN b)-> ∃(f:Int) (g:List
 Int),(0<=f/\f<=10/\g=take (rM f.toNat) (gU a.1 (m7 a)))/\toNat ((10:Int) -f)<toNat ((10:Int) -b)/\(69:Int)=69/\(1:Int)=1/\a.1.1=a.1.1/\(1:Int)=1/\aj (m7 a)=aj (m7 a)/\(2:Int)=2/\a.1.2.1=a.1.2.1/\(2:Int)=2/\(0:Int)=0/\(Gr a b d f g)) (Iy a c)))):=by
  delta Gb Gr Iy AN m7 E4 In aj ac;rintro d ⟨⟨hw,-⟩,-⟩ hl;obtain⟨-,-,-,-,-,s0,d0⟩:=hw;have s0:0<=d.1.2.2.2.2.2.1/\d.1.2.2.2.2.2.1<=4294967295:=s0;have d0:0<=d.1.2.2.2.2.2.2/\d.1.2.2.2.2.2.2<=4294967295:=d0;refine aw (λhc=>?_) (λhc=>?_)
  .have hn:¬ kV d.1:=λk=>by rw[mr,am k] at hc;cases hc
   have he:fA d=1:=by rw[fA,am hn]
   rw[d8,he,mr,af hn];exact⟨rfl,rfl⟩
  have hok:kV d.1:=fq λk=>by rw[mr,af k] at hc;cases hc
  refine aw (λh5=>?_) (λh5=>?_)
  .have h5:=aI h5;have he:fA d=5:=by rw[fA,af (λk=>k hok),am h5]
   rw[d8,he];exact⟨rfl,rfl⟩
  have h5:=aL h5;have he:fA d=0:=by rw[fA,af (λk=>k hok),af h5]
  have e20:IntKind.wrap .i64 (20+(d.2.length:Int))=20+d.2.length:=aG ab ab;have es:IntKind.wrap .i64 d.1.2.2.2.2.2.1=d.1.2.2.2.2.2.1:=aG (by have:=s0.1;omega) (by have:=s0.2;omega);have ed:IntKind.wrap .i64 d.1.2.2.2.2.2.2=d.1.2.2.2.2.2.2:=aG (by have:=d0.1;omega) (by have:=d0.2;omega);have hc:=qe (EK (n:=20+d.2.length) hok);have hbl:=ab3 d.1 (20+d.2.length);have step:=λf hf k=>aw7 (h:=d.1) (n:=20+d.2.length) (f:=f) (k:=k) hok ab ab s0 d0 hf;have fin:∀ ys,ys=gU d.1 (20+d.2.length)->(set (set ys (toNat 10) (IntKind.wrap .u8 (dF .i64 (65535-oc (bO true ys)) 8))) (toNat 11) (IntKind.wrap .u8 (65535-oc (bO true ys)))++d.2=d8 d/\(0:Int)=fA d):=by
   rintro ys rfl;have hc:0<=65535-oc (bO true (gU d.1 (20+d.2.length))):=hc.1;rw[I3 hc,IntKind.wrap_u8',IntKind.wrap_u8',d8,he,am rfl];exact⟨rfl,rfl⟩
  rw[e20,es,ed];refine aw (λhk=>?_) (λhk=>?_)
  .refine⟨⟨0,[],⟨ab,ab,rfl⟩,aP⟩,?_⟩;rintro k ys ⟨k0,k1,rfl⟩;refine bU (λh=>?_) (λh=>?_)
   .have st:=step 16384 (by rw[hk];rfl) k k0 h;refine⟨k0,h,by rw[dA];omega,?_⟩;rintro y _ ⟨rfl,-⟩;exact⟨k+1,_,⟨ab,ab,st⟩,ab,aP⟩
   .have e10:k=10:=ab;subst e10;have et:(gU d.1 (20+d.2.length)).take (rM (toNat 10))=gU d.1 (20+d.2.length):=fi (by rw[hbl];decide);rw[et];refine⟨ab,?_⟩;rintro c rfl;refine⟨ab,ab,ab,ab,by rw[gB];omega,by rw[gB,gB];omega,fin _ rfl⟩
  .refine⟨⟨0,[],⟨ab,ab,rfl⟩,aP⟩,?_⟩;rintro k ys ⟨k0,k1,rfl⟩;refine bU (λh=>?_) (λh=>?_)
   .have st:=step 0 (by rw[hk];rfl) k k0 h;refine⟨k0,h,by rw[dA];omega,?_⟩;rintro y _ ⟨rfl,-⟩;exact⟨k+1,_,⟨ab,ab,st⟩,ab,aP⟩
   .have e10:k=10:=ab;subst e10;have et:(gU d.1 (20+d.2.length)).take (rM (toNat 10))=gU d.1 (20+d.2.length):=fi (by rw[hbl];decide);rw[et];refine⟨ab,?_⟩;rintro c rfl;refine⟨ab,ab,ab,ab,by rw[gB];omega,by rw[gB,gB];omega,fin _ rfl⟩
theorem Pn:aB 226 OG.spec:=aF Tryz.func226 (av (av (av aD ad4) (Ct.named Lv)) (Ct.named yr)) Y4 YR
def aE4:Ct:=⟨[.val cI,.box 22 (.row 5 bP),.box 3 cI],[.val cI],λd=>[(d.2.1.length:Int)<=100000,0<=d.1,d.1<=8,0<=d.2.2.1,d.2.2.1<=100000],λd=>((cB d.2.1 d.2.2.1 d.1,()),(d.2.1,d.2.2.1+d.1,()))⟩
theorem aX1 :
 ∀(a:Int)(b:ae)(c:Int),aq a/\(b.length<=maxLen/\ ∀(d:Int),d∈b->0<=d/\d<=255)/\aq c/\True->(ac b)<=100000/\0<=a/\a<=8/\0<=c/\c<=100000->(ac b)<=9223372036854775807/\cB b c a=cB b c a/\b=b/\aj (c+a)=c+a:=by
  delta aj ac;rintro w b a-⟨h1,h2,h3,h4,h5⟩;exact⟨ab,rfl,rfl,aG ab ab⟩
theorem aQ3:aB 167 aE4.spec:=aF Tryz.func167 (av aD CV) aT aX1
def SI:Ct:=⟨[.val (.sl bP)],[.agg jS,.val cI,.val cI],λd=>[(d.1.length:Int)<=1099511627776],λd=>((jO d.1,i9 d.1,dX d.1,()),())⟩
def rZ :=
 ((0:Int),(0:Int),(0:Int),(0:Int),false,(0:Int),(0:Int))
def tq(a:ae) :=
 a.length<=maxLen/\ ∀(b:Int),b∈a->0<=b/\b<=255
theorem U1 :
 ∀(a:ae),(tq a)/\True->(ac a)<=1099511627776->ao (decide ((ac a)<20)) ((rZ)=jO a/\0=i9 a/\3=dX a) ((0:Int)<=0/\(0:Int)<=20/\20<=(ac a)/\((length (cO a (toNat 0) (toNat 20))):Int)<=1099511627776/\((length (cO a (toNat 0) (toNat 20))):Int)<=100000/\(0:Int)<=1/\(1:Int)<=8/\(0:Int)<=0/\(0:Int)<=100000/\ ∀(b:Int)(c:ae)(d:Int),b=cB (cO a (toNat 0) (toNat 20)) (0:Int) (1:Int)/\c=cO a (toNat 0) (toNat 20)/\d=0+1->(ac c)<=100000/\(0:Int)<=1/\(1:Int)<=8/\0<=d/\d<=100000/\ ∀(e:Int)(f:ae)(g:Int),e=cB c d (1:Int)/\f=c/\g=d+1->(ac f)<=100000/\(0:Int)<=2/\(2:Int)<=8/\0<=g/\g<=100000/\ ∀(h:Int)(i:ae)(j:Int),h=cB f g (2:Int)/\i=f/\j=g+2->(ac i)<=100000/\(0:Int)<=2/\(2:Int)<=8/\0<=j/\j<=100000/\ ∀(k:Int)(l:ae)(m:Int),k=cB i j (2:Int)/\l=i/\m=j+2->(ac
 l)<=100000/\(0:Int)<=2/\(2:Int)<=8/\0<=m/\m<=100000/\ ∀(n:Int)(o:ae)(p:Int),n=cB l m (2:Int)/\o=l/\p=m+2->(ac o)<=100000/\(0:Int)<=1/\(1:Int)<=8/\0<=p/\p<=100000/\ ∀(q:Int)(r:ae)(s:Int),q=cB o p (1:Int)/\r=o/\s=p+1->(ac r)<=100000/\(0:Int)<=1/\(1:Int)<=8/\0<=s/\s<=100000/\ ∀(t:Int)(u:ae)(v:Int),t=cB r s (1:Int)/\u=r/\v=s+1->(ac u)<=100000/\(0:Int)<=2/\(2:Int)<=8/\0<=v/\v<=100000/\ ∀(w:Int)(x:ae)(y:Int),w=cB u v (2:Int)/\x=u/\y=v+2->(ac x)<=100000/\(0:Int)<=4/\(4:Int)<=8/\0<=y/\y<=100000/\ ∀(z:Int)(A:ae)(B:Int),z=cB x y (4:Int)/\A=x/\B=y+4->(ac A)<=100000/\(0:Int)<=4/\(4:Int)<=8/\0<=B/\B<=100000/\ ∀(C:Int)(D:ae)(E:Int),C=cB A B (4:Int)/\D=A/\E=B+4-> ∀(F:Bool),F= ! decide (b=69)->(ah (! F))/\(ah (! F))/\ ∀(G:Bool),G= ! decide (n=0)->(ah (! F&&G))/\(ah (! F&&G))/\((! F)->(ar (! F))/\(G->(! F&&G))/\True)/\(aE F)/\
 ∀(H:Bool),(H=bif F then true else bif G then ! decide (n=16384) else false)->(ah (! H))/\(aE H)/\ao (bif H then true else decide (h<20)) ((rZ)=jO a/\0=i9 a/\2=dX a) ((0:Int)<=10/\10<(ac D)/\(0:Int)<=11/\11<((length (set D (toNat 10) (0:Int))):Int)/\((length (set (set D (toNat 10) (0:Int)) (toNat 11) (0:Int))):Int)<=1099511627776/\ ∀(I:Int),I=65535 -oc (bO true (set (set D (toNat 10) (0:Int)) (toNat 11) (0:Int)))->ao (! decide (I=w)) ((rZ)=jO a/\0=i9 a/\4=dX a) ((e,k,q,t,decide (n=16384),IntKind.wrap .u32 z,IntKind.wrap .u32 C)=jO a/\h=i9 a/\0=dX a))):=by
  delta rZ tq ah ar aE ac;rintro b ⟨⟨-,hb⟩,-⟩ hl;refine aw (λh=>?_) (λh=>?_)
  .have h:=aI h;have e:dX b=3:=by rw[dX,am h]
   rw[jO,i9,e];exact⟨rfl,rfl,rfl⟩
  have h:=aL h;have hB:cO b (toNat 0) (toNat 20)=b.take 20:=rfl;have hBl:(b.take 20).length=20:=by rw[dA];omega
  rw[hB];refine⟨ab,ab,ab,ab,ab,ab,ab,ab,ab,?_⟩;rintro v0 _ a0 ⟨e0,rfl,q0⟩;rw[C2 ab ab,vy bt] at e0;have q0:a0=1:=q0;subst q0;refine⟨ab,ab,ab,ab,ab,?_⟩;rintro v1 _ a1 ⟨e1,rfl,q1⟩;rw[C2 ab ab,vy bt] at e1;have q1:a1=2:=q1;subst q1;refine⟨ab,ab,ab,ab,ab,?_⟩;rintro v2 _ a2 ⟨e2,rfl,q2⟩;rw[nw ab ab,r5 bt] at e2;have q2:a2=4:=q2;subst q2;refine⟨ab,ab,ab,ab,ab,?_⟩;rintro v3 _ a3 ⟨e3,rfl,q3⟩;rw[nw ab ab,r5 bt] at e3;have q3:a3=6:=q3;subst q3;refine⟨ab,ab,ab,ab,ab,?_⟩;rintro v4 _ a4 ⟨e4,rfl,q4⟩;rw[nw ab ab,r5 bt] at e4;have q4:a4=8:=q4;subst q4;refine⟨ab,ab,ab,ab,ab,?_⟩;rintro v5 _ a5 ⟨e5,rfl,q5⟩;rw[C2 ab ab,vy bt] at e5;have q5:a5=9:=q5;subst q5;refine⟨ab,ab,ab,ab,ab,?_⟩;rintro v6 _ a6 ⟨e6,rfl,q6⟩;rw[C2 ab ab,vy bt] at e6;have q6:a6=10:=q6;subst q6;refine⟨ab,ab,ab,ab,ab,?_⟩;rintro v7 _ a7 ⟨e7,rfl,q7⟩;rw[nw ab ab,r5 bt] at e7;have q7:a7=12:=q7;subst q7;refine⟨ab,ab,ab,ab,ab,?_⟩
  rintro v8 _ a8 ⟨e8,rfl,q8⟩;rw[BD ab ab,zZ bt] at e8;have q8:a8=16:=q8;subst q8;refine⟨ab,ab,ab,ab,ab,?_⟩;rintro v9 _ a9 ⟨e9,rfl,q9⟩;rw[BD ab ab,zZ bt] at e9;have q9:a9=20:=q9;subst q9;subst e0 e1 e2 e3 e4 e5 e6 e7 e8 e9;have n12:=sE hb 12;have n16:=sE hb 16;have hcs:65535-oc (bO true (((b.take 20).set (toNat 10) 0).set (toNat 11) 0))=dg (cR (b.take 20) 10 0):=rfl
  (repeat (refine bY ?_;repeat refine bZ ?_));refine aw (λhc=>?_) (λhc=>?_)
  .have e:dX b=2:=by
    rw[dX,af h,am];rintro⟨h0,hf,h2⟩;rw[show b.getD (toNat 0) default=69 from h0] at hc;rcases hf with hf|hf
    .rw[show aH b (toNat 6)=0 from hf] at hc;simp at hc;have h2:20<=aH b (toNat 2):=h2;simp at h2;omega
    .rw[show aH b (toNat 6)=16384 from hf] at hc;simp at hc;have h2:20<=aH b (toNat 2):=h2;simp at h2;omega
   rw[jO,i9,e];exact⟨rfl,rfl,rfl⟩
  have hg:b.getD 0 default=69/\(aH b 6=0∨aH b 6=16384)/\20<=aH b 2:=by
   by_cases h0:b.getD (toNat 0) default=69
   .by_cases h6:aH b (toNat 6)=0
    .simp[h0,h6] at hc;exact⟨h0,.inl h6,ab⟩
    .by_cases h7:aH b (toNat 6)=16384
     .simp[h0,h7] at hc;exact⟨h0,.inr h7,ab⟩
     .exfalso;rw[h0,dO h6,dO h7] at hc;simp at hc
   .exfalso;rw[dO h0] at hc;simp at hc
  refine⟨ab,ab,ab,by rw[gB];omega,by rw[gB,gB];omega,?_⟩;rw[hcs];rintro c rfl;refine aw (λhc=>?_) (λhc=>?_)
  .have e:dX b=4:=by
    rw[dX,af h,af (λk=>k hg),am];intro k;rw[show aH b (toNat 10)=aH b 10 from rfl,k] at hc;simp at hc
   rw[jO,i9,e];exact⟨rfl,rfl,rfl⟩
  .have e:dX b=0:=by
    rw[dX,af h,af (λk=>k hg),af];intro k;exact k (by simpa using hc)
   rw[jO,i9,e,am rfl,am rfl,show toNat 12=12 from rfl,show toNat 16=16 from rfl,rC n12.1 n12.2,rC n16.1 n16.2];exact⟨rfl,rfl,rfl⟩
theorem Lg:aB 124 SI.spec:=aF Tryz.func124 (av (av (av aD sD) (Ct.named aQ3)) (Ct.named yr)) aT U1
def SO:Ct:=⟨[.val (.sl bP)],[.agg uA,.val cI],λd=>[(d.1.length:Int)<=1099511627776],λd=>((aY d.1,bX d.1,()),())⟩
def wG :=
 ((rZ),([]:ae))
theorem T2 :
 ∀(a:ae),(tq a)/\True->(ac a)<=1099511627776->(ac a)<=1099511627776/\ao (! decide (dX a=0)) ((wG)=aY a/\dX a=bX a) (ao (! decide (i9 a=(ac a))) ((wG)=aY a/\2=bX a) (ao (decide (1500<i9 a)) ((wG)=aY a/\5=bX a) ((0:Int)<=20/\20<=(ac a)/\(ac a)<=(ac a)/\((length (cO a (toNat 20) (toNat (ac a)))):Int)<=1099511627776/\(jO a,cO a (toNat 20) (toNat (ac a)))=aY a/\0=bX a))):=by
  delta rZ tq wG ac;rintro b ⟨⟨-,hb⟩,-⟩ hl;refine⟨hl,aw (λhc=>?_) (λhc=>?_)⟩
  .have hc:¬ dX b=0:=by simpa using hc
   have e:bX b=dX b:=by rw[bX,am hc]
   rw[aY,e,af hc];exact⟨rfl,rfl⟩
  have hc:dX b=0:=by simpa using hc
  have hlen:i9 b=aH b 2:=by rw[i9,am hc]
  rw[hlen];refine aw (λh2=>?_) (λh2=>?_)
  .have h2:¬ aH b 2=b.length:=by simpa using h2
   have e:bX b=2:=by rw[bX,af (λk=>k hc),am h2]
   rw[aY,e];exact⟨rfl,rfl⟩
  have h2:aH b 2=b.length:=by simpa using h2
  refine aw (λh5=>?_) (λh5=>?_)
  .have h5:=aI h5;have e:bX b=5:=by rw[bX,af (λk=>k hc),af (λk=>k h2),am h5]
   rw[aY,e];exact⟨rfl,rfl⟩
  have h5:=aL h5;have e:bX b=0:=by rw[bX,af (λk=>k hc),af (λk=>k h2),af h5]
  have h20:=BO hc;rw[show toNat 20=20 from rfl,wC,aY,e,am rfl,jO,am hc,fv];exact⟨ab,ab,ab,ab,rfl,rfl⟩
theorem BQ:aB 56 SO.spec:=aF Tryz.func56 (av (av aD Lg) sD) aT T2
def aW8:Ct:=⟨[.val (.sl bP)],[.own 5 bP,.val cI],λd=>[(d.1.length:Int)<=1099511627776],λd=>((ig d.1,gu d.1,()),())⟩
def Ge(a:ae) :=
 (((aY a).1.1,(aY a).1.2.1,aj ((aY a).1.2.2.1 -1),(aY a).1.2.2.2),(aY a).2)
theorem Yc :
 ∀(a:ae),(tq a)/\True->(ac a)<=1099511627776->(ac a)<=1099511627776/\ao (! decide (bX a=0)) (([]:ae)=ig a/\bX a=gu a) (ao (decide ((aY a).1.2.2.1<2)) (([]:ae)=ig a/\7=gu a) (((length (aY a).2):Int)<=1073741824/\d8 (Ge a)=ig a/\fA (Ge a)=gu a)):=by
  delta tq Ge aj ac;rintro b ⟨⟨-,hb⟩,-⟩ hl;refine⟨hl,aw (λhc=>?_) (λhc=>?_)⟩
  .have hc:¬ bX b=0:=by simpa using hc
   have e:gu b=bX b:=by rw[gu,am hc]
   rw[ig,e,af hc];exact⟨rfl,rfl⟩
  have hc:bX b=0:=by simpa using hc
  have hp:aY b=(bI b,b.drop 20):=by rw[aY,am hc]
  rw[hp];have h8:=yo hb (i:=8) (by have:=BO (Ee hc);omega);refine aw (λh2=>?_) (λh2=>?_)
  .have h2:=aI h2;have e:gu b=7:=by rw[gu,af (λk=>k hc),am h2]
   rw[ig,e];exact⟨rfl,rfl⟩
  have h2:=aL h2;have e:gu b=0:=by rw[gu,af (λk=>k hc),af h2]
  have hd:=wy hc;have h82:¬ b.getD 8 default<2:=h2;rw[ig,e,am rfl];have hok:=al1 hb hc h2;refine⟨by rw[fv];omega,?_⟩;have ew:IntKind.wrap .i64 ((bI b).2.2.1-1)=(bI b).2.2.1-1:=aG (by show _<=b.getD 8 default-1;omega) (by show b.getD 8 default-1<=_;omega);rw[ew];refine⟨rfl,?_⟩;rw[fA,af (λk=>k hok),af];simp only[fv];omega
theorem VK:aB 204 aW8.spec:=aF Tryz.func204 (av (av aD BQ) Pn) aT Yc
def ao6:Ct:=⟨[.agg jS],[.val cI],λd=>[],λd=>((mr d.1,()),())⟩
theorem av4 :
 ∀(a:cJ),CT.wf jS a/\True->True-> ∀(b:Bool),b=decide (a.1<0)->(ah (! b))/\(ah (! b))/\(aE b)/\ ∀(c:Bool),(c=bif b then true else decide (255<a.1))->(ah (! c))/\(ah (! c))/\(aE c)/\ ∀(d:Bool),(d=bif c then true else decide (a.2.2.1<0))->(ah (! d))/\(ah (! d))/\(aE d)/\ ∀(e:Bool),(e=bif d then true else decide (255<a.2.2.1))->(ah (! e))/\(ah (! e))/\(aE e)/\ ∀(f:Bool),(f=bif e then true else decide (a.2.2.2.1<0))->(ah (! f))/\(ah (! f))/\(aE f)/\ ∀(g:Bool),(g=bif f then true else decide (255<a.2.2.2.1))->(ah (! g))/\(ah (! g))/\(aE g)/\ ∀(h:Bool),(h=bif g then true else decide (a.2.1<0))->(ah (! h))/\(ah (! h))/\(aE h)/\ao (bif h then true else decide (65535<a.2.1)) (1=mr a) (0=mr a):=by
  delta ah aE;rintro h - -
  (repeat (refine bY ?_;repeat refine bZ ?_));refine aw (λhc=>?_) (λhc=>?_)
  .rw[mr,af];intro k;obtain⟨k1,k2,k3,k4,k5⟩:=k;unfold qi at k1 k2 k3;simp[dE] at hc;omega
  .rw[mr,am];unfold kV qi;simp[dE] at hc;omega
theorem aS8:aB 74 ao6.spec:=aF Tryz.func74 aD aT av4
def aq2:Ct:=⟨[.agg jS,.val cI],[.own 5 bP],λd=>[kV d.1,0<=d.2.1,d.2.1<=65535],λd=>((iY d.1 d.2.1,()),())⟩
def J4(a:cJ)(b:Int)(g:ae) :=
 (ac g)<=1099511627776/\ ∀(h:ae),h=cT g a.2.2.1 (1:Int)->(ac h)<=1099511627776/\ ∀(i:ae),i=cT h a.2.2.2.1 (1:Int)->(↑(0:Nat):Int)<=1099511627776/\ ∀(j:ae),j=cT ([]:ae) (aj a.2.2.2.2.2.1) (4:Int)->(ac j)<=1099511627776/\ ∀(k:ae),k=cT j (aj a.2.2.2.2.2.2) (4:Int)->i.length*(1:Nat)<=(140737488355328:Nat)/\(length [(0:Int),(0:Int)]+k.length)*(1:Nat)<=(140737488355328:Nat)/\(i.length+length ([(0:Int),(0:Int)]++k))*(1:Nat)<=(140737488355328:Nat)/\((length (i++([(0:Int),(0:Int)]++k))):Int)<=1099511627776/\ ∀(l:Int),l=65535 -oc (bO true (i++([(0:Int),(0:Int)]++k)))->(ac i)<=1099511627776/\ ∀(m:ae),m=cT i l (2:Int)->(m.length+k.length)*(1:Nat)<=(140737488355328:Nat)/\m++k=iY a b
theorem WQ :
 ∀(a:cJ)(b:Int),CT.wf jS a/\aq b/\True->kV a/\0<=b/\b<=65535->ao a.2.2.2.2.1 ((↑(0:Nat):Int)<=1099511627776/\ ∀(c:ae),c=cT ([]:ae) (69:Int) (1:Int)->(ac c)<=1099511627776/\ ∀(d:ae),d=cT c a.1 (1:Int)->(ac d)<=1099511627776/\ ∀(e:ae),e=cT d b (2:Int)->(ac e)<=1099511627776/\ ∀(f:ae),f=cT e a.2.1 (2:Int)->(ac f)<=1099511627776/\ ∀(g:ae),g=cT f (16384:Int) (2:Int)->(J4 a b g)) ((↑(0:Nat):Int)<=1099511627776/\ ∀(c:ae),c=cT ([]:ae) (69:Int) (1:Int)->(ac c)<=1099511627776/\ ∀(d:ae),d=cT c a.1 (1:Int)->(ac d)<=1099511627776/\ ∀(e:ae),e=cT d b (2:Int)->(ac e)<=1099511627776/\ ∀(f:ae),f=cT e a.2.1 (2:Int)->(ac f)<=1099511627776/\ ∀(g:ae),g=cT f (0:Int) (2:Int)->(J4 a b g)):=by
  delta J4 aj ac;rintro h n ⟨hw,-⟩⟨hok,n0,n1⟩;obtain⟨-,-,-,-,-,s0,d0⟩:=hw;have s0:0<=h.2.2.2.2.2.1/\h.2.2.2.2.2.1<=4294967295:=s0;have d0:0<=h.2.2.2.2.2.2/\h.2.2.2.2.2.2<=4294967295:=d0;have es:IntKind.wrap .i64 h.2.2.2.2.2.1=h.2.2.2.2.2.1:=aG ab ab;have ed:IntKind.wrap .i64 h.2.2.2.2.2.2=h.2.2.2.2.2.2:=aG ab ab;rw[es,ed];have hc:=qe (EK (n:=n) hok);obtain⟨h1,h2,h3,h4,h5⟩:=hok;have key:∀ f:Int,(f=if h.2.2.2.2.1 then 16384 else 0)->0<=f->f<=65535->((0:Nat):Int)<=1099511627776∧∀ x1,x1=cT [] 69 1->(x1.length:Int)<=1099511627776∧∀ x2,x2=cT x1 h.1 1->(x2.length:Int)<=1099511627776∧∀ x3,x3=cT x2 n 2->(x3.length:Int)<=1099511627776 ∧
    ∀ x4,x4=cT x3 h.2.1 2->(x4.length:Int)<=1099511627776∧∀ x5,x5=cT x4 f 2->(x5.length:Int)<=1099511627776∧∀ x6,x6=cT x5 h.2.2.1 1->(x6.length:Int)<=1099511627776∧∀ x7,x7=cT x6 h.2.2.2.1 1->((0:Nat):Int)<=1099511627776 ∧
    ∀ x8,x8=cT [] h.2.2.2.2.2.1 4->(x8.length:Int)<=1099511627776∧∀ x9,x9=cT x8 h.2.2.2.2.2.2 4->x7.length*1<=140737488355328/\(length [(0:Int),0]+x9.length)*1<=140737488355328/\(x7.length+length ([0,0]++x9))*1<=140737488355328 ∧
    ((x7++([0,0]++x9)).length:Int)<=1099511627776∧∀ c,c=65535-oc (bO true (x7++([0,0]++x9)))->(x7.length:Int)<=1099511627776∧∀ x11,x11=cT x7 c 2->(x11.length+x9.length)*1<=140737488355328/\x11++x9=iY h n:=by
   intro f hf f0 f1;refine⟨ab,?_⟩;rintro x1 e1;rw[tZ ab ab] at e1;refine⟨by rw[e1];simp,?_⟩;rintro x2 e2;rw[tZ h1.1 h1.2,e1] at e2;refine⟨by rw[e2];simp,?_⟩;rintro x3 e3;rw[jM n0 n1,e2] at e3;refine⟨by rw[e3];simp[w2],?_⟩;rintro x4 e4;rw[jM h4 h5,e3] at e4;refine⟨by rw[e4];simp[w2],?_⟩;rintro x5 e5;rw[jM f0 f1,e4] at e5;refine⟨by rw[e5];simp[w2],?_⟩;rintro x6 e6;rw[tZ h2.1 h2.2,e5] at e6;refine⟨by rw[e6];simp[w2],?_⟩;rintro x7 e7;rw[tZ h3.1 h3.2,e6] at e7;have e7:x7=C1 h n:=by rw[e7,hf];simp[C1]
   refine⟨ab,?_⟩;rintro x8 e8;rw[vW s0.1 s0.2] at e8;refine⟨by rw[e8];simp[w4],?_⟩;rintro x9 e9;rw[vW d0.1 d0.2,e8] at e9;have e9:x9=Ku h:=e9;have l7:x7.length=10:=by rw[e7];rfl
   have l9:x9.length=8:=by rw[e9];rfl
   have eb:x7++([0,0]++x9)=gU h n:=by rw[e7,e9];rfl
   refine⟨ab,by simp[l9],by simp[l7,l9],by simp[l7,l9],?_⟩;rw[eb];rintro c rfl;refine⟨ab,?_⟩;rintro x11 e11;rw[show 65535-oc (bO true (gU h n))=dg (gU h n) from rfl,jM hc.1 hc.2] at e11;refine⟨by rw[e11,cu,l7,l9];simp[w2],?_⟩;rw[e11,e7,e9,ia];rfl
  refine aw (λhk=>?_) (λhk=>?_)
  .exact key 16384 (by rw[hk];rfl) ab ab
  .exact key 0 (by rw[hk];rfl) ab ab
theorem LJ:aB 75 aq2.spec:=aF Tryz.func75 (av (av aD (Ct.named zj)) (Ct.named HU)) aT WQ
def aS5:Ct:=⟨[.agg uA],[.own 5 bP,.val cI],λd=>[(d.1.2.length:Int)<=1073741824],λd=>((d8 d.1,fA d.1,()),())⟩
theorem aK4 :
 ∀(a:(Int×Int×Int×Int×Bool×Int×Int)×ae),CT.wf uA a/\True->(ac a.2)<=1073741824->ao (! decide (mr a.1=0)) (([]:ae)=d8 a/\mr a.1=fA a) (ao (decide (1500<aj ((ac a.2)+20))) (([]:ae)=d8 a/\5=fA a) (kV a.1/\0<=aj ((ac a.2)+20)/\aj ((ac a.2)+20)<=65535/\(length (iY a.1 (aj ((ac a.2)+20)))+a.2.length)*(1:Nat)<=(140737488355328:Nat)/\iY a.1 (aj ((ac a.2)+20))++a.2=d8 a/\0=fA a)):=by
  delta aj ac;rintro d ⟨⟨hw,-⟩,-⟩ hl;refine aw (λhc=>?_) (λhc=>?_)
  .have hn:¬ kV d.1:=λk=>by rw[mr,am k] at hc;cases hc
   have he:fA d=1:=by rw[fA,am hn]
   rw[d8,he,mr,af hn];exact⟨rfl,rfl⟩
  have hok:kV d.1:=fq λk=>by rw[mr,af k] at hc;cases hc
  have e20:IntKind.wrap .i64 ((d.2.length:Int)+20)=20+d.2.length:=by rw[aG ab ab];omega
  rw[e20];refine aw (λh5=>?_) (λh5=>?_)
  .have h5:=aI h5;have he:fA d=5:=by rw[fA,af (λk=>k hok),am ab]
   rw[d8,he];exact⟨rfl,rfl⟩
  have h5:=aL h5;have he:fA d=0:=by rw[fA,af (λk=>k hok),af ab]
  refine⟨hok,ab,ab,by rw[sK];omega,?_⟩;rw[d8,he,am rfl];exact⟨rfl,rfl⟩
theorem QC:aB 36 aS5.spec:=aF Tryz.func36 (av (av aD aS8) LJ) aT aK4
def Uh:Ct:=⟨[.val (.sl bP)],[.agg jS,.val cI,.val cI],λd=>[(d.1.length:Int)<=1099511627776],λd=>((jO d.1,i9 d.1,dX d.1,()),())⟩
def Fv(a:ae) :=
 (aj (ai a (1:Int)),cB a (4:Int) (2:Int),aj (ai a (8:Int)),aj (ai a (9:Int)),! decide (cB a (6:Int) (2:Int)=0),IntKind.wrap .u32 (cB a (12:Int) (4:Int)),IntKind.wrap .u32 (cB a (16:Int) (4:Int)))
theorem XB :
 ∀(a:ae),(tq a)/\True->(ac a)<=1099511627776->ao (decide ((ac a)<20)) ((rZ)=jO a/\0=i9 a/\3=dX a) ((ac a)<=9223372036854775807/\(ac a)<=9223372036854775807/\(0:Int)<=0/\0<(ac a)/\ ∀(b:Bool),b= ! decide (ai a (0:Int)=69)->(ah (! b))/\(ah (! b))/\ ∀(c:Bool),c= ! decide (cB a (6:Int) (2:Int)=0)->(ah (! b&&c))/\((! b)->(ar (! b))/\(c->(! b&&c))/\True)/\(aE b)/\ ∀(d:Bool),(d=bif b then true else bif c then ! decide (cB a (6:Int) (2:Int)=16384) else false)->(ah (! d))/\(aE d)/\ao (bif d then true else decide (cB a (2:Int) (2:Int)<20)) ((rZ)=jO a/\0=i9 a/\2=dX a) ((0:Int)<=1/\1<(ac a)/\(ac a)<=9223372036854775807/\(0:Int)<=8/\8<(ac a)/\(0:Int)<=9/\9<(ac a)/\(ac a)<=9223372036854775807/\(ac a)<=9223372036854775807/\kV (Fv a)/\0<=cB a (2:Int) (2:Int)/\cB a (2:Int) (2:Int)<=65535/\(0:Int)<=0/\(0:Int)<=20/\20<=(ac a)/\ao (! decide
 (iY (Fv a) (cB a (2:Int) (2:Int))=cO a (toNat 0) (toNat 20))) ((rZ)=jO a/\0=i9 a/\4=dX a) ((Fv a)=jO a/\cB a (2:Int) (2:Int)=i9 a/\0=dX a))):=by
  delta rZ Fv tq ah ar aE aj ai ac;rintro b ⟨⟨-,hb⟩,-⟩ hl;refine aw (λh=>?_) (λh=>?_)
  .have h:=aI h;have e:dX b=3:=by rw[dX,am h]
   rw[jO,i9,e];exact⟨rfl,rfl,rfl⟩
  have h:=aL h;rw[nw (a:=6) ab ab,nw (a:=2) ab ab,nw (a:=4) ab ab,BD (a:=12) ab ab,BD (a:=16) ab ab];have n12:=sE hb 12;have n16:=sE hb 16;have b1:=yo hb (i:=1) ab;have b8:=yo hb (i:=8) ab;have b9:=yo hb (i:=9) ab;have w4':=nO hb 4;have w2':=nO hb 2;rw[aG (n:=b.getD (toNat 1) default) (by have:=b1.1;simp at this ⊢;omega) (by have:=b1.2;simp at this ⊢;omega),aG (n:=b.getD (toNat 8) default) (by have:=b8.1;simp at this ⊢;omega) (by have:=b8.2;simp at this ⊢;omega),aG (n:=b.getD (toNat 9) default) (by have:=b9.1;simp at this ⊢;omega) (by have:=b9.2;simp at this ⊢;omega)];rw[show (toNat 12)=12 from rfl,show (toNat 16)=16 from rfl,rC n12.1 n12.2,rC n16.1 n16.2];refine⟨ab,ab,ab,ab,?_⟩
  (repeat (refine bY ?_;repeat refine bZ ?_));refine aw (λhc=>?_) (λhc=>?_)
  .have e:dX b=2:=by
    rw[dX,af h,am];rintro⟨h0,hf,h2⟩;rw[show b.getD (toNat 0) default=69 from h0] at hc;have h2:20<=aH b (toNat 2):=h2;rcases hf with hf|hf
    .rw[show aH b (toNat 6)=0 from hf] at hc;simp at hc;simp at h2;omega
    .rw[show aH b (toNat 6)=16384 from hf] at hc;simp at hc;simp at h2;omega
   rw[jO,i9,e];exact⟨rfl,rfl,rfl⟩
  have hg:b.getD 0 default=69/\(aH b 6=0∨aH b 6=16384)/\20<=aH b 2:=by
   by_cases h0:b.getD (toNat 0) default=69
   .by_cases h6:aH b (toNat 6)=0
    .simp[h0,h6] at hc;exact⟨h0,.inl h6,ab⟩
    .by_cases h7:aH b (toNat 6)=16384
     .simp[h0,h7] at hc;exact⟨h0,.inr h7,ab⟩
     .exfalso;rw[h0,dO h6,dO h7] at hc;simp at hc
   .exfalso;rw[dO h0] at hc;simp at hc
  have hdr:(b.getD (toNat 1) default,aH b (toNat 4),b.getD (toNat 8) default,b.getD (toNat 9) default,!decide (aH b (toNat 6)=0),fp ((b.drop 12).take 4),fp ((b.drop 16).take 4))=bI b:=by
   have:(!decide (aH b (toNat 6)=0))=decide (aH b 6=16384):=by
    rw[show toNat 6=6 from rfl];rcases hg.2.1 with hf|hf <;> rw[hf] <;> rfl
   rw[this];rfl
  rw[hdr];obtain⟨-,hm⟩:=MD hb ab hg.1 hg.2.1;have hs:cO b (toNat 0) (toNat 20)=b.take 20:=rfl;rw[hs,show toNat 2=2 from rfl];refine⟨ab,ab,ab,ab,ab,ab,ab,ab,ab,⟨b1,b8,b9,w4'.1,w4'.2⟩,ab,ab,ab,ab,ab,?_⟩;refine aw (λhc=>?_) (λhc=>?_)
  .have e:dX b=4:=by
    rw[dX,af h,af (λk=>k hg),am];intro k;rw[hm.2 k] at hc;simp at hc
   rw[jO,i9,e];exact⟨rfl,rfl,rfl⟩
  .have hc:iY (bI b) (aH b 2)=b.take 20:=by simpa using hc
   have e:dX b=0:=by
    rw[dX,af h,af (λk=>k hg),af];intro k;exact k (hm.1 hc)
   rw[jO,i9,e,am rfl,am rfl];exact⟨rfl,rfl,rfl⟩
theorem Xo:aB 148 Uh.spec:=aF Tryz.func148 (av (av (av aD Kb) LJ) aQ8) aT XB
def Ua:Ct:=⟨[.val (.sl bP)],[.agg uA,.val cI],λd=>[(d.1.length:Int)<=1099511627776],λd=>((aY d.1,bX d.1,()),())⟩
theorem Ws :
 ∀(a:ae),(tq a)/\True->(ac a)<=1099511627776->(ac a)<=1099511627776/\ao (! decide (dX a=0)) ((wG)=aY a/\dX a=bX a) (ao (! decide (i9 a=(ac a))) ((wG)=aY a/\2=bX a) (ao (decide (1500<i9 a)) ((wG)=aY a/\5=bX a) ((0:Int)<=20/\20<=(ac a)/\(ac a)<=(ac a)/\length (cO a (toNat 20) (toNat (ac a)))*(1:Nat)<=(140737488355328:Nat)/\(jO a,cO a (toNat 20) (toNat (ac a)))=aY a/\0=bX a))):=by
  delta rZ tq wG ac;rintro b ⟨⟨-,hb⟩,-⟩ hl;refine⟨hl,aw (λhc=>?_) (λhc=>?_)⟩
  .have hc:¬ dX b=0:=by simpa using hc
   have e:bX b=dX b:=by rw[bX,am hc]
   rw[aY,e,af hc];exact⟨rfl,rfl⟩
  have hc:dX b=0:=by simpa using hc
  have hlen:i9 b=aH b 2:=by rw[i9,am hc]
  rw[hlen];refine aw (λh2=>?_) (λh2=>?_)
  .have h2:¬ aH b 2=b.length:=by simpa using h2
   have e:bX b=2:=by rw[bX,af (λk=>k hc),am h2]
   rw[aY,e];exact⟨rfl,rfl⟩
  have h2:aH b 2=b.length:=by simpa using h2
  refine aw (λh5=>?_) (λh5=>?_)
  .have h5:=aI h5;have e:bX b=5:=by rw[bX,af (λk=>k hc),af (λk=>k h2),am h5]
   rw[aY,e];exact⟨rfl,rfl⟩
  have h5:=aL h5;have e:bX b=0:=by rw[bX,af (λk=>k hc),af (λk=>k h2),af h5]
  have h20:=BO hc;rw[show toNat 20=20 from rfl,wC,aY,e,am rfl,jO,am hc,fv];exact⟨ab,ab,ab,ab,rfl,rfl⟩
theorem ao1:aB 83 Ua.spec:=aF Tryz.func83 (av aD Xo) aT Ws
abbrev pM:CT := .pair cP (.pair cP (.pair cI (.pair cI (.pair cI cI))))
abbrev bz:Type:=Int×Int×Int×Int×Int×Int
def lp(n:Int):Prop:=n=1∨n=6∨n=17
instance (n:Int):Decidable (lp n):=by unfold lp;infer_instance
def jg(p:bz):Prop:=(0<=p.2.2.2.1/\p.2.2.2.1<=1023)/\(0<=p.2.2.2.2.1/\p.2.2.2.2.1<=65534)/\1<=p.2.2.2.2.2/\p.2.2.2.2.2<=255
instance (p:bz):Decidable (jg p):=by unfold jg;infer_instance
def cf(p:bz):Int:=if ¬ lp p.2.2.1 then 16 else if ¬ jg p then 1 else 0
def rf(p:bz):Int:=oc (65535-(16384+p.2.2.2.1)+dg (cV (false,21075,p.2.2.2.2.1,[0,0])))
def wh(p:bz):Int:=oc (65535-(p.2.2.2.2.1+1)+fX p.1 p.2.1 17 (fN (20000+p.2.2.2.1,33434,[0,0])))
def uU(p:bz):Int:=if wh p=0 then 65535 else wh p
def mw(p:bz):n9:=(false,21075,p.2.2.2.2.1,w2 (rf p))
def rV(p:bz):qD:=(20000+p.2.2.2.1,33434,w2 (uU p))
def nz(p:bz):mO:=(20000+p.2.2.2.1,80,p.2.2.2.2.1,0,2,1024,[])
def fu(p:bz):ae:=if p.2.2.1=1 then fH (mw p) else if p.2.2.1=17 then mE p.1 p.2.1 (rV p) else fQ p.1 p.2.1 (nz p)
def sj(p:bz):cJ:=(0,p.2.2.2.2.1,p.2.2.2.2.2,p.2.2.1,true,p.1,p.2.1)
def build(p:bz):ae:=if cf p=0 then d8 (sj p,fu p) else []
def P9:dZ:=(0,0,0,0,0)
def yQ:bz:=(0,0,0,0,0,0)
def pV(x:rA):dZ:=(x.1.2.2.2.2.2.1,x.1.2.2.2.2.2.2,x.1.2.2.2.1,if lp x.1.2.2.2.1/\4<=x.2.length then aH x.2 0 else 0,if lp x.1.2.2.2.1/\4<=x.2.length then aH x.2 2 else 0)
def bc(b:ae):dZ:=if bX b=0 then pV (aY b) else P9
def An(p:bz):dZ:=if cf p=0 then bc (build p) else P9
def AJ(p:bz):Int:=if cf p=0 then bX (build p) else cf p
theorem lh{p:bz}:cf p=0↔lp p.2.2.1/\jg p:=by
 unfold cf
 constructor
 .intro h;split at h
  .cases h
  .split at h
   .cases h
   next h1 h2=>exact⟨o4.1 h1,o4.1 h2⟩
 .rintro⟨h1,h2⟩;rw[af (λk=>k h1),af (λk=>k h2)]
theorem EZ{b:ae}{i:Nat}{c:Int}(h:i+2<=b.length)(c0:0<=c)(c1:c<=65535):aH (cR b i c) i=c:=by
 rw[Iw (by rw[mN];exact h)]
 unfold cR
 rw[BN ab,PG ab,PG (by rw[gB];omega)]
 omega
theorem wF{b:ae}{i j:Nat}{c:Int}(h:j+2<=b.length)(hn:j+2<=i∨i+2<=j):aH (cR b i c) j=aH b j:=by
 rw[Iw (by rw[mN];exact h),Iw h]
 unfold cR
 rw[BN ab,BN ab,BN ab,BN ab]
theorem KL{s d:Int}{p:Int}{X:ae}(hx:bytes X)(hp:0<p%256):0<=fX s d p X/\fX s d p X<=65534:=by
 have h1:=(yY (a:=s) (b:=d) (p:=p) hx).1
 refine⟨h1,?_⟩
 unfold fX at h1 ⊢
 split
 .omega
 .unfold dg;rw[FY];have h2:=MC s d p X.length;have h3:=(zu true X hx).1;unfold oc;rw[af ab];omega
theorem RO:bytes [0,0]:=mS (by omega) (by omega) (mS (by omega) (by omega) nM)
theorem Lu(t:Int):bytes (cV (false,21075,t,[0,0])):=xZ RO
theorem HB(f:Int):bytes (fN (20000+f,33434,[0,0])):=B6 RO
theorem Oo{p:bz}(h:jg p):1<=rf p/\rf p<=65535:=by
 have:=qe (Lu p.2.2.2.2.1)
 obtain⟨⟨h1,h2⟩,-⟩:=h
 unfold rf oc
 rw[af ab];omega
theorem YS{p:bz}(h:jg p):0<=wh p/\wh p<=65535:=by
 have:=KL (s:=p.1) (d:=p.2.1) (p:=17) (HB p.2.2.2.1) bt
 obtain⟨-,⟨h1,h2⟩,-⟩:=h
 exact wD ab
theorem Mc{p:bz}(h:jg p):1<=uU p/\uU p<=65535:=by
 have:=YS h
 unfold uU;split <;> omega
theorem y8(n:Int):(w2 n).length=2:=rfl
theorem Hb{p:bz}(h:jg p):EX (w2 (rf p)) (mw p):=by
 obtain⟨-,⟨h1,h2⟩,-⟩:=h
 exact⟨⟨(jL _).2 ⟨by show (0:Int)<=21075;omega,by show (21075:Int)<=_;omega⟩,(jL _).2 ⟨h1,by show p.2.2.2.2.1<=_;omega⟩⟩,rfl⟩
theorem RW{p:bz}(h:jg p):Jg (w2 (uU p)) (rV p):=by
 obtain⟨⟨h1,h2⟩,-⟩:=h
 exact⟨⟨(jL _).2 ⟨by show (0:Int)<=20000+p.2.2.2.1;omega,by show 20000+p.2.2.2.1<=_;omega⟩,(jL _).2 ⟨by show (0:Int)<=33434;omega,by show (33434:Int)<=_;omega⟩⟩,rfl⟩
theorem JA{p:bz}(h:jg p):Dz [] (nz p):=by
 obtain⟨⟨h1,h2⟩,⟨h3,h4⟩,-⟩:=h
 refine⟨⟨(jL _).2 ⟨?_,?_⟩,(jL _).2 ⟨?_,?_⟩,⟨?_,?_⟩,⟨?_,?_⟩,⟨?_,?_⟩,(jL _).2 ⟨?_,?_⟩⟩,rfl⟩ <;> simp only[nz] <;> omega
theorem NU{p:bz}(h:jg p):kK (mw p)=0:=Du (Hb h) (by rw[y8];omega)
theorem LX{p:bz}(h:jg p):nV (rV p)=0:=R0 (RW h) (by rw[y8];omega)
theorem N8{p:bz}(h:jg p):lJ (nz p)=0:=Kr (JA h) (by simp)
theorem yV{p:bz}(h:jg p)(h1:p.2.2.1=1):fu p=cR (cV (mw p)) 2 (dg (cV (mw p))):=by
 rw[fu,am h1,fH,am (NU h)]
theorem A6{p:bz}(h:jg p)(h1:p.2.2.1=17):fu p=cR (fN (rV p)) 6 (lD p.1 p.2.1 (fN (rV p))):=by
 rw[fu,af ab,am h1,mE,am (LX h)]
theorem zR{p:bz}(h:jg p)(h1:p.2.2.1=6):fu p=cR (kG (nz p)) 16 (fX p.1 p.2.1 6 (kG (nz p))):=by
 rw[fu,af ab,af ab,fQ,am (N8 h)]
theorem xN{p:bz}(h:cf p=0):(p.2.2.1≠6/\(fu p).length=10)∨(p.2.2.1=6/\(fu p).length=20):=by
 obtain⟨h1|h1|h1,h2⟩:=lh.1 h
 .rw[yV h2 h1,mN];exact .inl ⟨ab,rfl⟩
 .rw[zR h2 h1,mN];exact .inr ⟨h1,rfl⟩
 .rw[A6 h2 h1,mN];exact .inl ⟨ab,rfl⟩
theorem Lo{p:bz}(h:cf p=0):bytes (fu p):=by
 obtain⟨h1|h1|h1,h2⟩:=lh.1 h
 .rw[yV h2 h1];exact tW (xZ (mI _))
 .rw[zR h2 h1];exact tW (AA (JA h2).1 nM)
 .rw[A6 h2 h1];exact tW (B6 (mI _))
theorem Ik{p:bz}(h:cf p=0):kV (sj p):=by
 obtain⟨h1,⟨-,⟨h2,h3⟩,h4,h5⟩⟩:=lh.1 h
 refine⟨⟨?_,?_⟩,⟨?_,?_⟩,⟨?_,?_⟩,?_,?_⟩ <;> simp only[sj] <;> unfold lp at h1 <;> omega
theorem H8{p:bz}(h:cf p=0):fA (sj p,fu p)=0:=by
 rw[fA,af (λk=>k (Ik h)),af]
 rcases xN h with h|h <;> rw[h.2] <;> simp
theorem FQ{p:bz}(h:cf p=0):build p=iY (sj p) (20+(fu p).length)++fu p:=by
 rw[build,am h,d8,am (H8 h)]
theorem GW(p:bz):(build p).length<=40:=by
 by_cases h:cf p=0
 .rw[FQ h,cu,sK];rcases xN h with h|h <;> omega
 .rw[build,af h];simp
theorem Kc(p:bz):bytes (build p):=by
 by_cases h:cf p=0
 .rw[FQ h];exact iQ (JB (Ik h)) (Lo h)
 .rw[build,af h];exact nM
theorem aU3{b:ae}(h:bX b=0):bc b=pV (bI b,b.drop 20):=by rw[bc,am h,aY,am h]
def aD4:Ct:=⟨[.agg pM],[.val cI],λd=>[],λd=>((cf d.1,()),())⟩
def tR(a b c d e f:Int) :=
 (0<=a/\a<=4294967295)/\(0<=b/\b<=4294967295)/\aq c/\aq d/\aq e/\aq f
theorem Xa :
 ∀(a b c d e f:Int),(tR a b c d e f)/\True->True-> ∀(g:Bool),g= ! decide (c=1)->(ah g)/\(ah g)/\(ar g)/\ ∀(h:Bool),(h=bif g then ! decide (c=6) else false)->(ah h)/\(ah h)/\(ar h)/\ao (bif h then ! decide (c=17) else false) (16=cf (a,b,c,d,e,f)) (∀(i:Bool),i=decide (d<0)->(ah (! i))/\(ah (! i))/\(aE i)/\ao (bif i then true else decide (1023<d)) (ao (bif i then true else decide (1023<d)) (1=cf (a,b,c,d,e,f)) (0=cf (a,b,c,d,e,f))) (∀(j:Bool),j=decide (e<0)->(ah (! j))/\(ah (! j))/\(aE j)/\ao (bif j then true else decide (65534<e)) (ao (bif j then true else decide (65534<e)) (1=cf (a,b,c,d,e,f)) (0=cf (a,b,c,d,e,f))) (∀(k:Bool),k=decide (f<1)->(ah (! k))/\(ah (! k))/\(aE k)/\ao (bif k then true else decide (255<f)) (1=cf (a,b,c,d,e,f)) (0=cf (a,b,c,d,e,f))))):=by
  delta tR ah ar aE;rintro s d pr f t l - -
  (repeat (refine bY ?_;repeat refine bZ ?_));refine aw (λhc=>?_) (λhc=>?_)
  .rw[cf,am];simp only[lp];intro k;rcases k with rfl|rfl|rfl <;> simp at hc
  have hp:lp pr:=by
   unfold lp;by_cases h1:pr=1
   .exact .inl h1
   .by_cases h6:pr=6
    .exact .inr (.inl h6)
    .simp[h1,h6] at hc;exact .inr (.inr hc)
  have key:∀(v:Int),(v=if jg (s,d,pr,f,t,l) then 0 else 1)->v=cf (s,d,pr,f,t,l):=by
   intro v hv;rw[cf,af (λk=>k hp),hv];by_cases k:jg (s,d,pr,f,t,l)
   .rw[am k,af (λq=>q k)]
   .rw[af k,am k]
  (repeat (refine bY ?_;repeat refine bZ ?_));refine aw (λh1=>?_) (λh1=>?_)
  .have hn:¬ jg (s,d,pr,f,t,l):=by
    rintro⟨⟨a,b⟩,-⟩;simp only at a b;simp[dE] at h1;omega
   exact aw (λ_=>key 1 (by rw[af hn])) (λh=>by rw[h] at h1;cases h1)
  (repeat (refine bY ?_;repeat refine bZ ?_));refine aw (λh2=>?_) (λh2=>?_)
  .have hn:¬ jg (s,d,pr,f,t,l):=by
    rintro⟨-,⟨a,b⟩,-⟩;simp only at a b;simp[dE] at h2;omega
   exact aw (λ_=>key 1 (by rw[af hn])) (λh=>by rw[h] at h2;cases h2)
  (repeat (refine bY ?_;repeat refine bZ ?_));simp[dE] at h1 h2;refine aw (λh3=>?_) (λh3=>?_)
  .have hn:¬ jg (s,d,pr,f,t,l):=by
    rintro⟨-,-,a,b⟩;simp only at a b;simp[dE] at h3;omega
   exact key 1 (by rw[af hn])
  .have hn:jg (s,d,pr,f,t,l):=by
    simp[dE] at h3;refine⟨⟨?_,?_⟩,⟨?_,?_⟩,?_,?_⟩ <;> simp only <;> omega
   exact key 0 (by rw[am hn])
theorem N3:aB 60 aD4.spec:=aF Tryz.func60 aD aT Xa
def Tb:Ct:=⟨[.agg pM],[.val cI],λd=>[],λd=>((cf d.1,()),())⟩
theorem aA1 :
 ∀(a b c d e f:Int),(tR a b c d e f)/\True->True-> ∀(g:Bool),g= ! decide (c=1)->(ah g)/\(ah g)/\(ar g)/\ ∀(h:Bool),(h=bif g then ! decide (c=17) else false)->(ah h)/\(ah h)/\(ar h)/\ao (bif h then ! decide (c=6) else false) (16=cf (a,b,c,d,e,f)) (∀(i:Bool),i=decide (d<0)->(ah (! i))/\(ah (! i))/\(aE i)/\ ∀(j:Bool),(j=bif i then true else decide (1023<d))->(ah (! j))/\(ah (! j))/\(aE j)/\ ∀(k:Bool),(k=bif j then true else decide (e<0))->(ah (! k))/\(ah (! k))/\(aE k)/\ ∀(l:Bool),(l=bif k then true else decide (65534<e))->(ah (! l))/\(ah (! l))/\(aE l)/\ ∀(m:Bool),(m=bif l then true else decide (f<1))->(ah (! m))/\(ah (! m))/\(aE m)/\ao (bif m then true else decide (255<f)) (1=cf (a,b,c,d,e,f)) (0=cf (a,b,c,d,e,f))):=by
  delta tR ah ar aE;rintro s d pr f t l - -
  (repeat (refine bY ?_;repeat refine bZ ?_));refine aw (λhc=>?_) (λhc=>?_)
  .rw[cf,am];simp only[lp];intro k;rcases k with rfl|rfl|rfl <;> simp at hc
  have hp:lp pr:=by
   unfold lp;by_cases h1:pr=1
   .exact .inl h1
   .by_cases h6:pr=17
    .exact .inr (.inr h6)
    .simp[h1,h6] at hc;exact .inr (.inl hc)
  have key:∀(v:Int),(v=if jg (s,d,pr,f,t,l) then 0 else 1)->v=cf (s,d,pr,f,t,l):=by
   intro v hv;rw[cf,af (λk=>k hp),hv];by_cases k:jg (s,d,pr,f,t,l)
   .rw[am k,af (λq=>q k)]
   .rw[af k,am k]
  (repeat (refine bY ?_;repeat refine bZ ?_));refine aw (λh1=>?_) (λh1=>?_)
  .have hn:¬ jg (s,d,pr,f,t,l):=by
    rintro⟨⟨a,b⟩,⟨a2,b2⟩,a3,b3⟩;simp only at a b a2 b2 a3 b3;simp[dE] at h1;omega
   exact key 1 (by rw[af hn])
  .have hn:jg (s,d,pr,f,t,l):=by
    simp[dE] at h1;refine⟨⟨?_,?_⟩,⟨?_,?_⟩,?_,?_⟩ <;> simp only <;> omega
   exact key 0 (by rw[am hn])
theorem HH:aB 33 Tb.spec:=aF Tryz.func33 aD aT aA1
def aV2:Ct:=⟨[.val (.sl bP)],[.agg xh,.val cI],λd=>[(d.1.length:Int)<=1099511627776],λd=>((bc d.1,bX d.1,()),())⟩
def Bb(a:ae)(b:(Int×Int×Int×Int×Bool×Int×Int)×ae) :=
 (b.1.2.2.2.2.2.1,b.1.2.2.2.2.2.2,b.1.2.2.2.1,(0:Int),(0:Int))=bc a/\0=bX a
def CY(a:ae)(b:(Int×Int×Int×Int×Bool×Int×Int)×ae) :=
 ao (decide (4<=(ac b.2))) ((ac b.2)<=9223372036854775807/\(ac b.2)<=9223372036854775807/\(b.1.2.2.2.2.2.1,b.1.2.2.2.2.2.2,b.1.2.2.2.1,cB b.2 (0:Int) (2:Int),cB b.2 (2:Int) (2:Int))=bc a/\0=bX a) (Bb a b)
theorem aP8 :
 ∀(a:ae),(a.length<=maxLen/\ ∀(b:Int),b∈a->0<=b/\b<=255)/\True->(ac a)<=1099511627776->(ac a)<=1099511627776/\ ∀(b:(Int×Int×Int×Int×Bool×Int×Int)×ae)(c:Int),b=aY a/\c=bX a->ao (! decide (c=0)) (((0:Int),(0:Int),(0:Int),(0:Int),(0:Int))=bc a/\c=bX a) (ao (decide (b.1.2.2.2.1=1)) (ao (decide (b.1.2.2.2.1=1)) (CY a b) (Bb a b)) (ao (decide (b.1.2.2.2.1=6)) (ao (decide (b.1.2.2.2.1=6)) (CY a b) (Bb a b)) (ao (decide (b.1.2.2.2.1=17)) (CY a b) (Bb a b)))):=by
  delta CY Bb ac;rintro b ⟨⟨-,hb⟩,-⟩ hl;refine⟨hl,?_⟩;rintro d e ⟨rfl,rfl⟩;refine aw (λh=>?_) (λh=>?_)
  .have h:¬ bX b=0:=by simpa using h
   rw[bc,af h];exact⟨rfl,rfl⟩
  have h:bX b=0:=by simpa using h
  have hdl:=wy h;have hk:bc b=pV (aY b):=by rw[bc,am h]
  rw[hk,h];have hpl:((aY b).2.length:Int)<=1500:=by rw[aY,am h];simp only[fv];omega
  generalize aY b=x at *;have yes:lp x.1.2.2.2.1->(4:Int)<=x.2.length->((x.2.length:Int)<=9223372036854775807/\(x.2.length:Int)<=9223372036854775807/\(x.1.2.2.2.2.2.1,x.1.2.2.2.2.2.2,x.1.2.2.2.1,cB x.2 0 2,cB x.2 2 2)=pV x/\(0:Int)=0):=by
   intro h1 h2;refine⟨ab,ab,?_,rfl⟩;rw[nw ab ab,nw ab ab,pV,am ⟨h1,ab⟩,am ⟨h1,ab⟩];rfl
  have no:¬ (lp x.1.2.2.2.1/\(4:Int)<=x.2.length)->((x.1.2.2.2.2.2.1,x.1.2.2.2.2.2.2,x.1.2.2.2.1,(0:Int),(0:Int))=pV x/\(0:Int)=0):=by
   intro h1;rw[pV,af (λk=>h1 ⟨k.1,ab⟩),af (λk=>h1 ⟨k.1,ab⟩)];exact⟨rfl,rfl⟩
  refine aw (λh1=>?_) (λh1=>?_)
  .refine aw (λ_=>?_) (λk=>by rw[h1] at k;cases k);have h1:=aI h1;exact aw (λh4=>yes (.inl h1) (aI h4)) (λh4=>no (λk=>(aL h4) k.2))
  refine aw (λh6=>?_) (λh6=>?_)
  .refine aw (λ_=>?_) (λk=>by rw[h6] at k;cases k);have h6:=aI h6;exact aw (λh4=>yes (.inr (.inl h6)) (aI h4)) (λh4=>no (λk=>(aL h4) k.2))
  refine bU (λh17=>?_) (λh17=>?_)
  .exact aw (λh4=>yes (.inr (.inr h17)) (aI h4)) (λh4=>no (λk=>(aL h4) k.2))
  .have h1:=aL h1;have h6:=aL h6;exact no (λk=>by rcases k.1 with k|k|k <;> contradiction)
theorem ah0:aB 225 aV2.spec:=aF Tryz.func225 (av (av aD (Ct.named BQ)) CV) aT aP8
def ar0:Ct:=⟨[.val cI,.val cI],[.val cI],λd=>[0<=d.1,d.1<=65535,0<=d.2.1,d.2.1<=65535],λd=>((if oc (65535-d.2.1+d.1)=0 then 65535 else oc (65535-d.2.1+d.1),()),())⟩
def Gp(a b:Int) :=
 if (dh (aj ((65535:Int) -b))&&dh a)=true then oc (aj ((65535:Int) -b)+a) else (0:Int)
theorem az9 :
 ∀(a b:Int),aq a/\aq b/\True->0<=a/\a<=65535/\0<=b/\b<=65535->ao (decide ((Gp a b)=0)) (65535=if oc ((65535:Int) -b+a)=0 then (65535:Int) else oc ((65535:Int) -b+a)) ((Gp a b)=if oc ((65535:Int) -b+a)=0 then (65535:Int) else oc ((65535:Int) -b+a)):=by
  delta Gp aj;rintro a b-⟨a0,a1,b0,b1⟩;rw[aG (n:=65535-b) ab ab,am (by simp only[dK,jL];omega)];refine bU (λh=>?_) (λh=>?_)
  .rw[am h]
  .rw[af h]
theorem YC:aB 78 ar0.spec:=aF Tryz.func78 (av aD O9) aT az9
def Xn:Ct:=⟨[.agg pM],[.own 5 bP],λd=>[cf d.1=0],λd=>((fu d.1,()),())⟩
theorem ak7 :
 ∀(a b c d e f:Int),(tR a b c d e f)/\True->cf (a,b,c,d,e,f)=0->ao (decide (c=1)) (((length [(0:Int),(0:Int)]):Int)<=1073741824/\ ∀(g:ae)(h:Int),g=fH (false,(21075:Int),e,[(0:Int),(0:Int)])/\h=kK (false,(21075:Int),e,[(0:Int),(0:Int)])->(ac g)<=9223372036854775807/\ ∀(i:Int),i=cB g (2:Int) (2:Int)->0<=i/\i<=65535/\0<=aj ((16384:Int)+d)/\aj ((16384:Int)+d)<=65535/\ ∀(j:Int),(j=if oc ((65535:Int) -aj ((16384:Int)+d)+i)=0 then (65535:Int) else oc ((65535:Int) -aj ((16384:Int)+d)+i))->(↑(0:Nat):Int)<=1099511627776/\ ∀(k:ae),k=cT ([]:ae) j (2:Int)->(ac k)<=1073741824/\ ∀(l:ae)(m:Int),l=fH (false,(21075:Int),e,k)/\m=kK (false,(21075:Int),e,k)->l=fu (a,b,c,d,e,f)) (ao (decide (c=17)) ((↑(0:Nat):Int)<=1099511627776/\ ∀(g:ae),g=cT ([]:ae) (aj ((20000:Int)+d)) (2:Int)->(ac g)<=1099511627776/\ ∀(h:List
 Int),h=cT g (33434:Int) (2:Int)->(h.length+length [(0:Int),(10:Int),(0:Int),(0:Int),(0:Int),(0:Int)])*(1:Nat)<=(140737488355328:Nat)/\((length (h++[(0:Int),(10:Int),(0:Int),(0:Int),(0:Int),(0:Int)])):Int)<=1073741824/\ ∀(i:Int),i=fX a b (17:Int) (h++[(0:Int),(10:Int),(0:Int),(0:Int),(0:Int),(0:Int)])->0<=i/\i<=65535/\0<=aj (e+1)/\aj (e+1)<=65535/\ ∀(j:Int),(j=if oc ((65535:Int) -aj (e+1)+i)=0 then (65535:Int) else oc ((65535:Int) -aj (e+1)+i))->(↑(0:Nat):Int)<=1099511627776/\ ∀(k:ae),k=cT ([]:ae) j (2:Int)->(ac k)<=1073741824/\mE a b (aj ((20000:Int)+d),(33434:Int),k)=fu (a,b,c,d,e,f)) ((↑(0:Nat):Int)<=1000000/\fQ a b (aj ((20000:Int)+d),(80:Int),e,(0:Int),(2:Int),(1024:Int),([]:ae))=fu (a,b,c,d,e,f))):=by
  delta tR aj ac;rintro s d pr f t l-he;obtain⟨hp,hr⟩:=lh.1 he;have hr':=hr;obtain⟨⟨f0,f1⟩,⟨t0,t1⟩,l0,l1⟩:=hr';simp only at f0 f1 t0 t1 l0 l1;rw[aG (n:=16384+f) ab ab,aG (n:=20000+f) ab ab,aG (n:=t+1) ab ab];refine aw (λh1=>?_) (λh1=>aw (λh17=>?_) (λh17=>?_))
  .have h1:=aI h1;have e0:kK (false,21075,t,[0,0])=0:=Du (data:=[0,0]) ⟨⟨(jL _).2 ⟨by show (0:Int)<=21075;omega,by show (21075:Int)<=_;omega⟩,(jL _).2 ⟨t0,by show t<=_;omega⟩⟩,rfl⟩ aA;have hc:=qe (Lu t);refine⟨aA,?_⟩;rintro b _ ⟨rfl,-⟩;rw[fH,am e0];have hl:(cR (cV (false,21075,t,[0,0])) 2 (dg (cV (false,21075,t,[0,0])))).length=10:=by rw[mN];rfl
   refine⟨ab,?_⟩;rw[nw ab ab,show toNat 2=2 from rfl,EZ (by show 2+2<=10;omega) hc.1 hc.2];rintro _ rfl;refine⟨hc.1,hc.2,ab,ab,?_⟩;have hi:=Oo hr;have ei:oc (65535-(16384+f)+dg (cV (false,21075,t,[0,0])))=rf (s,d,pr,f,t,l):=rfl;rw[ei,af ab];rintro _ rfl;refine⟨ab,?_⟩;rw[jM ab ab];rintro _ rfl;refine⟨by simp[w2],?_⟩;rintro _ _ ⟨rfl,-⟩;rw[fu,am h1];rfl
  .have h17:=aI h17;refine⟨ab,?_⟩;rw[jM ab ab];rintro _ rfl;refine⟨by simp[w2],?_⟩;rw[jM ab ab];rintro _ rfl;have eb:[]++w2 (20000+f)++w2 33434++[0,10,0,0,0,0]=fN (20000+f,33434,[0,0]):=by simp[fN,w2]
   rw[eb];refine⟨by simp[w2],by show ((10:Nat):Int)<=_;omega,?_⟩;have hq:=KL (s:=s) (d:=d) (p:=17) (HB f) bt;rintro _ rfl;refine⟨hq.1,ab,ab,ab,?_⟩;have hu:=Mc hr;have eu:(if oc (65535-(t+1)+fX s d 17 (fN (20000+f,33434,[0,0])))=0 then 65535 else oc (65535-(t+1)+fX s d 17 (fN (20000+f,33434,[0,0]))))=uU (s,d,pr,f,t,l):=rfl;rw[eu];rintro _ rfl;refine⟨ab,?_⟩;rw[jM ab ab];rintro _ rfl;refine⟨by simp[w2],?_⟩;rw[fu,af (by simp only;omega),am h17];rfl
  .have h1:=aL h1;have h17:=aL h17;rw[fu,af h1,af h17];exact⟨ab,rfl⟩
theorem MF:aB 37 Xn.spec:=aF Tryz.func37 (av (av (av (av (av (av (av aD (Ct.named UB)) (Ct.named Kb)) (Ct.named YC)) (Ct.named zj)) (Ct.named IW)) Uc) aC1) aT ak7
def aW4:Ct:=⟨[.agg pM],[.own 5 bP,.val cI],λd=>[],λd=>((build d.1,cf d.1,()),())⟩
theorem Va :
 ∀(a b c d e f:Int),(tR a b c d e f)/\True->True->ao (! decide (cf (a,b,c,d,e,f)=0)) (([]:ae)=build (a,b,c,d,e,f)/\cf (a,b,c,d,e,f)=cf (a,b,c,d,e,f)) (cf (a,b,c,d,e,f)=0/\((length (fu (a,b,c,d,e,f))):Int)<=1073741824/\d8 (((0:Int),e,f,c,true,a,b),fu (a,b,c,d,e,f))=build (a,b,c,d,e,f)/\fA (((0:Int),e,f,c,true,a,b),fu (a,b,c,d,e,f))=cf (a,b,c,d,e,f)):=by
  delta tR;rintro s d pr f t l - -;refine aw (λh=>?_) (λh=>?_)
  .have h:¬ cf (s,d,pr,f,t,l)=0:=by simpa using h
   rw[build,af h];exact⟨rfl,rfl⟩
  have h:cf (s,d,pr,f,t,l)=0:=by simpa using h
  have e0:=H8 h;have hl:=xN h;refine⟨h,ab,?_⟩;rw[build,am h,h];exact⟨rfl,e0⟩
theorem X2:aB 11 aW4.spec:=aF Tryz.func11 (av (av (av aD HH) MF) QC) aT Va
def aM7:Ct:=⟨[.agg uA],[.agg xh],λd=>[(d.1.2.length:Int)<=1099511627776],λd=>((pV d.1,()),())⟩
theorem aA8 :
 ∀(a:(Int×Int×Int×Int×Bool×Int×Int)×ae),CT.wf uA a/\True->(ac a.2)<=1099511627776-> ∀(b:Bool),b=decide (4<=(ac a.2))->(ah b)/\(ah b)/\(ah b)/\ ∀(c:Bool),c=decide (a.1.2.2.2.1=1)->(ah (b&& ! c))/\(ah (b&& ! c))/\(b->(ar b)/\(c=false->(b&& ! c))/\True)/\(ah b)/\ ∀(d:Bool),(d=bif c then true else decide (a.1.2.2.2.1=17))->(ah (b&& ! d))/\(ah (b&& ! d))/\(b->(ar b)/\(d=false->(b&& ! d))/\True)/\(ar b)/\ao (bif b then bif d then true else decide (a.1.2.2.2.1=6) else false) ((ac a.2)<=9223372036854775807/\(ac a.2)<=9223372036854775807/\(a.1.2.2.2.2.2.1,a.1.2.2.2.2.2.2,a.1.2.2.2.1,cB a.2 (0:Int) (2:Int),cB a.2 (2:Int) (2:Int))=pV a) ((a.1.2.2.2.2.2.1,a.1.2.2.2.2.2.2,a.1.2.2.2.1,(0:Int),(0:Int))=pV a):=by
  delta ah ar ac;rintro x-hl
  (repeat (refine bY ?_;repeat refine bZ ?_));refine aw (λh=>?_) (λh=>?_)
  .have h4:(4:Int)<=x.2.length:=fq λk=>by rw[dO k] at h;cases h
   have hp:lp x.1.2.2.2.1:=by
    rw[cM h4] at h;unfold lp;by_cases h1:x.1.2.2.2.1=1
    .exact .inl h1
    .by_cases h17:x.1.2.2.2.1=17
     .exact .inr (.inr h17)
     .simp[h1,h17] at h;exact .inr (.inl h)
   refine⟨ab,ab,?_⟩;rw[nw ab ab,nw ab ab,pV,am ⟨hp,ab⟩,am ⟨hp,ab⟩];rfl
  .have hn:¬ (lp x.1.2.2.2.1/\4<=x.2.length):=by
    rintro⟨hp,h4⟩;rw[cM (show (4:Int)<=x.2.length by omega)] at h;rcases hp with hp|hp|hp <;> simp[hp] at h
   rw[pV,af hn,af hn]
theorem av5:aB 84 aM7.spec:=aF Tryz.func84 (av aD Kb) aT aA8
def Vk:Ct:=⟨[.val (.sl bP)],[.agg xh,.val cI],λd=>[(d.1.length:Int)<=1099511627776],λd=>((bc d.1,bX d.1,()),())⟩
theorem Y7 :
 ∀(a:ae),(a.length<=maxLen/\ ∀(b:Int),b∈a->0<=b/\b<=255)/\True->(ac a)<=1099511627776->(ac a)<=1099511627776/\ ∀(b:(Int×Int×Int×Int×Bool×Int×Int)×ae)(c:Int),b=aY a/\c=bX a->ao (! decide (c=0)) (((0:Int),(0:Int),(0:Int),(0:Int),(0:Int))=bc a/\c=bX a) ((ac b.2)<=1099511627776/\(b.1.2.2.2.2.2.1,b.1.2.2.2.2.2.2,b.1.2.2.2.1,if lp b.1.2.2.2.1/\(4:Nat)<=b.2.length then aH b.2 (0:Nat) else (0:Int),if lp b.1.2.2.2.1/\(4:Nat)<=b.2.length then aH b.2 (2:Nat) else (0:Int))=bc a/\0=bX a):=by
  delta ac;rintro b ⟨⟨-,hb⟩,-⟩ hl;refine⟨hl,?_⟩;rintro d e ⟨rfl,rfl⟩;refine aw (λh=>?_) (λh=>?_)
  .have h:¬ bX b=0:=by simpa using h
   rw[bc,af h];exact⟨rfl,rfl⟩
  have h:bX b=0:=by simpa using h
  have hdl:=wy h;have hpl:((aY b).2.length:Int)<=1500:=by rw[aY,am h];simp only[fv];omega
  refine⟨ab,?_⟩;rw[bc,am h,h];exact⟨rfl,rfl⟩
theorem Zs:aB 38 Vk.spec:=aF Tryz.func38 (av (av aD (Ct.named ao1)) av5) aT Y7
def ab1:Ct:=⟨[.agg pM],[.agg xh,.val cI],λd=>[],λd=>((An d.1,AJ d.1,()),())⟩
theorem Th :
 ∀(a b c d e f:Int),(tR a b c d e f)/\True->True->ao (! decide (cf (a,b,c,d,e,f)=0)) (((0:Int),(0:Int),(0:Int),(0:Int),(0:Int))=An (a,b,c,d,e,f)/\cf (a,b,c,d,e,f)=AJ (a,b,c,d,e,f)) (((length (build (a,b,c,d,e,f))):Int)<=1099511627776/\bc (build (a,b,c,d,e,f))=An (a,b,c,d,e,f)/\bX (build (a,b,c,d,e,f))=AJ (a,b,c,d,e,f)):=by
  delta tR;rintro s d pr f t l - -;refine aw (λh=>?_) (λh=>?_)
  .have h:¬ cf (s,d,pr,f,t,l)=0:=by simpa using h
   rw[An,AJ,af h,af h];exact⟨rfl,rfl⟩
  have h:cf (s,d,pr,f,t,l)=0:=by simpa using h
  have hl:=GW (s,d,pr,f,t,l);rw[An,AJ,am h,am h];exact⟨ab,rfl,rfl⟩
theorem ZH:aB 12 ab1.spec:=aF Tryz.func12 (av (av aD X2) Zs) aT Th
def u32(n:Int):Prop:=0<=n/\n<=4294967295
theorem ax5(h:cJ)(n:Int)(X:ae):iY h n++X=69::h.1::n/256%256::n%256::h.2.1/256%256::h.2.1%256::(if h.2.2.2.2.1 then (16384:Int) else 0)/256%256::(if h.2.2.2.2.1 then (16384:Int) else 0)%256::h.2.2.1::h.2.2.2.1 ::
  dg (gU h n)/256%256::dg (gU h n)%256::h.2.2.2.2.2.1/16777216%256::h.2.2.2.2.2.1/65536%256::h.2.2.2.2.2.1/256%256::h.2.2.2.2.2.1%256::h.2.2.2.2.2.2/16777216%256::h.2.2.2.2.2.2/65536%256::h.2.2.2.2.2.2/256%256::h.2.2.2.2.2.2%256::X:=rfl
theorem GD{n:Int}(h:u32 n):((n/16777216%256*256+n/65536%256)*256+n/256%256)*256+n%256=n:=by
 obtain⟨h0,h1⟩:=h;omega
theorem HT{h:cJ}{X:ae}(hk:kV h)(hs:u32 h.2.2.2.2.2.1)(hd:u32 h.2.2.2.2.2.2)(hl:(X.length:Int)<=1480)(hX:bytes X) :
  bI (iY h (20+X.length)++X)=h/\bX (iY h (20+X.length)++X)=0/\(iY h (20+X.length)++X).drop 20=X:=by
 have hbb:bytes (iY h (20+X.length)++X):=iQ (JB hk) hX
 have hlen:(iY h (20+X.length)++X).length=20+X.length:=by rw[cu,sK]
 have hc:=qe (EK (n:=20+X.length) hk)
 obtain⟨tos,id,ttl,pr,kp,s,d⟩:=h
 obtain⟨h1,h2,h3,h4,h5⟩:=hk
 simp only at h1 h2 h3 h4 h5 hs hd
 have E:=ax5 (tos,id,ttl,pr,kp,s,d) (20+X.length) X
 simp only at E
 have w2e:aH (iY (tos,id,ttl,pr,kp,s,d) (20+X.length)++X) 2=20+X.length:=by
  rw[E];show aH (_::_::_) 0=_;rw[ip];exact mG ab ab
 have w4e:aH (iY (tos,id,ttl,pr,kp,s,d) (20+X.length)++X) 4=id:=by
  rw[E];show aH (_::_::_) 0=_;rw[ip];exact mG h4 h5
 have w6e:aH (iY (tos,id,ttl,pr,kp,s,d) (20+X.length)++X) 6=if kp then 16384 else 0:=by
  rw[E];show aH (_::_::_) 0=_;rw[ip];cases kp <;> rfl
 have w10e:aH (iY (tos,id,ttl,pr,kp,s,d) (20+X.length)++X) 10=dg (gU (tos,id,ttl,pr,kp,s,d) (20+X.length)):=by
  rw[E];show aH (_::_::_) 0=_;rw[ip];exact mG hc.1 hc.2
 have hF:bI (iY (tos,id,ttl,pr,kp,s,d) (20+X.length)++X)=(tos,id,ttl,pr,kp,s,d):=by
  unfold bI;rw[w4e,w6e,E];have e1:decide ((if kp=true then (16384:Int) else 0)=16384)=kp:=by cases kp <;> rfl
  rw[e1];have e2:=GD hs;have e3:=GD hd;show (tos,id,ttl,pr,kp,fp [_,_,_,_],fp [_,_,_,_])=_;rw[Co,Co,e2,e3]
 refine⟨hF,?_,?_⟩
 .have hb:=MD hbb ab (by rw[E];rfl) (by rw[w6e];cases kp <;> simp);rw[hF,w2e,w10e] at hb;have ht:(iY (tos,id,ttl,pr,kp,s,d) (20+X.length)++X).take 20=iY (tos,id,ttl,pr,kp,s,d) (20+X.length):=by
   rw[List.take_append_of_le_length (by rw[sK];omega),fi (by rw[sK];omega)]
  have hp:dX (iY (tos,id,ttl,pr,kp,s,d) (20+X.length)++X)=0:=by
   rw[dX,af ab,af,af]
   .rw[o4,w10e,← hb.1]
   .rw[o4];refine⟨by rw[E];rfl,by rw[w6e];cases kp <;> simp,by rw[w2e];omega⟩
  rw[bX,af (λk=>k hp),af (by rw[w2e,hlen];omega),af (by rw[w2e];omega)]
 .rw[List.drop_append,sK,List.drop_of_length_le (by rw[sK];omega)];simp
theorem EY{p:bz}(h:cf p=0)(hs:u32 p.1)(hd:u32 p.2.1):bI (build p)=sj p/\bX (build p)=0/\(build p).drop 20=fu p:=by
 rw[FQ h]
 refine HT (Ik h) hs hd ?_ (Lo h)
 rcases xN h with h|h <;> omega
theorem SM(t n:Int):bO true (cV (false,21075,t,w2 n))=bO true (cV (false,21075,t,[0,0]))+(n/256%256*256+n%256):=by
 simp[cV,w2,bO];omega
theorem aT3(f n:Int):bO true (fN (20000+f,33434,w2 n))=bO true (fN (20000+f,33434,[0,0]))+(n/256%256*256+n%256):=by
 simp[fN,w2,bO];omega
theorem aB0(t:Int):2048<=bO true (cV (false,21075,t,[0,0])):=by
 simp[cV,w2,bO];omega
theorem NN{p:bz}(h:jg p):dg (cV (mw p))=16384+p.2.2.2.1:=by
 have hn:=Oo h
 obtain⟨⟨f0,f1⟩,-⟩:=h
 have e:rf p=oc (65535-(16384+p.2.2.2.1)+dg (cV (false,21075,p.2.2.2.2.1,[0,0]))):=rfl
 have hp:=aB0 p.2.2.2.2.1
 unfold mw dg
 rw[SM,mG ab hn.2,e]
 unfold dg
 generalize bO true (cV (false,21075,p.2.2.2.2.1,[0,0]))=S at hp ⊢
 unfold oc
 rw[af (by omega:¬ S=0)]
 rw[af ab,af ab]
 omega
theorem Wu{p:bz}(h:jg p):lD p.1 p.2.1 (fN (rV p))=p.2.2.2.2.1+1:=by
 have hn:=Mc h
 obtain⟨-,⟨t0,t1⟩,-⟩:=h
 have l0:(fN (20000+p.2.2.2.1,33434,[0,0])).length=10:=rfl
 have l1:(fN (rV p)).length=10:=rfl
 have eX:wh p=oc (65535-(p.2.2.2.2.1+1)+fX p.1 p.2.1 17 (fN (20000+p.2.2.2.1,33434,[0,0]))):=rfl
 have eN:uU p=if wh p=0 then 65535 else wh p:=rfl
 have hp:=MC p.1 p.2.1 17 10
 have h2:=(zu true (fN (20000+p.2.2.2.1,33434,[0,0])) (HB _)).1
 have eP:fX p.1 p.2.1 17 (fN (20000+p.2.2.2.1,33434,[0,0]))=65535-oc (bO true (sH p.1 p.2.1 17 10)+bO true (fN (20000+p.2.2.2.1,33434,[0,0]))):=by
  rw[fX,af (by rw[l0];omega),dg,FY,l0];rfl
 have eQ:fX p.1 p.2.1 17 (fN (rV p))=65535-oc (bO true (sH p.1 p.2.1 17 10)+(bO true (fN (20000+p.2.2.2.1,33434,[0,0]))+uU p)):=by
  rw[fX,af (by rw[l1];omega),dg,FY,l1];unfold rV;rw[aT3,mG ab hn.2];rfl
 rw[lD,eQ]
 rw[eP] at eX
 generalize bO true (sH p.1 p.2.1 17 10)=H at *
 generalize bO true (fN (20000+p.2.2.2.1,33434,[0,0]))=S at *
 generalize uU p=N at *
 generalize wh p=X at *
 generalize p.2.2.2.2.1=t at *
 have hH:(17:Int)%256=17:=rfl
 rw[hH] at hp
 clear eP eQ l0 l1 hH
 have hN:(N-(65535-(t+1)+(65535-(H+S))))%65535=0:=by
  unfold oc at eX;rw[af (by omega:¬ H+S=0)] at eX;split at eX <;> split at eN <;> omega
 unfold oc
 rw[af (by omega:¬ H+(S+N)=0)]
 split <;> omega
def wT(p:bz):Int:=if p.2.2.1=1 then 2048 else 20000+p.2.2.2.1
def vR(p:bz):Int:=if p.2.2.1=1 then 16384+p.2.2.2.1 else if p.2.2.1=17 then 33434 else 80
theorem Mh{p:bz}(h:cf p=0):aH (fu p) 0=wT p/\aH (fu p) 2=vR p:=by
 obtain⟨h1|h1|h1,h2⟩:=lh.1 h
 .have hs:=NN h2;have hf:=h2.1;rw[yV h2 h1,wT,vR,am h1,am h1,wF (by show 0+2<=10;omega) ab,EZ (by show 2+2<=10;omega) ab ab,hs];exact⟨rfl,rfl⟩
 .have hf:=h2.1;rw[zR h2 h1,wT,vR,af ab,af ab,af ab,wF (by show 0+2<=20;omega) ab,wF (by show 2+2<=20;omega) ab];constructor
  .show aH (_::_::_) 0=_;rw[ip];exact mG (n:=20000+p.2.2.2.1) ab ab
  .rfl
 .have hf:=h2.1;rw[A6 h2 h1,wT,vR,af ab,af ab,am h1,wF (by show 0+2<=10;omega) ab,wF (by show 2+2<=10;omega) ab];constructor
  .show aH (_::_::_) 0=_;rw[ip];exact mG (n:=20000+p.2.2.2.1) ab ab
  .rfl
theorem Gu{p:bz}(h:cf p=0)(hs:u32 p.1)(hd:u32 p.2.1):bc (build p)=(p.1,p.2.1,p.2.2.1,wT p,vR p):=by
 obtain⟨e1,e2,e3⟩:=EY h hs hd
 have hp:=(lh.1 h).1
 have hw:=Mh h
 rw[aU3 e2,e1,e3,pV]
 have hl:lp (sj p).2.2.2.1/\4<=(fu p).length:=⟨hp,by rcases xN h with h|h <;> omega⟩
 simp only
 rw[am hl,am hl,hw.1,hw.2];rfl
theorem Um{p:bz}(h:cf p=0)(hs:u32 p.1)(hd:u32 p.2.1) :
  (p.2.2.2.2.2<2->gu (build p)=7)/\(2<=p.2.2.2.2.2->gu (build p)=0/\ig (build p)=build (p.1,p.2.1,p.2.2.1,p.2.2.2.1,p.2.2.2.2.1,p.2.2.2.2.2-1)/\cf (p.1,p.2.1,p.2.2.1,p.2.2.2.1,p.2.2.2.2.1,p.2.2.2.2.2-1)=0):=by
 obtain⟨e1,e2,e3⟩:=EY h hs hd
 constructor
 .intro hl;rw[gu,af (λk=>k e2),e1];exact am hl
 .intro hl;have l0:gu (build p)=0:=by rw[gu,af (λk=>k e2),e1,af (by show ¬ p.2.2.2.2.2<2;omega)]
  have hq:cf (p.1,p.2.1,p.2.2.1,p.2.2.2.1,p.2.2.2.2.1,p.2.2.2.2.2-1)=0:=by
   obtain⟨k1,k2,k3,k4,k5⟩:=lh.1 h;exact lh.2 ⟨k1,k2,k3,by simp only;omega,by simp only;omega⟩
  refine⟨l0,?_,hq⟩;rw[ig,am l0,e1,e3,build,am hq];rfl
def az3:Cn:=⟨[.box 83 jN],[.agg pM],λd=>[aS d.1],λd y=>aS y.2.1/\u32 y.1.1.1/\u32 y.1.1.2.1,λd h=>⟨((yQ,()),(d.1,())),h.1,by simp[u32,yQ],by simp[u32,yQ]⟩⟩
theorem ao4 :
 ∀(a:ae)(b:Int),((a.length<=maxLen/\ ∀(c:Int),c∈a->0<=c/\c<=255)/\aq b)/\True->0<=b/\b<=(ac a)->aS (a,b)/\ ∀(c:Int)(d:ae)(e:Int),aS (d,e)/\0<=c/\c<=4294967295->aS (d,e)/\ ∀(f:Int)(g:ae)(h:Int),aS (g,h)/\0<=f/\f<=4294967295->aS (g,h)/\ ∀(i:Int)(j:ae)(k:Int),aS (j,k)/\(i=17∨i=1∨i=6)->aS (j,k)/\ ∀(l:Int)(m:ae)(n:Int),0<=l/\(l<6∨l=0)/\aS (m,n)->aS (m,n)/\ ∀(o:Int)(p:ae)(q:Int),0<=o/\(o<2000∨o=0)/\aS (p,q)->aS (p,q)/\ ∀(r:Int)(s:ae)(t:Int),0<=r/\(r<6∨r=0)/\aS (s,t)->aS (s,t)/\ ∀(u:Int)(v:ae)(w:Int),0<=u/\(u<12∨u=0)/\aS (v,w)->ao (decide (u=8)) (aS (v,w)/\u32 c/\u32 f) (ao (decide (u=9)) (aS (v,w)/\ ∀(x:Int)(y:ae)(z:Int),aS (y,z)/\aq x->aS (y,z)/\ ∀(A:Int)(B:ae)(C:Int),aS (B,C)/\aq A->aS (B,C)/\u32 c/\u32 f) (ao (decide (u=10)) (aS (v,w)/\ ∀(x:Int)(y:ae)(z:Int),aS (y,z)/\aq x->aS
 (y,z)/\u32 c/\u32 f) (ao (decide (u=11)) (aS (v,w)/\ ∀(x:Int)(y:ae)(z:Int),aS (y,z)/\aq x->aS (y,z)/\u32 c/\u32 f) (aS (v,w)/\u32 c/\u32 f)))):=by
  delta ac;rintro l p-h;refine⟨h,?_⟩;rintro s _ _ ⟨hc,s0,s1⟩;refine⟨hc,?_⟩;rintro d _ _ ⟨hc,d0,d1⟩;refine⟨hc,?_⟩;rintro _ _ _ ⟨hc,-⟩;refine⟨hc,?_⟩;rintro _ _ _ ⟨-,-,hc⟩;refine⟨hc,?_⟩;rintro _ _ _ ⟨-,-,hc⟩;refine⟨hc,?_⟩;rintro _ _ _ ⟨-,-,hc⟩;refine⟨hc,?_⟩;rintro _ _ _ ⟨-,-,hc⟩;have fin:∀ q,aS q->aS q/\u32 s/\u32 d:=λq hq=>⟨hq,⟨s0,s1⟩,d0,d1⟩
  refine aw (λ_=>fin _ hc) (λ_=>aw (λ_=>⟨hc,?_⟩) (λ_=>aw (λ_=>⟨hc,?_⟩) (λ_=>aw (λ_=>⟨hc,?_⟩) (λ_=>fin _ hc))))
  .rintro _ _ _ ⟨hc,-⟩;refine⟨hc,?_⟩;rintro _ _ _ ⟨hc,-⟩;exact fin _ hc
  .rintro _ _ _ ⟨hc,-⟩;exact fin _ hc
  .rintro _ _ _ ⟨hc,-⟩;exact fin _ hc
theorem aR1:aB 32 az3.spec:=qV Tryz.func32 (av (av (av (av aD Qw) Mn) Aj) aM8) aT ao4
def ag4:Cn:=⟨[.box 83 jN],[.agg pM],λd=>[aS d.1],λd y=>aS y.2.1/\u32 y.1.1.1/\u32 y.1.1.2.1/\cf y.1.1=0,λd h=>⟨(((0,0,1,0,0,1),()),(d.1,())),h.1,by simp[u32],by simp[u32],rfl⟩⟩
theorem Sy :
 ∀(a:ae)(b:Int),((a.length<=maxLen/\ ∀(c:Int),c∈a->0<=c/\c<=255)/\aq b)/\True->0<=b/\b<=(ac a)->aS (a,b)/\ ∀(c d e f g h:Int)(i:ae)(j:Int),aS (i,j)/\u32 c/\u32 d->ao (! decide (cf (c,d,e,f,g,h)=0)) (aS (i,j)/\ ∀(k:Int)(l:ae)(m:Int),aS (l,m)/\(k=17∨k=1∨k=6)->aS (l,m)/\ ∀(n:Int)(o:ae)(p:Int),0<=n/\(n<4∨n=0)/\aS (o,p)->aS (o,p)/\ ∀(q:Int)(r:ae)(s:Int),0<=q/\(q<100∨q=0)/\aS (r,s)->aS (r,s)/\ ∀(t:Int)(u:ae)(v:Int),0<=t/\(t<5∨t=0)/\aS (u,v)->aS (u,v)/\u32 c/\u32 d/\cf (c,d,k,n,q,aj ((1:Int)+t))=0) (aS (i,j)/\u32 c/\u32 d/\cf (c,d,e,f,g,h)=0):=by
  delta aj ac;rintro l p-h;refine⟨h,?_⟩;rintro s d pr f t l _ _ ⟨hc,hs,hd⟩;refine aw (λ_=>⟨hc,?_⟩) (λhn=>⟨hc,hs,hd,by simpa using hn⟩);rintro pr _ _ ⟨hc,hp⟩;refine⟨hc,?_⟩;rintro f _ _ ⟨f0,f1,hc⟩;refine⟨hc,?_⟩;rintro t _ _ ⟨t0,t1,hc⟩;refine⟨hc,?_⟩;rintro l _ _ ⟨l0,l1,hc⟩;rw[aG (n:=1+l) ab ab];refine⟨hc,hs,hd,lh.2 ⟨?_,⟨?_,?_⟩,⟨?_,?_⟩,?_,?_⟩⟩ <;> simp only[lp] <;> omega
theorem SA:aB 8 ag4.spec:=qV Tryz.func8 (av (av (av (av aD aR1) HH) Mn) Aj) aT Sy
abbrev mW:CT := .pair cP cI
def gH(a b:Int):Int:=if a<b then -1 else if b<a then 1 else 0
abbrev eh:Type:=Int×Int
def gD(p q:eh):Int:=if gH p.1 q.1≠0 then gH p.1 q.1 else gH p.2 q.2
def m6:ae->Int
 | []=>0
 | x::xs=>if x≠0 then x else m6 xs
theorem aP7{l:ae}{j:Int}(h0:0<=j)(h1:j<l.length):l.drop j.toNat=l.getD j.toNat default::l.drop (j+1).toNat:=by
 have hj:j.toNat<l.length:=ab
 rw[sI hj,bL,cK hj,fZ]
 congr 2;omega
theorem Oe{α:Type} [Inhabited α] {l:List α} {j:Int} (h0:0<=j) (h1:j<l.length) {y:α} (hy:y∈l.take (j+1).toNat):y∈l.take j.toNat∨y=l.getD j.toNat default:=by
 have hj:j.toNat<l.length:=ab
 have e:(j+1).toNat=j.toNat+1:=ab
 rw[e,xJ hj] at hy
 rcases dw.1 hy with hy|hy
 .exact .inl hy
 .right;simp at hy;rw[bL,cK hj,fZ];exact hy
theorem ad9{l:ae}{v j:Int}(h0:0<=j)(h1:j<l.length)(hv:l.getD j.toNat default=v)(h2:∀ y∈l.take j.toNat,y≠v):l.idxOf v=j.toNat:=by
 have hj:j.toNat<l.length:=ab
 rw[bL,cK hj,fZ] at hv
 have e:l=l.take j.toNat++l[j.toNat]::l.drop (j.toNat+1):=by
  rw[← sI hj,mZ]
 rw[e,List.idxOf_append,af (λhm=>h2 v hm rfl),hv,List.idxOf_cons_self]
 simp;omega
def aV1:Ct:=⟨[.val cI],[.val .bool],λ_=>[],λ_=>((false,()),())⟩
theorem V8 :
 ∀(a:Int),aq a/\True->True->(! decide (a=a))=false:=by
  rintro x - -;simp
theorem aK1:aB 155 aV1.spec:=aF Tryz.func155 aD aT V8
def Xr:Ct:=⟨[.val cP],[.val .bool],λ_=>[],λ_=>((false,()),())⟩
theorem aP4 :
 ∀(a:Int),(0<=a/\a<=4294967295)/\True->True->(! decide (a=a))=false:=by
  rintro x - -;simp
theorem aS1:aB 206 Xr.spec:=aF Tryz.func206 aD aT aP4
def ay8:Ct:=⟨[.val cI,.val cI],[.val cI],λ_=>[],λd=>((gH d.1 d.2.1,()),())⟩
def Ax(a b:Int) :=
 ao (decide (a<b)) (-1=gH a b) (ao (decide (b<a)) (1=gH a b) (0=gH a b))
theorem W4 :
 ∀(a b:Int),aq a/\aq b/\True->True->(Ax a b):=by
  delta Ax;rintro x y - -;unfold gH;refine aw (λh=>?_) (λh=>aw (λh2=>?_) (λh2=>?_))
  .rw[am (aI h)]
  .rw[af (aL h),am (aI h2)]
  .rw[af (aL h),af (aL h2)]
theorem OV:aB 107 ay8.spec:=aF Tryz.func107 (av aD aK1) aT W4
def VP:Ct:=⟨[.val cP,.val cP],[.val cI],λ_=>[],λd=>((gH d.1 d.2.1,()),())⟩
theorem aa1 :
 ∀(a b:Int),(0<=a/\a<=4294967295)/\(0<=b/\b<=4294967295)/\True->True->(Ax a b):=by
  delta Ax;rintro x y - -;unfold gH;refine aw (λh=>?_) (λh=>aw (λh2=>?_) (λh2=>?_))
  .rw[am (aI h)]
  .rw[af (aL h),am (aI h2)]
  .rw[af (aL h),af (aL h2)]
theorem am6:aB 189 VP.spec:=aF Tryz.func189 (av aD aS1) aT aa1
def Lc:Ct:=⟨[.val (.sl cI)],[.val cI],λ_=>[],λd=>((m6 d.1,()),())⟩
def ao9:bw Lc.ps->ce:=(λd=>{loops:=(bq 3 (λS=>{ι:=Int,μ:=λi=>(d.1.length-i).toNat,inv:=λi=>0<=i/\i<=d.1.length/\m6 d.1=m6 (d.1.drop i.toNat),keep:=[3,6,7],slots:=λi=>[(8,.int .i64 i)]}) cC)})
theorem T4 :
 ∀(a:ae),(a.length<=maxLen/\ ∀(b:Int),b∈a->aq b)/\True->True->(∃(b:Int),(0<=b/\b<=(ac a)/\m6 a=m6 (drop b.toNat a))/\(0:Int)=0/\a=a/\(ac a)=(ac a)/\0=b/\True)/\ ∀(b:Int),0<=b/\b<=(ac a)/\m6 a=m6 (drop b.toNat a)->ao (decide (b<(ac a))) (0<=b/\b<(ac a)/\ao (! decide (ai a b=0)) (ai a b=m6 a) (∃(c:Int),(0<=c/\c<=(ac a)/\m6 a=m6 (drop c.toNat a))/\toNat ((ac a) -c)<toNat ((ac a) -b)/\(0:Int)=0/\a=a/\(ac a)=(ac a)/\aj (b+1)=c/\True)) (0=m6 a):=by
  delta aj ai ac;rintro x ⟨⟨hl,-⟩,-⟩ -;simp only[maxLen] at hl;refine⟨⟨0,⟨ab,ab,rfl⟩,aP⟩,?_⟩;rintro j ⟨h0,h1,h2⟩;refine bU (λhj=>?_) (λhj=>?_)
  .have e:=aP7 (l:=x) h0 hj;rw[e] at h2;refine⟨h0,hj,aw (λhz=>?_) (λhz=>?_)⟩
   .have hz:x.getD j.toNat default≠0:=by simpa only[sa,pj] using hz
    rw[h2,m6,am hz]
   .have hz:¬ x.getD j.toNat default≠0:=by simpa only[wB,lU,ne_eq,o4] using hz
    rw[m6,af hz] at h2;exact⟨j+1,⟨ab,ab,h2⟩,ab,aP⟩
  .rw[h2,List.drop_eq_nil_of_le ab];rfl
theorem Ng:aB 106 Lc.spec:=aF Tryz.func106 aD ao9 T4
def aq0:Ct:=⟨[.agg mW,.agg mW],[.val cI],λ_=>[],λd=>((gD d.1 d.2.1,()),())⟩
theorem aA2 :
 ∀(a b c d:Int),((0<=a/\a<=4294967295)/\aq b)/\((0<=c/\c<=4294967295)/\aq d)/\True->True->m6 [gH a c,gH b d]=gD (a,b) (c,d):=by
  rintro x y z u - -;simp only[m6,gD];split
  .rfl
  .split
   .rfl
   next h=>simp at h;exact h.symm
theorem LD:aB 163 aq0.spec:=aF Tryz.func163 (av (av (av aD am6) OV) Ng) aT aA2
def aI7:Ct:=⟨[.val cI,.val cI],[.val cI],λ_=>[],λd=>((gH d.1 d.2.1,()),())⟩
theorem SY :
 ∀(a b:Int),aq a/\aq b/\True->True->(Ax a b):=by
  delta Ax;rintro x y - -;unfold gH;refine aw (λh=>?_) (λh=>aw (λh2=>?_) (λh2=>?_))
  .rw[am (aI h)]
  .rw[af (aL h),am (aI h2)]
  .rw[af (aL h),af (aL h2)]
theorem aU5:aB 174 aI7.spec:=aF Tryz.func174 aD aT SY
def al8:Ct:=⟨[.agg mW,.agg mW],[.val cI],λ_=>[],λd=>((gD d.1 d.2.1,()),())⟩
theorem aE7 :
 ∀(a b c d:Int),((0<=a/\a<=4294967295)/\aq b)/\((0<=c/\c<=4294967295)/\aq d)/\True->True->ao (! decide (a=c)) (gH (aj a) (aj c)=gD (a,b) (c,d)) (gH b d=gD (a,b) (c,d)):=by
  delta aj;rintro x y z u ⟨⟨⟨h0,h1⟩,-⟩,⟨⟨h2,h3⟩,-⟩,-⟩ -;unfold gD;refine aw (λh=>?_) (λh=>?_)
  .simp at h;rw[aG ab ab,aG ab ab,am (by simp only[gH];split <;> first|omega|(split <;> omega))]
  .simp at h;subst h;rw[af (by simp[gH])]
theorem M4:aB 136 al8.spec:=aF Tryz.func136 (av aD aU5) aT aE7
def sz(n:Int):Int:=2^(32-n).toNat
def jT(p:eh):Bool:=decide (0<=p.2/\p.2<=32/\p.1%sz p.2=0)
def dS(p:eh)(a:Int):Bool:=jT p&&decide (p.1<=a/\a<p.1+sz p.2)
theorem Y3(n:Int):0<sz n:=Int.pow_pos (by decide)
theorem W6(n:Int):sz n=((2^(32-n).toNat:Nat):Int):=by unfold sz;rw[Int.natCast_pow];rfl
theorem ED{n:Int}(h0:0<=n)(h1:n<=32):∃ k:Nat,k<=32/\n=32-k/\sz n=((2^k:Nat):Int):=⟨(32-n).toNat,ab,ab,W6 n⟩
theorem Xh{n:Int}(h0:0<=n)(h1:n<=32):eO .u32 4294967295 (32-n)=4294967296-sz n:=by
 obtain⟨k,hk,rfl,e⟩:=ED h0 h1
 rw[e]
 have:(32:Int)-(32-(k:Int))=(k:Int):=ab
 rw[this]
 unfold eO
 rw[IntKind.wrap_u32]
 have hm:min ((k:Int)).toNat IntKind.u32.bits=k:=by simp only[IntKind.bits,Int.toNat_natCast];omega
 rw[hm]
 have hd:∀ k:Nat,k<=32->(4294967295*2^k:Int)%4294967296=4294967296-((2^k:Nat):Int):=bt
 exact hd k hk
theorem UJ{n:Int}(h0:0<=n)(h1:n<=32):eO .i64 1 (32-n)=sz n:=by
 obtain⟨k,hk,rfl,e⟩:=ED h0 h1
 rw[e]
 have:(32:Int)-(32-(k:Int))=(k:Int):=ab
 rw[this]
 unfold eO
 have hm:min ((k:Int)).toNat IntKind.i64.bits=k:=by simp only[IntKind.bits,Int.toNat_natCast];omega
 rw[hm,Int.one_mul]
 have e2:((2:Int)^k)=((2^k:Nat):Int):=by rw[Int.natCast_pow];rfl
 have:(2:Nat)^k<=2^32:=Nat.pow_le_pow_right bt hk
 rw[e2]
 generalize 2^k=s at this ⊢
 exact aG ab ab
theorem ah6{x n:Int}(h0:0<=x)(h1:x<=4294967295)(h2:0<=n)(h3:n<=32):bits .andNot .u32 x (4294967296-sz n)=x%sz n:=by
 obtain⟨k,hk,rfl,e⟩:=ED h2 h3
 have hp:(2:Nat)^k<=2^32:=Nat.pow_le_pow_right bt hk
 have hp0:0<(2:Nat)^k:=Nat.two_pow_pos k
 rw[e,u32_andNot _ _ h0 ab ab ab]
 have e1:4294967295-((4294967296:Int)-((2^k:Nat):Int)).toNat=2^k-1:=ab
 rw[e1,yT]
 obtain⟨m,rfl⟩:=pS h0
 rw[Int.toNat_natCast,Int.natCast_emod]
theorem Y8{a k:Nat}(hk:k<=32)(ha:a<4294967296):a &&& (4294967296-2^k)=a/2^k*2^k:=by
 have e:4294967296-2^k=(2^(32-k)-1) <<< k:=by
  rw[Nat.shiftLeft_eq,Nat.sub_mul,← Nat.pow_add,jZ];congr 1;rw[show 32-k+k=32 from by omega]
 rw[e,← Nat.shiftRight_eq_div_pow,← Nat.shiftLeft_eq]
 apply Nat.eq_of_testBit_eq
 intro i
 simp only[Nat.testBit_and,Nat.testBit_shiftLeft,Nat.testBit_two_pow_sub_one,Nat.testBit_shiftRight]
 by_cases hi:k<=i
 .have e2:k+(i-k)=i:=ab;simp only[hi,decide_true,Bool.true_and,e2];by_cases h32:i<32
  .have:i-k<32-k:=ab;simp[this]
  .have:a.testBit i=false:=Nat.testBit_lt_two_pow (Nat.lt_of_lt_of_le ha (Nat.pow_le_pow_right (show 0<2 by decide) (by omega:32<=i)));simp[this]
 .simp[hi]
theorem aF9{a n x:Int}(h0:0<=a)(h1:a<=4294967295)(h2:0<=n)(h3:n<=32)(hx:0<=x)(hm:x%sz n=0) :
  (bits .and .u32 a (4294967296-sz n)=x)↔(x<=a/\a<x+sz n):=by
 obtain⟨k,hk,rfl,e⟩:=ED h2 h3
 have hp:(2:Nat)^k<=2^32:=Nat.pow_le_pow_right bt hk
 have hp0:0<(2:Nat)^k:=Nat.two_pow_pos k
 rw[e] at hm ⊢
 rw[u32_and _ _ h0 ab ab ab]
 have e1:((4294967296:Int)-((2^k:Nat):Int)).toNat=4294967296-2^k:=ab
 rw[e1,Y8 hk ab]
 obtain⟨m,rfl⟩:=pS h0
 obtain⟨y,rfl⟩:=pS hx
 rw[Int.toNat_natCast]
 have hm:y%2^k=0:=by
  have:((y%2^k:Nat):Int)=0:=by rw[Int.natCast_emod];exact hm
  omega
 generalize 2^k=s at *
 have d:=Nat.div_add_mod m s
 have dl:=Nat.mod_lt m hp0
 have dy:=Nat.div_add_mod y s
 rw[hm] at dy
 rw[Nat.mul_comm] at d
 constructor
 .intro h;omega
 .rintro⟨h,h'⟩;have hq:m/s=y/s:=by
   apply Nat.le_antisymm
   .have:m<(y/s+1)*s:=by rw[fP,jZ,Nat.mul_comm (y/s)];omega
    have:=Nat.div_lt_of_lt_mul (Nat.mul_comm _ _▸this:m<s*(y/s+1));omega
   .exact Nat.div_le_div_right ab
  rw[hq,Nat.mul_comm];omega
def aM2:Ct:=⟨[.val cI],[.val cP],λd=>[0<=d.1/\d.1<=32],λd=>((4294967296-sz d.1,()),())⟩
theorem aO8 :
 ∀(a:Int),aq a/\True->0<=a/\a<=32->0<=aj ((32:Int) -a)/\eO IntKind.u32 (4294967295:Int) (aj ((32:Int) -a))=4294967296 -sz a:=by
  delta aj;rintro x-⟨h0,h1⟩;rw[aG ab ab];exact⟨ab,Xh h0 h1⟩
theorem R5:aB 165 aM2.spec:=aF Tryz.func165 aD aT aO8
def aM6:Ct:=⟨[.agg mW],[.val .bool],λ_=>[],λd=>((jT d.1,()),())⟩
theorem W7 :
 ∀(a b:Int),((0<=a/\a<=4294967295)/\aq b)/\True->True-> ∀(c:Bool),c=decide (0<=b)->(ah c)/\(ah c)/\(ar c)/\ ∀(d:Bool),(d=bif c then decide (b<=32) else false)->(ah d)/\(ah d)/\(d->(ar d)/\(0<=b/\b<=32)/\True)/\(d->(ar d)/\(ar d)/\True)/\(ah d)/\(ar d)/\(bif d then decide (bits BinOp.andNot IntKind.u32 a ((4294967296:Int) -sz b)=0) else false)=jT (a,b):=by
  delta ah ar;rintro x n ⟨⟨⟨h0,h1⟩,-⟩,-⟩ -
  (repeat (refine bY ?_;repeat refine bZ ?_));by_cases hn:0<=n/\n<=32
  .have:=ah6 (n:=n) h0 h1 hn.1 hn.2;simp[jT,hn,this]
  .simp only[jT];by_cases h2:0<=n
   .have:¬ n<=32:=λh=>hn ⟨h2,h⟩;simp[this]
   .simp[h2]
theorem OL:aB 164 aM6.spec:=aF Tryz.func164 (av aD R5) aT W7
def Wz:Ct:=⟨[.agg mW,.val cP],[.val .bool],λ_=>[],λd=>((dS d.1 d.2.1,()),())⟩
theorem Ut :
 ∀(a b c:Int),((0<=a/\a<=4294967295)/\aq b)/\(0<=c/\c<=4294967295)/\True->True-> ∀(d:Bool),d=jT (a,b)->(ah d)/\(d->(ar d)/\(0<=b/\b<=32)/\True)/\(d->(ar d)/\(ar d)/\True)/\(ah d)/\(d->(ar d)/\(ar d)/\True)/\(ar d)/\(bif d then decide (bits BinOp.and IntKind.u32 c ((4294967296:Int) -sz b)=a) else false)=dS (a,b) c:=by
  delta ah ar;rintro x n a ⟨⟨⟨h0,h1⟩,-⟩,⟨h2,h3⟩,-⟩ -;have hv:∀ b:Bool,b=jT (x,n)->b=true->0<=n/\n<=32/\x%sz n=0:=by
   rintro b rfl h;simpa[jT] using h
  rintro b hb;have hr:=hv b hb;refine⟨aA,λh=>⟨λ_=>h,⟨(hr h).1,(hr h).2.1⟩,bv⟩,aA,aA,aA,aA,?_⟩;unfold dS;rw[← hb];cases b with
  | false=>rfl
  | true =>
   obtain⟨r1,r2,r3⟩:=hr rfl;have:=aF9 (n:=n) (x:=x) h2 h3 r1 r2 h0 r3;rw[u3];simpa using this
theorem Mx:aB 115 Wz.spec:=aF Tryz.func115 (av (av aD R5) OL) aT Ut
def U6:Ct:=⟨[.val cI],[.val cI],λd=>[0<=d.1/\d.1<=32],λd=>((sz d.1,()),())⟩
theorem al9 :
 ∀(a:Int),aq a/\True->0<=a/\a<=32->0<=aj ((32:Int) -a)/\eO IntKind.i64 (1:Int) (aj ((32:Int) -a))=sz a:=by
  delta aj;rintro x-⟨h0,h1⟩;rw[aG ab ab];exact⟨ab,UJ h0 h1⟩
theorem aK6:aB 173 U6.spec:=aF Tryz.func173 aD aT al9
def TZ:Ct:=⟨[.agg mW],[.val .bool],λ_=>[],λd=>((jT d.1,()),())⟩
theorem aR7 :
 ∀(a b:Int),((0<=a/\a<=4294967295)/\aq b)/\True->True-> ∀(c:Bool),c=decide (0<=b)->(ah c)/\(ah c)/\(ar c)/\ ∀(d:Bool),(d=bif c then decide (b<=32) else false)->(ah d)/\(ah d)/\(ah d)/\(d->(ar d)/\(0<=b/\b<=32)/\True)/\(d->(ar d)/\(ar d)/\sz b≠(0:Int)/\True)/\(ah d)/\(ar d)/\(bif d then decide (Int.tmod (aj a) (sz b)=0) else false)=jT (a,b):=by
  delta ah ar aj;rintro x n ⟨⟨⟨h0,h1⟩,-⟩,-⟩ -;have hp:=Y3 n
  (repeat (refine bY ?_;repeat refine bZ ?_));rw[aG ab ab,HA h0];simp only[jT];by_cases h2:0<=n
  .by_cases h3:n<=32
   .simp[h2,h3]
   .simp[h2,h3]
  .simp[h2]
theorem WD:aB 135 TZ.spec:=aF Tryz.func135 (av aD aK6) aT aR7
def MW:Ct:=⟨[.val (.sl cI),.val cI],[.val cI],λ_=>[],λd=>((if d.2.1∈d.1 then (d.1.idxOf d.2.1:Int) else -1,()),())⟩
def ag8:bw MW.ps->ce:=(λd=>{loops:=(bq 2 (λS=>{ι:=Int,μ:=λi=>(d.1.length-i).toNat,inv:=λi=>0<=i/\i<=d.1.length∧∀ y∈d.1.take i.toNat,y≠d.2.1,keep:=[0,1,6,7],slots:=λi=>[(8,.int .i64 i)]}) cC)})
theorem aQ6 :
 ∀(a:ae)(b:Int),(a.length<=maxLen/\ ∀(c:Int),c∈a->aq c)/\aq b/\True->True->(∃(c:Int),(0<=c/\c<=(ac a)/\ ∀(d:Int),d∈take c.toNat a->d≠b)/\a=a/\b=b/\a=a/\(ac a)=(ac a)/\0=c/\True)/\ ∀(c:Int),(0<=c/\c<=(ac a)/\ ∀(d:Int),d∈take c.toNat a->d≠b)->ao (decide (c<(ac a))) (0<=c/\c<(ac a)/\ao (decide (b=ai a c)) (c=if b∈a then (↑(List.idxOf b a):Int) else (-1:Int)) (∃(d:Int),(0<=d/\d<=(ac a)/\ ∀(e:Int),e∈take d.toNat a->e≠b)/\toNat ((ac a) -d)<toNat ((ac a) -c)/\a=a/\b=b/\a=a/\(ac a)=(ac a)/\aj (c+1)=d/\True)) (-1=if b∈a then (↑(List.idxOf b a):Int) else (-1:Int)):=by
  delta aj ai ac;rintro x v ⟨⟨hl,-⟩,-⟩ -;simp only[maxLen] at hl;refine⟨⟨0,⟨ab,ab,aA⟩,aP⟩,?_⟩;rintro j ⟨h0,h1,h2⟩;refine bU (λhj=>?_) (λhj=>?_)
  .refine⟨h0,hj,bU (λhz=>?_) (λhz=>?_)⟩
   .have hm:v∈x:=by rw[hz];exact bS h0 hj
    rw[am hm];have:=ad9 (l:=x) (v:=v) h0 hj hz.symm h2;omega
   .refine⟨j+1,⟨ab,ab,λy hy=>?_⟩,ab,aP⟩;rcases Oe h0 hj hy with hy|rfl
    .exact h2 y hy
    .exact λe=>hz e.symm
  .rw[fi ab] at h2;rw[af (λhm=>h2 v hm rfl)]
theorem XO:aB 211 MW.spec:=aF Tryz.func211 aD ag8 aQ6
def ah8:Ct:=⟨[.val (.sl cI),.val cI],[.val .bool],λ_=>[],λd=>((decide (d.2.1∈d.1),()),())⟩
theorem Xm :
 ∀(a:ae)(b:Int),(a.length<=maxLen/\ ∀(c:Int),c∈a->aq c)/\aq b/\True->True->decide (0<=if b∈a then (↑(List.idxOf b a):Int) else (-1:Int))=decide (b∈a):=by
  rintro x v - -;by_cases h:v∈x
  .rw[am h];simp[h];
  .rw[af h];simp[h]
theorem UZ:aB 196 ah8.spec:=aF Tryz.func196 (av aD XO) aT Xm
end Go.RS
