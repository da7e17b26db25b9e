/- Ipv4: packets without options. -/
import Derived.Test.YtehpghlieehlbaaGreatDoorWeq
import Derived.Test.YtehpghlieehlbaaGreatDoorIdent
import Derived.Laws.BitsAllLaws
set_option maxRecDepth 100000
set_option linter.unusedVariables false
open Int (toNat)
open List (length take getD set drop)
namespace Go.RS
open Go.SX Go.Proofs
abbrev lX:CT := .pair cI (.pair cI (.pair cI (.pair cI (.pair .bool (.pair cy cy)))))
abbrev sH:CT := .pair lX (.sl bz)
abbrev dg:Type:=Int×Int×Int×Int×Bool×Int×Int
abbrev o3:Type:=dg×ad
def o9(n:Int):Prop:=0<=n/\n<=255
instance (n:Int):Decidable (o9 n):=by unfold o9;infer_instance
def kD(h:dg):Prop:=o9 h.1/\o9 h.2.2.1/\o9 h.2.2.2.1/\0<=h.2.1/\h.2.1<=65535
instance (h:dg):Decidable (kD h):=by unfold kD;infer_instance
def lD(h:dg):Int:=if kD h then 0 else 1
def EE(h:dg)(n:Int):ad:=[69,h.1]++(w2 n++(w2 h.2.1++(w2 (if h.2.2.2.2.1 then 16384 else 0)++[h.2.2.1,h.2.2.2.1])))
def F0(h:dg):ad:=w4 h.2.2.2.2.2.1++w4 h.2.2.2.2.2.2
def ic(h:dg)(n:Int):ad:=EE h n++([0,0]++F0 h)
def iT(h:dg)(n:Int):ad:=cj (ic h n) 10 (cX (ic h n))
def fg(p:o3):Int:=if ¬ kD p.1 then 1 else if (1480:Int)<p.2.length then 5 else 0
def dE(p:o3):ad:=if fg p=0 then iT p.1 (20+p.2.length)++p.2 else []
def d5(b:ad):Int :=
 if (b.length:Int)<20 then 3 else if ¬ (b.getD 0 default=69/\(aK b 6=0∨aK b 6=16384)/\20<=aK b 2) then 2
 else if cX (cj (b.take 20) 10 0)≠aK b 10 then 4 else 0
def oV:dg:=(0,0,0,0,false,0,0)
def cf(b:ad):dg:=(b.getD 1 default,aK b 4,b.getD 8 default,b.getD 9 default,decide (aK b 6=16384),dO ((b.drop 12).take 4),dO ((b.drop 16).take 4))
def kR(b:ad):dg:=if d5 b=0 then cf b else oV
def jp(b:ad):Int:=if d5 b=0 then aK b 2 else 0
def bT(b:ad):Int:=if d5 b≠0 then d5 b else if aK b 2≠b.length then 2 else if 1500<aK b 2 then 5 else 0
def aP(b:ad):o3:=if bT b=0 then (cf b,b.drop 20) else (oV,[])
def zT(h:dg):dg:=(h.1,h.2.1,h.2.2.1-1,h.2.2.2)
def gp(b:ad):Int:=if bT b≠0 then bT b else if (cf b).2.2.1<2 then 7 else 0
def gU(b:ad):ad:=if gp b=0 then dE (zT (cf b),b.drop 20) else []
theorem az2(h:dg)(n:Int):(ic h n).length=20:=rfl
theorem rG(h:dg)(n:Int):(iT h n).length=20:=by unfold iT;rw[mI];rfl
theorem Cu{h:dg}{n:Int}(hk:kD h):bytes (ic h n):=by
 obtain⟨h1,h2,h3,-⟩:=hk
 exact iS (iS (mG ab ab (mG h1.1 h1.2 nh)) (iS (lU _) (iS (lU _) (iS (lU _) (mG h2.1 h2.2 (mG h3.1 h3.2 nh))))))
  (iS (mG ab ab (mG ab ab nh)) (iS (zl _) (zl _)))
theorem Ja{h:dg}{n:Int}(hk:kD h):bytes (iT h n):=pN (Cu hk)
theorem ly{n:Nat}{b:ad}(h:n+1<=b.length):∃ x r,b=x::r/\n<=r.length:=by
 cases b with
 | nil=>simp at h
 | cons x r=>exact⟨x,r,rfl,by simpa using h⟩
theorem Sv{b:ad}(h:20<=b.length):∃ x0 x1 x2 x3 x4 x5 x6 x7 x8 x9 x10 x11 x12 x13 x14 x15 x16 x17 x18 x19 r,b=x0::x1::x2::x3::x4::x5::x6::x7::x8::x9::x10::x11::x12::x13::x14::x15::x16::x17::x18::x19::r:=by
 obtain⟨x0,b1,rfl,h1⟩:=ly (n:=19) h
 obtain⟨x1,b2,rfl,h2⟩:=ly (n:=18) h1
 obtain⟨x2,b3,rfl,h3⟩:=ly (n:=17) h2
 obtain⟨x3,b4,rfl,h4⟩:=ly (n:=16) h3
 obtain⟨x4,b5,rfl,h5⟩:=ly (n:=15) h4
 obtain⟨x5,b6,rfl,h6⟩:=ly (n:=14) h5
 obtain⟨x6,b7,rfl,h7⟩:=ly (n:=13) h6
 obtain⟨x7,b8,rfl,h8⟩:=ly (n:=12) h7
 obtain⟨x8,b9,rfl,h9⟩:=ly (n:=11) h8
 obtain⟨x9,b10,rfl,h10⟩:=ly (n:=10) h9
 obtain⟨x10,b11,rfl,h11⟩:=ly (n:=9) h10
 obtain⟨x11,b12,rfl,h12⟩:=ly (n:=8) h11
 obtain⟨x12,b13,rfl,h13⟩:=ly (n:=7) h12
 obtain⟨x13,b14,rfl,h14⟩:=ly (n:=6) h13
 obtain⟨x14,b15,rfl,h15⟩:=ly (n:=5) h14
 obtain⟨x15,b16,rfl,h16⟩:=ly (n:=4) h15
 obtain⟨x16,b17,rfl,h17⟩:=ly (n:=3) h16
 obtain⟨x17,b18,rfl,h18⟩:=ly (n:=2) h17
 obtain⟨x18,b19,rfl,h19⟩:=ly (n:=1) h18
 obtain⟨x19,b20,rfl,h20⟩:=ly (n:=0) h19
 exact⟨x0,x1,x2,x3,x4,x5,x6,x7,x8,x9,x10,x11,x12,x13,x14,x15,x16,x17,x18,x19,b20,rfl⟩
theorem av1(a:Int):dO [a]=a:=by simp[dO]
theorem Bz(a b c d:Int):dO [a,b,c,d]=((a*256+b)*256+c)*256+d:=by simp[dO]
theorem Ik{b:ad}{a w:Int}(h1:1<=w)(h2:w<=7)(h3:0<=a)(h4:a+w<=b.length):cO b a w=dO ((b.drop a.toNat).take w.toNat):=by
 rw[cO,af ab]
theorem ar6{b:ad}{i:Nat}(h:i<b.length):(b.drop i).take 1=[b.getD i default]:=by
 rw[tL h,ce,cF h];rfl
theorem CW{b:ad}{a:Int}(h3:0<=a)(h4:a+1<=b.length):cO b a 1=b.getD a.toNat default:=by
 rw[Ik ab ab h3 h4,show (1:Int).toNat=1 from rfl,ar6 ab,av1]
theorem qz{b:ad}{a:Int}(h3:0<=a)(h4:a+2<=b.length):cO b a 2=aK b a.toNat:=by
 rw[Ik ab ab h3 h4];rfl
theorem EY{b:ad}{a:Int}(h3:0<=a)(h4:a+4<=b.length):cO b a 4=dO ((b.drop a.toNat).take 4):=by
 rw[Ik ab ab h3 h4];rfl
theorem vC{b:ad}{n i:Nat}(h:i<n):(b.take n).getD i default=b.getD i default:=by
 rw[ce,ot,am h,← ce]
theorem yA{b:ad}{n i k:Nat}(h:i+k<=n):((b.take n).drop i).take k=(b.drop i).take k:=by
 rw[List.drop_take,List.take_take,Nat.min_eq_left ab]
theorem rQ{b:ad}{n i:Nat}(h:i+2<=n):aK (b.take n) i=aK b i:=by
 unfold aK;rw[yA h]
theorem zZ{b:ad}{n:Nat}(h:bytes b):bytes (b.take n):=λx hx=>h x (oB hx)
theorem ua{b:ad}{n:Nat}(h:bytes b):bytes (b.drop n):=λx hx=>h x (uW hx)
theorem vZ{b:ad}(h:bytes b){i:Nat}(hi:i<b.length):0<=b.getD i default/\b.getD i default<=255:=by
 have:=bW (xs:=b) (i:=(i:Int)) ab ab
 exact h _ this
theorem rk{b:ad}(h:bytes b)(i:Nat):0<=aK b i/\aK b i<=65535:=by
 have:=Em 2 ((b.drop i).take 2) (by rw[cW];omega) (λx hx=>h x (uW (oB hx)))
 have e:(256:Int)^2=65536:=rfl
 unfold aK;omega
theorem sD{b:ad}(h:bytes b)(i:Nat):0<=dO ((b.drop i).take 4)/\dO ((b.drop i).take 4)<=4294967295:=by
 have:=Em 4 ((b.drop i).take 4) (by rw[cW];omega) (λx hx=>h x (uW (oB hx)))
 have e:(256:Int)^4=4294967296:=rfl
 omega
theorem lE{a:Int}{l:ad}(h:bytes (a::l)):(0<=a/\a<=255)/\bytes l:=⟨h a fF,λx hx=>h x (fw _ hx)⟩
theorem PP{a b c d:Int}(ha:0<=a/\a<=255)(hb:0<=b/\b<=255)(hc:0<=c/\c<=255)(hd:0<=d/\d<=255):w4 (((a*256+b)*256+c)*256+d)=[a,b,c,d]:=by
 unfold w4
 have e1:(((a*256+b)*256+c)*256+d)/16777216%256=a:=ab
 have e2:(((a*256+b)*256+c)*256+d)/65536%256=b:=ab
 have e3:(((a*256+b)*256+c)*256+d)/256%256=c:=ab
 have e4:(((a*256+b)*256+c)*256+d)%256=d:=ab
 rw[e1,e2,e3,e4]
theorem Pe{b:ad}(hb:bytes b)(hl:20<=b.length)(h0:b.getD 0 default=69)(hf:aK b 6=0∨aK b 6=16384) :
  ic (cf b) (aK b 2)=cj (b.take 20) 10 0/\(iT (cf b) (aK b 2)=b.take 20↔cX (cj (b.take 20) 10 0)=aK b 10):=by
 obtain⟨x0,x1,x2,x3,x4,x5,x6,x7,x8,x9,x10,x11,x12,x13,x14,x15,x16,x17,x18,x19,r,rfl⟩:=Sv hl
 have hb0:=hb
 obtain⟨k0,hb⟩:=lE hb
 obtain⟨k1,hb⟩:=lE hb
 obtain⟨k2,hb⟩:=lE hb
 obtain⟨k3,hb⟩:=lE hb
 obtain⟨k4,hb⟩:=lE hb
 obtain⟨k5,hb⟩:=lE hb
 obtain⟨k6,hb⟩:=lE hb
 obtain⟨k7,hb⟩:=lE hb
 obtain⟨k8,hb⟩:=lE hb
 obtain⟨k9,hb⟩:=lE hb
 obtain⟨k10,hb⟩:=lE hb
 obtain⟨k11,hb⟩:=lE hb
 obtain⟨k12,hb⟩:=lE hb
 obtain⟨k13,hb⟩:=lE hb
 obtain⟨k14,hb⟩:=lE hb
 obtain⟨k15,hb⟩:=lE hb
 obtain⟨k16,hb⟩:=lE hb
 obtain⟨k17,hb⟩:=lE hb
 obtain⟨k18,hb⟩:=lE hb
 obtain⟨k19,hb⟩:=lE hb
 have e2:aK (x0::x1::x2::x3::x4::x5::x6::x7::x8::x9::x10::x11::x12::x13::x14::x15::x16::x17::x18::x19::r) 2=x2*256+x3:=gk _ _ _
 have e4:aK (x0::x1::x2::x3::x4::x5::x6::x7::x8::x9::x10::x11::x12::x13::x14::x15::x16::x17::x18::x19::r) 4=x4*256+x5:=gk _ _ _
 have e6:aK (x0::x1::x2::x3::x4::x5::x6::x7::x8::x9::x10::x11::x12::x13::x14::x15::x16::x17::x18::x19::r) 6=x6*256+x7:=gk _ _ _
 have e10:aK (x0::x1::x2::x3::x4::x5::x6::x7::x8::x9::x10::x11::x12::x13::x14::x15::x16::x17::x18::x19::r) 10=x10*256+x11:=gk _ _ _
 have n12:dO (((x0::x1::x2::x3::x4::x5::x6::x7::x8::x9::x10::x11::x12::x13::x14::x15::x16::x17::x18::x19::r).drop 12).take 4)=((x12*256+x13)*256+x14)*256+x15:=Bz _ _ _ _
 have n16:dO (((x0::x1::x2::x3::x4::x5::x6::x7::x8::x9::x10::x11::x12::x13::x14::x15::x16::x17::x18::x19::r).drop 16).take 4)=((x16*256+x17)*256+x18)*256+x19:=Bz _ _ _ _
 have h0:x0=69:=h0
 subst h0
 rw[e6] at hf
 have hk:w2 (if decide (x6*256+x7=16384) then 16384 else 0)=[x6,x7]:=by
  rcases hf with hf|hf
  .rw[hf];have:x6=0/\x7=0:=ab;rw[this.1,this.2];rfl
  .rw[hf];have:x6=64/\x7=0:=ab;rw[this.1,this.2];rfl
 have hbody:ic (cf (69::x1::x2::x3::x4::x5::x6::x7::x8::x9::x10::x11::x12::x13::x14::x15::x16::x17::x18::x19::r)) (aK (69::x1::x2::x3::x4::x5::x6::x7::x8::x9::x10::x11::x12::x13::x14::x15::x16::x17::x18::x19::r) 2)=cj ((69::x1::x2::x3::x4::x5::x6::x7::x8::x9::x10::x11::x12::x13::x14::x15::x16::x17::x18::x19::r).take 20) 10 0:=by
  unfold ic EE F0 cf;simp only;rw[e2,e4,e6,n12,n16,hk,qJ k2.1 k2.2 k3.1 k3.2,qJ k4.1 k4.2 k5.1 k5.2,PP k12 k13 k14 k15,PP k16 k17 k18 k19];rfl
 refine⟨hbody,?_⟩
 rw[iT,hbody,e10]
 have hc:=nR (b:=cj ((69::x1::x2::x3::x4::x5::x6::x7::x8::x9::x10::x11::x12::x13::x14::x15::x16::x17::x18::x19::r).take 20) 10 0) (pN (λx hx=>hb0 x (oB hx)))
 generalize cX (cj ((69::x1::x2::x3::x4::x5::x6::x7::x8::x9::x10::x11::x12::x13::x14::x15::x16::x17::x18::x19::r).take 20) 10 0)=c at hc ⊢
 have e:cj (cj ((69::x1::x2::x3::x4::x5::x6::x7::x8::x9::x10::x11::x12::x13::x14::x15::x16::x17::x18::x19::r).take 20) 10 0) 10 c=[69,x1,x2,x3,x4,x5,x6,x7,x8,x9,c/256%256,c%256,x12,x13,x14,x15,x16,x17,x18,x19]:=rfl
 rw[e]
 have e':(69::x1::x2::x3::x4::x5::x6::x7::x8::x9::x10::x11::x12::x13::x14::x15::x16::x17::x18::x19::r).take 20=[69,x1,x2,x3,x4,x5,x6,x7,x8,x9,x10,x11,x12,x13,x14,x15,x16,x17,x18,x19]:=rfl
 rw[e']
 constructor
 .intro h;simp only[List.cons.injEq,iD,true_and] at h;omega
 .intro h;have:c/256%256=x10/\c%256=x11:=ab;rw[this.1,this.2]
def rK(k:Nat):Nat:=[0,1,2,4,6,8,9,10,12,16,20].getD k 20
theorem al4{h:dg}{n f k:Int}(hok:kD h)(n0:0<=n)(n1:n<=65535)(s0:0<=h.2.2.2.2.2.1/\h.2.2.2.2.2.1<=4294967295)(d0:0<=h.2.2.2.2.2.2/\h.2.2.2.2.2.2<=4294967295)(hf:f=if h.2.2.2.2.1 then 16384 else 0)(k0:0<=k)(k1:k<10) :
  cM ((ic h n).take (rK k.toNat)) (lK [69,h.1,n,h.2.1,f,h.2.2.1,h.2.2.2.1,0,h.2.2.2.2.2.1,h.2.2.2.2.2.2] k.toNat) (lK [1,1,2,2,2,1,1,2,4,4] k.toNat)=(ic h n).take (rK (k+1).toNat):=by
 obtain⟨h1,h2,h3,h4,h5⟩:=hok
 have hf0:0<=f/\f<=65535:=by rw[hf];split <;> omega
 have:k=0∨k=1∨k=2∨k=3∨k=4∨k=5∨k=6∨k=7∨k=8∨k=9:=ab
 rcases this with rfl|rfl|rfl|rfl|rfl|rfl|rfl|rfl|rfl|rfl
 .exact sk (b:=[]) (n:=69) ab ab
 .exact sk (b:=[69]) h1.1 h1.2
 .exact jG (b:=[69,h.1]) n0 n1
 .exact jG (b:=[69,h.1]++w2 n) h4 h5
 .have:=jG (b:=[69,h.1]++(w2 n++w2 h.2.1)) hf0.1 hf0.2;rw[hf] at this ⊢;exact this
 .exact sk (b:=(ic h n).take 8) h2.1 h2.2
 .exact sk (b:=(ic h n).take 9) h3.1 h3.2
 .exact jG (b:=(ic h n).take 10) (n:=0) ab ab
 .exact vo (b:=(ic h n).take 12) s0.1 s0.2
 .exact vo (b:=(ic h n).take 16) d0.1 d0.2
theorem Ba{b:ad}(h:d5 b=0):20<=b.length:=by
 unfold d5 at h
 split at h
 .cases h
 .omega
theorem AR{b:ad}(h:bT b=0):d5 b=0:=by
 unfold bT at h
 split at h
 next k=>exact absurd h k
 next k=>exact pi.1 k
theorem tc{b:ad}(h:bT b=0):(b.length:Int)<=1500/\aK b 2=b.length:=by
 unfold bT at h
 split at h
 next k=>exact absurd h k
 .split at h
  .cases h
  .split at h
   .cases h
   .omega
theorem OQ{b:ad}(hb:bytes b)(h:d5 b=0):kD (cf b):=by
 have hl:=Ba h
 exact⟨vZ hb ab,vZ hb ab,vZ hb ab,rk hb 4⟩
theorem PH{b:ad}(hb:bytes b)(h:bT b=0)(h2:¬ (cf b).2.2.1<2):kD (zT (cf b)):=by
 obtain⟨k1,k2,k3,k4⟩:=OQ hb (AR h)
 refine⟨k1,?_,k3,k4⟩
 obtain⟨k5,k6⟩:=k2
 show 0<=(cf b).2.2.1-1/\(cf b).2.2.1-1<=255
 omega
def Xb:Ct:=⟨[.val cI],[.val .bool],λd=>[],λd=>((decide (o9 d.1),()),())⟩
theorem ak4 :
 ∀(a:Int),aj a/\True->True-> ∀(b:Bool),b=decide (0<=a)->(ae b)/\(aq b)/\(bif b then decide (a<256) else false)=decide (o9 a):=by
  delta ae aq;rintro n - -
  (repeat (refine bO ?_;repeat refine bP ?_));unfold o9;by_cases h:0<=n <;> simp[h] <;> omega
theorem SC:aD 286 Xb.spec:=aH Tryz.func286 aE aR ak4
def WW:Ct:=⟨[.agg lX],[.val cI],λd=>[],λd=>((lD d.1,()),())⟩
theorem W2 :
 ∀(a:dg),CT.wf lX a/\True->True-> ∀(b:Bool),b= ! decide (o9 a.1)->(ae (! b))/\((! b)->(aq (! b))/\(aq (! b))/\True)/\(ae (! b))/\(aF b)/\ ∀(c:Bool),(c=bif b then true else ! decide (o9 a.2.2.1))->(ae (! c))/\((! c)->(aq (! c))/\(aq (! c))/\True)/\(ae (! c))/\(aF c)/\ ∀(d:Bool),(d=bif c then true else ! decide (o9 a.2.2.2.1))->(ae (! d))/\(ae (! d))/\(aF d)/\ ∀(e:Bool),(e=bif d then true else decide (a.2.1<0))->(ae (! e))/\(ae (! e))/\(aF e)/\ao (bif e then true else decide (65536<=a.2.1)) (1=lD a) (0=lD a):=by
  delta ae aq aF;rintro h - -
  (repeat (refine bO ?_;repeat refine bP ?_));refine av (λhc=>?_) (λhc=>?_)
  .rw[lD,af];intro k;obtain⟨k1,k2,k3,k4,k5⟩:=k;simp[k1,k2,k3,db] at hc;omega
  .rw[lD,am];simp[db] at hc;exact⟨hc.1.1.1.1,hc.1.1.1.2,hc.1.1.2,ab,ab⟩
theorem aX7:aD 285 WW.spec:=aH Tryz.func285 (au aE SC) aR W2
def MP:Ct:=⟨[.agg sH],[.own 5 bz,.val cI],λd=>[(d.1.2.length:Int)<=1073741824],λd=>((dE d.1,fg d.1,()),())⟩
def aF6:bu MP.ps->bS:=(λd=>{loops:=(bm 12 (λS=>{ι:=Int×ad,qn:=fj,μ:=λi=>(10-i.1).toNat,inv:=λi=>0<=i.1/\i.1<=10/\i.2=(ic d.1.1 (20+d.1.2.length)).take (rK i.1.toNat),keep:=[1,4,53],slots:=λi=>[(7,.own 524288 1),(54,.int .i64 i.1)],keepN:=[32,80],names:=λi=>[(524288,.live (.row 5 bz i.2))]}) ci)})
def HU(a:(Int×Int×Int×Int×Bool×Int×Int)×ad)(b:Int)(c:ad) :=
 (2:Int)=2/\a.1.2.2.1=a.1.2.2.1/\(1:Int)=1/\a.1.2.2.2.1=a.1.2.2.2.1/\(1:Int)=1/\(0:Int)=0/\(2:Int)=2/\ai a.1.2.2.2.2.2.1=ai a.1.2.2.2.2.2.1/\(4:Int)=4/\ai a.1.2.2.2.2.2.2=ai a.1.2.2.2.2.2.2/\(4:Int)=4/\0=b/\a.1.1=a.1.1/\a.1.2.1=a.1.2.1/\a.1.2.2.1=a.1.2.2.1/\a.1.2.2.2.1=a.1.2.2.2.1/\a.1.2.2.2.2.1=a.1.2.2.2.2.1/\a.1.2.2.2.2.2.1=a.1.2.2.2.2.2.1/\a.1.2.2.2.2.2.2=a.1.2.2.2.2.2.2/\a.2=a.2/\a.1.1=a.1.1/\a.1.2.1=a.1.2.1/\a.1.2.2.1=a.1.2.2.1/\a.1.2.2.2.1=a.1.2.2.2.1/\a.1.2.2.2.2.1=a.1.2.2.2.2.1/\a.1.2.2.2.2.2.1=a.1.2.2.2.2.2.1/\a.1.2.2.2.2.2.2=a.1.2.2.2.2.2.2/\c=([]:ad)/\True
def GG(a:(Int×Int×Int×Int×Bool×Int×Int)×ad)(b:Int)(d:ad)(f:Int)(g:ad) :=
 (2:Int)=2/\a.1.2.2.1=a.1.2.2.1/\(1:Int)=1/\a.1.2.2.2.1=a.1.2.2.2.1/\(1:Int)=1/\(0:Int)=0/\(2:Int)=2/\ai a.1.2.2.2.2.2.1=ai a.1.2.2.2.2.2.1/\(4:Int)=4/\ai a.1.2.2.2.2.2.2=ai a.1.2.2.2.2.2.2/\(4:Int)=4/\ai (b+1)=f/\a.1.1=a.1.1/\a.1.2.1=a.1.2.1/\a.1.2.2.1=a.1.2.2.1/\a.1.2.2.2.1=a.1.2.2.2.1/\a.1.2.2.2.2.1=a.1.2.2.2.2.1/\a.1.2.2.2.2.2.1=a.1.2.2.2.2.2.1/\a.1.2.2.2.2.2.2=a.1.2.2.2.2.2.2/\a.2=a.2/\a.1.1=a.1.1/\a.1.2.1=a.1.2.1/\a.1.2.2.1=a.1.2.2.1/\a.1.2.2.2.1=a.1.2.2.2.1/\a.1.2.2.2.2.1=a.1.2.2.2.2.1/\a.1.2.2.2.2.2.1=a.1.2.2.2.2.2.1/\a.1.2.2.2.2.2.2=a.1.2.2.2.2.2.2/\d=g/\True
def CU(c:ad)(d:Int) :=
 set c (toNat 10) (IntKind.wrap .u8 (de IntKind.i64 d (8:Int)))
def JZ(a:(Int×Int×Int×Int×Bool×Int×Int)×ad)(c:ad) :=
 (ac c)<=1099511627776/\ ∀(d:Int),d=65535 -oc (bQ true c)->(0:Int)<=8/\(0:Int)<=10/\10<(ac c)/\(0:Int)<=11/\11<((length (CU c d)):Int)/\(length (set (CU c d) (toNat 11) (IntKind.wrap .u8 d))+a.2.length)*(1:Nat)<=(140737488355328:Nat)/\set (CU c d) (toNat 11) (IntKind.wrap .u8 d)++a.2=dE a/\0=fg a
def Br(b:Int) :=
 lK [(1:Int),(1:Int),(2:Int),(2:Int),(2:Int),(1:Int),(1:Int),(2:Int),(4:Int),(4:Int)] b.toNat
def mK(a:(Int×Int×Int×Int×Bool×Int×Int)×ad) :=
 (20:Int)+(ac a.2)
def J3(a:(Int×Int×Int×Int×Bool×Int×Int)×ad)(b:Int) :=
 lK [(69:Int),a.1.1,ai (mK a),a.1.2.1,(16384:Int),a.1.2.2.1,a.1.2.2.2.1,(0:Int),ai a.1.2.2.2.2.2.1,ai a.1.2.2.2.2.2.2] b.toNat
theorem aP0 :
 ∀(a:(Int×Int×Int×Int×Bool×Int×Int)×ad),CT.wf sH a/\True->(ac a.2)<=1073741824->ao (! decide (lD a.1=0)) (([]:ad)=dE a/\lD a.1=fg a) (ao (decide (1480<(ac a.2))) (([]:ad)=dE a/\5=fg a) (ao a.1.2.2.2.2.1 ((∃(b:Int) (c:ad),(0<=b/\b<=10/\c=take (rK b.toNat) (ic a.1 (mK a)))/\(69:Int)=69/\(1:Int)=1/\a.1.1=a.1.1/\(1:Int)=1/\ai (mK a)=ai (mK a)/\(2:Int)=2/\a.1.2.1=a.1.2.1/\(2:Int)=2/\(16384:Int)=16384/\(HU a b c))/\ ∀(b:Int)(c:ad),0<=b/\b<=10/\c=take (rK b.toNat) (ic a.1 (mK a))->ao (decide (b<10)) (0<=b/\b<(↑(10:Nat):Int)/\(ac c)<=1099511627776/\ ∀(d:ad)(e:Int),d=cM c (J3 a b) (Br b)/\e=pS (J3 a b) (Br b)-> ∃(f:Int) (g:ad),(0<=f/\f<=10/\g=take (rK f.toNat) (ic a.1 (mK a)))/\toNat ((10:Int) -f)<toNat ((10:Int)
 -b)/\(69:Int)=69/\(1:Int)=1/\a.1.1=a.1.1/\(1:Int)=1/\ai (mK a)=ai (mK a)/\(2:Int)=2/\a.1.2.1=a.1.2.1/\(2:Int)=2/\(16384:Int)=16384/\(GG a b d f g)) (JZ a c)) ((∃(b:Int) (c:ad),(0<=b/\b<=10/\c=take (rK b.toNat) (ic a.1 (mK a)))/\(69:Int)=69/\(1:Int)=1/\a.1.1=a.1.1/\(1:Int)=1/\ai (mK a)=ai (mK a)/\(2:Int)=2/\a.1.2.1=a.1.2.1/\(2:Int)=2/\(0:Int)=0/\(HU a b c))/\ ∀(b:Int)(c:ad),0<=b/\b<=10/\c=take (rK b.toNat) (ic a.1 (mK a))->ao (decide (b<10)) (0<=b/\b<(↑(10:Nat):Int)/\(ac c)<=1099511627776/\ ∀(d:ad)(e:Int),d=cM c (lK [(69:Int),a.1.1,ai (mK a),a.1.2.1,(0:Int),a.1.2.2.1,a.1.2.2.2.1,(0:Int),ai a.1.2.2.2.2.2.1,ai a.1.2.2.2.2.2.2] b.toNat) (Br b)/\e=pS (lK [(69:Int),a.1.1,ai (mK a),a.1.2.1,(0:Int),a.1.2.2.1,a.1.2.2.2.1,(0:Int),ai a.1.2.2.2.2.2.1,ai a.1.2.2.2.2.2.2] b.toNat) (Br b)-> ∃(f:Int) (g:List
 Int),(0<=f/\f<=10/\g=take (rK f.toNat) (ic a.1 (mK a)))/\toNat ((10:Int) -f)<toNat ((10:Int) -b)/\(69:Int)=69/\(1:Int)=1/\a.1.1=a.1.1/\(1:Int)=1/\ai (mK a)=ai (mK a)/\(2:Int)=2/\a.1.2.1=a.1.2.1/\(2:Int)=2/\(0:Int)=0/\(GG a b d f g)) (JZ a c)))):=by
  delta HU GG JZ Br mK CU J3 ai ac;rintro d ⟨⟨hw,-⟩,-⟩ hl;obtain⟨-,-,-,-,-,s0,d0⟩:=hw;have s0:0<=d.1.2.2.2.2.2.1/\d.1.2.2.2.2.2.1<=4294967295:=s0;have d0:0<=d.1.2.2.2.2.2.2/\d.1.2.2.2.2.2.2<=4294967295:=d0;refine av (λhc=>?_) (λhc=>?_)
  .have hn:¬ kD d.1:=λk=>by rw[lD,am k] at hc;cases hc
   have he:fg d=1:=by rw[fg,am hn]
   rw[dE,he,lD,af hn];exact⟨rfl,rfl⟩
  have hok:kD d.1:=gC λk=>by rw[lD,af k] at hc;cases hc
  refine av (λh5=>?_) (λh5=>?_)
  .have h5:=aL h5;have he:fg d=5:=by rw[fg,af (λk=>k hok),am h5]
   rw[dE,he];exact⟨rfl,rfl⟩
  have h5:=aO h5;have he:fg d=0:=by rw[fg,af (λk=>k hok),af h5]
  have e20:IntKind.wrap .i64 (20+(d.2.length:Int))=20+d.2.length:=aQ ab ab;have es:IntKind.wrap .i64 d.1.2.2.2.2.2.1=d.1.2.2.2.2.2.1:=aQ (by have:=s0.1;omega) (by have:=s0.2;omega);have ed:IntKind.wrap .i64 d.1.2.2.2.2.2.2=d.1.2.2.2.2.2.2:=aQ (by have:=d0.1;omega) (by have:=d0.2;omega);have hc:=nR (Cu (n:=20+d.2.length) hok);have hbl:=az2 d.1 (20+d.2.length);have step:=λf hf k=>al4 (h:=d.1) (n:=20+d.2.length) (f:=f) (k:=k) hok ab ab s0 d0 hf;have fin:∀ ys,ys=ic d.1 (20+d.2.length)->(set (set ys (toNat 10) (IntKind.wrap .u8 (de .i64 (65535-oc (bQ true ys)) 8))) (toNat 11) (IntKind.wrap .u8 (65535-oc (bQ true ys)))++d.2=dE d/\(0:Int)=fg d):=by
   rintro ys rfl;have hc:0<=65535-oc (bQ true (ic d.1 (20+d.2.length))):=hc.1;rw[I2 hc,IntKind.wrap_u8',IntKind.wrap_u8',dE,he,am rfl];exact⟨rfl,rfl⟩
  rw[e20,es,ed];refine av (λhk=>?_) (λhk=>?_)
  .refine⟨⟨0,[],⟨ab,ab,rfl⟩,aM⟩,?_⟩;rintro k ys ⟨k0,k1,rfl⟩;refine bt (λh=>?_) (λh=>?_)
   .have st:=step 16384 (by rw[hk];rfl) k k0 h;refine⟨k0,h,by rw[cW];omega,?_⟩;rintro y _ ⟨rfl,-⟩;exact⟨k+1,_,⟨ab,ab,st⟩,ab,aM⟩
   .have e10:k=10:=ab;subst e10;have et:(ic d.1 (20+d.2.length)).take (rK (toNat 10))=ic d.1 (20+d.2.length):=dm (by rw[hbl];decide);rw[et];refine⟨ab,?_⟩;rintro c rfl;refine⟨ab,ab,ab,ab,by rw[fV];omega,by rw[fV,fV];omega,fin _ rfl⟩
  .refine⟨⟨0,[],⟨ab,ab,rfl⟩,aM⟩,?_⟩;rintro k ys ⟨k0,k1,rfl⟩;refine bt (λh=>?_) (λh=>?_)
   .have st:=step 0 (by rw[hk];rfl) k k0 h;refine⟨k0,h,by rw[cW];omega,?_⟩;rintro y _ ⟨rfl,-⟩;exact⟨k+1,_,⟨ab,ab,st⟩,ab,aM⟩
   .have e10:k=10:=ab;subst e10;have et:(ic d.1 (20+d.2.length)).take (rK (toNat 10))=ic d.1 (20+d.2.length):=dm (by rw[hbl];decide);rw[et];refine⟨ab,?_⟩;rintro c rfl;refine⟨ab,ab,ab,ab,by rw[fV];omega,by rw[fV,fV];omega,fin _ rfl⟩
theorem Nj:aD 276 MP.spec:=aH Tryz.func276 (au (au (au aE aX7) (Ct.named Rl)) (Ct.named zJ)) aF6 aP0
def ai5:Ct:=⟨[.val cI,.box 22 (.row 5 bz),.box 3 cI],[.val cI],λd=>[(d.2.1.length:Int)<=100000,0<=d.1,d.1<=8,0<=d.2.2.1,d.2.2.1<=100000],λd=>((cO d.2.1 d.2.2.1 d.1,()),(d.2.1,d.2.2.1+d.1,()))⟩
theorem aC8 :
 ∀(a:Int)(b:ad)(c:Int),aj a/\(b.length<=maxLen/\ ∀(d:Int),d∈b->0<=d/\d<=255)/\aj c/\True->(ac b)<=100000/\0<=a/\a<=8/\0<=c/\c<=100000->(ac b)<=9223372036854775807/\cO b c a=cO b c a/\b=b/\ai (c+a)=c+a:=by
  delta ai ac;rintro w b a-⟨h1,h2,h3,h4,h5⟩;exact⟨ab,rfl,rfl,aQ ab ab⟩
theorem VR:aD 203 ai5.spec:=aH Tryz.func203 (au aE F2) aR aC8
def ar9:Ct:=⟨[.val (.sl bz)],[.agg lX,.val cI,.val cI],λd=>[(d.1.length:Int)<=1099511627776],λd=>((kR d.1,jp d.1,d5 d.1,()),())⟩
def rA :=
 ((0:Int),(0:Int),(0:Int),(0:Int),false,(0:Int),(0:Int))
def tw(a:ad) :=
 a.length<=maxLen/\ ∀(b:Int),b∈a->0<=b/\b<=255
theorem aP9 :
 ∀(a:ad),(tw a)/\True->(ac a)<=1099511627776->ao (decide ((ac a)<20)) ((rA)=kR a/\0=jp a/\3=d5 a) ((0:Int)<=0/\(0:Int)<=20/\20<=(ac a)/\((length (cA a (toNat 0) (toNat 20))):Int)<=1099511627776/\((length (cA a (toNat 0) (toNat 20))):Int)<=100000/\(0:Int)<=1/\(1:Int)<=8/\(0:Int)<=0/\(0:Int)<=100000/\ ∀(b:Int)(c:ad)(d:Int),b=cO (cA a (toNat 0) (toNat 20)) (0:Int) (1:Int)/\c=cA a (toNat 0) (toNat 20)/\d=0+1->(ac c)<=100000/\(0:Int)<=1/\(1:Int)<=8/\0<=d/\d<=100000/\ ∀(e:Int)(f:ad)(g:Int),e=cO c d (1:Int)/\f=c/\g=d+1->(ac f)<=100000/\(0:Int)<=2/\(2:Int)<=8/\0<=g/\g<=100000/\ ∀(h:Int)(i:ad)(j:Int),h=cO f g (2:Int)/\i=f/\j=g+2->(ac i)<=100000/\(0:Int)<=2/\(2:Int)<=8/\0<=j/\j<=100000/\ ∀(k:Int)(l:ad)(m:Int),k=cO i j (2:Int)/\l=i/\m=j+2->(ac
 l)<=100000/\(0:Int)<=2/\(2:Int)<=8/\0<=m/\m<=100000/\ ∀(n:Int)(o:ad)(p:Int),n=cO l m (2:Int)/\o=l/\p=m+2->(ac o)<=100000/\(0:Int)<=1/\(1:Int)<=8/\0<=p/\p<=100000/\ ∀(q:Int)(r:ad)(s:Int),q=cO o p (1:Int)/\r=o/\s=p+1->(ac r)<=100000/\(0:Int)<=1/\(1:Int)<=8/\0<=s/\s<=100000/\ ∀(t:Int)(u:ad)(v:Int),t=cO r s (1:Int)/\u=r/\v=s+1->(ac u)<=100000/\(0:Int)<=2/\(2:Int)<=8/\0<=v/\v<=100000/\ ∀(w:Int)(x:ad)(y:Int),w=cO u v (2:Int)/\x=u/\y=v+2->(ac x)<=100000/\(0:Int)<=4/\(4:Int)<=8/\0<=y/\y<=100000/\ ∀(z:Int)(A:ad)(B:Int),z=cO x y (4:Int)/\A=x/\B=y+4->(ac A)<=100000/\(0:Int)<=4/\(4:Int)<=8/\0<=B/\B<=100000/\ ∀(C:Int)(D:ad)(E:Int),C=cO A B (4:Int)/\D=A/\E=B+4-> ∀(F:Bool),F= ! decide (b=69)->(ae (! F))/\(ae (! F))/\ ∀(G:Bool),G= ! decide (n=0)->(ae (! F&&G))/\(ae (! F&&G))/\((! F)->(aq (! F))/\(G->(! F&&G))/\True)/\(aF F)/\
 ∀(H:Bool),(H=bif F then true else bif G then ! decide (n=16384) else false)->(ae (! H))/\(aF H)/\ao (bif H then true else decide (h<20)) ((rA)=kR a/\0=jp a/\2=d5 a) ((0:Int)<=10/\10<(ac D)/\(0:Int)<=11/\11<((length (set D (toNat 10) (0:Int))):Int)/\((length (set (set D (toNat 10) (0:Int)) (toNat 11) (0:Int))):Int)<=1099511627776/\ ∀(I:Int),I=65535 -oc (bQ true (set (set D (toNat 10) (0:Int)) (toNat 11) (0:Int)))->ao (! decide (I=w)) ((rA)=kR a/\0=jp a/\4=d5 a) ((e,k,q,t,decide (n=16384),IntKind.wrap .u32 z,IntKind.wrap .u32 C)=kR a/\h=jp a/\0=d5 a))):=by
  delta rA tw ae aq aF ac;rintro b ⟨⟨-,hb⟩,-⟩ hl;refine av (λh=>?_) (λh=>?_)
  .have h:=aL h;have e:d5 b=3:=by rw[d5,am h]
   rw[kR,jp,e];exact⟨rfl,rfl,rfl⟩
  have h:=aO h;have hB:cA b (toNat 0) (toNat 20)=b.take 20:=rfl;have hBl:(b.take 20).length=20:=by rw[cW];omega
  rw[hB];refine⟨ab,ab,ab,ab,ab,ab,ab,ab,ab,?_⟩;rintro v0 _ a0 ⟨e0,rfl,q0⟩;rw[CW ab ab,vC bi] at e0;have q0:a0=1:=q0;subst q0;refine⟨ab,ab,ab,ab,ab,?_⟩;rintro v1 _ a1 ⟨e1,rfl,q1⟩;rw[CW ab ab,vC bi] at e1;have q1:a1=2:=q1;subst q1;refine⟨ab,ab,ab,ab,ab,?_⟩;rintro v2 _ a2 ⟨e2,rfl,q2⟩;rw[qz ab ab,rQ bi] at e2;have q2:a2=4:=q2;subst q2;refine⟨ab,ab,ab,ab,ab,?_⟩;rintro v3 _ a3 ⟨e3,rfl,q3⟩;rw[qz ab ab,rQ bi] at e3;have q3:a3=6:=q3;subst q3;refine⟨ab,ab,ab,ab,ab,?_⟩;rintro v4 _ a4 ⟨e4,rfl,q4⟩;rw[qz ab ab,rQ bi] at e4;have q4:a4=8:=q4;subst q4;refine⟨ab,ab,ab,ab,ab,?_⟩;rintro v5 _ a5 ⟨e5,rfl,q5⟩;rw[CW ab ab,vC bi] at e5;have q5:a5=9:=q5;subst q5;refine⟨ab,ab,ab,ab,ab,?_⟩;rintro v6 _ a6 ⟨e6,rfl,q6⟩;rw[CW ab ab,vC bi] at e6;have q6:a6=10:=q6;subst q6;refine⟨ab,ab,ab,ab,ab,?_⟩;rintro v7 _ a7 ⟨e7,rfl,q7⟩;rw[qz ab ab,rQ bi] at e7;have q7:a7=12:=q7;subst q7;refine⟨ab,ab,ab,ab,ab,?_⟩
  rintro v8 _ a8 ⟨e8,rfl,q8⟩;rw[EY ab ab,yA bi] at e8;have q8:a8=16:=q8;subst q8;refine⟨ab,ab,ab,ab,ab,?_⟩;rintro v9 _ a9 ⟨e9,rfl,q9⟩;rw[EY ab ab,yA bi] at e9;have q9:a9=20:=q9;subst q9;subst e0 e1 e2 e3 e4 e5 e6 e7 e8 e9;have n12:=sD hb 12;have n16:=sD hb 16;have hcs:65535-oc (bQ true (((b.take 20).set (toNat 10) 0).set (toNat 11) 0))=cX (cj (b.take 20) 10 0):=rfl
  (repeat (refine bO ?_;repeat refine bP ?_));refine av (λhc=>?_) (λhc=>?_)
  .have e:d5 b=2:=by
    rw[d5,af h,am];rintro⟨h0,hf,h2⟩;rw[show b.getD (toNat 0) default=69 from h0] at hc;rcases hf with hf|hf
    .rw[show aK b (toNat 6)=0 from hf] at hc;simp at hc;have h2:20<=aK b (toNat 2):=h2;simp at h2;omega
    .rw[show aK b (toNat 6)=16384 from hf] at hc;simp at hc;have h2:20<=aK b (toNat 2):=h2;simp at h2;omega
   rw[kR,jp,e];exact⟨rfl,rfl,rfl⟩
  have hg:b.getD 0 default=69/\(aK b 6=0∨aK b 6=16384)/\20<=aK b 2:=by
   by_cases h0:b.getD (toNat 0) default=69
   .by_cases h6:aK b (toNat 6)=0
    .simp[h0,h6] at hc;exact⟨h0,.inl h6,ab⟩
    .by_cases h7:aK b (toNat 6)=16384
     .simp[h0,h7] at hc;exact⟨h0,.inr h7,ab⟩
     .exfalso;rw[h0,dw h6,dw h7] at hc;simp at hc
   .exfalso;rw[dw h0] at hc;simp at hc
  refine⟨ab,ab,ab,by rw[fV];omega,by rw[fV,fV];omega,?_⟩;rw[hcs];rintro c rfl;refine av (λhc=>?_) (λhc=>?_)
  .have e:d5 b=4:=by
    rw[d5,af h,af (λk=>k hg),am];intro k;rw[show aK b (toNat 10)=aK b 10 from rfl,k] at hc;simp at hc
   rw[kR,jp,e];exact⟨rfl,rfl,rfl⟩
  .have e:d5 b=0:=by
    rw[d5,af h,af (λk=>k hg),af];intro k;exact k (by simpa using hc)
   rw[kR,jp,e,am rfl,am rfl,show toNat 12=12 from rfl,show toNat 16=16 from rfl,oW n12.1 n12.2,oW n16.1 n16.2];exact⟨rfl,rfl,rfl⟩
theorem af0:aD 157 ar9.spec:=aH Tryz.func157 (au (au (au aE sZ) (Ct.named VR)) (Ct.named zJ)) aR aP9
def U9:Ct:=⟨[.val (.sl bz)],[.agg sH,.val cI],λd=>[(d.1.length:Int)<=1099511627776],λd=>((aP d.1,bT d.1,()),())⟩
def vG :=
 ((rA),([]:ad))
theorem au6 :
 ∀(a:ad),(tw a)/\True->(ac a)<=1099511627776->(ac a)<=1099511627776/\ao (! decide (d5 a=0)) ((vG)=aP a/\d5 a=bT a) (ao (! decide (jp a=(ac a))) ((vG)=aP a/\2=bT a) (ao (decide (1500<jp a)) ((vG)=aP a/\5=bT a) ((0:Int)<=20/\20<=(ac a)/\(ac a)<=(ac a)/\((length (cA a (toNat 20) (toNat (ac a)))):Int)<=1099511627776/\(kR a,cA a (toNat 20) (toNat (ac a)))=aP a/\0=bT a))):=by
  delta rA tw vG ac;rintro b ⟨⟨-,hb⟩,-⟩ hl;refine⟨hl,av (λhc=>?_) (λhc=>?_)⟩
  .have hc:¬ d5 b=0:=by simpa using hc
   have e:bT b=d5 b:=by rw[bT,am hc]
   rw[aP,e,af hc];exact⟨rfl,rfl⟩
  have hc:d5 b=0:=by simpa using hc
  have hlen:jp b=aK b 2:=by rw[jp,am hc]
  rw[hlen];refine av (λh2=>?_) (λh2=>?_)
  .have h2:¬ aK b 2=b.length:=by simpa using h2
   have e:bT b=2:=by rw[bT,af (λk=>k hc),am h2]
   rw[aP,e];exact⟨rfl,rfl⟩
  have h2:aK b 2=b.length:=by simpa using h2
  refine av (λh5=>?_) (λh5=>?_)
  .have h5:=aL h5;have e:bT b=5:=by rw[bT,af (λk=>k hc),af (λk=>k h2),am h5]
   rw[aP,e];exact⟨rfl,rfl⟩
  have h5:=aO h5;have e:bT b=0:=by rw[bT,af (λk=>k hc),af (λk=>k h2),af h5]
  have h20:=Ba hc;rw[show toNat 20=20 from rfl,qA,aP,e,am rfl,kR,am hc,dR];exact⟨ab,ab,ab,ab,rfl,rfl⟩
theorem CI:aD 84 U9.spec:=aH Tryz.func84 (au (au aE af0) sZ) aR au6
def WC:Ct:=⟨[.val (.sl bz)],[.own 5 bz,.val cI],λd=>[(d.1.length:Int)<=1099511627776],λd=>((gU d.1,gp d.1,()),())⟩
def HE(a:ad) :=
 (((aP a).1.1,(aP a).1.2.1,ai ((aP a).1.2.2.1 -1),(aP a).1.2.2.2),(aP a).2)
theorem aE3 :
 ∀(a:ad),(tw a)/\True->(ac a)<=1099511627776->(ac a)<=1099511627776/\ao (! decide (bT a=0)) (([]:ad)=gU a/\bT a=gp a) (ao (decide ((aP a).1.2.2.1<2)) (([]:ad)=gU a/\7=gp a) (((length (aP a).2):Int)<=1073741824/\dE (HE a)=gU a/\fg (HE a)=gp a)):=by
  delta tw HE ai ac;rintro b ⟨⟨-,hb⟩,-⟩ hl;refine⟨hl,av (λhc=>?_) (λhc=>?_)⟩
  .have hc:¬ bT b=0:=by simpa using hc
   have e:gp b=bT b:=by rw[gp,am hc]
   rw[gU,e,af hc];exact⟨rfl,rfl⟩
  have hc:bT b=0:=by simpa using hc
  have hp:aP b=(cf b,b.drop 20):=by rw[aP,am hc]
  rw[hp];have h8:=vZ hb (i:=8) (by have:=Ba (AR hc);omega);refine av (λh2=>?_) (λh2=>?_)
  .have h2:=aL h2;have e:gp b=7:=by rw[gp,af (λk=>k hc),am h2]
   rw[gU,e];exact⟨rfl,rfl⟩
  have h2:=aO h2;have e:gp b=0:=by rw[gp,af (λk=>k hc),af h2]
  have hd:=tc hc;have h82:¬ b.getD 8 default<2:=h2;rw[gU,e,am rfl];have hok:=PH hb hc h2;refine⟨by rw[dR];omega,?_⟩;have ew:IntKind.wrap .i64 ((cf b).2.2.1-1)=(cf b).2.2.1-1:=aQ (by show _<=b.getD 8 default-1;omega) (by show b.getD 8 default-1<=_;omega);rw[ew];refine⟨rfl,?_⟩;rw[fg,af (λk=>k hok),af];simp only[dR];omega
theorem ZT:aD 248 WC.spec:=aH Tryz.func248 (au (au aE CI) Nj) aR aE3
def V8:Ct:=⟨[.agg lX],[.val cI],λd=>[],λd=>((lD d.1,()),())⟩
theorem at8 :
 ∀(a:dg),CT.wf lX a/\True->True-> ∀(b:Bool),b=decide (a.1<0)->(ae (! b))/\(ae (! b))/\(aF b)/\ ∀(c:Bool),(c=bif b then true else decide (255<a.1))->(ae (! c))/\(ae (! c))/\(aF c)/\ ∀(d:Bool),(d=bif c then true else decide (a.2.2.1<0))->(ae (! d))/\(ae (! d))/\(aF d)/\ ∀(e:Bool),(e=bif d then true else decide (255<a.2.2.1))->(ae (! e))/\(ae (! e))/\(aF e)/\ ∀(f:Bool),(f=bif e then true else decide (a.2.2.2.1<0))->(ae (! f))/\(ae (! f))/\(aF f)/\ ∀(g:Bool),(g=bif f then true else decide (255<a.2.2.2.1))->(ae (! g))/\(ae (! g))/\(aF g)/\ ∀(h:Bool),(h=bif g then true else decide (a.2.1<0))->(ae (! h))/\(ae (! h))/\(aF h)/\ao (bif h then true else decide (65535<a.2.1)) (1=lD a) (0=lD a):=by
  delta ae aF;rintro h - -
  (repeat (refine bO ?_;repeat refine bP ?_));refine av (λhc=>?_) (λhc=>?_)
  .rw[lD,af];intro k;obtain⟨k1,k2,k3,k4,k5⟩:=k;unfold o9 at k1 k2 k3;simp[db] at hc;omega
  .rw[lD,am];unfold kD o9;simp[db] at hc;omega
theorem ZX:aD 136 V8.spec:=aH Tryz.func136 aE aR at8
def Xa:Ct:=⟨[.agg lX,.val cI],[.own 5 bz],λd=>[kD d.1,0<=d.2.1,d.2.1<=65535],λd=>((iT d.1 d.2.1,()),())⟩
def GW(a:dg)(b:Int)(g:ad) :=
 (ac g)<=1099511627776/\ ∀(h:ad),h=cM g a.2.2.1 (1:Int)->(ac h)<=1099511627776/\ ∀(i:ad),i=cM h a.2.2.2.1 (1:Int)->(↑(0:Nat):Int)<=1099511627776/\ ∀(j:ad),j=cM ([]:ad) (ai a.2.2.2.2.2.1) (4:Int)->(ac j)<=1099511627776/\ ∀(k:ad),k=cM j (ai a.2.2.2.2.2.2) (4:Int)->i.length*(1:Nat)<=(140737488355328:Nat)/\(length [(0:Int),(0:Int)]+k.length)*(1:Nat)<=(140737488355328:Nat)/\(i.length+length ([(0:Int),(0:Int)]++k))*(1:Nat)<=(140737488355328:Nat)/\((length (i++([(0:Int),(0:Int)]++k))):Int)<=1099511627776/\ ∀(l:Int),l=65535 -oc (bQ true (i++([(0:Int),(0:Int)]++k)))->(ac i)<=1099511627776/\ ∀(m:ad),m=cM i l (2:Int)->(m.length+k.length)*(1:Nat)<=(140737488355328:Nat)/\m++k=iT a b
theorem az3 :
 ∀(a:dg)(b:Int),CT.wf lX a/\aj b/\True->kD a/\0<=b/\b<=65535->ao a.2.2.2.2.1 ((↑(0:Nat):Int)<=1099511627776/\ ∀(c:ad),c=cM ([]:ad) (69:Int) (1:Int)->(ac c)<=1099511627776/\ ∀(d:ad),d=cM c a.1 (1:Int)->(ac d)<=1099511627776/\ ∀(e:ad),e=cM d b (2:Int)->(ac e)<=1099511627776/\ ∀(f:ad),f=cM e a.2.1 (2:Int)->(ac f)<=1099511627776/\ ∀(g:ad),g=cM f (16384:Int) (2:Int)->(GW a b g)) ((↑(0:Nat):Int)<=1099511627776/\ ∀(c:ad),c=cM ([]:ad) (69:Int) (1:Int)->(ac c)<=1099511627776/\ ∀(d:ad),d=cM c a.1 (1:Int)->(ac d)<=1099511627776/\ ∀(e:ad),e=cM d b (2:Int)->(ac e)<=1099511627776/\ ∀(f:ad),f=cM e a.2.1 (2:Int)->(ac f)<=1099511627776/\ ∀(g:ad),g=cM f (0:Int) (2:Int)->(GW a b g)):=by
  delta GW ai ac;rintro h n ⟨hw,-⟩⟨hok,n0,n1⟩;obtain⟨-,-,-,-,-,s0,d0⟩:=hw;have s0:0<=h.2.2.2.2.2.1/\h.2.2.2.2.2.1<=4294967295:=s0;have d0:0<=h.2.2.2.2.2.2/\h.2.2.2.2.2.2<=4294967295:=d0;have es:IntKind.wrap .i64 h.2.2.2.2.2.1=h.2.2.2.2.2.1:=aQ ab ab;have ed:IntKind.wrap .i64 h.2.2.2.2.2.2=h.2.2.2.2.2.2:=aQ ab ab;rw[es,ed];have hc:=nR (Cu (n:=n) hok);obtain⟨h1,h2,h3,h4,h5⟩:=hok;have key:∀ f:Int,(f=if h.2.2.2.2.1 then 16384 else 0)->0<=f->f<=65535->((0:Nat):Int)<=1099511627776∧∀ x1,x1=cM [] 69 1->(x1.length:Int)<=1099511627776∧∀ x2,x2=cM x1 h.1 1->(x2.length:Int)<=1099511627776∧∀ x3,x3=cM x2 n 2->(x3.length:Int)<=1099511627776 ∧
    ∀ x4,x4=cM x3 h.2.1 2->(x4.length:Int)<=1099511627776∧∀ x5,x5=cM x4 f 2->(x5.length:Int)<=1099511627776∧∀ x6,x6=cM x5 h.2.2.1 1->(x6.length:Int)<=1099511627776∧∀ x7,x7=cM x6 h.2.2.2.1 1->((0:Nat):Int)<=1099511627776 ∧
    ∀ x8,x8=cM [] h.2.2.2.2.2.1 4->(x8.length:Int)<=1099511627776∧∀ x9,x9=cM x8 h.2.2.2.2.2.2 4->x7.length*1<=140737488355328/\(length [(0:Int),0]+x9.length)*1<=140737488355328/\(x7.length+length ([0,0]++x9))*1<=140737488355328 ∧
    ((x7++([0,0]++x9)).length:Int)<=1099511627776∧∀ c,c=65535-oc (bQ true (x7++([0,0]++x9)))->(x7.length:Int)<=1099511627776∧∀ x11,x11=cM x7 c 2->(x11.length+x9.length)*1<=140737488355328/\x11++x9=iT h n:=by
   intro f hf f0 f1;refine⟨ab,?_⟩;rintro x1 e1;rw[sk ab ab] at e1;refine⟨by rw[e1];simp,?_⟩;rintro x2 e2;rw[sk h1.1 h1.2,e1] at e2;refine⟨by rw[e2];simp,?_⟩;rintro x3 e3;rw[jG n0 n1,e2] at e3;refine⟨by rw[e3];simp[w2],?_⟩;rintro x4 e4;rw[jG h4 h5,e3] at e4;refine⟨by rw[e4];simp[w2],?_⟩;rintro x5 e5;rw[jG f0 f1,e4] at e5;refine⟨by rw[e5];simp[w2],?_⟩;rintro x6 e6;rw[sk h2.1 h2.2,e5] at e6;refine⟨by rw[e6];simp[w2],?_⟩;rintro x7 e7;rw[sk h3.1 h3.2,e6] at e7;have e7:x7=EE h n:=by rw[e7,hf];simp[EE]
   refine⟨ab,?_⟩;rintro x8 e8;rw[vo s0.1 s0.2] at e8;refine⟨by rw[e8];simp[w4],?_⟩;rintro x9 e9;rw[vo d0.1 d0.2,e8] at e9;have e9:x9=F0 h:=e9;have l7:x7.length=10:=by rw[e7];rfl
   have l9:x9.length=8:=by rw[e9];rfl
   have eb:x7++([0,0]++x9)=ic h n:=by rw[e7,e9];rfl
   refine⟨ab,by simp[l9],by simp[l7,l9],by simp[l7,l9],?_⟩;rw[eb];rintro c rfl;refine⟨ab,?_⟩;rintro x11 e11;rw[show 65535-oc (bQ true (ic h n))=cX (ic h n) from rfl,jG hc.1 hc.2] at e11;refine⟨by rw[e11,cD,l7,l9];simp[w2],?_⟩;rw[e11,e7,e9,iN];rfl
  refine av (λhk=>?_) (λhk=>?_)
  .exact key 16384 (by rw[hk];rfl) ab ab
  .exact key 0 (by rw[hk];rfl) ab ab
theorem PC:aD 137 Xa.spec:=aH Tryz.func137 (au (au aE (Ct.named yP)) (Ct.named Dx)) aR az3
def ad8:Ct:=⟨[.agg sH],[.own 5 bz,.val cI],λd=>[(d.1.2.length:Int)<=1073741824],λd=>((dE d.1,fg d.1,()),())⟩
theorem X2 :
 ∀(a:(Int×Int×Int×Int×Bool×Int×Int)×ad),CT.wf sH a/\True->(ac a.2)<=1073741824->ao (! decide (lD a.1=0)) (([]:ad)=dE a/\lD a.1=fg a) (ao (decide (1500<ai ((ac a.2)+20))) (([]:ad)=dE a/\5=fg a) (kD a.1/\0<=ai ((ac a.2)+20)/\ai ((ac a.2)+20)<=65535/\(length (iT a.1 (ai ((ac a.2)+20)))+a.2.length)*(1:Nat)<=(140737488355328:Nat)/\iT a.1 (ai ((ac a.2)+20))++a.2=dE a/\0=fg a)):=by
  delta ai ac;rintro d ⟨⟨hw,-⟩,-⟩ hl;refine av (λhc=>?_) (λhc=>?_)
  .have hn:¬ kD d.1:=λk=>by rw[lD,am k] at hc;cases hc
   have he:fg d=1:=by rw[fg,am hn]
   rw[dE,he,lD,af hn];exact⟨rfl,rfl⟩
  have hok:kD d.1:=gC λk=>by rw[lD,af k] at hc;cases hc
  have e20:IntKind.wrap .i64 ((d.2.length:Int)+20)=20+d.2.length:=by rw[aQ ab ab];omega
  rw[e20];refine av (λh5=>?_) (λh5=>?_)
  .have h5:=aL h5;have he:fg d=5:=by rw[fg,af (λk=>k hok),am ab]
   rw[dE,he];exact⟨rfl,rfl⟩
  have h5:=aO h5;have he:fg d=0:=by rw[fg,af (λk=>k hok),af ab]
  refine⟨hok,ab,ab,by rw[rG];omega,?_⟩;rw[dE,he,am rfl];exact⟨rfl,rfl⟩
theorem Fc:aD 73 ad8.spec:=aH Tryz.func73 (au (au aE ZX) PC) aR X2
def Tu:Ct:=⟨[.val (.sl bz)],[.agg lX,.val cI,.val cI],λd=>[(d.1.length:Int)<=1099511627776],λd=>((kR d.1,jp d.1,d5 d.1,()),())⟩
def Dz(a:ad) :=
 (ai (ah a (1:Int)),cO a (4:Int) (2:Int),ai (ah a (8:Int)),ai (ah a (9:Int)),! decide (cO a (6:Int) (2:Int)=0),IntKind.wrap .u32 (cO a (12:Int) (4:Int)),IntKind.wrap .u32 (cO a (16:Int) (4:Int)))
theorem X8 :
 ∀(a:ad),(tw a)/\True->(ac a)<=1099511627776->ao (decide ((ac a)<20)) ((rA)=kR a/\0=jp a/\3=d5 a) ((ac a)<=9223372036854775807/\(ac a)<=9223372036854775807/\(0:Int)<=0/\0<(ac a)/\ ∀(b:Bool),b= ! decide (ah a (0:Int)=69)->(ae (! b))/\(ae (! b))/\ ∀(c:Bool),c= ! decide (cO a (6:Int) (2:Int)=0)->(ae (! b&&c))/\((! b)->(aq (! b))/\(c->(! b&&c))/\True)/\(aF b)/\ ∀(d:Bool),(d=bif b then true else bif c then ! decide (cO a (6:Int) (2:Int)=16384) else false)->(ae (! d))/\(aF d)/\ao (bif d then true else decide (cO a (2:Int) (2:Int)<20)) ((rA)=kR a/\0=jp a/\2=d5 a) ((0:Int)<=1/\1<(ac a)/\(ac a)<=9223372036854775807/\(0:Int)<=8/\8<(ac a)/\(0:Int)<=9/\9<(ac a)/\(ac a)<=9223372036854775807/\(ac a)<=9223372036854775807/\kD (Dz a)/\0<=cO a (2:Int) (2:Int)/\cO a (2:Int) (2:Int)<=65535/\(0:Int)<=0/\(0:Int)<=20/\20<=(ac a)/\ao (! decide
 (iT (Dz a) (cO a (2:Int) (2:Int))=cA a (toNat 0) (toNat 20))) ((rA)=kR a/\0=jp a/\4=d5 a) ((Dz a)=kR a/\cO a (2:Int) (2:Int)=jp a/\0=d5 a))):=by
  delta rA Dz tw ae aq aF ai ah ac;rintro b ⟨⟨-,hb⟩,-⟩ hl;refine av (λh=>?_) (λh=>?_)
  .have h:=aL h;have e:d5 b=3:=by rw[d5,am h]
   rw[kR,jp,e];exact⟨rfl,rfl,rfl⟩
  have h:=aO h;rw[qz (a:=6) ab ab,qz (a:=2) ab ab,qz (a:=4) ab ab,EY (a:=12) ab ab,EY (a:=16) ab ab];have n12:=sD hb 12;have n16:=sD hb 16;have b1:=vZ hb (i:=1) ab;have b8:=vZ hb (i:=8) ab;have b9:=vZ hb (i:=9) ab;have w4':=rk hb 4;have w2':=rk hb 2;rw[aQ (n:=b.getD (toNat 1) default) (by have:=b1.1;simp at this ⊢;omega) (by have:=b1.2;simp at this ⊢;omega),aQ (n:=b.getD (toNat 8) default) (by have:=b8.1;simp at this ⊢;omega) (by have:=b8.2;simp at this ⊢;omega),aQ (n:=b.getD (toNat 9) default) (by have:=b9.1;simp at this ⊢;omega) (by have:=b9.2;simp at this ⊢;omega)];rw[show (toNat 12)=12 from rfl,show (toNat 16)=16 from rfl,oW n12.1 n12.2,oW n16.1 n16.2];refine⟨ab,ab,ab,ab,?_⟩
  (repeat (refine bO ?_;repeat refine bP ?_));refine av (λhc=>?_) (λhc=>?_)
  .have e:d5 b=2:=by
    rw[d5,af h,am];rintro⟨h0,hf,h2⟩;rw[show b.getD (toNat 0) default=69 from h0] at hc;have h2:20<=aK b (toNat 2):=h2;rcases hf with hf|hf
    .rw[show aK b (toNat 6)=0 from hf] at hc;simp at hc;simp at h2;omega
    .rw[show aK b (toNat 6)=16384 from hf] at hc;simp at hc;simp at h2;omega
   rw[kR,jp,e];exact⟨rfl,rfl,rfl⟩
  have hg:b.getD 0 default=69/\(aK b 6=0∨aK b 6=16384)/\20<=aK b 2:=by
   by_cases h0:b.getD (toNat 0) default=69
   .by_cases h6:aK b (toNat 6)=0
    .simp[h0,h6] at hc;exact⟨h0,.inl h6,ab⟩
    .by_cases h7:aK b (toNat 6)=16384
     .simp[h0,h7] at hc;exact⟨h0,.inr h7,ab⟩
     .exfalso;rw[h0,dw h6,dw h7] at hc;simp at hc
   .exfalso;rw[dw h0] at hc;simp at hc
  have hdr:(b.getD (toNat 1) default,aK b (toNat 4),b.getD (toNat 8) default,b.getD (toNat 9) default,!decide (aK b (toNat 6)=0),dO ((b.drop 12).take 4),dO ((b.drop 16).take 4))=cf b:=by
   have:(!decide (aK b (toNat 6)=0))=decide (aK b 6=16384):=by
    rw[show toNat 6=6 from rfl];rcases hg.2.1 with hf|hf <;> rw[hf] <;> rfl
   rw[this];rfl
  rw[hdr];obtain⟨-,hm⟩:=Pe hb ab hg.1 hg.2.1;have hs:cA b (toNat 0) (toNat 20)=b.take 20:=rfl;rw[hs,show toNat 2=2 from rfl];refine⟨ab,ab,ab,ab,ab,ab,ab,ab,ab,⟨b1,b8,b9,w4'.1,w4'.2⟩,ab,ab,ab,ab,ab,?_⟩;refine av (λhc=>?_) (λhc=>?_)
  .have e:d5 b=4:=by
    rw[d5,af h,af (λk=>k hg),am];intro k;rw[hm.2 k] at hc;simp at hc
   rw[kR,jp,e];exact⟨rfl,rfl,rfl⟩
  .have hc:iT (cf b) (aK b 2)=b.take 20:=by simpa using hc
   have e:d5 b=0:=by
    rw[d5,af h,af (λk=>k hg),af];intro k;exact k (hm.1 hc)
   rw[kR,jp,e,am rfl,am rfl];exact⟨rfl,rfl,rfl⟩
theorem Ub:aD 196 Tu.spec:=aH Tryz.func196 (au (au (au aE yw) PC) AK) aR X8
def aE0:Ct:=⟨[.val (.sl bz)],[.agg sH,.val cI],λd=>[(d.1.length:Int)<=1099511627776],λd=>((aP d.1,bT d.1,()),())⟩
theorem YR :
 ∀(a:ad),(tw a)/\True->(ac a)<=1099511627776->(ac a)<=1099511627776/\ao (! decide (d5 a=0)) ((vG)=aP a/\d5 a=bT a) (ao (! decide (jp a=(ac a))) ((vG)=aP a/\2=bT a) (ao (decide (1500<jp a)) ((vG)=aP a/\5=bT a) ((0:Int)<=20/\20<=(ac a)/\(ac a)<=(ac a)/\length (cA a (toNat 20) (toNat (ac a)))*(1:Nat)<=(140737488355328:Nat)/\(kR a,cA a (toNat 20) (toNat (ac a)))=aP a/\0=bT a))):=by
  delta rA tw vG ac;rintro b ⟨⟨-,hb⟩,-⟩ hl;refine⟨hl,av (λhc=>?_) (λhc=>?_)⟩
  .have hc:¬ d5 b=0:=by simpa using hc
   have e:bT b=d5 b:=by rw[bT,am hc]
   rw[aP,e,af hc];exact⟨rfl,rfl⟩
  have hc:d5 b=0:=by simpa using hc
  have hlen:jp b=aK b 2:=by rw[jp,am hc]
  rw[hlen];refine av (λh2=>?_) (λh2=>?_)
  .have h2:¬ aK b 2=b.length:=by simpa using h2
   have e:bT b=2:=by rw[bT,af (λk=>k hc),am h2]
   rw[aP,e];exact⟨rfl,rfl⟩
  have h2:aK b 2=b.length:=by simpa using h2
  refine av (λh5=>?_) (λh5=>?_)
  .have h5:=aL h5;have e:bT b=5:=by rw[bT,af (λk=>k hc),af (λk=>k h2),am h5]
   rw[aP,e];exact⟨rfl,rfl⟩
  have h5:=aO h5;have e:bT b=0:=by rw[bT,af (λk=>k hc),af (λk=>k h2),af h5]
  have h20:=Ba hc;rw[show toNat 20=20 from rfl,qA,aP,e,am rfl,kR,am hc,dR];exact⟨ab,ab,ab,ab,rfl,rfl⟩
theorem Bx:aD 145 aE0.spec:=aH Tryz.func145 (au aE Ub) aR YR
abbrev AS:CT := .pair cy (.pair cy (.pair cI (.pair cI (.pair cI cI))))
abbrev cU:Type:=Int×Int×Int×Int×Int×Int
def kF(n:Int):Prop:=n=1∨n=6∨n=17
instance (n:Int):Decidable (kF n):=by unfold kF;infer_instance
def kQ(p:cU):Prop:=(0<=p.2.2.2.1/\p.2.2.2.1<=1023)/\(0<=p.2.2.2.2.1/\p.2.2.2.2.1<=65534)/\1<=p.2.2.2.2.2/\p.2.2.2.2.2<=255
instance (p:cU):Decidable (kQ p):=by unfold kQ;infer_instance
def f5(p:cU):Int:=if ¬ kF p.2.2.1 then 16 else if ¬ kQ p then 1 else 0
def qD(p:cU):Int:=oc (65535-(16384+p.2.2.2.1)+cX (cN (false,21075,p.2.2.2.2.1,[0,0])))
def vF(p:cU):Int:=oc (65535-(p.2.2.2.2.1+1)+fB p.1 p.2.1 17 (fx (20000+p.2.2.2.1,33434,[0,0])))
def tV(p:cU):Int:=if vF p=0 then 65535 else vF p
def lH(p:cU):m8:=(false,21075,p.2.2.2.2.1,w2 (qD p))
def ru(p:cU):pZ:=(20000+p.2.2.2.1,33434,w2 (tV p))
def mT(p:cU):kV:=(20000+p.2.2.2.1,80,p.2.2.2.2.1,0,2,1024,[])
def fS(p:cU):ad:=if p.2.2.1=1 then fh (lH p) else if p.2.2.1=17 then kC p.1 p.2.1 (ru p) else eV p.1 p.2.1 (mT p)
def sX(p:cU):dg:=(0,p.2.2.2.2.1,p.2.2.2.2.2,p.2.2.1,true,p.1,p.2.1)
def build(p:cU):ad:=if f5 p=0 then dE (sX p,fS p) else []
def a02:ph:=(0,0,0,0,0)
def zk:cU:=(0,0,0,0,0,0)
def qP(x:o3):ph:=(x.1.2.2.2.2.2.1,x.1.2.2.2.2.2.2,x.1.2.2.2.1,if kF x.1.2.2.2.1/\4<=x.2.length then aK x.2 0 else 0,if kF x.1.2.2.2.1/\4<=x.2.length then aK x.2 2 else 0)
def dV(b:ad):ph:=if bT b=0 then qP (aP b) else a02
theorem oa{p:cU}:f5 p=0↔kF p.2.2.1/\kQ p:=by
 unfold f5
 constructor
 .intro h;split at h
  .cases h
  .split at h
   .cases h
   next h1 h2=>exact⟨pi.1 h1,pi.1 h2⟩
 .rintro⟨h1,h2⟩;rw[af (λk=>k h1),af (λk=>k h2)]
theorem DE{b:ad}{i:Nat}{c:Int}(h:i+2<=b.length)(c0:0<=c)(c1:c<=65535):aK (cj b i c) i=c:=by
 rw[Cf (by rw[mI];exact h)]
 unfold cj
 rw[AN ab,Lj ab,Lj (by rw[fV];omega)]
 omega
theorem u9{b:ad}{i j:Nat}{c:Int}(h:j+2<=b.length)(hn:j+2<=i∨i+2<=j):aK (cj b i c) j=aK b j:=by
 rw[Cf (by rw[mI];exact h),Cf h]
 unfold cj
 rw[AN ab,AN ab,AN ab,AN ab]
theorem L0{s d:Int}{p:Int}{X:ad}(hx:bytes X)(hp:0<p%256):0<=fB s d p X/\fB s d p X<=65534:=by
 have h1:=(xt (a:=s) (b:=d) (p:=p) hx).1
 refine⟨h1,?_⟩
 unfold fB at h1 ⊢
 split
 .omega
 .unfold cX;rw[Je];have h2:=Pz s d p X.length;have h3:=(zK true X hx).1;unfold oc;rw[af ab];omega
theorem MG:bytes [0,0]:=mG (by omega) (by omega) (mG (by omega) (by omega) nh)
theorem OS(t:Int):bytes (cN (false,21075,t,[0,0])):=wK MG
theorem Jn(f:Int):bytes (fx (20000+f,33434,[0,0])):=BN MG
theorem Pm{p:cU}(h:kQ p):1<=qD p/\qD p<=65535:=by
 have:=nR (OS p.2.2.2.2.1)
 obtain⟨⟨h1,h2⟩,-⟩:=h
 unfold qD oc
 rw[af ab];omega
theorem aV4{p:cU}(h:kQ p):0<=vF p/\vF p<=65535:=by
 have:=L0 (s:=p.1) (d:=p.2.1) (p:=17) (Jn p.2.2.2.1) bi
 obtain⟨-,⟨h1,h2⟩,-⟩:=h
 exact vO ab
theorem Oq{p:cU}(h:kQ p):1<=tV p/\tV p<=65535:=by
 have:=aV4 h
 unfold tV;split <;> omega
theorem zt(n:Int):(w2 n).length=2:=rfl
theorem Ha{p:cU}(h:kQ p):E4 (w2 (qD p)) (lH p):=by
 obtain⟨-,⟨h1,h2⟩,-⟩:=h
 exact⟨⟨(hT _).2 ⟨by show (0:Int)<=21075;omega,by show (21075:Int)<=_;omega⟩,(hT _).2 ⟨h1,by show p.2.2.2.2.1<=_;omega⟩⟩,rfl⟩
theorem KM{p:cU}(h:kQ p):Ib (w2 (tV p)) (ru p):=by
 obtain⟨⟨h1,h2⟩,-⟩:=h
 exact⟨⟨(hT _).2 ⟨by show (0:Int)<=20000+p.2.2.2.1;omega,by show 20000+p.2.2.2.1<=_;omega⟩,(hT _).2 ⟨by show (0:Int)<=33434;omega,by show (33434:Int)<=_;omega⟩⟩,rfl⟩
theorem H5{p:cU}(h:kQ p):DX [] (mT p):=by
 obtain⟨⟨h1,h2⟩,⟨h3,h4⟩,-⟩:=h
 refine⟨⟨(hT _).2 ⟨?_,?_⟩,(hT _).2 ⟨?_,?_⟩,⟨?_,?_⟩,⟨?_,?_⟩,⟨?_,?_⟩,(hT _).2 ⟨?_,?_⟩⟩,rfl⟩ <;> simp only[mT] <;> omega
theorem Nq{p:cU}(h:kQ p):jF (lH p)=0:=Di (Ha h) (by rw[zt];omega)
theorem Rc{p:cU}(h:kQ p):mV (ru p)=0:=PO (KM h) (by rw[zt];omega)
theorem Kx{p:cU}(h:kQ p):j8 (mT p)=0:=Hz (H5 h) (by simp)
theorem yg{p:cU}(h:kQ p)(h1:p.2.2.1=1):fS p=cj (cN (lH p)) 2 (cX (cN (lH p))):=by
 rw[fS,am h1,fh,am (Nq h)]
theorem BE{p:cU}(h:kQ p)(h1:p.2.2.1=17):fS p=cj (fx (ru p)) 6 (jO p.1 p.2.1 (fx (ru p))):=by
 rw[fS,af ab,am h1,kC,am (Rc h)]
theorem ya{p:cU}(h:kQ p)(h1:p.2.2.1=6):fS p=cj (jD (mT p)) 16 (fB p.1 p.2.1 6 (jD (mT p))):=by
 rw[fS,af ab,af ab,eV,am (Kx h)]
theorem BG{p:cU}(h:f5 p=0):(p.2.2.1≠6/\(fS p).length=10)∨(p.2.2.1=6/\(fS p).length=20):=by
 obtain⟨h1|h1|h1,h2⟩:=oa.1 h
 .rw[yg h2 h1,mI];exact .inl ⟨ab,rfl⟩
 .rw[ya h2 h1,mI];exact .inr ⟨h1,rfl⟩
 .rw[BE h2 h1,mI];exact .inl ⟨ab,rfl⟩
theorem Qw{p:cU}(h:f5 p=0):bytes (fS p):=by
 obtain⟨h1|h1|h1,h2⟩:=oa.1 h
 .rw[yg h2 h1];exact pN (wK (lU _))
 .rw[ya h2 h1];exact pN (xQ (H5 h2).1 nh)
 .rw[BE h2 h1];exact pN (BN (lU _))
theorem I9{p:cU}(h:f5 p=0):kD (sX p):=by
 obtain⟨h1,⟨-,⟨h2,h3⟩,h4,h5⟩⟩:=oa.1 h
 refine⟨⟨?_,?_⟩,⟨?_,?_⟩,⟨?_,?_⟩,?_,?_⟩ <;> simp only[sX] <;> unfold kF at h1 <;> omega
theorem Kk{p:cU}(h:f5 p=0):fg (sX p,fS p)=0:=by
 rw[fg,af (λk=>k (I9 h)),af]
 rcases BG h with h|h <;> rw[h.2] <;> simp
theorem EH{p:cU}(h:f5 p=0):build p=iT (sX p) (20+(fS p).length)++fS p:=by
 rw[build,am h,dE,am (Kk h)]
theorem Gf(p:cU):(build p).length<=40:=by
 by_cases h:f5 p=0
 .rw[EH h,cD,rG];rcases BG h with h|h <;> omega
 .rw[build,af h];simp
theorem GF(p:cU):bytes (build p):=by
 by_cases h:f5 p=0
 .rw[EH h];exact iS (Ja (I9 h)) (Qw h)
 .rw[build,af h];exact nh
def Zg:Ct:=⟨[.agg AS],[.val cI],λd=>[],λd=>((f5 d.1,()),())⟩
theorem aU9 :
 ∀(a b c d e f:Int),((0<=a/\a<=4294967295)/\(0<=b/\b<=4294967295)/\aj c/\aj d/\aj e/\aj f)/\True->True-> ∀(g:Bool),g= ! decide (c=1)->(ae g)/\(ae g)/\(aq g)/\ ∀(h:Bool),(h=bif g then ! decide (c=17) else false)->(ae h)/\(ae h)/\(aq h)/\ao (bif h then ! decide (c=6) else false) (16=f5 (a,b,c,d,e,f)) (∀(i:Bool),i=decide (d<0)->(ae (! i))/\(ae (! i))/\(aF i)/\ ∀(j:Bool),(j=bif i then true else decide (1023<d))->(ae (! j))/\(ae (! j))/\(aF j)/\ ∀(k:Bool),(k=bif j then true else decide (e<0))->(ae (! k))/\(ae (! k))/\(aF k)/\ ∀(l:Bool),(l=bif k then true else decide (65534<e))->(ae (! l))/\(ae (! l))/\(aF l)/\ ∀(m:Bool),(m=bif l then true else decide (f<1))->(ae (! m))/\(ae (! m))/\(aF m)/\ao (bif m then true else decide (255<f)) (1=f5 (a,b,c,d,e,f)) (0=f5 (a,b,c,d,e,f))):=by
  delta ae aq aF;rintro s d pr f t l - -
  (repeat (refine bO ?_;repeat refine bP ?_));refine av (λhc=>?_) (λhc=>?_)
  .rw[f5,am];simp only[kF];intro k;rcases k with rfl|rfl|rfl <;> simp at hc
  have hp:kF pr:=by
   unfold kF;by_cases h1:pr=1
   .exact .inl h1
   .by_cases h6:pr=17
    .exact .inr (.inr h6)
    .simp[h1,h6] at hc;exact .inr (.inl hc)
  have key:∀(v:Int),(v=if kQ (s,d,pr,f,t,l) then 0 else 1)->v=f5 (s,d,pr,f,t,l):=by
   intro v hv;rw[f5,af (λk=>k hp),hv];by_cases k:kQ (s,d,pr,f,t,l)
   .rw[am k,af (λq=>q k)]
   .rw[af k,am k]
  (repeat (refine bO ?_;repeat refine bP ?_));refine av (λh1=>?_) (λh1=>?_)
  .have hn:¬ kQ (s,d,pr,f,t,l):=by
    rintro⟨⟨a,b⟩,⟨a2,b2⟩,a3,b3⟩;simp only at a b a2 b2 a3 b3;simp[db] at h1;omega
   exact key 1 (by rw[af hn])
  .have hn:kQ (s,d,pr,f,t,l):=by
    simp[db] at h1;refine⟨⟨?_,?_⟩,⟨?_,?_⟩,?_,?_⟩ <;> simp only <;> omega
   exact key 0 (by rw[am hn])
theorem Kw:aD 71 Zg.spec:=aH Tryz.func71 aE aR aU9
def ap6:Ct:=⟨[.val (.sl bz)],[.agg uP,.val cI],λd=>[(d.1.length:Int)<=1099511627776],λd=>((dV d.1,bT d.1,()),())⟩
def A9(a:ad)(b:(Int×Int×Int×Int×Bool×Int×Int)×ad) :=
 (b.1.2.2.2.2.2.1,b.1.2.2.2.2.2.2,b.1.2.2.2.1,(0:Int),(0:Int))=dV a/\0=bT a
def Ez(a:ad)(b:(Int×Int×Int×Int×Bool×Int×Int)×ad) :=
 ao (decide (4<=(ac b.2))) ((ac b.2)<=9223372036854775807/\(ac b.2)<=9223372036854775807/\(b.1.2.2.2.2.2.1,b.1.2.2.2.2.2.2,b.1.2.2.2.1,cO b.2 (0:Int) (2:Int),cO b.2 (2:Int) (2:Int))=dV a/\0=bT a) (A9 a b)
theorem aN6 :
 ∀(a:ad),(a.length<=maxLen/\ ∀(b:Int),b∈a->0<=b/\b<=255)/\True->(ac a)<=1099511627776->(ac a)<=1099511627776/\ ∀(b:(Int×Int×Int×Int×Bool×Int×Int)×ad)(c:Int),b=aP a/\c=bT a->ao (! decide (c=0)) (((0:Int),(0:Int),(0:Int),(0:Int),(0:Int))=dV a/\c=bT a) (ao (decide (b.1.2.2.2.1=1)) (ao (decide (b.1.2.2.2.1=1)) (Ez a b) (A9 a b)) (ao (decide (b.1.2.2.2.1=6)) (ao (decide (b.1.2.2.2.1=6)) (Ez a b) (A9 a b)) (ao (decide (b.1.2.2.2.1=17)) (Ez a b) (A9 a b)))):=by
  delta Ez A9 ac;rintro b ⟨⟨-,hb⟩,-⟩ hl;refine⟨hl,?_⟩;rintro d e ⟨rfl,rfl⟩;refine av (λh=>?_) (λh=>?_)
  .have h:¬ bT b=0:=by simpa using h
   rw[dV,af h];exact⟨rfl,rfl⟩
  have h:bT b=0:=by simpa using h
  have hdl:=tc h;have hk:dV b=qP (aP b):=by rw[dV,am h]
  rw[hk,h];have hpl:((aP b).2.length:Int)<=1500:=by rw[aP,am h];simp only[dR];omega
  generalize aP b=x at *;have yes:kF x.1.2.2.2.1->(4:Int)<=x.2.length->((x.2.length:Int)<=9223372036854775807/\(x.2.length:Int)<=9223372036854775807/\(x.1.2.2.2.2.2.1,x.1.2.2.2.2.2.2,x.1.2.2.2.1,cO x.2 0 2,cO x.2 2 2)=qP x/\(0:Int)=0):=by
   intro h1 h2;refine⟨ab,ab,?_,rfl⟩;rw[qz ab ab,qz ab ab,qP,am ⟨h1,ab⟩,am ⟨h1,ab⟩];rfl
  have no:¬ (kF x.1.2.2.2.1/\(4:Int)<=x.2.length)->((x.1.2.2.2.2.2.1,x.1.2.2.2.2.2.2,x.1.2.2.2.1,(0:Int),(0:Int))=qP x/\(0:Int)=0):=by
   intro h1;rw[qP,af (λk=>h1 ⟨k.1,ab⟩),af (λk=>h1 ⟨k.1,ab⟩)];exact⟨rfl,rfl⟩
  refine av (λh1=>?_) (λh1=>?_)
  .refine av (λ_=>?_) (λk=>by rw[h1] at k;cases k);have h1:=aL h1;exact av (λh4=>yes (.inl h1) (aL h4)) (λh4=>no (λk=>(aO h4) k.2))
  refine av (λh6=>?_) (λh6=>?_)
  .refine av (λ_=>?_) (λk=>by rw[h6] at k;cases k);have h6:=aL h6;exact av (λh4=>yes (.inr (.inl h6)) (aL h4)) (λh4=>no (λk=>(aO h4) k.2))
  refine bt (λh17=>?_) (λh17=>?_)
  .exact av (λh4=>yes (.inr (.inr h17)) (aL h4)) (λh4=>no (λk=>(aO h4) k.2))
  .have h1:=aO h1;have h6:=aO h6;exact no (λk=>by rcases k.1 with k|k|k <;> contradiction)
theorem UT:aD 275 ap6.spec:=aH Tryz.func275 (au (au aE (Ct.named CI)) F2) aR aN6
def ZV:Ct:=⟨[.val cI,.val cI],[.val cI],λd=>[0<=d.1,d.1<=65535,0<=d.2.1,d.2.1<=65535],λd=>((if oc (65535-d.2.1+d.1)=0 then 65535 else oc (65535-d.2.1+d.1),()),())⟩
def JE(a b:Int) :=
 if (cZ (ai ((65535:Int) -b))&&cZ a)=true then oc (ai ((65535:Int) -b)+a) else (0:Int)
theorem aL8 :
 ∀(a b:Int),aj a/\aj b/\True->0<=a/\a<=65535/\0<=b/\b<=65535->ao (decide ((JE a b)=0)) (65535=if oc ((65535:Int) -b+a)=0 then (65535:Int) else oc ((65535:Int) -b+a)) ((JE a b)=if oc ((65535:Int) -b+a)=0 then (65535:Int) else oc ((65535:Int) -b+a)):=by
  delta JE ai;rintro a b-⟨a0,a1,b0,b1⟩;rw[aQ (n:=65535-b) ab ab,am (by simp only[dr,hT];omega)];refine bt (λh=>?_) (λh=>?_)
  .rw[am h]
  .rw[af h]
theorem ar5:aD 140 ZV.spec:=aH Tryz.func140 (au aE Qp) aR aL8
def aP2:Ct:=⟨[.agg AS],[.own 5 bz],λd=>[f5 d.1=0],λd=>((fS d.1,()),())⟩
theorem aS8 :
 ∀(a b c d e f:Int),((0<=a/\a<=4294967295)/\(0<=b/\b<=4294967295)/\aj c/\aj d/\aj e/\aj f)/\True->f5 (a,b,c,d,e,f)=0->ao (decide (c=1)) (((length [(0:Int),(0:Int)]):Int)<=1073741824/\ ∀(g:ad)(h:Int),g=fh (false,(21075:Int),e,[(0:Int),(0:Int)])/\h=jF (false,(21075:Int),e,[(0:Int),(0:Int)])->(ac g)<=9223372036854775807/\ ∀(i:Int),i=cO g (2:Int) (2:Int)->0<=i/\i<=65535/\0<=ai ((16384:Int)+d)/\ai ((16384:Int)+d)<=65535/\ ∀(j:Int),(j=if oc ((65535:Int) -ai ((16384:Int)+d)+i)=0 then (65535:Int) else oc ((65535:Int) -ai ((16384:Int)+d)+i))->(↑(0:Nat):Int)<=1099511627776/\ ∀(k:ad),k=cM ([]:ad) j (2:Int)->(ac k)<=1073741824/\ ∀(l:ad)(m:Int),l=fh (false,(21075:Int),e,k)/\m=jF (false,(21075:Int),e,k)->l=fS (a,b,c,d,e,f)) (ao (decide (c=17)) ((↑(0:Nat):Int)<=1099511627776/\ ∀(g:ad),g=cM ([]:ad) (ai
 ((20000:Int)+d)) (2:Int)->(ac g)<=1099511627776/\ ∀(h:ad),h=cM g (33434:Int) (2:Int)->(h.length+length [(0:Int),(10:Int),(0:Int),(0:Int),(0:Int),(0:Int)])*(1:Nat)<=(140737488355328:Nat)/\((length (h++[(0:Int),(10:Int),(0:Int),(0:Int),(0:Int),(0:Int)])):Int)<=1073741824/\ ∀(i:Int),i=fB a b (17:Int) (h++[(0:Int),(10:Int),(0:Int),(0:Int),(0:Int),(0:Int)])->0<=i/\i<=65535/\0<=ai (e+1)/\ai (e+1)<=65535/\ ∀(j:Int),(j=if oc ((65535:Int) -ai (e+1)+i)=0 then (65535:Int) else oc ((65535:Int) -ai (e+1)+i))->(↑(0:Nat):Int)<=1099511627776/\ ∀(k:ad),k=cM ([]:ad) j (2:Int)->(ac k)<=1073741824/\kC a b (ai ((20000:Int)+d),(33434:Int),k)=fS (a,b,c,d,e,f)) ((↑(0:Nat):Int)<=1000000/\eV a b (ai ((20000:Int)+d),(80:Int),e,(0:Int),(2:Int),(1024:Int),([]:ad))=fS (a,b,c,d,e,f))):=by
  delta ai ac;rintro s d pr f t l-he;obtain⟨hp,hr⟩:=oa.1 he;have hr':=hr;obtain⟨⟨f0,f1⟩,⟨t0,t1⟩,l0,l1⟩:=hr';simp only at f0 f1 t0 t1 l0 l1;rw[aQ (n:=16384+f) ab ab,aQ (n:=20000+f) ab ab,aQ (n:=t+1) ab ab];refine av (λh1=>?_) (λh1=>av (λh17=>?_) (λh17=>?_))
  .have h1:=aL h1;have e0:jF (false,21075,t,[0,0])=0:=Di (data:=[0,0]) ⟨⟨(hT _).2 ⟨by show (0:Int)<=21075;omega,by show (21075:Int)<=_;omega⟩,(hT _).2 ⟨t0,by show t<=_;omega⟩⟩,rfl⟩ aC;have hc:=nR (OS t);refine⟨aC,?_⟩;rintro b _ ⟨rfl,-⟩;rw[fh,am e0];have hl:(cj (cN (false,21075,t,[0,0])) 2 (cX (cN (false,21075,t,[0,0])))).length=10:=by rw[mI];rfl
   refine⟨ab,?_⟩;rw[qz ab ab,show toNat 2=2 from rfl,DE (by show 2+2<=10;omega) hc.1 hc.2];rintro _ rfl;refine⟨hc.1,hc.2,ab,ab,?_⟩;have hi:=Pm hr;have ei:oc (65535-(16384+f)+cX (cN (false,21075,t,[0,0])))=qD (s,d,pr,f,t,l):=rfl;rw[ei,af ab];rintro _ rfl;refine⟨ab,?_⟩;rw[jG ab ab];rintro _ rfl;refine⟨by simp[w2],?_⟩;rintro _ _ ⟨rfl,-⟩;rw[fS,am h1];rfl
  .have h17:=aL h17;refine⟨ab,?_⟩;rw[jG ab ab];rintro _ rfl;refine⟨by simp[w2],?_⟩;rw[jG ab ab];rintro _ rfl;have eb:[]++w2 (20000+f)++w2 33434++[0,10,0,0,0,0]=fx (20000+f,33434,[0,0]):=by simp[fx,w2]
   rw[eb];refine⟨by simp[w2],by show ((10:Nat):Int)<=_;omega,?_⟩;have hq:=L0 (s:=s) (d:=d) (p:=17) (Jn f) bi;rintro _ rfl;refine⟨hq.1,ab,ab,ab,?_⟩;have hu:=Oq hr;have eu:(if oc (65535-(t+1)+fB s d 17 (fx (20000+f,33434,[0,0])))=0 then 65535 else oc (65535-(t+1)+fB s d 17 (fx (20000+f,33434,[0,0]))))=tV (s,d,pr,f,t,l):=rfl;rw[eu];rintro _ rfl;refine⟨ab,?_⟩;rw[jG ab ab];rintro _ rfl;refine⟨by simp[w2],?_⟩;rw[fS,af (by simp only;omega),am h17];rfl
  .have h1:=aO h1;have h17:=aO h17;rw[fS,af h1,af h17];exact⟨ab,rfl⟩
theorem aL3:aD 74 aP2.spec:=aH Tryz.func74 (au (au (au (au (au (au (au aE (Ct.named JV)) (Ct.named yw)) (Ct.named ar5)) (Ct.named yP)) (Ct.named II)) Pa) GP) aR aS8
def YD:Ct:=⟨[.agg sH],[.agg uP],λd=>[(d.1.2.length:Int)<=1099511627776],λd=>((qP d.1,()),())⟩
theorem Zt :
 ∀(a:(Int×Int×Int×Int×Bool×Int×Int)×ad),CT.wf sH a/\True->(ac a.2)<=1099511627776-> ∀(b:Bool),b=decide (4<=(ac a.2))->(ae b)/\(ae b)/\(ae b)/\ ∀(c:Bool),c=decide (a.1.2.2.2.1=1)->(ae (b&& ! c))/\(ae (b&& ! c))/\(b->(aq b)/\(c=false->(b&& ! c))/\True)/\(ae b)/\ ∀(d:Bool),(d=bif c then true else decide (a.1.2.2.2.1=17))->(ae (b&& ! d))/\(ae (b&& ! d))/\(b->(aq b)/\(d=false->(b&& ! d))/\True)/\(aq b)/\ao (bif b then bif d then true else decide (a.1.2.2.2.1=6) else false) ((ac a.2)<=9223372036854775807/\(ac a.2)<=9223372036854775807/\(a.1.2.2.2.2.2.1,a.1.2.2.2.2.2.2,a.1.2.2.2.1,cO a.2 (0:Int) (2:Int),cO a.2 (2:Int) (2:Int))=qP a) ((a.1.2.2.2.2.2.1,a.1.2.2.2.2.2.2,a.1.2.2.2.1,(0:Int),(0:Int))=qP a):=by
  delta ae aq ac;rintro x-hl
  (repeat (refine bO ?_;repeat refine bP ?_));refine av (λh=>?_) (λh=>?_)
  .have h4:(4:Int)<=x.2.length:=gC λk=>by rw[dw k] at h;cases h
   have hp:kF x.1.2.2.2.1:=by
    rw[dM h4] at h;unfold kF;by_cases h1:x.1.2.2.2.1=1
    .exact .inl h1
    .by_cases h17:x.1.2.2.2.1=17
     .exact .inr (.inr h17)
     .simp[h1,h17] at h;exact .inr (.inl h)
   refine⟨ab,ab,?_⟩;rw[qz ab ab,qz ab ab,qP,am ⟨hp,ab⟩,am ⟨hp,ab⟩];rfl
  .have hn:¬ (kF x.1.2.2.2.1/\4<=x.2.length):=by
    rintro⟨hp,h4⟩;rw[dM (show (4:Int)<=x.2.length by omega)] at h;rcases hp with hp|hp|hp <;> simp[hp] at h
   rw[qP,af hn,af hn]
theorem QZ:aD 146 YD.spec:=aH Tryz.func146 (au aE yw) aR Zt
def aX9:Ct:=⟨[.val (.sl bz)],[.agg uP,.val cI],λd=>[(d.1.length:Int)<=1099511627776],λd=>((dV d.1,bT d.1,()),())⟩
theorem Vw :
 ∀(a:ad),(a.length<=maxLen/\ ∀(b:Int),b∈a->0<=b/\b<=255)/\True->(ac a)<=1099511627776->(ac a)<=1099511627776/\ ∀(b:(Int×Int×Int×Int×Bool×Int×Int)×ad)(c:Int),b=aP a/\c=bT a->ao (! decide (c=0)) (((0:Int),(0:Int),(0:Int),(0:Int),(0:Int))=dV a/\c=bT a) ((ac b.2)<=1099511627776/\(b.1.2.2.2.2.2.1,b.1.2.2.2.2.2.2,b.1.2.2.2.1,if kF b.1.2.2.2.1/\(4:Nat)<=b.2.length then aK b.2 (0:Nat) else (0:Int),if kF b.1.2.2.2.1/\(4:Nat)<=b.2.length then aK b.2 (2:Nat) else (0:Int))=dV a/\0=bT a):=by
  delta ac;rintro b ⟨⟨-,hb⟩,-⟩ hl;refine⟨hl,?_⟩;rintro d e ⟨rfl,rfl⟩;refine av (λh=>?_) (λh=>?_)
  .have h:¬ bT b=0:=by simpa using h
   rw[dV,af h];exact⟨rfl,rfl⟩
  have h:bT b=0:=by simpa using h
  have hdl:=tc h;have hpl:((aP b).2.length:Int)<=1500:=by rw[aP,am h];simp only[dR];omega
  refine⟨ab,?_⟩;rw[dV,am h,h];exact⟨rfl,rfl⟩
theorem aw2:aD 75 aX9.spec:=aH Tryz.func75 (au (au aE (Ct.named Bx)) QZ) aR Vw
def u32(n:Int):Prop:=0<=n/\n<=4294967295
theorem aW2(h:dg)(n:Int)(X:ad):iT h n++X=69::h.1::n/256%256::n%256::h.2.1/256%256::h.2.1%256::(if h.2.2.2.2.1 then (16384:Int) else 0)/256%256::(if h.2.2.2.2.1 then (16384:Int) else 0)%256::h.2.2.1::h.2.2.2.1 ::
  cX (ic h n)/256%256::cX (ic h n)%256::h.2.2.2.2.2.1/16777216%256::h.2.2.2.2.2.1/65536%256::h.2.2.2.2.2.1/256%256::h.2.2.2.2.2.1%256::h.2.2.2.2.2.2/16777216%256::h.2.2.2.2.2.2/65536%256::h.2.2.2.2.2.2/256%256::h.2.2.2.2.2.2%256::X:=rfl
theorem JH{n:Int}(h:u32 n):((n/16777216%256*256+n/65536%256)*256+n/256%256)*256+n%256=n:=by
 obtain⟨h0,h1⟩:=h;omega
theorem Iy{h:dg}{X:ad}(hk:kD h)(hs:u32 h.2.2.2.2.2.1)(hd:u32 h.2.2.2.2.2.2)(hl:(X.length:Int)<=1480)(hX:bytes X) :
  cf (iT h (20+X.length)++X)=h/\bT (iT h (20+X.length)++X)=0/\(iT h (20+X.length)++X).drop 20=X:=by
 have hbb:bytes (iT h (20+X.length)++X):=iS (Ja hk) hX
 have hlen:(iT h (20+X.length)++X).length=20+X.length:=by rw[cD,rG]
 have hc:=nR (Cu (n:=20+X.length) hk)
 obtain⟨tos,id,ttl,pr,kp,s,d⟩:=h
 obtain⟨h1,h2,h3,h4,h5⟩:=hk
 simp only at h1 h2 h3 h4 h5 hs hd
 have E:=aW2 (tos,id,ttl,pr,kp,s,d) (20+X.length) X
 simp only at E
 have w2e:aK (iT (tos,id,ttl,pr,kp,s,d) (20+X.length)++X) 2=20+X.length:=by
  rw[E];show aK (_::_::_) 0=_;rw[gk];exact lV ab ab
 have w4e:aK (iT (tos,id,ttl,pr,kp,s,d) (20+X.length)++X) 4=id:=by
  rw[E];show aK (_::_::_) 0=_;rw[gk];exact lV h4 h5
 have w6e:aK (iT (tos,id,ttl,pr,kp,s,d) (20+X.length)++X) 6=if kp then 16384 else 0:=by
  rw[E];show aK (_::_::_) 0=_;rw[gk];cases kp <;> rfl
 have w10e:aK (iT (tos,id,ttl,pr,kp,s,d) (20+X.length)++X) 10=cX (ic (tos,id,ttl,pr,kp,s,d) (20+X.length)):=by
  rw[E];show aK (_::_::_) 0=_;rw[gk];exact lV hc.1 hc.2
 have hF:cf (iT (tos,id,ttl,pr,kp,s,d) (20+X.length)++X)=(tos,id,ttl,pr,kp,s,d):=by
  unfold cf;rw[w4e,w6e,E];have e1:decide ((if kp=true then (16384:Int) else 0)=16384)=kp:=by cases kp <;> rfl
  rw[e1];have e2:=JH hs;have e3:=JH hd;show (tos,id,ttl,pr,kp,dO [_,_,_,_],dO [_,_,_,_])=_;rw[Bz,Bz,e2,e3]
 refine⟨hF,?_,?_⟩
 .have hb:=Pe hbb ab (by rw[E];rfl) (by rw[w6e];cases kp <;> simp);rw[hF,w2e,w10e] at hb;have ht:(iT (tos,id,ttl,pr,kp,s,d) (20+X.length)++X).take 20=iT (tos,id,ttl,pr,kp,s,d) (20+X.length):=by
   rw[List.take_append_of_le_length (by rw[rG];omega),dm (by rw[rG];omega)]
  have hp:d5 (iT (tos,id,ttl,pr,kp,s,d) (20+X.length)++X)=0:=by
   rw[d5,af ab,af,af]
   .rw[pi,w10e,← hb.1]
   .rw[pi];refine⟨by rw[E];rfl,by rw[w6e];cases kp <;> simp,by rw[w2e];omega⟩
  rw[bT,af (λk=>k hp),af (by rw[w2e,hlen];omega),af (by rw[w2e];omega)]
 .rw[List.drop_append,rG,List.drop_of_length_le (by rw[rG];omega)];simp
theorem Qc{p:cU}(h:f5 p=0)(hs:u32 p.1)(hd:u32 p.2.1):cf (build p)=sX p/\bT (build p)=0/\(build p).drop 20=fS p:=by
 rw[EH h]
 refine Iy (I9 h) hs hd ?_ (Qw h)
 rcases BG h with h|h <;> omega
theorem Ws(t n:Int):bQ true (cN (false,21075,t,w2 n))=bQ true (cN (false,21075,t,[0,0]))+(n/256%256*256+n%256):=by
 simp[cN,w2,bQ];omega
theorem aj1(f n:Int):bQ true (fx (20000+f,33434,w2 n))=bQ true (fx (20000+f,33434,[0,0]))+(n/256%256*256+n%256):=by
 simp[fx,w2,bQ];omega
theorem a01(t:Int):2048<=bQ true (cN (false,21075,t,[0,0])):=by
 simp[cN,w2,bQ];omega
theorem Ok{p:cU}(h:kQ p):cX (cN (lH p))=16384+p.2.2.2.1:=by
 have hn:=Pm h
 obtain⟨⟨f0,f1⟩,-⟩:=h
 have e:qD p=oc (65535-(16384+p.2.2.2.1)+cX (cN (false,21075,p.2.2.2.2.1,[0,0]))):=rfl
 have hp:=a01 p.2.2.2.2.1
 unfold lH cX
 rw[Ws,lV ab hn.2,e]
 unfold cX
 generalize bQ true (cN (false,21075,p.2.2.2.2.1,[0,0]))=S at hp ⊢
 unfold oc
 rw[af (by omega:¬ S=0)]
 rw[af ab,af ab]
 omega
theorem aj3{p:cU}(h:kQ p):jO p.1 p.2.1 (fx (ru p))=p.2.2.2.2.1+1:=by
 have hn:=Oq h
 obtain⟨-,⟨t0,t1⟩,-⟩:=h
 have l0:(fx (20000+p.2.2.2.1,33434,[0,0])).length=10:=rfl
 have l1:(fx (ru p)).length=10:=rfl
 have eX:vF p=oc (65535-(p.2.2.2.2.1+1)+fB p.1 p.2.1 17 (fx (20000+p.2.2.2.1,33434,[0,0]))):=rfl
 have eN:tV p=if vF p=0 then 65535 else vF p:=rfl
 have hp:=Pz p.1 p.2.1 17 10
 have h2:=(zK true (fx (20000+p.2.2.2.1,33434,[0,0])) (Jn _)).1
 have eP:fB p.1 p.2.1 17 (fx (20000+p.2.2.2.1,33434,[0,0]))=65535-oc (bQ true (qX p.1 p.2.1 17 10)+bQ true (fx (20000+p.2.2.2.1,33434,[0,0]))):=by
  rw[fB,af (by rw[l0];omega),cX,Je,l0];rfl
 have eQ:fB p.1 p.2.1 17 (fx (ru p))=65535-oc (bQ true (qX p.1 p.2.1 17 10)+(bQ true (fx (20000+p.2.2.2.1,33434,[0,0]))+tV p)):=by
  rw[fB,af (by rw[l1];omega),cX,Je,l1];unfold ru;rw[aj1,lV ab hn.2];rfl
 rw[jO,eQ]
 rw[eP] at eX
 generalize bQ true (qX p.1 p.2.1 17 10)=H at *
 generalize bQ true (fx (20000+p.2.2.2.1,33434,[0,0]))=S at *
 generalize tV p=N at *
 generalize vF p=X at *
 generalize p.2.2.2.2.1=t at *
 have hH:(17:Int)%256=17:=rfl
 rw[hH] at hp
 clear eP eQ l0 l1 hH
 have hN:(N-(65535-(t+1)+(65535-(H+S))))%65535=0:=by
  unfold oc at eX;rw[af (by omega:¬ H+S=0)] at eX;split at eX <;> split at eN <;> omega
 unfold oc
 rw[af (by omega:¬ H+(S+N)=0)]
 split <;> omega
def xO(p:cU):Int:=if p.2.2.1=1 then 2048 else 20000+p.2.2.2.1
def xy(p:cU):Int:=if p.2.2.1=1 then 16384+p.2.2.2.1 else if p.2.2.1=17 then 33434 else 80
theorem ad9{p:cU}(h:f5 p=0):aK (fS p) 0=xO p/\aK (fS p) 2=xy p:=by
 obtain⟨h1|h1|h1,h2⟩:=oa.1 h
 .have hs:=Ok h2;have hf:=h2.1;rw[yg h2 h1,xO,xy,am h1,am h1,u9 (by show 0+2<=10;omega) ab,DE (by show 2+2<=10;omega) ab ab,hs];exact⟨rfl,rfl⟩
 .have hf:=h2.1;rw[ya h2 h1,xO,xy,af ab,af ab,af ab,u9 (by show 0+2<=20;omega) ab,u9 (by show 2+2<=20;omega) ab];constructor
  .show aK (_::_::_) 0=_;rw[gk];exact lV (n:=20000+p.2.2.2.1) ab ab
  .rfl
 .have hf:=h2.1;rw[BE h2 h1,xO,xy,af ab,af ab,am h1,u9 (by show 0+2<=10;omega) ab,u9 (by show 2+2<=10;omega) ab];constructor
  .show aK (_::_::_) 0=_;rw[gk];exact lV (n:=20000+p.2.2.2.1) ab ab
  .rfl
def av7:Cn:=⟨[.box 105 iA],[.agg AS],λd=>[ay d.1],λd y=>ay y.2.1/\u32 y.1.1.1/\u32 y.1.1.2.1,λd h=>⟨((zk,()),(d.1,())),h.1,by simp[u32,zk],by simp[u32,zk]⟩⟩
theorem av5 :
 ∀(a:ad)(b:Int),((a.length<=maxLen/\ ∀(c:Int),c∈a->0<=c/\c<=255)/\aj b)/\True->0<=b/\b<=(ac a)->ay (a,b)/\ ∀(c:Int)(d:ad)(e:Int),ay (d,e)/\0<=c/\c<=4294967295->ay (d,e)/\ ∀(f:Int)(g:ad)(h:Int),ay (g,h)/\0<=f/\f<=4294967295->ay (g,h)/\ ∀(i:Int)(j:ad)(k:Int),ay (j,k)/\(i=17∨i=1∨i=6)->ay (j,k)/\ ∀(l:Int)(m:ad)(n:Int),0<=l/\(l<6∨l=0)/\ay (m,n)->ay (m,n)/\ ∀(o:Int)(p:ad)(q:Int),0<=o/\(o<2000∨o=0)/\ay (p,q)->ay (p,q)/\ ∀(r:Int)(s:ad)(t:Int),0<=r/\(r<6∨r=0)/\ay (s,t)->ay (s,t)/\ ∀(u:Int)(v:ad)(w:Int),0<=u/\(u<12∨u=0)/\ay (v,w)->ao (decide (u=8)) (ay (v,w)/\u32 c/\u32 f) (ao (decide (u=9)) (ay (v,w)/\ ∀(x:Int)(y:ad)(z:Int),ay (y,z)/\aj x->ay (y,z)/\ ∀(A:Int)(B:ad)(C:Int),ay (B,C)/\aj A->ay (B,C)/\u32 c/\u32 f) (ao (decide (u=10)) (ay (v,w)/\ ∀(x:Int)(y:ad)(z:Int),ay (y,z)/\aj x->ay
 (y,z)/\u32 c/\u32 f) (ao (decide (u=11)) (ay (v,w)/\ ∀(x:Int)(y:ad)(z:Int),ay (y,z)/\aj x->ay (y,z)/\u32 c/\u32 f) (ay (v,w)/\u32 c/\u32 f)))):=by
  delta ac;rintro l p-h;refine⟨h,?_⟩;rintro s _ _ ⟨hc,s0,s1⟩;refine⟨hc,?_⟩;rintro d _ _ ⟨hc,d0,d1⟩;refine⟨hc,?_⟩;rintro _ _ _ ⟨hc,-⟩;refine⟨hc,?_⟩;rintro _ _ _ ⟨-,-,hc⟩;refine⟨hc,?_⟩;rintro _ _ _ ⟨-,-,hc⟩;refine⟨hc,?_⟩;rintro _ _ _ ⟨-,-,hc⟩;refine⟨hc,?_⟩;rintro _ _ _ ⟨-,-,hc⟩;have fin:∀ q,ay q->ay q/\u32 s/\u32 d:=λq hq=>⟨hq,⟨s0,s1⟩,d0,d1⟩
  refine av (λ_=>fin _ hc) (λ_=>av (λ_=>⟨hc,?_⟩) (λ_=>av (λ_=>⟨hc,?_⟩) (λ_=>av (λ_=>⟨hc,?_⟩) (λ_=>fin _ hc))))
  .rintro _ _ _ ⟨hc,-⟩;refine⟨hc,?_⟩;rintro _ _ _ ⟨hc,-⟩;exact fin _ hc
  .rintro _ _ _ ⟨hc,-⟩;exact fin _ hc
  .rintro _ _ _ ⟨hc,-⟩;exact fin _ hc
theorem ab4:aD 70 av7.spec:=nC Tryz.func70 (au (au (au (au aE ES) Nf) ra) QS) aR av5
def Tz:Cn:=⟨[.box 105 iA],[.agg AS],λd=>[ay d.1],λd y=>ay y.2.1/\u32 y.1.1.1/\u32 y.1.1.2.1/\f5 y.1.1=0,λd h=>⟨(((0,0,1,0,0,1),()),(d.1,())),h.1,by simp[u32],by simp[u32],rfl⟩⟩
theorem ag2 :
 ∀(a:ad)(b:Int),((a.length<=maxLen/\ ∀(c:Int),c∈a->0<=c/\c<=255)/\aj b)/\True->0<=b/\b<=(ac a)->ay (a,b)/\ ∀(c d e f g h:Int)(i:ad)(j:Int),ay (i,j)/\u32 c/\u32 d->ao (! decide (f5 (c,d,e,f,g,h)=0)) (ay (i,j)/\ ∀(k:Int)(l:ad)(m:Int),ay (l,m)/\(k=17∨k=1∨k=6)->ay (l,m)/\ ∀(n:Int)(o:ad)(p:Int),0<=n/\(n<4∨n=0)/\ay (o,p)->ay (o,p)/\ ∀(q:Int)(r:ad)(s:Int),0<=q/\(q<100∨q=0)/\ay (r,s)->ay (r,s)/\ ∀(t:Int)(u:ad)(v:Int),0<=t/\(t<5∨t=0)/\ay (u,v)->ay (u,v)/\u32 c/\u32 d/\f5 (c,d,k,n,q,ai ((1:Int)+t))=0) (ay (i,j)/\u32 c/\u32 d/\f5 (c,d,e,f,g,h)=0):=by
  delta ai ac;rintro l p-h;refine⟨h,?_⟩;rintro s d pr f t l _ _ ⟨hc,hs,hd⟩;refine av (λ_=>⟨hc,?_⟩) (λhn=>⟨hc,hs,hd,by simpa using hn⟩);rintro pr _ _ ⟨hc,hp⟩;refine⟨hc,?_⟩;rintro f _ _ ⟨f0,f1,hc⟩;refine⟨hc,?_⟩;rintro t _ _ ⟨t0,t1,hc⟩;refine⟨hc,?_⟩;rintro l _ _ ⟨l0,l1,hc⟩;rw[aQ (n:=1+l) ab ab];refine⟨hc,hs,hd,oa.2 ⟨?_,⟨?_,?_⟩,⟨?_,?_⟩,?_,?_⟩⟩ <;> simp only[kF] <;> omega
theorem XD:aD 26 Tz.spec:=nC Tryz.func26 (au (au (au (au aE ab4) Kw) Nf) ra) aR ag2
abbrev kW:CT := .pair cy cI
def gO(a b:Int):Int:=if a<b then -1 else if b<a then 1 else 0
abbrev d8:Type:=Int×Int
def gD(p q:d8):Int:=if gO p.1 q.1≠0 then gO p.1 q.1 else gO p.2 q.2
def mo:ad->Int
 | []=>0
 | x::xs=>if x≠0 then x else mo xs
theorem XR{l:ad}{j:Int}(h0:0<=j)(h1:j<l.length):l.drop j.toNat=l.getD j.toNat default::l.drop (j+1).toNat:=by
 have hj:j.toNat<l.length:=ab
 rw[tL hj,ce,cF hj,fu]
 congr 2;omega
theorem Qj{α:Type} [Inhabited α] {l:List α} {j:Int} (h0:0<=j) (h1:j<l.length) {y:α} (hy:y∈l.take (j+1).toNat):y∈l.take j.toNat∨y=l.getD j.toNat default:=by
 have hj:j.toNat<l.length:=ab
 have e:(j+1).toNat=j.toNat+1:=ab
 rw[e,uo hj] at hy
 rcases dH.1 hy with hy|hy
 .exact .inl hy
 .right;simp at hy;rw[ce,cF hj,fu];exact hy
theorem aC4{l:ad}{v j:Int}(h0:0<=j)(h1:j<l.length)(hv:l.getD j.toNat default=v)(h2:∀ y∈l.take j.toNat,y≠v):l.idxOf v=j.toNat:=by
 have hj:j.toNat<l.length:=ab
 rw[ce,cF hj,fu] at hv
 have e:l=l.take j.toNat++l[j.toNat]::l.drop (j.toNat+1):=by
  rw[← tL hj,mw]
 rw[e,List.idxOf_append,af (λhm=>h2 v hm rfl),hv,List.idxOf_cons_self]
 simp;omega
def UI:Ct:=⟨[.val cI],[.val .bool],λ_=>[],λ_=>((false,()),())⟩
theorem au7 :
 ∀(a:Int),aj a/\True->True->(! decide (a=a))=false:=by
  rintro x - -;simp
theorem aa0:aD 184 UI.spec:=aH Tryz.func184 aE aR au7
def T4:Ct:=⟨[.val cy],[.val .bool],λ_=>[],λ_=>((false,()),())⟩
theorem YI :
 ∀(a:Int),(0<=a/\a<=4294967295)/\True->True->(! decide (a=a))=false:=by
  rintro x - -;simp
theorem aI5:aD 256 T4.spec:=aH Tryz.func256 aE aR YI
def aN9:Ct:=⟨[.val cI,.val cI],[.val cI],λ_=>[],λd=>((gO d.1 d.2.1,()),())⟩
def yn(a b:Int) :=
 ao (decide (a<b)) (-1=gO a b) (ao (decide (b<a)) (1=gO a b) (0=gO a b))
theorem aG1 :
 ∀(a b:Int),aj a/\aj b/\True->True->(yn a b):=by
  delta yn;rintro x y - -;unfold gO;refine av (λh=>?_) (λh=>av (λh2=>?_) (λh2=>?_))
  .rw[am (aL h)]
  .rw[af (aO h),am (aL h2)]
  .rw[af (aO h),af (aO h2)]
theorem MQ:aD 132 aN9.spec:=aH Tryz.func132 (au aE aa0) aR aG1
def aq8:Ct:=⟨[.val cy,.val cy],[.val cI],λ_=>[],λd=>((gO d.1 d.2.1,()),())⟩
theorem W4 :
 ∀(a b:Int),(0<=a/\a<=4294967295)/\(0<=b/\b<=4294967295)/\True->True->(yn a b):=by
  delta yn;rintro x y - -;unfold gO;refine av (λh=>?_) (λh=>av (λh2=>?_) (λh2=>?_))
  .rw[am (aL h)]
  .rw[af (aO h),am (aL h2)]
  .rw[af (aO h),af (aO h2)]
theorem ab2:aD 234 aq8.spec:=aH Tryz.func234 (au aE aI5) aR W4
def QO:Ct:=⟨[.val (.sl cI)],[.val cI],λ_=>[],λd=>((mo d.1,()),())⟩
def au0:bu QO.ps->bS:=(λd=>{loops:=(bm 3 (λS=>{ι:=Int,μ:=λi=>(d.1.length-i).toNat,inv:=λi=>0<=i/\i<=d.1.length/\mo d.1=mo (d.1.drop i.toNat),keep:=[3,6,7],slots:=λi=>[(8,.int .i64 i)]}) ci)})
theorem ao1 :
 ∀(a:ad),(a.length<=maxLen/\ ∀(b:Int),b∈a->aj b)/\True->True->(∃(b:Int),(0<=b/\b<=(ac a)/\mo a=mo (drop b.toNat a))/\(0:Int)=0/\a=a/\(ac a)=(ac a)/\0=b/\True)/\ ∀(b:Int),0<=b/\b<=(ac a)/\mo a=mo (drop b.toNat a)->ao (decide (b<(ac a))) (0<=b/\b<(ac a)/\ao (! decide (ah a b=0)) (ah a b=mo a) (∃(c:Int),(0<=c/\c<=(ac a)/\mo a=mo (drop c.toNat a))/\toNat ((ac a) -c)<toNat ((ac a) -b)/\(0:Int)=0/\a=a/\(ac a)=(ac a)/\ai (b+1)=c/\True)) (0=mo a):=by
  delta ai ah ac;rintro x ⟨⟨hl,-⟩,-⟩ -;simp only[maxLen] at hl;refine⟨⟨0,⟨ab,ab,rfl⟩,aM⟩,?_⟩;rintro j ⟨h0,h1,h2⟩;refine bt (λhj=>?_) (λhj=>?_)
  .have e:=XR (l:=x) h0 hj;rw[e] at h2;refine⟨h0,hj,av (λhz=>?_) (λhz=>?_)⟩
   .have hz:x.getD j.toNat default≠0:=by simpa only[oX,sC] using hz
    rw[h2,mo,am hz]
   .have hz:¬ x.getD j.toNat default≠0:=by simpa only[rT,jz,ne_eq,pi] using hz
    rw[mo,af hz] at h2;exact⟨j+1,⟨ab,ab,h2⟩,ab,aM⟩
  .rw[h2,List.drop_eq_nil_of_le ab];rfl
theorem RV:aD 131 QO.spec:=aH Tryz.func131 aE au0 ao1
def Us:Ct:=⟨[.agg kW,.agg kW],[.val cI],λ_=>[],λd=>((gD d.1 d.2.1,()),())⟩
theorem ay8 :
 ∀(a b c d:Int),((0<=a/\a<=4294967295)/\aj b)/\((0<=c/\c<=4294967295)/\aj d)/\True->True->mo [gO a c,gO b d]=gD (a,b) (c,d):=by
  rintro x y z u - -;simp only[mo,gD];split
  .rfl
  .split
   .rfl
   next h=>simp at h;exact h.symm
theorem O7:aD 199 Us.spec:=aH Tryz.func199 (au (au (au aE ab2) MQ) RV) aR ay8
def Wq:Ct:=⟨[.val cI,.val cI],[.val cI],λ_=>[],λd=>((gO d.1 d.2.1,()),())⟩
theorem aY6 :
 ∀(a b:Int),aj a/\aj b/\True->True->(yn a b):=by
  delta yn;rintro x y - -;unfold gO;refine av (λh=>?_) (λh=>av (λh2=>?_) (λh2=>?_))
  .rw[am (aL h)]
  .rw[af (aO h),am (aL h2)]
  .rw[af (aO h),af (aO h2)]
theorem TH:aD 216 Wq.spec:=aH Tryz.func216 aE aR aY6
def ZL:Ct:=⟨[.agg kW,.agg kW],[.val cI],λ_=>[],λd=>((gD d.1 d.2.1,()),())⟩
theorem aL0 :
 ∀(a b c d:Int),((0<=a/\a<=4294967295)/\aj b)/\((0<=c/\c<=4294967295)/\aj d)/\True->True->ao (! decide (a=c)) (gO (ai a) (ai c)=gD (a,b) (c,d)) (gO b d=gD (a,b) (c,d)):=by
  delta ai;rintro x y z u ⟨⟨⟨h0,h1⟩,-⟩,⟨⟨h2,h3⟩,-⟩,-⟩ -;unfold gD;refine av (λh=>?_) (λh=>?_)
  .simp at h;rw[aQ ab ab,aQ ab ab,am (by simp only[gO];split <;> first|omega|(split <;> omega))]
  .simp at h;subst h;rw[af (by simp[gO])]
theorem MD:aD 172 ZL.spec:=aH Tryz.func172 (au aE TH) aR aL0
def sz(n:Int):Int:=2^(32-n).toNat
def ga(p:d8):Bool:=decide (0<=p.2/\p.2<=32/\p.1%sz p.2=0)
def eM(p:d8)(a:Int):Bool:=ga p&&decide (p.1<=a/\a<p.1+sz p.2)
def sO(p:d8):(Int×Int)×Int:=if ga p then ((p.1,p.1+sz p.2-1),0) else ((0,0),10)
theorem KU(n:Int):0<sz n:=Int.pow_pos (by decide)
theorem aw0{n:Int}(h0:0<=n):sz n<=4294967296:=by
 unfold sz
 have h:(32-n).toNat<=32:=ab
 have:(2:Nat)^(32-n).toNat<=2^32:=Nat.pow_le_pow_right bi h
 have e:((2:Int)^(32-n).toNat)=((2^(32-n).toNat:Nat):Int):=by rw[Int.natCast_pow];rfl
 rw[e];omega
theorem YC(n:Int):sz n=((2^(32-n).toNat:Nat):Int):=by unfold sz;rw[Int.natCast_pow];rfl
theorem xT{n:Int}(h0:0<=n)(h1:n<=32):∃ k:Nat,k<=32/\n=32-k/\sz n=((2^k:Nat):Int):=⟨(32-n).toNat,ab,ab,YC n⟩
theorem aY8{n:Int}(h0:0<=n)(h1:n<=32):dX .u32 4294967295 (32-n)=4294967296-sz n:=by
 obtain⟨k,hk,rfl,e⟩:=xT h0 h1
 rw[e]
 have:(32:Int)-(32-(k:Int))=(k:Int):=ab
 rw[this]
 unfold dX
 rw[IntKind.wrap_u32]
 have hm:min ((k:Int)).toNat IntKind.u32.bits=k:=by simp only[IntKind.bits,Int.toNat_natCast];omega
 rw[hm]
 have hd:∀ k:Nat,k<=32->(4294967295*2^k:Int)%4294967296=4294967296-((2^k:Nat):Int):=bi
 exact hd k hk
theorem Ue{n:Int}(h0:0<=n)(h1:n<=32):dX .i64 1 (32-n)=sz n:=by
 obtain⟨k,hk,rfl,e⟩:=xT h0 h1
 rw[e]
 have:(32:Int)-(32-(k:Int))=(k:Int):=ab
 rw[this]
 unfold dX
 have hm:min ((k:Int)).toNat IntKind.i64.bits=k:=by simp only[IntKind.bits,Int.toNat_natCast];omega
 rw[hm,Int.one_mul]
 have e2:((2:Int)^k)=((2^k:Nat):Int):=by rw[Int.natCast_pow];rfl
 have:(2:Nat)^k<=2^32:=Nat.pow_le_pow_right bi hk
 rw[e2]
 generalize 2^k=s at this ⊢
 exact aQ ab ab
theorem Zk{x n:Int}(h0:0<=x)(h1:x<=4294967295)(h2:0<=n)(h3:n<=32):bits .andNot .u32 x (4294967296-sz n)=x%sz n:=by
 obtain⟨k,hk,rfl,e⟩:=xT h2 h3
 have hp:(2:Nat)^k<=2^32:=Nat.pow_le_pow_right bi hk
 have hp0:0<(2:Nat)^k:=Nat.two_pow_pos k
 rw[e,u32_andNot _ _ h0 ab ab ab]
 have e1:4294967295-((4294967296:Int)-((2^k:Nat):Int)).toNat=2^k-1:=ab
 rw[e1,yd]
 obtain⟨m,rfl⟩:=nH h0
 rw[Int.toNat_natCast,Int.natCast_emod]
theorem aJ5{a k:Nat}(hk:k<=32)(ha:a<4294967296):a &&& (4294967296-2^k)=a/2^k*2^k:=by
 have e:4294967296-2^k=(2^(32-k)-1) <<< k:=by
  rw[Nat.shiftLeft_eq,Nat.sub_mul,← Nat.pow_add,jH];congr 1;rw[show 32-k+k=32 from by omega]
 rw[e,← Nat.shiftRight_eq_div_pow,← Nat.shiftLeft_eq]
 apply Nat.eq_of_testBit_eq
 intro i
 simp only[Nat.testBit_and,Nat.testBit_shiftLeft,Nat.testBit_two_pow_sub_one,Nat.testBit_shiftRight]
 by_cases hi:k<=i
 .have e2:k+(i-k)=i:=ab;simp only[hi,decide_true,Bool.true_and,e2];by_cases h32:i<32
  .have:i-k<32-k:=ab;simp[this]
  .have:a.testBit i=false:=Nat.testBit_lt_two_pow (Nat.lt_of_lt_of_le ha (Nat.pow_le_pow_right (show 0<2 by decide) (by omega:32<=i)));simp[this]
 .simp[hi]
theorem XE{a n x:Int}(h0:0<=a)(h1:a<=4294967295)(h2:0<=n)(h3:n<=32)(hx:0<=x)(hm:x%sz n=0) :
  (bits .and .u32 a (4294967296-sz n)=x)↔(x<=a/\a<x+sz n):=by
 obtain⟨k,hk,rfl,e⟩:=xT h2 h3
 have hp:(2:Nat)^k<=2^32:=Nat.pow_le_pow_right bi hk
 have hp0:0<(2:Nat)^k:=Nat.two_pow_pos k
 rw[e] at hm ⊢
 rw[u32_and _ _ h0 ab ab ab]
 have e1:((4294967296:Int)-((2^k:Nat):Int)).toNat=4294967296-2^k:=ab
 rw[e1,aJ5 hk ab]
 obtain⟨m,rfl⟩:=nH h0
 obtain⟨y,rfl⟩:=nH hx
 rw[Int.toNat_natCast]
 have hm:y%2^k=0:=by
  have:((y%2^k:Nat):Int)=0:=by rw[Int.natCast_emod];exact hm
  omega
 generalize 2^k=s at *
 have d:=Nat.div_add_mod m s
 have dl:=Nat.mod_lt m hp0
 have dy:=Nat.div_add_mod y s
 rw[hm] at dy
 rw[Nat.mul_comm] at d
 constructor
 .intro h;omega
 .rintro⟨h,h'⟩;have hq:m/s=y/s:=by
   apply Nat.le_antisymm
   .have:m<(y/s+1)*s:=by rw[fN,jH,Nat.mul_comm (y/s)];omega
    have:=Nat.div_lt_of_lt_mul (Nat.mul_comm _ _▸this:m<s*(y/s+1));omega
   .exact Nat.div_le_div_right ab
  rw[hq,Nat.mul_comm];omega
theorem Tk{x n:Int}(h2:0<=n)(h3:n<=32)(h0:0<=x)(h1:x<=4294967295)(hm:x%sz n=0):x+sz n<=4294967296:=by
 obtain⟨k,hk,rfl,e⟩:=xT h2 h3
 rw[e] at hm ⊢
 have hd:(4294967296:Nat)=2^k*2^(32-k):=by rw[← Nat.pow_add,show k+(32-k)=32 from by omega]
 have hp0:0<(2:Nat)^k:=Nat.two_pow_pos k
 obtain⟨y,rfl⟩:=nH h0
 have hm:y%2^k=0:=by
  have:((y%2^k:Nat):Int)=0:=by rw[Int.natCast_emod];exact hm
  omega
 have dy:=Nat.div_add_mod y (2^k)
 rw[hm] at dy
 generalize 2^(32-k)=q at hd
 generalize 2^k=s at *
 have:y/s<q:=by
  rcases Nat.lt_or_ge (y/s) q with h|h
  .exact h
  .have:=Nat.mul_le_mul_left s h;omega
 have:=Nat.mul_le_mul_left s (show y/s+1<=q from this)
 rw[Nat.mul_add,Nat.mul_one] at this
 omega
theorem Ua{a n:Int}(h2:0<=n)(h3:n<=32)(h0:0<=a)(h1:a<=4294967295):ga (dX .u32 (de .u32 a (32-n)) (32-n),n)=true:=by
 obtain⟨k,hk,rfl,e⟩:=xT h2 h3
 have hp:(2:Nat)^k<=2^32:=Nat.pow_le_pow_right bi hk
 have hp0:0<(2:Nat)^k:=Nat.two_pow_pos k
 have:(32:Int)-(32-(k:Int))=(k:Int):=ab
 simp only[ga,e,this,jz]
 refine⟨ab,ab,?_⟩
 unfold dX de
 have hm:min ((k:Int)).toNat IntKind.u32.bits=k:=by simp only[IntKind.bits,Int.toNat_natCast];omega
 rw[hm]
 have e2:((2:Int)^k)=((2^k:Nat):Int):=by rw[Int.natCast_pow];rfl
 obtain⟨m,rfl⟩:=nH h0
 rw[e2,zm _ ab,← Int.natCast_ediv,← Int.natCast_mul,oW ab (by
  have:=Nat.div_mul_le_self m (2^k);omega),← Int.natCast_emod,Nat.mul_mod_left]
 rfl
def aF4:Ct:=⟨[.val cI],[.val cy],λd=>[0<=d.1/\d.1<=32],λd=>((4294967296-sz d.1,()),())⟩
theorem an8 :
 ∀(a:Int),aj a/\True->0<=a/\a<=32->0<=ai ((32:Int) -a)/\dX IntKind.u32 (4294967295:Int) (ai ((32:Int) -a))=4294967296 -sz a:=by
  delta ai;rintro x-⟨h0,h1⟩;rw[aQ ab ab];exact⟨ab,aY8 h0 h1⟩
theorem Ni:aD 201 aF4.spec:=aH Tryz.func201 aE aR an8
def aM8:Ct:=⟨[.agg kW],[.val .bool],λ_=>[],λd=>((ga d.1,()),())⟩
theorem Tv :
 ∀(a b:Int),((0<=a/\a<=4294967295)/\aj b)/\True->True-> ∀(c:Bool),c=decide (0<=b)->(ae c)/\(ae c)/\(aq c)/\ ∀(d:Bool),(d=bif c then decide (b<=32) else false)->(ae d)/\(ae d)/\(d->(aq d)/\(0<=b/\b<=32)/\True)/\(d->(aq d)/\(aq d)/\True)/\(ae d)/\(aq d)/\(bif d then decide (bits BinOp.andNot IntKind.u32 a ((4294967296:Int) -sz b)=0) else false)=ga (a,b):=by
  delta ae aq;rintro x n ⟨⟨⟨h0,h1⟩,-⟩,-⟩ -
  (repeat (refine bO ?_;repeat refine bP ?_));by_cases hn:0<=n/\n<=32
  .have:=Zk (n:=n) h0 h1 hn.1 hn.2;simp[ga,hn,this]
  .simp only[ga];by_cases h2:0<=n
   .have:¬ n<=32:=λh=>hn ⟨h2,h⟩;simp[this]
   .simp[h2]
theorem NI:aD 200 aM8.spec:=aH Tryz.func200 (au aE Ni) aR Tv
def aN5:Ct:=⟨[.agg kW,.val cy],[.val .bool],λ_=>[],λd=>((eM d.1 d.2.1,()),())⟩
theorem WM :
 ∀(a b c:Int),((0<=a/\a<=4294967295)/\aj b)/\(0<=c/\c<=4294967295)/\True->True-> ∀(d:Bool),d=ga (a,b)->(ae d)/\(d->(aq d)/\(0<=b/\b<=32)/\True)/\(d->(aq d)/\(aq d)/\True)/\(ae d)/\(d->(aq d)/\(aq d)/\True)/\(aq d)/\(bif d then decide (bits BinOp.and IntKind.u32 c ((4294967296:Int) -sz b)=a) else false)=eM (a,b) c:=by
  delta ae aq;rintro x n a ⟨⟨⟨h0,h1⟩,-⟩,⟨h2,h3⟩,-⟩ -;have hv:∀ b:Bool,b=ga (x,n)->b=true->0<=n/\n<=32/\x%sz n=0:=by
   rintro b rfl h;simpa[ga] using h
  rintro b hb;have hr:=hv b hb;refine⟨aC,λh=>⟨λ_=>h,⟨(hr h).1,(hr h).2.1⟩,bv⟩,aC,aC,aC,aC,?_⟩;unfold eM;rw[← hb];cases b with
  | false=>rfl
  | true =>
   obtain⟨r1,r2,r3⟩:=hr rfl;have:=XE (n:=n) (x:=x) h2 h3 r1 r2 h0 r3;rw[sY];simpa using this
theorem K2:aD 148 aN5.spec:=aH Tryz.func148 (au (au aE Ni) NI) aR WM
def ax5:Ct:=⟨[.val cI],[.val cI],λd=>[0<=d.1/\d.1<=32],λd=>((sz d.1,()),())⟩
theorem ae0 :
 ∀(a:Int),aj a/\True->0<=a/\a<=32->0<=ai ((32:Int) -a)/\dX IntKind.i64 (1:Int) (ai ((32:Int) -a))=sz a:=by
  delta ai;rintro x-⟨h0,h1⟩;rw[aQ ab ab];exact⟨ab,Ue h0 h1⟩
theorem OG:aD 215 ax5.spec:=aH Tryz.func215 aE aR ae0
def ap9:Ct:=⟨[.agg kW],[.val .bool],λ_=>[],λd=>((ga d.1,()),())⟩
theorem ai7 :
 ∀(a b:Int),((0<=a/\a<=4294967295)/\aj b)/\True->True-> ∀(c:Bool),c=decide (0<=b)->(ae c)/\(ae c)/\(aq c)/\ ∀(d:Bool),(d=bif c then decide (b<=32) else false)->(ae d)/\(ae d)/\(ae d)/\(d->(aq d)/\(0<=b/\b<=32)/\True)/\(d->(aq d)/\(aq d)/\sz b≠(0:Int)/\True)/\(ae d)/\(aq d)/\(bif d then decide (Int.tmod (ai a) (sz b)=0) else false)=ga (a,b):=by
  delta ae aq ai;rintro x n ⟨⟨⟨h0,h1⟩,-⟩,-⟩ -;have hp:=KU n
  (repeat (refine bO ?_;repeat refine bP ?_));rw[aQ ab ab,uT h0];simp only[ga];by_cases h2:0<=n
  .by_cases h3:n<=32
   .simp[h2,h3]
   .simp[h2,h3]
  .simp[h2]
theorem Lf:aD 171 ap9.spec:=aH Tryz.func171 (au aE OG) aR ai7
def av0:Ct:=⟨[.agg kW],[.agg (.pair cy cy),.val cI],λ_=>[],λd=>(((sO d.1).1,(sO d.1).2,()),())⟩
theorem aC7 :
 ∀(a b:Int),((0<=a/\a<=4294967295)/\aj b)/\True->True->ao (! ga (a,b)) (((0:Int),(0:Int))=(sO (a,b)).1/\10=(sO (a,b)).2) ((0<=b/\b<=32)/\(a,IntKind.wrap .u32 (ai (ai (ai a+sz b) -1)))=(sO (a,b)).1/\0=(sO (a,b)).2):=by
  delta ai;rintro x n ⟨⟨⟨h0,h1⟩,-⟩,-⟩ -;unfold sO;refine av (λh=>?_) (λh=>?_)
  .have h:¬ ga (x,n)=true:=by simpa using h
   rw[af h];exact⟨rfl,rfl⟩
  .have h:ga (x,n)=true:=by simpa using h
   rw[am h];have hv:0<=n/\n<=32/\x%sz n=0:=by simpa[ga] using h
   have hfit:=Tk hv.1 hv.2.1 h0 h1 hv.2.2;have hp:=KU n;have hle:=aw0 hv.1;refine⟨⟨hv.1,hv.2.1⟩,?_,rfl⟩;rw[aQ (n:=x) ab ab,aQ (n:=x+sz n) ab ab,aQ (n:=x+sz n-1) ab ab,oW ab ab]
theorem aJ1:aD 277 av0.spec:=aH Tryz.func277 (au (au aE Lf) OG) aR aC7
def VB:Ct:=⟨[.agg kW,.val cy],[.val .bool],λ_=>[],λd=>((eM d.1 d.2.1,()),())⟩
theorem aK7 :
 ∀(a b c:Int),((0<=a/\a<=4294967295)/\aj b)/\(0<=c/\c<=4294967295)/\True->True-> ∀(d e f:Int),(d,e)=(sO (a,b)).1/\f=(sO (a,b)).2-> ∀(g:Bool),g=decide (f=0)->(ae g)/\(g->(aq g)/\(aq g)/\True)/\(aq g)/\ ∀(h:Bool),(h=bif g then decide (d<=c) else false)->(ae h)/\(h->(aq h)/\(aq h)/\True)/\(aq h)/\(bif h then decide (c<=e) else false)=eM (a,b) c:=by
  delta ae aq;rintro x n a - -;rintro lo hi e ⟨h1,h2⟩;unfold eM;unfold sO at h1 h2;cases hv:ga (x,n) with
  | false =>
   rw[hv] at h1 h2;simp at h1 h2;obtain⟨rfl,rfl⟩:=h1;subst h2
   (repeat (refine bO ?_;repeat refine bP ?_));simp
  | true =>
   rw[hv] at h1 h2;simp at h1 h2;obtain⟨rfl,rfl⟩:=h1;subst h2
   (repeat (refine bO ?_;repeat refine bP ?_));simp only[db,Bool.true_and];by_cases h3:lo<=a
   .simp[h3];omega
   .simp[h3]
theorem Y3:aD 253 VB.spec:=aH Tryz.func253 (au aE (Ct.named aJ1)) aR aK7
def Qd:Ct:=⟨[.val (.sl cI),.val cI],[.val cI],λ_=>[],λd=>((if d.2.1∈d.1 then (d.1.idxOf d.2.1:Int) else -1,()),())⟩
def ao6:bu Qd.ps->bS:=(λd=>{loops:=(bm 2 (λS=>{ι:=Int,μ:=λi=>(d.1.length-i).toNat,inv:=λi=>0<=i/\i<=d.1.length∧∀ y∈d.1.take i.toNat,y≠d.2.1,keep:=[0,1,6,7],slots:=λi=>[(8,.int .i64 i)]}) ci)})
theorem ae2 :
 ∀(a:ad)(b:Int),(a.length<=maxLen/\ ∀(c:Int),c∈a->aj c)/\aj b/\True->True->(∃(c:Int),(0<=c/\c<=(ac a)/\ ∀(d:Int),d∈take c.toNat a->d≠b)/\a=a/\b=b/\a=a/\(ac a)=(ac a)/\0=c/\True)/\ ∀(c:Int),(0<=c/\c<=(ac a)/\ ∀(d:Int),d∈take c.toNat a->d≠b)->ao (decide (c<(ac a))) (0<=c/\c<(ac a)/\ao (decide (b=ah a c)) (c=if b∈a then (↑(List.idxOf b a):Int) else (-1:Int)) (∃(d:Int),(0<=d/\d<=(ac a)/\ ∀(e:Int),e∈take d.toNat a->e≠b)/\toNat ((ac a) -d)<toNat ((ac a) -c)/\a=a/\b=b/\a=a/\(ac a)=(ac a)/\ai (c+1)=d/\True)) (-1=if b∈a then (↑(List.idxOf b a):Int) else (-1:Int)):=by
  delta ai ah ac;rintro x v ⟨⟨hl,-⟩,-⟩ -;simp only[maxLen] at hl;refine⟨⟨0,⟨ab,ab,aC⟩,aM⟩,?_⟩;rintro j ⟨h0,h1,h2⟩;refine bt (λhj=>?_) (λhj=>?_)
  .refine⟨h0,hj,bt (λhz=>?_) (λhz=>?_)⟩
   .have hm:v∈x:=by rw[hz];exact bW h0 hj
    rw[am hm];have:=aC4 (l:=x) (v:=v) h0 hj hz.symm h2;omega
   .refine⟨j+1,⟨ab,ab,λy hy=>?_⟩,ab,aM⟩;rcases Qj h0 hj hy with hy|rfl
    .exact h2 y hy
    .exact λe=>hz e.symm
  .rw[dm ab] at h2;rw[af (λhm=>h2 v hm rfl)]
theorem TX:aD 261 Qd.spec:=aH Tryz.func261 aE ao6 ae2
def aA1:Ct:=⟨[.val (.sl cI),.val cI],[.val .bool],λ_=>[],λd=>((decide (d.2.1∈d.1),()),())⟩
theorem Yk :
 ∀(a:ad)(b:Int),(a.length<=maxLen/\ ∀(c:Int),c∈a->aj c)/\aj b/\True->True->decide (0<=if b∈a then (↑(List.idxOf b a):Int) else (-1:Int))=decide (b∈a):=by
  rintro x v - -;by_cases h:v∈x
  .rw[am h];simp[h];
  .rw[af h];simp[h]
theorem Xn:aD 241 aA1.spec:=aH Tryz.func241 (au aE TX) aR Yk
def aT0:Cn:=⟨[.box 105 iA],[.agg kW],λd=>[ay d.1],λd y=>ay y.2.1/\ga y.1.1=true,λd h=>⟨(((0,0),()),(d.1,())),h.1,by simp[ga]⟩⟩
def Am(c:Int) :=
 (32:Int) -getD [(0:Int),(8:Int),(16:Int),(24:Int),(29:Int),(30:Int),(31:Int),(32:Int)] c.toNat default
theorem ai8 :
 ∀(a:ad)(b:Int),((a.length<=maxLen/\ ∀(c:Int),c∈a->0<=c/\c<=255)/\aj b)/\True->0<=b/\b<=(ac a)->ay (a,b)/\ ∀(c:Int)(d:ad)(e:Int),0<=c/\(c<8∨c=0)/\ay (d,e)->0<=c/\c<((length [(0:Int),(8:Int),(16:Int),(24:Int),(29:Int),(30:Int),(31:Int),(32:Int)]):Int)/\ao (decide (getD [(0:Int),(8:Int),(16:Int),(24:Int),(29:Int),(30:Int),(31:Int),(32:Int)] c.toNat default=0)) (ay (d,e)/\ga ((0:Int),(0:Int))=true) (ay (d,e)/\ ∀(f:Int)(g:ad)(h:Int),ay (g,h)/\0<=f/\f<=4294967295->0<=ai (Am c)/\0<=ai (Am c)/\ay (g,h)/\ga (dX IntKind.u32 (de IntKind.u32 f (ai (Am c))) (ai (Am c)),getD [(0:Int),(8:Int),(16:Int),(24:Int),(29:Int),(30:Int),(31:Int),(32:Int)] c.toNat default)=true):=by
  delta Am ai ac;rintro l p-h;refine⟨h,?_⟩;rintro r l2 p2 ⟨h1,h2,h3⟩;have hk:0<=([0,8,16,24,29,30,31,32]:ad).getD r.toNat default/\([0,8,16,24,29,30,31,32]:ad).getD r.toNat default<=32 :=
   JF (p:=λv=>0<=v/\v<=(32:Int)) aC h1 (by simp;omega)
  generalize ([0,8,16,24,29,30,31,32]:ad).getD r.toNat default=n at hk ⊢;refine⟨h1,by simp;omega,av (λhz=>⟨h3,by simp[ga]⟩) (λhz=>⟨h3,?_⟩)⟩;rintro a l3 p3 ⟨h4,h5,h6⟩;rw[aQ ab ab];exact⟨ab,ab,h4,Ua hk.1 hk.2 h5 h6⟩
theorem aU0:aD 45 aT0.spec:=nC Tryz.func45 (au (au aE ra) ES) aR ai8
abbrev vm:Type:=Int×Int×Int×Int×Int×Int
def Q6:vm:=(0,0,0,0,0,0)
def fE(a:Int):Int :=
 if a/16777216=0 then 1 else if a/16777216=127 then 2
 else if a/16777216=10∨(a/16777216=172/\16<=a/65536%256/\a/65536%256<32)∨(a/16777216=192/\a/65536%256=168) then 3
 else if a/16777216=169/\a/65536%256=254 then 4
 else if 224<=a/16777216/\a/16777216<240 then 5 else if 240<=a/16777216 then 6 else 0
def fq(a:Int):Prop:=fE a=0∨fE a=3
instance (a:Int):Decidable (fq a):=by unfold fq;infer_instance
def zM(x:o3):Int:=x.1.2.2.2.1
def HB(x:o3):Prop:=8<=x.2.length/\(x.1.2.2.2.1=1->x.2.getD 0 default=8)/\(x.1.2.2.2.1=6->14<=x.2.length->bits .and .u8 (x.2.getD 13 default) 4=0)/\fq x.1.2.2.2.2.2.1
instance (x:o3):Decidable (HB x):=by unfold HB;infer_instance
def cH(b:ad):Prop:=bT b=0/\HB (aP b)
instance (b:ad):Decidable (cH b):=by unfold cH;infer_instance
def s8(b:ad):o3:=if cH b then aP b else (oV,[])
def xR(b:ad):Prop:=bT b=0/\8<=(aP b).2.length/\(zM (aP b)=1->(aP b).2.getD 0 default=8)/\(zM (aP b)=6->14<=(aP b).2.length->bits .and .u8 ((aP b).2.getD 13 default) 4=0)
instance (b:ad):Decidable (xR b):=by unfold xR;infer_instance
def oF(b:ad):o3:=if xR b then aP b else (oV,[])
def iV(id ttl:Int):Prop:=(0<=id/\id<=65535)/\0<=ttl/\ttl<=255
instance (i t:Int):Decidable (iV i t):=by unfold iV;infer_instance
def ib(src dst proto id ttl:Int)(data:ad):o3:=((0,id,ttl,proto,false,src,dst),data)
def cL(b:ad):Int:=(cf b).2.2.2.2.2.1
def gc(b:ad):Int:=(cf b).2.2.2.2.2.2
def d9(b:ad):Int:=(cf b).2.2.2.1
def qh(kind code id ttl:Int):Prop:=(kind=11∨kind=3)/\(0<=code/\code<=255)/\iV id ttl
instance (k c i t:Int):Decidable (qh k c i t):=by unfold qh;infer_instance
def dS(b:ad)(kind code id ttl:Int):Int:=if ¬ qh kind code id ttl then 1 else if cH b then 0 else 17
def eT(b:ad)(src kind code id ttl:Int):ad:=if dS b kind code id ttl=0 then dE (ib src (cL b) 1 id ttl (gN (kind,code,b.take 28))) else []
def jX(s:kV):kV:=(s.2.1,s.1,0,(s.2.2.1+1)%4294967296,20,0,[])
def s9(b:ad):Prop:=cH b/\((d9 b=1/\gv (b.drop 20)=0)∨(d9 b=17/\gf (cL b) (gc b) (b.drop 20)=0) ∨
 (d9 b=6/\fW (cL b) (gc b) (b.drop 20)=0/\bits .and .i64 (d7 (cL b) (gc b) (b.drop 20)).2.2.2.2.1 2≠0/\bits .and .i64 (d7 (cL b) (gc b) (b.drop 20)).2.2.2.2.1 4=0))
instance (b:ad):Decidable (s9 b):=by unfold s9;infer_instance
def eh(b:ad)(id ttl:Int):Int:=if ¬ iV id ttl then 1 else if s9 b then 0 else 17
def fZ(b:ad)(src id ttl:Int):ad :=
 if eh b id ttl=0 then
  if d9 b=1 then dE (ib src (cL b) 1 id ttl (fh (true,(dW (b.drop 20)).2)))
  else if d9 b=17 then eT b src 3 3 id ttl
  else dE (ib src (cL b) 6 id ttl (eV src (cL b) (jX (d7 (cL b) (gc b) (b.drop 20)))))
 else []
def Es(b:ad):Prop:=d5 b=0/\b.length=28/\(cf b).1=0/\(cf b).2.2.2.2.1=true
instance (b:ad):Decidable (Es b):=by unfold Es;infer_instance
def FT(b:ad):Int:=if d9 b=1 then aK b 22-16384 else if d9 b=17∨d9 b=6 then aK b 20-20000 else 0
def EW(b:ad):cU:=(cL b,gc b,d9 b,FT b,(cf b).2.1,(cf b).2.2.1)
def Bv(b:ad):Prop :=
 (d9 b=1/\aK b 2=30/\aK b 20=2048/\aK b 24=21075/\aK b 26=(cf b).2.1) ∨
 (d9 b=17/\aK b 2=30/\aK b 22=33434/\aK b 24=aK b 2-20/\aK b 26=(cf b).2.1+1) ∨
 (d9 b=6/\aK b 2=40/\aK b 22=80/\dO ((b.drop 24).take 4)=(cf b).2.1)
instance (b:ad):Decidable (Bv b):=by unfold Bv;infer_instance
def yu(b:ad):cU×Bool:=if Es b then (EW b,decide (Bv b/\f5 (EW b)=0)) else (zk,false)
def vv(p:cU)(t:Int):cU:=(p.1,p.2.1,p.2.2.1,p.2.2.2.1,p.2.2.2.2.1,t)
def wG(ty code:Int):Int:=if ty=11 then 1 else if code=3 then 3 else 5
abbrev AB:Type:=cU×vm×Bool
def Eu:AB:=(zk,Q6,false)
def Kb(dst:Int)(b:ad):AB :=
 if AF b=0 then (vv (yu (uF b).2.2).1 0,(0,wG (uF b).1 (uF b).2.1,(uF b).2.1,0,0,(yu (uF b).2.2).1.2.2.2.2.2),(yu (uF b).2.2).2&&decide ((yu (uF b).2.2).1.1=dst)) else Eu
def EG(b:ad):Prop:=gv b=0/\(dW b).1=true/\(dW b).2.1=21075/\(dW b).2.2.2.length=2
instance (b:ad):Decidable (EG b):=by unfold EG;infer_instance
def KX(src dst:Int)(b:ad):AB:=if EG b then ((dst,src,1,aK b 2-18432,(dW b).2.2.1,0),(0,2,0,0,0,0),true) else Eu
def CK(src dst:Int)(b:ad):Prop:=fW src dst b=0/\(d7 src dst b).1=80/\(d7 src dst b).2.2.1=0/\(d7 src dst b).2.2.2.2.1=20/\(d7 src dst b).2.2.2.2.2.1=0/\(d7 src dst b).2.2.2.2.2.2=[]
instance (s d:Int) (b:ad):Decidable (CK s d b):=by unfold CK;infer_instance
def Sn(src dst:Int)(b:ad):AB:=if CK src dst b then ((dst,src,6,(d7 src dst b).2.1-20000,(d7 src dst b).2.2.2.1-1,0),(0,4,0,0,0,0),true) else Eu
def sK(b:ad):AB :=
 if d9 b=1/\0<(b.drop 20).length/\(b.drop 20).getD 0 default=0 then KX (cL b) (gc b) (b.drop 20)
 else if d9 b=1 then Kb (gc b) (b.drop 20) else if d9 b=6 then Sn (cL b) (gc b) (b.drop 20) else Eu
def Ar(b:ad):Prop:=bT b=0/\(sK b).2.2=true/\f5 (vv (sK b).1 1)=0
instance (b:ad):Decidable (Ar b):=by unfold Ar;infer_instance
def Nt(b:ad):cU×vm:=if Ar b then ((sK b).1,(cL b,(sK b).2.1.2.1,(sK b).2.1.2.2.1,(cf b).2.2.1,(cf b).2.1,(sK b).2.1.2.2.2.2.2)) else (zk,Q6)
def Pn(b:ad):Int:=if Ar b then 0 else 17
theorem Yt{n:Int}(h0:0<=n):de .i64 n 24=n/16777216:=by
 have e:=xn (n:=n) (k:=3) h0 (by omega)
 exact e
theorem XO(n:Int):bits .and .i64 n 255=n%256:=by
 have h127:(BitVec.ofInt 64 255).toNat=2^8-1:=bi
 have key:(BitVec.ofInt 64 n &&& BitVec.ofInt 64 255).toNat=(n%((2^64:Nat):Int)).toNat%2^8:=by
  rw[BitVec.toNat_and,BitVec.toNat_ofInt,h127,yd]
 show IntKind.i64.wrap ((BitVec.ofInt 64 n &&& BitVec.ofInt 64 255).toNat:Nat)=n%256
 rw[key,IntKind.wrap_i64]
 omega
theorem VO(n:Int):bits .and .i64 n 4294967295=n%4294967296:=by
 have h127:(BitVec.ofInt 64 4294967295).toNat=2^32-1:=bi
 have key:(BitVec.ofInt 64 n &&& BitVec.ofInt 64 4294967295).toNat=(n%((2^64:Nat):Int)).toNat%2^32:=by
  rw[BitVec.toNat_and,BitVec.toNat_ofInt,h127,yd]
 show IntKind.i64.wrap ((BitVec.ofInt 64 n &&& BitVec.ofInt 64 4294967295).toNat:Nat)=n%4294967296
 rw[key,IntKind.wrap_i64]
 omega
theorem uR{p n a s:Int}(hs:sz n=s)(hn:0<=n/\n<=32)(hp:p%s=0):eM (p,n) a=decide (p<=a/\a<p+s):=by
 unfold eM ga
 simp only
 rw[hs,dM ⟨hn.1,hn.2,hp⟩,Bool.true_and]
theorem NB{b:ad}(h:cH b):s8 b=(cf b,b.drop 20):=by rw[s8,am h,aP,am h.1]
theorem HH{b:ad}:cH b↔xR b/\fq (aP b).1.2.2.2.2.2.1:=⟨λh=>⟨⟨h.1,h.2.1,h.2.2.1,h.2.2.2.1⟩,h.2.2.2.2⟩,λh=>⟨h.1.1,h.1.2.1,h.1.2.2.1,h.1.2.2.2,h.2⟩⟩
theorem KN{b:ad}(h:cH b):oF b=(cf b,b.drop 20):=by rw[oF,am (HH.1 h).1,aP,am h.1]
theorem oM{b:ad}(h:cH b):bT b=0/\28<=b.length/\(d9 b=1->(b.drop 20).getD 0 default=8)/\(d9 b=6->14<=(b.drop 20).length->bits .and .u8 ((b.drop 20).getD 13 default) 4=0)/\fq (cL b):=by
 obtain⟨h1,h2⟩:=h
 rw[aP,am h1] at h2
 obtain⟨k1,k2,k3,k4⟩:=h2
 simp only[dR] at k1
 exact⟨h1,ab,k2,k3,k4⟩
theorem ax3{b:ad}(h1:bT b=0)(h2:28<=b.length)(h3:d9 b=1->(b.drop 20).getD 0 default=8)(h4:d9 b=6->14<=(b.drop 20).length->bits .and .u8 ((b.drop 20).getD 13 default) 4=0)(h5:fq (cL b)):cH b:=by
 refine⟨h1,?_⟩
 rw[aP,am h1]
 exact⟨by simp only[dR];omega,h3,h4,h5⟩
theorem yW{src dst proto id ttl:Int}{data:ad}(hn:iV id ttl)(hp:0<=proto/\proto<=255)(hl:(data.length:Int)<=1480):fg (ib src dst proto id ttl data)=0:=by
 obtain⟨⟨a,b⟩,c,d⟩:=hn
 rw[fg,af,af (by simp only[ib];omega)]
 rw[pi]
 exact⟨⟨iE _,by simp only[ib];omega⟩,⟨c,d⟩,hp,a,b⟩
theorem A6{b:ad}{src kind code id ttl:Int}(hg:qh kind code id ttl)(ha:cH b) :
  dS b kind code id ttl=0/\eT b src kind code id ttl=dE (ib src (cL b) 1 id ttl (gN (kind,code,b.take 28)))/\ix (kind,code,b.take 28)=0/\fg (ib src (cL b) 1 id ttl (gN (kind,code,b.take 28)))=0:=by
 have he:dS b kind code id ttl=0:=by rw[dS,af (λk=>k hg),am ha]
 obtain⟨-,hl,-⟩:=oM ha
 obtain⟨h1,h2,h3⟩:=hg
 refine⟨he,by rw[eT,am he],?_,yW h3 ab (EI _)⟩
 have ht:(b.take 28).length=28:=by rw[cW];omega
 rw[ix,af,af,af]
 .simp only;rw[ht];omega
 .simp only;rw[ht];omega
 .rw[pi];exact⟨h1.symm,h2⟩
theorem Sg{b:ad}{src kind code id ttl:Int}(hg:¬ qh kind code id ttl):([]:ad)=eT b src kind code id ttl/\1=dS b kind code id ttl:=by
 have he:dS b kind code id ttl=1:=by rw[dS,am hg]
 rw[eT,he];exact⟨rfl,rfl⟩
theorem R5{b:ad}{src kind code id ttl:Int}(hg:qh kind code id ttl)(ha:¬ cH b):([]:ad)=eT b src kind code id ttl/\17=dS b kind code id ttl:=by
 have he:dS b kind code id ttl=17:=by rw[dS,af (λk=>k hg),af ha]
 rw[eT,he];exact⟨rfl,rfl⟩
theorem PS(b:ad):cA b (toNat 0) (toNat 28)=b.take 28:=by
 show cA b 0 28=_
 simp[cA]
theorem Ly{b:ad}{src id ttl:Int}(hn:¬ iV id ttl):([]:ad)=fZ b src id ttl/\1=eh b id ttl:=by
 have he:eh b id ttl=1:=by rw[eh,am hn]
 rw[fZ,he];exact⟨rfl,rfl⟩
theorem rm{b:ad}{src id ttl:Int}(hn:iV id ttl)(ha:¬ s9 b):([]:ad)=fZ b src id ttl/\17=eh b id ttl:=by
 have he:eh b id ttl=17:=by rw[eh,af (λk=>k hn),af ha]
 rw[fZ,he];exact⟨rfl,rfl⟩
theorem BL{b:ad}{id ttl:Int}(hn:iV id ttl)(ha:s9 b):eh b id ttl=0:=by rw[eh,af (λk=>k hn),am ha]
theorem AY{b:ad}{src id ttl:Int}(hn:iV id ttl)(ha:cH b)(h:d9 b=1)(he:gv (b.drop 20)=0) :
  fZ b src id ttl=dE (ib src (cL b) 1 id ttl (fh (true,(dW (b.drop 20)).2)))/\eh b id ttl=0:=by
 have h0:=BL hn (b:=b) ⟨ha,.inl ⟨h,he⟩⟩
 rw[fZ,am h0,am h];exact⟨rfl,h0⟩
theorem BP{b:ad}{src id ttl:Int}(hn:iV id ttl)(ha:cH b)(h:d9 b=17)(he:gf (cL b) (gc b) (b.drop 20)=0) :
  fZ b src id ttl=eT b src 3 3 id ttl/\eh b id ttl=0:=by
 have h0:=BL hn (b:=b) ⟨ha,.inr (.inl ⟨h,he⟩)⟩
 rw[fZ,am h0,af ab,am h];exact⟨rfl,h0⟩
theorem Ah{b:ad}{src id ttl:Int}(hn:iV id ttl)(ha:cH b)(h:d9 b=6)(he:fW (cL b) (gc b) (b.drop 20)=0)
  (h2:bits .and .i64 (d7 (cL b) (gc b) (b.drop 20)).2.2.2.2.1 2≠0) (h4:bits .and .i64 (d7 (cL b) (gc b) (b.drop 20)).2.2.2.2.1 4=0) :
  fZ b src id ttl=dE (ib src (cL b) 6 id ttl (eV src (cL b) (jX (d7 (cL b) (gc b) (b.drop 20)))))/\eh b id ttl=0:=by
 have h0:=BL hn (b:=b) ⟨ha,.inr (.inr ⟨h,he,h2,h4⟩)⟩
 rw[fZ,am h0,af ab,af ab];exact⟨rfl,h0⟩
theorem DM{b:ad}{id ttl:Int}(hn:iV id ttl)(ha:cH b):dS b 3 3 id ttl=0:=by
 rw[dS,af (λk=>k ⟨.inr rfl,⟨ab,ab⟩,hn⟩),am ha]
theorem HP(b:ad):(dW b).2.2.2.length<=b.length:=by
 unfold dW;split
 .simp only[dR];omega
 .simp
theorem Qz{s d:Int}{b:ad}(hb:bytes b):(0<=(d7 s d b).2.1/\(d7 s d b).2.1<=65535)/\(0<=(d7 s d b).2.2.1/\(d7 s d b).2.2.1<=4294967295)/\0<=(d7 s d b).2.2.2.1/\(d7 s d b).2.2.2.1<=4294967295:=by
 unfold d7;split
 .have h1:=rk hb (toNat 2);have h2:=rk hb (toNat 4);have h3:=rk hb (toNat 6);have h4:=rk hb (toNat 8);have h5:=rk hb (toNat 10);simp only;omega
 .simp
theorem aR3{b:ad}(h:b.getD 0 default=8):(dW b).1=false:=by
 unfold dW;split
 .exact dw (by show ¬ b.getD 0 default=0;omega)
 .rfl
def oz(k:Int):d8:=([(0,8),(2130706432,8),(167772160,8),(2886729728,12),(3232235520,16),(2851995648,16),(3758096384,4),(4026531840,4)]:List d8).getD k.toNat (0,0)
def My:Ct:=⟨[.val cy],[.val cI],λd=>[],λd=>((fE d.1,()),())⟩
def aT8:bu My.ps->bS:=(λd=>{cuts:=(bm 6 (λS=>{ι:=Unit,inv:=λi=>eM (oz (S.i 6)) d.1=false,keep:=[0,5,6],slots:=λi=>[]}) ci),unr:=λn=>match n with|2=>9|_=>0})
def lz :=
 (2:Int)^IntKind.bits IntKind.i64
def zY :=
 (nat_lit 0+nat_lit 1)%Int.natAbs (lz)+nat_lit 1
def AX :=
 ((zY)%Int.natAbs (lz)+nat_lit 1)%Int.natAbs (lz)+nat_lit 1
def uA :=
 ai (ai (ai ((0:Int)+1)+1)+1)+1
def Ej :=
 ((AX)%Int.natAbs (lz)+nat_lit 1)%Int.natAbs (lz)+nat_lit 1
def sm :=
 (2130706432:Int)
def sf :=
 (2886729728:Int)
def sr :=
 (3232235520:Int)
def tf :=
 (2851995648:Int)
def sy :=
 (3758096384:Int)
def tH :=
 (4026531840:Int)
def FC :=
 oz (Int.ofNat (((zY)%Int.natAbs (lz)+nat_lit 1)%Int.natAbs (lz)))
def Fo :=
 oz (Int.ofNat (((AX)%Int.natAbs (lz)+nat_lit 1)%Int.natAbs (lz)))
def Ga :=
 oz (Int.ofNat (((Ej)%Int.natAbs (lz)+nat_lit 1)%Int.natAbs (lz)))
def sV :=
 (167772160:Int)
theorem ar1 :
 ∀(a:Int),(0<=a/\a<=4294967295)/\True->True->ao (eM ((0:Int),(8:Int)) a) (1=fE a) (∃(b:Unit),eM (oz (0:Int)) a=false/\a=a/\(0:Int)=0/\(8:Int)=8/\(1:Int)=1/\(sm)=2130706432/\(8:Int)=8/\(2:Int)=2/\(sV)=167772160/\(8:Int)=8/\(3:Int)=3/\(sf)=2886729728/\(12:Int)=12/\(3:Int)=3/\(sr)=3232235520/\(16:Int)=16/\(3:Int)=3/\(tf)=2851995648/\(16:Int)=16/\(4:Int)=4/\(sy)=3758096384/\(4:Int)=4/\(5:Int)=5/\(tH)=4026531840/\(4:Int)=4/\(6:Int)=6/\(0:Int)=0/\True)/\ ∀(b:Unit),eM (oz (0:Int)) a=false->ao (eM ((sm),(8:Int)) a) (2=fE a) (∃(c:Unit),eM (oz (Int.ofNat ((nat_lit 0+nat_lit 1)%Int.natAbs (lz))))
 a=false/\a=a/\(0:Int)=0/\(8:Int)=8/\(1:Int)=1/\(sm)=2130706432/\(8:Int)=8/\(2:Int)=2/\(sV)=167772160/\(8:Int)=8/\(3:Int)=3/\(sf)=2886729728/\(12:Int)=12/\(3:Int)=3/\(sr)=3232235520/\(16:Int)=16/\(3:Int)=3/\(tf)=2851995648/\(16:Int)=16/\(4:Int)=4/\(sy)=3758096384/\(4:Int)=4/\(5:Int)=5/\(tH)=4026531840/\(4:Int)=4/\(6:Int)=6/\ai ((0:Int)+1)=ai ((0:Int)+1)/\True)/\ ∀(c:Unit),eM (oz (Int.ofNat ((nat_lit 0+nat_lit 1)%Int.natAbs (lz)))) a=false->ao (eM ((sV),(8:Int)) a) (3=fE a) (∃(d:Unit),eM (oz (Int.ofNat ((zY)%Int.natAbs (lz))))
 a=false/\a=a/\(0:Int)=0/\(8:Int)=8/\(1:Int)=1/\(sm)=2130706432/\(8:Int)=8/\(2:Int)=2/\(sV)=167772160/\(8:Int)=8/\(3:Int)=3/\(sf)=2886729728/\(12:Int)=12/\(3:Int)=3/\(sr)=3232235520/\(16:Int)=16/\(3:Int)=3/\(tf)=2851995648/\(16:Int)=16/\(4:Int)=4/\(sy)=3758096384/\(4:Int)=4/\(5:Int)=5/\(tH)=4026531840/\(4:Int)=4/\(6:Int)=6/\ai (ai ((0:Int)+1)+1)=ai (ai ((0:Int)+1)+1)/\True)/\ ∀(d:Unit),eM (oz (Int.ofNat ((zY)%Int.natAbs (lz)))) a=false->ao (eM ((sf),(12:Int)) a) (3=fE a) (∃(e:Unit),eM (FC) a=false/\a=a/\(0:Int)=0/\(8:Int)=8/\(1:Int)=1/\(sm)=2130706432/\(8:Int)=8/\(2:Int)=2/\(sV)=167772160/\(8:Int)=8/\(3:Int)=3/\(sf)=2886729728/\(12:Int)=12/\(3:Int)=3/\(sr)=3232235520/\(16:Int)=16/\(3:Int)=3/\(tf)=2851995648/\(16:Int)=16/\(4:Int)=4/\(sy)=3758096384/\(4:Int)=4/\(5:Int)=5/\(tH)=4026531840/\(4:Int)=4/\(6:Int)=6/\ai
 (ai (ai ((0:Int)+1)+1)+1)=ai (ai (ai ((0:Int)+1)+1)+1)/\True)/\ ∀(e:Unit),eM (FC) a=false->ao (eM ((sr),(16:Int)) a) (3=fE a) (∃(f:Unit),eM (oz (Int.ofNat ((AX)%Int.natAbs (lz)))) a=false/\a=a/\(0:Int)=0/\(8:Int)=8/\(1:Int)=1/\(sm)=2130706432/\(8:Int)=8/\(2:Int)=2/\(sV)=167772160/\(8:Int)=8/\(3:Int)=3/\(sf)=2886729728/\(12:Int)=12/\(3:Int)=3/\(sr)=3232235520/\(16:Int)=16/\(3:Int)=3/\(tf)=2851995648/\(16:Int)=16/\(4:Int)=4/\(sy)=3758096384/\(4:Int)=4/\(5:Int)=5/\(tH)=4026531840/\(4:Int)=4/\(6:Int)=6/\ai (uA)=ai (uA)/\True)/\ ∀(f:Unit),eM (oz (Int.ofNat ((AX)%Int.natAbs (lz)))) a=false->ao (eM ((tf),(16:Int)) a) (4=fE a) (∃(g:Unit),eM (Fo)
 a=false/\a=a/\(0:Int)=0/\(8:Int)=8/\(1:Int)=1/\(sm)=2130706432/\(8:Int)=8/\(2:Int)=2/\(sV)=167772160/\(8:Int)=8/\(3:Int)=3/\(sf)=2886729728/\(12:Int)=12/\(3:Int)=3/\(sr)=3232235520/\(16:Int)=16/\(3:Int)=3/\(tf)=2851995648/\(16:Int)=16/\(4:Int)=4/\(sy)=3758096384/\(4:Int)=4/\(5:Int)=5/\(tH)=4026531840/\(4:Int)=4/\(6:Int)=6/\ai (ai (uA)+1)=ai (ai (uA)+1)/\True)/\ ∀(g:Unit),eM (Fo) a=false->ao (eM ((sy),(4:Int)) a) (5=fE a) (∃(h:Unit),eM (oz (Int.ofNat ((Ej)%Int.natAbs (lz)))) a=false/\a=a/\(0:Int)=0/\(8:Int)=8/\(1:Int)=1/\(sm)=2130706432/\(8:Int)=8/\(2:Int)=2/\(sV)=167772160/\(8:Int)=8/\(3:Int)=3/\(sf)=2886729728/\(12:Int)=12/\(3:Int)=3/\(sr)=3232235520/\(16:Int)=16/\(3:Int)=3/\(tf)=2851995648/\(16:Int)=16/\(4:Int)=4/\(sy)=3758096384/\(4:Int)=4/\(5:Int)=5/\(tH)=4026531840/\(4:Int)=4/\(6:Int)=6/\ai (ai (ai
 (uA)+1)+1)=ai (ai (ai (uA)+1)+1)/\True)/\ ∀(h:Unit),eM (oz (Int.ofNat ((Ej)%Int.natAbs (lz)))) a=false->ao (eM ((tH),(4:Int)) a) (6=fE a) (∃(i:Unit),eM (Ga) a=false/\a=a/\(0:Int)=0/\(8:Int)=8/\(1:Int)=1/\(sm)=2130706432/\(8:Int)=8/\(2:Int)=2/\(sV)=167772160/\(8:Int)=8/\(3:Int)=3/\(sf)=2886729728/\(12:Int)=12/\(3:Int)=3/\(sr)=3232235520/\(16:Int)=16/\(3:Int)=3/\(tf)=2851995648/\(16:Int)=16/\(4:Int)=4/\(sy)=3758096384/\(4:Int)=4/\(5:Int)=5/\(tH)=4026531840/\(4:Int)=4/\(6:Int)=6/\ai (ai (ai (ai (uA)+1)+1)+1)=ai (ai (ai (ai (uA)+1)+1)+1)/\True)/\ ∀(i:Unit),eM (Ga) a=false->0=fE a:=by
  delta lz AX uA Ej zY sm sf sr tf sy tH FC Fo Ga sV ai;rintro a ⟨⟨a0,a1⟩,-⟩ -;have q0:=uR (p:=0) (n:=8) (a:=a) (s:=16777216) rfl ab ab;have q1:=uR (p:=2130706432) (n:=8) (a:=a) (s:=16777216) rfl ab ab;have q2:=uR (p:=167772160) (n:=8) (a:=a) (s:=16777216) rfl ab ab;have q3:=uR (p:=2886729728) (n:=12) (a:=a) (s:=1048576) rfl ab ab;have q4:=uR (p:=3232235520) (n:=16) (a:=a) (s:=65536) rfl ab ab;have q5:=uR (p:=2851995648) (n:=16) (a:=a) (s:=65536) rfl ab ab;have q6:=uR (p:=3758096384) (n:=4) (a:=a) (s:=268435456) rfl ab ab;have q7:=uR (p:=4026531840) (n:=4) (a:=a) (s:=268435456) rfl ab ab;refine⟨av (λh=>?_) (λh=>⟨(),h,aM⟩),?_⟩
  .rw[q0] at h;have h:=aL h;unfold fE;rw[am ab]
  rintro-h;have h:eM (0,8) a=false:=h;rw[q0] at h;have h0:=aO h;refine⟨av (λh=>?_) (λh=>⟨(),h,aM⟩),?_⟩
  .rw[q1] at h;have h:=aL h;unfold fE;rw[af ab,am ab]
  rintro-h;have h:eM (2130706432,8) a=false:=h;rw[q1] at h;have h1:=aO h;refine⟨av (λh=>?_) (λh=>⟨(),h,aM⟩),?_⟩
  .rw[q2] at h;have h:=aL h;unfold fE;rw[af ab,af ab,am ab]
  rintro-h;have h:eM (167772160,8) a=false:=h;rw[q2] at h;have h2:=aO h;refine⟨av (λh=>?_) (λh=>⟨(),h,aM⟩),?_⟩
  .rw[q3] at h;have h:=aL h;unfold fE;rw[af ab,af ab,am ab]
  rintro-h;have h:eM (2886729728,12) a=false:=h;rw[q3] at h;have h3:=aO h;refine⟨av (λh=>?_) (λh=>⟨(),h,aM⟩),?_⟩
  .rw[q4] at h;have h:=aL h;unfold fE;rw[af ab,af ab,am ab]
  rintro-h;have h:eM (3232235520,16) a=false:=h;rw[q4] at h;have h4:=aO h;refine⟨av (λh=>?_) (λh=>⟨(),h,aM⟩),?_⟩
  .rw[q5] at h;have h:=aL h;unfold fE;rw[af ab,af ab,af ab,am ab]
  rintro-h;have h:eM (2851995648,16) a=false:=h;rw[q5] at h;have h5:=aO h;refine⟨av (λh=>?_) (λh=>⟨(),h,aM⟩),?_⟩
  .rw[q6] at h;have h:=aL h;unfold fE;rw[af ab,af ab,af ab,af ab,am ab]
  rintro-h;have h:eM (3758096384,4) a=false:=h;rw[q6] at h;have h6:=aO h;refine⟨av (λh=>?_) (λh=>⟨(),h,aM⟩),?_⟩
  .rw[q7] at h;have h:=aL h;unfold fE;rw[af ab,af ab,af ab,af ab,af ab,am ab]
  rintro-h;have h:eM (4026531840,4) a=false:=h;rw[q7] at h;have h7:=aO h;unfold fE;rw[af ab,af ab,af ab,af ab,af ab,af ab]
theorem MX:aD 239 My.spec:=aH Tryz.func239 (aV6 (au aE K2) (d:=8)) aT8 ar1
def aG6:Ct:=⟨[.val cy],[.val cI],λd=>[],λd=>((fE d.1,()),())⟩
def z8(a:Int) :=
 de IntKind.i64 (ai a) (16:Int)
theorem Yf :
 ∀(a:Int),(0<=a/\a<=4294967295)/\True->True->(0:Int)<=24/\(0:Int)<=16/\ao (decide (de IntKind.i64 (ai a) (24:Int)=0)) (1=fE a) (ao (decide (de IntKind.i64 (ai a) (24:Int)=127)) (2=fE a) (∀(b:Bool),b=decide (de IntKind.i64 (ai a) (24:Int)=10)->(ae (! b))/\(ae (! b))/\ ∀(c:Bool),c=decide (de IntKind.i64 (ai a) (24:Int)=172)->(ae (! b&&c))/\((! b)->(aq (! b))/\(c->(! b&&c))/\True)/\(ae (! b))/\ ∀(d:Bool),(d=bif c then decide (16<=bits BinOp.and IntKind.i64 (z8 a) (255:Int)) else false)->(ae (! b&&d))/\((! b)->(aq (! b))/\(d->(! b&&d))/\True)/\(aF b)/\ ∀(e:Bool),(e=bif b then true else bif d then decide (bits BinOp.and IntKind.i64 (z8 a) (255:Int)<32) else false)->(ae (! e))/\(ae (! e))/\ ∀(f:Bool),f=decide (de IntKind.i64 (ai a) (24:Int)=192)->(ae (! e&&f))/\((! e)->(aq (! e))/\(f->(! e&&f))/\True)/\(aF e)/\ao (bif e then true else bif f then
 decide (bits BinOp.and IntKind.i64 (z8 a) (255:Int)=168) else false) (3=fE a) (∀(g:Bool),g=decide (de IntKind.i64 (ai a) (24:Int)=169)->(ae g)/\(aq g)/\ao (bif g then decide (bits BinOp.and IntKind.i64 (z8 a) (255:Int)=254) else false) (4=fE a) (∀(h:Bool),h=decide (224<=de IntKind.i64 (ai a) (24:Int))->(ae h)/\(aq h)/\ao (bif h then decide (de IntKind.i64 (ai a) (24:Int)<240) else false) (5=fE a) (ao (decide (240<=de IntKind.i64 (ai a) (24:Int))) (6=fE a) (0=fE a)))))):=by
  delta z8 ae aq aF ai;rintro a ⟨⟨a0,a1⟩,-⟩ -;rw[aQ (n:=a) ab ab,Yt a0,IE a0,XO];refine⟨ab,ab,av (λh=>?_) (λh=>?_)⟩
  .rw[fE,am (aL h)]
  have h1:=aO h;refine av (λh=>?_) (λh=>?_)
  .rw[fE,af h1,am (aL h)]
  have h2:=aO h;rw[fE,af h1,af h2]
  (repeat (intro (b_:Bool) (hb_:b_=_);(repeat refine⟨(by first|(simp;done)|(rw[hb_];simp;done)|(rw[hb_];simp;omega)|(rw[hb_];simp;intros;omega)|(rw[hb_];simp +contextual;done)),?_⟩);subst hb_));refine⟨λh=>by rw[h];rfl,?_⟩;refine av (λh=>?_) (λh=>?_)
  .rw[am];simp[db] at h;omega
  have h3:¬ (a/16777216=10∨(a/16777216=172/\16<=a/65536%256/\a/65536%256<32)∨(a/16777216=192/\a/65536%256=168)):=by
   simp[db] at h;omega
  rw[af h3];clear h
  (repeat (refine bO ?_;repeat refine bP ?_));refine av (λh=>?_) (λh=>?_)
  .rw[am];simp[db] at h;omega
  have h4:¬ (a/16777216=169/\a/65536%256=254):=by
   simp[db] at h;omega
  rw[af h4];clear h
  (repeat (refine bO ?_;repeat refine bP ?_));refine av (λh=>?_) (λh=>?_)
  .rw[am];simp[db] at h;omega
  have h5:¬ (224<=a/16777216/\a/16777216<240):=by
   simp[db] at h;omega
  rw[af h5];exact av (λh=>by rw[am (aL h)]) (λh=>by rw[af (aO h)])
theorem aH5:aD 170 aG6.spec:=aH Tryz.func170 aE aR Yf
def aJ0:Ct:=⟨[.val cy],[.val .bool],λd=>[],λd=>((decide (fq d.1),()),())⟩
theorem Yj :
 ∀(a:Int),(0<=a/\a<=4294967295)/\True->True-> ∀(b:Bool),b=decide (fE a=0)->(ae (! b))/\(ae (! b))/\(aF b)/\(bif b then true else decide (fE a=3))=decide (fq a):=by
  delta ae aF;rintro a - -
  (repeat (refine bO ?_;repeat refine bP ?_));rw[sY,ng];simp[fq,db]
theorem Sj:aD 109 aJ0.spec:=aH Tryz.func109 (au aE aH5) aR Yj
def aU6:Ct:=⟨[.val (.sl bz)],[.agg sH,.val .bool],λd=>[(d.1.length:Int)<=1099511627776],λd=>((oF d.1,decide (cH d.1),()),())⟩
def yc :=
 (((0:Int),(0:Int),(0:Int),(0:Int),false,(0:Int),(0:Int)),([]:ad))
def Iw(a:ad)(b:(Int×Int×Int×Int×Bool×Int×Int)×ad) :=
 ∀(e:Bool),e=decide (fE b.1.2.2.2.2.2.1=0)->(ae (! e))/\(aF e)/\b=oF a/\(bif e then true else decide (fE b.1.2.2.2.2.2.1=3))=decide (cH a)
theorem ac8 :
 ∀(a:ad),(a.length<=maxLen/\ ∀(b:Int),b∈a->0<=b/\b<=255)/\True->(ac a)<=1099511627776->(ac a)<=1099511627776/\ ∀(b:(Int×Int×Int×Int×Bool×Int×Int)×ad)(c:Int),b=aP a/\c=bT a-> ∀(d:Bool),d= ! decide (c=0)->(ae (! d))/\(ae (! d))/\(ae (! d))/\(aF d)/\ao (bif d then true else decide ((ac b.2)<8)) ((yc)=oF a/\false=decide (cH a)) (ao (decide (b.1.2.2.2.1=1)) ((0:Int)<=0/\0<(ac b.2)/\ao (! decide (getD b.2 (toNat 0) default=8)) ((yc)=oF a/\false=decide (cH a)) (Iw a b)) (ao (decide (b.1.2.2.2.1=6)) (∀(e:Bool),e=decide (13<(ac b.2))->(ae e)/\(e->(aq e)/\(0:Int)<=13/\13<(ac b.2)/\True)/\(ae e)/\(ae e)/\(ae e)/\(aq e)/\ao (bif e then ! decide (bits BinOp.and IntKind.u8 (getD b.2 (toNat 13) default) (4:Int)=0) else false) ((yc)=oF a/\false=decide (cH a)) (∀(f:Bool),f=decide (fE b.1.2.2.2.2.2.1=0)->(ae (!
 f))/\(aF f)/\b=oF a/\(bif f then true else decide (fE b.1.2.2.2.2.2.1=3))=decide (cH a))) (Iw a b))):=by
  delta yc Iw ae aq aF ac;rintro b ⟨⟨-,hb⟩,-⟩ hl;refine⟨hl,?_⟩;rintro d e ⟨rfl,rfl⟩;have bad:¬ xR b->(((0,0,0,0,false,0,0),[]):o3)=oF b/\false=decide (cH b):=λh=>by rw[oF,af h,dw (λk=>h (HH.1 k).1)];exact⟨rfl,rfl⟩
  have good:xR b->aP b=oF b/\(bif decide (fE (aP b).1.2.2.2.2.2.1=0) then true else decide (fE (aP b).1.2.2.2.2.2.1=3))=decide (cH b):=by
   intro h;refine⟨by rw[oF,am h],?_⟩;rw[sY,ng,HH];simp[h,fq,db]
  (repeat (refine bO ?_;repeat refine bP ?_));refine av (λh=>?_) (λh=>?_)
  .refine bad (λk=>?_);obtain⟨k1,k2,-⟩:=k;rw[k1] at h;simp at h;omega
  have h1:bT b=0:=by
   refine gC λk=>?_;simp[k] at h
  have h2:8<=(aP b).2.length:=by
   rw[h1] at h;simp at h;omega
  refine av (λhp=>?_) (λhp=>?_)
  .have hp:zM (aP b)=1:=aL hp;refine⟨ab,ab,av (λh8=>?_) (λh8=>?_)⟩
   .refine bad (λk=>?_);have:=k.2.2.1 hp;simp only[show toNat 0=0 from rfl,this] at h8;simp at h8
   ·(repeat (refine bO ?_;repeat refine bP ?_));exact good ⟨h1,h2,λ_=>by simpa using h8,λk=>ab⟩
  have hp:¬ zM (aP b)=1:=aO hp;refine bt (λhq=>?_) (λhq=>?_)
  .have hq:zM (aP b)=6:=hq
   (repeat (refine bO ?_;repeat refine bP ?_));refine av (λh8=>?_) (λh8=>?_)
   .refine bad (λk=>?_);have:=k.2.2.2 hq;simp[db] at h8;exact h8.2 (this ab)
   ·(repeat (refine bO ?_;repeat refine bP ?_));refine good ⟨h1,h2,λk=>absurd k hp,λ_ hk=>?_⟩;refine gC λk=>?_;have k:¬ bits .and .u8 ((aP b).2.getD (toNat 13) default) 4=0:=k;rw[dM (show (13:Int)<((aP b).2.length:Int) by omega),dw k] at h8;cases h8
  .have hq:¬ zM (aP b)=6:=hq
   (repeat (refine bO ?_;repeat refine bP ?_));exact good ⟨h1,h2,λk=>absurd k hp,λk=>absurd k hq⟩
theorem Rg:aD 263 aU6.spec:=aH Tryz.func263 (au (au aE (Ct.named CI)) MX) aR ac8
def UL:Ct:=⟨[.val (.sl bz)],[.agg sH,.val .bool],λd=>[(d.1.length:Int)<=1099511627776],λd=>((s8 d.1,decide (cH d.1),()),())⟩
theorem aM4 :
 ∀(a:ad),(a.length<=maxLen/\ ∀(b:Int),b∈a->0<=b/\b<=255)/\True->(ac a)<=1099511627776->(ac a)<=1099511627776/\ ∀(b:(Int×Int×Int×Int×Bool×Int×Int)×ad)(c:Int),b=aP a/\c=bT a-> ∀(d:Bool),d= ! decide (c=0)->(ae (! d))/\(ae (! d))/\(ae (! d))/\(aF d)/\ ∀(e:Bool),(e=bif d then true else decide ((ac b.2)<8))->(ae (! e))/\(ae (! e))/\(ae (! e))/\(ae (! e))/\ ∀(f:Bool),f=decide (b.1.2.2.2.1=1)->(ae (! e&&f))/\((! e&&f)->(aq (! e&&f))/\(0:Int)<=0/\0<(ac b.2)/\True)/\(ae (! e&&f))/\(ae (! e&&f))/\((! e)->(aq (! e))/\(f->(! e&&f))/\True)/\(aF e)/\ ∀(g:Bool),(g=bif e then true else bif f then ! decide (getD b.2 (toNat 0) default=8) else false)->(ae (! g))/\(ae (! g))/\(ae (! g))/\(ae (! g))/\ ∀(h:Bool),h=decide (b.1.2.2.2.1=6)->(ae (! g&&h))/\(ae (! g&&h))/\(ae (! g&&h))/\((! g)->(aq (! g))/\(h->(! g&&h))/\True)/\(ae (! g))/\ ∀(i:Bool),(i=bif h
 then decide (14<=(ac b.2)) else false)->(ae (! g&&i))/\((! g&&i)->(aq (! g&&i))/\(0:Int)<=13/\13<(ac b.2)/\True)/\(ae (! g&&i))/\(ae (! g&&i))/\(ae (! g&&i))/\((! g)->(aq (! g))/\(i->(! g&&i))/\True)/\(aF g)/\ ∀(j:Bool),(j=bif g then true else bif i then ! decide (bits BinOp.and IntKind.u8 (getD b.2 (toNat 13) default) (4:Int)=0) else false)->(ae (! j))/\(ae (! j))/\(ae (! j))/\(ae (! j))/\(aF j)/\ao (bif j then true else ! decide (fq b.1.2.2.2.2.2.1)) ((yc)=s8 a/\false=decide (cH a)) (b=s8 a/\true=decide (cH a)):=by
  delta yc ae aq aF ac;rintro b ⟨⟨-,hb⟩,-⟩ hl;refine⟨hl,?_⟩;rintro d e ⟨rfl,rfl⟩;have bad:¬ cH b->(((0,0,0,0,false,0,0),[]):o3)=s8 b/\false=decide (cH b):=λh=>by rw[s8,af h,dw h];exact⟨rfl,rfl⟩
  (repeat (intro (b_:Bool) (hb_:b_=_);(repeat refine⟨(by first|(simp +contextual;done)|(rw[hb_];simp +contextual;done)|(rw[hb_];simp;omega)|(rw[hb_];simp;intros;omega)|(rw[hb_];simp +contextual;intros;omega)|(intros;simp_all;done)|(intros;simp_all;omega)),?_⟩)));subst_vars;refine av (λh=>bad (λk=>?_)) (λh=>?_)
  .obtain⟨k1,k2,k3,k4,k5⟩:=k;simp[db,k1,k5] at h;rcases h with h|h
   .rcases h with h|h
    .omega
    .exact h.2 (k3 h.1)
   .exact h.2 (k4 h.1.1 ab)
  .have ha:cH b:=by
    simp[db] at h;refine⟨h.1.1.1.1,by have:=h.1.1.1.2;omega,λk=>?_,λk1 k2=>?_,h.2⟩
    .exact h.1.1.2 k
    .exact h.1.2 k1 ab
   rw[s8,am ha,dM ha];exact⟨rfl,rfl⟩
theorem QI:aD 219 UL.spec:=aH Tryz.func219 (au (au aE (Ct.named Bx)) Sj) aR aM4
def aC3:Ct:=⟨[.val cI,.val cI],[.val .bool],λd=>[],λd=>((decide (iV d.1 d.2.1),()),())⟩
theorem aJ8 :
 ∀(a b:Int),aj a/\aj b/\True->True-> ∀(c:Bool),c=decide (0<=a)->(ae c)/\(aq c)/\ ∀(d:Bool),(d=bif c then decide (a<=65535) else false)->(ae d)/\(aq d)/\ ∀(e:Bool),(e=bif d then decide (0<=b) else false)->(ae e)/\(aq e)/\(bif e then decide (b<=255) else false)=decide (iV a b):=by
  delta ae aq;rintro id ttl - -
  (repeat (refine bO ?_;repeat refine bP ?_));rw[sY];simp[iV,db,and_assoc]
theorem Ke:aD 262 aC3.spec:=aH Tryz.func262 aE aR aJ8
def Zi:Ct:=⟨[.val cy,.val cy,.val cI,.val cI,.val cI,.val (.sl bz)],[.own 5 bz,.val cI],λd=>[(d.2.2.2.2.2.1.length:Int)<=1073741824],λd=>((dE (ib d.1 d.2.1 d.2.2.1 d.2.2.2.1 d.2.2.2.2.1 d.2.2.2.2.2.1),fg (ib d.1 d.2.1 d.2.2.1 d.2.2.2.1 d.2.2.2.2.1 d.2.2.2.2.2.1),()),())⟩
theorem XS :
 ∀(a b c d e:Int)(f:ad),(0<=a/\a<=4294967295)/\(0<=b/\b<=4294967295)/\aj c/\aj d/\aj e/\(f.length<=maxLen/\ ∀(g:Int),g∈f->0<=g/\g<=255)/\True->(ac f)<=1073741824->(ac f)<=1073741824/\dE (((0:Int),d,e,c,false,a,b),f)=dE (ib a b c d e f)/\fg (((0:Int),d,e,c,false,a,b),f)=fg (ib a b c d e f):=by
  delta ac;rintro s d p i t data-hl;exact⟨hl,rfl,rfl⟩
theorem Sh:aD 265 Zi.spec:=aH Tryz.func265 (au aE Nj) aR XS
def ax0:Ct:=⟨[.val cy,.val cy,.val cI,.val cI,.val cI,.val (.sl bz)],[.own 5 bz],λd=>[(d.2.2.2.2.2.1.length:Int)<=1073741824],λd=>((dE (ib d.1 d.2.1 d.2.2.1 d.2.2.2.1 d.2.2.2.2.1 d.2.2.2.2.2.1),()),())⟩
theorem SG :
 ∀(a b c d e:Int)(f:ad),(0<=a/\a<=4294967295)/\(0<=b/\b<=4294967295)/\aj c/\aj d/\aj e/\(f.length<=maxLen/\ ∀(g:Int),g∈f->0<=g/\g<=255)/\True->(ac f)<=1073741824->(ac f)<=1073741824/\dE (((0:Int),d,e,c,false,a,b),f)=dE (ib a b c d e f):=by
  delta ac;rintro s d p i t data-hl;exact⟨hl,rfl⟩
theorem QL:aD 221 ax0.spec:=aH Tryz.func221 (au aE Fc) aR SG
def aw3:Ct:=⟨[.val (.sl bz),.val cy,.val cI,.val cI,.val cI,.val cI],[.own 5 bz,.val cI],λd=>[(d.1.length:Int)<=1099511627776],λd=>((eT d.1 d.2.1 d.2.2.1 d.2.2.2.1 d.2.2.2.2.1 d.2.2.2.2.2.1,dS d.1 d.2.2.1 d.2.2.2.1 d.2.2.2.2.1 d.2.2.2.2.2.1,()),())⟩
theorem WR :
 ∀(a:ad)(b c d e f:Int),(a.length<=maxLen/\ ∀(g:Int),g∈a->0<=g/\g<=255)/\(0<=b/\b<=4294967295)/\aj c/\aj d/\aj e/\aj f/\True->(ac a)<=1099511627776-> ∀(g:Bool),g= ! decide (c=11)->(ae g)/\(aq g)/\ ∀(h:Bool),(h=bif g then ! decide (c=3) else false)->(ae (! h))/\(aF h)/\ ∀(i:Bool),(i=bif h then true else decide (d<0))->(ae (! i))/\(aF i)/\ ∀(j:Bool),(j=bif i then true else decide (255<d))->((! j)->(aq (! j))/\(aq (! j))/\True)/\(ae (! j))/\(aF j)/\ao (bif j then true else ! decide (iV e f)) (([]:ad)=eT a b c d e f/\1=dS a c d e f) ((ac a)<=1099511627776/\ ∀(k:(Int×Int×Int×Int×Bool×Int×Int)×ad)(l:Bool),k=oF a/\l=decide (cH a)->ao (! l) (([]:ad)=eT a b c d e f/\17=dS a c d e f) ((0:Int)<=0/\(0:Int)<=28/\28<=(ac a)/\((length (cA a (toNat 0) (toNat 28))):Int)<=1073741824/\ ∀(m:ad)(n:Int),m=gN (c,d,cA a
 (toNat 0) (toNat 28))/\n=ix (c,d,cA a (toNat 0) (toNat 28))->ao (! decide (n=0)) (([]:ad)=eT a b c d e f/\n=dS a c d e f) ((ac m)<=1073741824/\dE (ib b k.1.2.2.2.2.2.1 (1:Int) e f m)=eT a b c d e f/\fg (ib b k.1.2.2.2.2.2.1 (1:Int) e f m)=dS a c d e f))):=by
  delta ae aq aF ac;rintro b src kind code id ttl ⟨⟨-,hb⟩,-⟩ hl
  (repeat (refine bO ?_;repeat refine bP ?_));by_cases hg:qh kind code id ttl
  rotate_left
  .refine av (λ_=>Sg hg) (λh=>absurd ?_ hg);by_cases hn:iV id ttl
   .rw[dM hn] at h;refine⟨?_,?_,hn⟩ <;> simp[db] at h <;> omega
   .rw[dw hn] at h;simp at h
  have hg':=hg;obtain⟨g1,g2,g3⟩:=hg';refine av (λh=>?_) (λ_=>⟨hl,?_⟩)
  .exfalso;rw[dM g3] at h;simp[db] at h;omega
  rintro d e ⟨rfl,rfl⟩;refine av (λh=>R5 hg (by simpa using h)) (λh=>?_);have ha:cH b:=by simpa using h
  have hgd:=A6 (src:=src) hg ha;obtain⟨-,h28,-⟩:=oM ha;rw[KN ha,PS];refine⟨ab,ab,ab,by rw[cW];omega,?_⟩;rintro n e ⟨rfl,rfl⟩;rw[hgd.2.2.1];refine av (λh=>by simp at h) (λ_=>?_);have:=EI (kind,code,b.take 28);refine⟨ab,hgd.2.1.symm,?_⟩;rw[hgd.1];exact hgd.2.2.2
theorem Km:aD 267 aw3.spec:=aH Tryz.func267 (au (au (au (au aE Ke) (Ct.named Rg)) (Ct.named aU8)) Sh) aR WR
def aP7:Ct:=⟨[.val (.sl bz),.val cy,.val cI,.val cI,.val cI,.val cI],[.own 5 bz,.val cI],λd=>[(d.1.length:Int)<=1099511627776],λd=>((eT d.1 d.2.1 d.2.2.1 d.2.2.2.1 d.2.2.2.2.1 d.2.2.2.2.2.1,dS d.1 d.2.2.1 d.2.2.2.1 d.2.2.2.2.1 d.2.2.2.2.2.1,()),())⟩
theorem aK8 :
 ∀(a:ad)(b c d e f:Int),(a.length<=maxLen/\ ∀(g:Int),g∈a->0<=g/\g<=255)/\(0<=b/\b<=4294967295)/\aj c/\aj d/\aj e/\aj f/\True->(ac a)<=1099511627776-> ∀(g:Bool),g= ! decide (c=11)->(ae g)/\(aq g)/\ ∀(h:Bool),(h=bif g then ! decide (c=3) else false)->(ae (! h))/\(aF h)/\ ∀(i:Bool),(i=bif h then true else decide (d<0))->(ae (! i))/\(aF i)/\ ∀(j:Bool),(j=bif i then true else decide (255<d))->(ae (! j))/\(aF j)/\ ∀(k:Bool),(k=bif j then true else decide (f<0))->(ae (! k))/\(aF k)/\ ∀(l:Bool),(l=bif k then true else decide (255<f))->(ae (! l))/\(aF l)/\ ∀(m:Bool),(m=bif l then true else decide (e<0))->(ae (! m))/\(aF m)/\ao (bif m then true else decide (65535<e)) (([]:ad)=eT a b c d e f/\1=dS a c d e f) ((ac a)<=1099511627776/\ ∀(n:(Int×Int×Int×Int×Bool×Int×Int)×ad)(o:Bool),n=s8 a/\o=decide (cH a)->ao (! o) (([]:ad)=eT a b c d e
 f/\17=dS a c d e f) ((0:Int)<=0/\(0:Int)<=28/\28<=(ac a)/\((length (cA a (toNat 0) (toNat 28))):Int)<=1073741824/\ ∀(p:ad)(q:Int),p=gN (c,d,cA a (toNat 0) (toNat 28))/\q=ix (c,d,cA a (toNat 0) (toNat 28))->(ac p)<=1073741824/\dE (ib b n.1.2.2.2.2.2.1 (1:Int) e f p)=eT a b c d e f/\0=dS a c d e f)):=by
  delta ae aq aF ac;rintro b src kind code id ttl ⟨⟨-,hb⟩,-⟩ hl
  (repeat (refine bO ?_;repeat refine bP ?_));by_cases hg:qh kind code id ttl
  rotate_left
  .refine av (λ_=>Sg hg) (λh=>absurd ?_ hg);refine⟨?_,?_,?_,?_⟩ <;> simp[db] at h <;> omega
  have hg':=hg;obtain⟨g1,g2,g3,g4⟩:=hg';refine av (λh=>?_) (λ_=>⟨hl,?_⟩)
  .exfalso;simp[db] at h;omega
  rintro d e ⟨rfl,rfl⟩;refine av (λh=>R5 hg (by simpa using h)) (λh=>?_);have ha:cH b:=by simpa using h
  have hgd:=A6 (src:=src) hg ha;obtain⟨-,h28,-⟩:=oM ha;rw[NB ha,PS];refine⟨ab,ab,ab,by rw[cW];omega,?_⟩;rintro n e ⟨rfl,rfl⟩;have:=EI (kind,code,b.take 28);exact⟨ab,hgd.2.1.symm,hgd.1.symm⟩
theorem Ky:aD 223 aP7.spec:=aH Tryz.func223 (au (au (au aE (Ct.named QI)) (Ct.named aj0)) QL) aR aK8
def ax6:Ct:=⟨[.val (.sl bz),.val cy,.val cI,.val cI],[.own 5 bz,.val cI],λd=>[(d.1.length:Int)<=1099511627776],λd=>((fZ d.1 d.2.1 d.2.2.1 d.2.2.2.1,eh d.1 d.2.2.1 d.2.2.2.1,()),())⟩
def pV(a:ad)(b c d:Int) :=
 ([]:ad)=fZ a b c d/\17=eh a c d
def JC(g:Int×Int×Int×Int×Int×Int×ad) :=
 (g.2.1,g.1,(0:Int),bits BinOp.and IntKind.i64 (ai (g.2.2.1+1)) (4294967295:Int),(20:Int),(0:Int),([]:ad))
theorem WL :
 ∀(a:ad)(b c d:Int),(a.length<=maxLen/\ ∀(e:Int),e∈a->0<=e/\e<=255)/\(0<=b/\b<=4294967295)/\aj c/\aj d/\True->(ac a)<=1099511627776->ao (! decide (iV c d)) (([]:ad)=fZ a b c d/\1=eh a c d) ((ac a)<=1099511627776/\ ∀(e:(Int×Int×Int×Int×Bool×Int×Int)×ad)(f:Bool),e=oF a/\f=decide (cH a)->ao (! f) (pV a b c d) (ao (decide (e.1.2.2.2.1=1)) ((ac e.2)<=1000000/\ ∀(g:Bool)(h i:Int)(j:ad)(k:Int),(g,h,i,j)=dW e.2/\k=gv e.2->ao (! decide (k=0)) (pV a b c d) ((ac j)<=1073741824/\ ∀(l:ad)(m:Int),l=fh (true,h,i,j)/\m=jF (true,h,i,j)->(ac l)<=1073741824/\dE (ib b e.1.2.2.2.2.2.1 e.1.2.2.2.1 c d l)=fZ a b c d/\fg (ib b e.1.2.2.2.2.2.1 e.1.2.2.2.1 c d l)=eh a c d)) (ao (decide (e.1.2.2.2.1=17)) ((ac e.2)<=1000000/\ ∀(g h:Int)(i:ad)(j:Int),(g,h,i)=lF e.1.2.2.2.2.2.1 e.1.2.2.2.2.2.2
 e.2/\j=gf e.1.2.2.2.2.2.1 e.1.2.2.2.2.2.2 e.2->ao (! decide (j=0)) (pV a b c d) ((ac a)<=1099511627776/\eT a b (3:Int) (3:Int) c d=fZ a b c d/\dS a (3:Int) (3:Int) c d=eh a c d)) (ao (decide (e.1.2.2.2.1=6)) ((ac e.2)<=1000000/\ ∀(g:Int×Int×Int×Int×Int×Int×ad)(h:Int),g=d7 e.1.2.2.2.2.2.1 e.1.2.2.2.2.2.2 e.2/\h=fW e.1.2.2.2.2.2.1 e.1.2.2.2.2.2.2 e.2-> ∀(i:Bool),i= ! decide (h=0)->(ae (! i))/\(ae (! i))/\(ae (! i))/\(aF i)/\ ∀(j:Bool),(j=bif i then true else decide (bits BinOp.and IntKind.i64 g.2.2.2.2.1 (2:Int)=0))->(ae (! j))/\(ae (! j))/\(ae (! j))/\(aF j)/\ao (bif j then true else ! decide (bits BinOp.and IntKind.i64 g.2.2.2.2.1 (4:Int)=0)) (pV a b c d) ((↑(0:Nat):Int)<=1000000/\ ∀(k:ad)(l:Int),k=eV b e.1.2.2.2.2.2.1 (JC g)/\l=j8 (JC g)->(ac k)<=1073741824/\dE (ib b e.1.2.2.2.2.2.1 e.1.2.2.2.1 c d k)=fZ a b
 c d/\fg (ib b e.1.2.2.2.2.2.1 e.1.2.2.2.1 c d k)=eh a c d)) (pV a b c d))))):=by
  delta pV JC ae aF ai ac;rintro b src id ttl ⟨⟨-,hb⟩,-⟩ hl;by_cases hn:iV id ttl
  rotate_left
  .exact av (λ_=>Ly hn) (λh=>absurd (by simpa using h) hn)
  refine av (λh=>by simp[hn] at h) (λ_=>⟨hl,?_⟩);rintro _ _ ⟨rfl,rfl⟩;refine av (λh=>rm hn (λk=>?_)) (λh=>?_)
  .have:=k.1;simp[this] at h
  have ha:cH b:=by simpa using h
  obtain⟨hd0,h28,hp1,hp6,-⟩:=oM ha;have hdl:=tc hd0;rw[KN ha];have hdb:bytes (b.drop 20):=ua hb;have hdr:(b.drop 20).length<=1480:=by rw[dR];omega
  have nofit:∀ k:Prop,(k->s9 b->False)->k->([]:ad)=fZ b src id ttl/\(17:Int)=eh b id ttl:=λk hk h=>rm hn (hk h);refine av (λh1=>?_) (λh1=>av (λh17=>?_) (λh17=>av (λh6=>?_) (λh6=>?_)))
  .have h1:d9 b=1:=aL h1;refine⟨by show ((b.drop 20).length:Int)<=_;omega,?_⟩;rintro r i q dt e ⟨hu,rfl⟩;refine av (λh=>?_) (λh=>?_)
   .refine rm hn (λk=>?_);obtain⟨-,⟨-,k⟩|⟨k,-⟩|⟨k,-⟩⟩:=k
    .simp[k] at h
    .omega
    .omega
   have h:gv (b.drop 20)=0:=by simpa using h
   have hh:=AY (src:=src) hn ha h1 h;have hlen:=HP (b.drop 20);have e2:(i,q,dt)=(dW (b.drop 20)).2:=iB Prod.snd hu;have e3:dt=(dW (b.drop 20)).2.2.2:=by rw[← e2]
   refine⟨by rw[e3];omega,?_⟩;rintro o e ⟨rfl,rfl⟩;rw[show ((true,i,q,dt):m8)=(true,(i,q,dt)) from rfl,e2];have hle:=QQ (true,(dW (b.drop 20)).2);refine⟨ab,?_,?_⟩
   .rw[hh.1,← h1];rfl
   .rw[hh.2];exact yW hn (by have:=h1;unfold d9 at this;simp only;omega) hle
  .have h1:=aO h1;have h17:d9 b=17:=aL h17;refine⟨by show ((b.drop 20).length:Int)<=_;omega,?_⟩;rintro sp dp dt e ⟨hu,rfl⟩;refine av (λh=>?_) (λh=>?_)
   .refine rm hn (λk=>?_);obtain⟨-,⟨k,-⟩|⟨-,k⟩|⟨k,-⟩⟩:=k
    .omega
    .have k:gf (cf b).2.2.2.2.2.1 (cf b).2.2.2.2.2.2 (b.drop 20)=0:=k;simp[k] at h
    .omega
   have h:gf (cL b) (gc b) (b.drop 20)=0:=by
    have:gf (cf b).2.2.2.2.2.1 (cf b).2.2.2.2.2.2 (b.drop 20)=0:=by simpa using h
    exact this
   have hh:=BP (src:=src) hn ha h17 h;exact⟨hl,hh.1.symm,by rw[hh.2,DM hn ha]⟩
  .have h1:=aO h1;have h17:=aO h17;have h6:d9 b=6:=aL h6;refine⟨by show ((b.drop 20).length:Int)<=_;omega,?_⟩;rintro t e ⟨ht,rfl⟩;have ht:t=d7 (cL b) (gc b) (b.drop 20):=ht;have hr:=Qz (s:=cL b) (d:=gc b) hdb;rw[← ht] at hr;have ee:fW (cf b).2.2.2.2.2.1 (cf b).2.2.2.2.2.2 (b.drop 20)=fW (cL b) (gc b) (b.drop 20):=rfl;rw[ee]
   (repeat (refine bO ?_;repeat refine bP ?_));refine av (λh=>?_) (λh=>?_)
   .refine rm hn (λk=>?_);obtain⟨-,⟨k,-⟩|⟨k,-⟩|⟨-,k1,k2,k3⟩⟩:=k
    .omega
    .omega
    .rw[← ht] at k2 k3;simp[k1,k2,k3] at h
   have k1:fW (cL b) (gc b) (b.drop 20)=0:=gC λk=>by simp[k] at h
   have k2:bits .and .i64 t.2.2.2.2.1 2≠0:=λk=>by simp[k1,k] at h
   have k3:bits .and .i64 t.2.2.2.2.1 4=0:=gC λk=>by simp[k1,k2,k] at h
   have hh:=Ah (src:=src) hn ha h6 k1 (by rw[← ht];exact k2) (by rw[← ht];exact k3);refine⟨aC,?_⟩;rintro o e ⟨rfl,rfl⟩;rw[aQ (n:=t.2.2.1+1) ab ab,VO];have hle:=Mx src (cL b) (jX t);have er:((t.2.1,t.1,0,(t.2.2.1+1)%4294967296,20,0,[]):kV)=jX t:=rfl;rw[er];refine⟨by show ((eV src (cL b) (jX t)).length:Int)<=_;omega,?_,?_⟩
   .rw[hh.1,← ht,← h6];rfl
   .rw[hh.2];exact yW hn (by have:=h6;unfold d9 at this;simp only;omega) hle
  .have h1:=aO h1;have h17:=aO h17;have h6:=aO h6;refine rm hn (λk=>?_);obtain⟨-,⟨k,-⟩|⟨k,-⟩|⟨k,-⟩⟩:=k
   .exact h1 k
   .exact h17 k
   .exact h6 k
theorem TW:aD 243 ax6.spec:=aH Tryz.func243 (au (au (au (au (au (au (au (au (au aE Ke) (Ct.named Rg)) (Ct.named YS)) (Ct.named aN2)) (Ct.named Ug)) (Ct.named Su)) (Ct.named Wo)) Km) Sh) aR WL
def aW5:Ct:=⟨[.val (.sl bz),.val cy,.val cI,.val cI],[.own 5 bz,.val cI],λd=>[(d.1.length:Int)<=1099511627776],λd=>((fZ d.1 d.2.1 d.2.2.1 d.2.2.2.1,eh d.1 d.2.2.1 d.2.2.2.1,()),())⟩
theorem aM1 :
 ∀(a:ad)(b c d:Int),(a.length<=maxLen/\ ∀(e:Int),e∈a->0<=e/\e<=255)/\(0<=b/\b<=4294967295)/\aj c/\aj d/\True->(ac a)<=1099511627776-> ∀(e:Bool),e=decide (d<0)->(ae (! e))/\(aF e)/\ ∀(f:Bool),(f=bif e then true else decide (255<d))->(ae (! f))/\(aF f)/\ ∀(g:Bool),(g=bif f then true else decide (c<0))->(ae (! g))/\(aF g)/\ao (bif g then true else decide (65535<c)) (([]:ad)=fZ a b c d/\1=eh a c d) ((ac a)<=1099511627776/\ ∀(h:(Int×Int×Int×Int×Bool×Int×Int)×ad)(i:Bool),h=s8 a/\i=decide (cH a)->ao (! i) (pV a b c d) (ao (decide (h.1.2.2.2.1=1)) ((ac h.2)<=1000000/\ ∀(j:Bool)(k l:Int)(m:ad)(n:Int),(j,k,l,m)=dW h.2/\n=gv h.2-> ∀(o:Bool),o=decide (n=0)->(ae o)/\(ae o)/\(aq o)/\ao (bif o then ! j else false) ((ac m)<=1073741824/\ ∀(p:ad)(q:Int),p=fh (true,k,l,m)/\q=jF (true,k,l,m)->(ac p)<=1073741824/\dE
 (ib b h.1.2.2.2.2.2.1 (1:Int) c d p)=fZ a b c d/\0=eh a c d) (pV a b c d)) (ao (decide (h.1.2.2.2.1=17)) ((ac h.2)<=1000000/\ ∀(j k:Int)(l:ad)(m:Int),(j,k,l)=lF h.1.2.2.2.2.2.1 h.1.2.2.2.2.2.2 h.2/\m=gf h.1.2.2.2.2.2.1 h.1.2.2.2.2.2.2 h.2->ao (decide (m=0)) ((ac a)<=1099511627776/\eT a b (3:Int) (3:Int) c d=fZ a b c d/\dS a (3:Int) (3:Int) c d=eh a c d) (pV a b c d)) (ao (decide (h.1.2.2.2.1=6)) ((ac h.2)<=1000000/\ ∀(j:Int×Int×Int×Int×Int×Int×ad)(k:Int),j=d7 h.1.2.2.2.2.2.1 h.1.2.2.2.2.2.2 h.2/\k=fW h.1.2.2.2.2.2.1 h.1.2.2.2.2.2.2 h.2-> ∀(l:Bool),l=decide (k=0)->(ae l)/\(ae l)/\(ae l)/\(aq l)/\ ∀(m:Bool),(m=bif l then ! decide (bits BinOp.and IntKind.i64 j.2.2.2.2.1 (2:Int)=0) else false)->(ae m)/\(ae m)/\(ae m)/\(aq m)/\ao (bif m then decide (bits BinOp.and IntKind.i64 j.2.2.2.2.1 (4:Int)=0) else false)
 ((4294967296:Int)≠(0:Int)/\(↑(0:Nat):Int)<=1000000/\ ∀(n:ad)(o:Int),n=eV b h.1.2.2.2.2.2.1 (j.2.1,j.1,(0:Int),Int.tmod (ai (j.2.2.1+1)) (4294967296:Int),(20:Int),(0:Int),([]:ad))/\o=j8 (j.2.1,j.1,(0:Int),Int.tmod (ai (j.2.2.1+1)) (4294967296:Int),(20:Int),(0:Int),([]:ad))->(ac n)<=1073741824/\dE (ib b h.1.2.2.2.2.2.1 (6:Int) c d n)=fZ a b c d/\0=eh a c d) (pV a b c d)) (pV a b c d))))):=by
  delta pV ae aq aF ai ac;rintro b src id ttl ⟨⟨-,hb⟩,-⟩ hl
  (repeat (intro (b_:Bool) (hb_:b_=_);(repeat refine⟨(by first|(simp +contextual;done)|(rw[hb_];simp +contextual;done)|(rw[hb_];simp;omega)|(rw[hb_];simp;intros;omega)|(rw[hb_];simp +contextual;intros;omega)|(intros;simp_all;done)|(intros;simp_all;omega)),?_⟩)));subst_vars;by_cases hn:iV id ttl
  rotate_left
  .refine av (λ_=>Ly hn) (λh=>absurd ?_ hn);refine⟨?_,?_⟩ <;> simp[db] at h <;> omega
  have hn':=hn;obtain⟨⟨n1,n2⟩,n3,n4⟩:=hn';refine av (λh=>?_) (λ_=>⟨hl,?_⟩)
  .exfalso;simp[db] at h;omega
  rintro _ _ ⟨rfl,rfl⟩;refine av (λh=>rm hn (λk=>?_)) (λh=>?_)
  .have:=k.1;simp[this] at h
  have ha:cH b:=by simpa using h
  obtain⟨hd0,h28,hp1,hp6,-⟩:=oM ha;have hdl:=tc hd0;rw[NB ha];have hdb:bytes (b.drop 20):=ua hb;have hdr:(b.drop 20).length<=1480:=by rw[dR];omega
  refine av (λh1=>?_) (λh1=>av (λh17=>?_) (λh17=>av (λh6=>?_) (λh6=>?_)))
  .have h1:d9 b=1:=aL h1;refine⟨by show ((b.drop 20).length:Int)<=_;omega,?_⟩;rintro r i q dt e ⟨hu,rfl⟩;have hr:r=false:=by
    have:=iB Prod.fst hu;rw[aR3 (hp1 h1)] at this;exact this
   subst hr
   (repeat (intro (b_:Bool) (hb_:b_=_);(repeat refine⟨(by first|(simp +contextual;done)|(rw[hb_];simp +contextual;done)|(rw[hb_];simp;omega)|(rw[hb_];simp;intros;omega)|(rw[hb_];simp +contextual;intros;omega)|(intros;simp_all;done)|(intros;simp_all;omega)),?_⟩)));subst_vars;refine av (λh=>?_) (λh=>?_)
   .have h:gv (b.drop 20)=0:=by simpa[db] using h
    have hh:=AY (src:=src) hn ha h1 h;have hlen:=HP (b.drop 20);have e2:(i,q,dt)=(dW (b.drop 20)).2:=iB Prod.snd hu;have e3:dt=(dW (b.drop 20)).2.2.2:=by rw[← e2]
    refine⟨by rw[e3];omega,?_⟩;rintro o e ⟨rfl,rfl⟩;rw[show ((true,i,q,dt):m8)=(true,(i,q,dt)) from rfl,e2];have hle:=QQ (true,(dW (b.drop 20)).2);exact⟨ab,hh.1.symm,hh.2.symm⟩
   .refine rm hn (λk=>?_);obtain⟨-,⟨-,k⟩|⟨k,-⟩|⟨k,-⟩⟩:=k
    .simp[k] at h
    .omega
    .omega
  .have h1:=aO h1;have h17:d9 b=17:=aL h17;refine⟨by show ((b.drop 20).length:Int)<=_;omega,?_⟩;rintro sp dp dt e ⟨hu,rfl⟩;refine bt (λh=>?_) (λh=>?_)
   .have h:gf (cL b) (gc b) (b.drop 20)=0:=h;have hh:=BP (src:=src) hn ha h17 h;exact⟨hl,hh.1.symm,by rw[hh.2,DM hn ha]⟩
   .refine rm hn (λk=>?_);obtain⟨-,⟨k,-⟩|⟨-,k⟩|⟨k,-⟩⟩:=k
    .omega
    .have k:gf (cf b).2.2.2.2.2.1 (cf b).2.2.2.2.2.2 (b.drop 20)=0:=k;simp[k] at h
    .omega
  .have h1:=aO h1;have h17:=aO h17;have h6:d9 b=6:=aL h6;refine⟨by show ((b.drop 20).length:Int)<=_;omega,?_⟩;rintro t e ⟨ht,rfl⟩;have ht:t=d7 (cL b) (gc b) (b.drop 20):=ht;have hr:=Qz (s:=cL b) (d:=gc b) hdb;rw[← ht] at hr;have ee:fW (cf b).2.2.2.2.2.1 (cf b).2.2.2.2.2.2 (b.drop 20)=fW (cL b) (gc b) (b.drop 20):=rfl;rw[ee]
   (repeat (refine bO ?_;repeat refine bP ?_));refine av (λh=>?_) (λh=>?_)
   .have k1:fW (cL b) (gc b) (b.drop 20)=0:=gC λk=>by simp[k] at h
    have k2:bits .and .i64 t.2.2.2.2.1 2≠0:=λk=>by simp[k1,k] at h
    have k3:bits .and .i64 t.2.2.2.2.1 4=0:=gC λk=>by simp[k1,k2,k] at h
    have hh:=Ah (src:=src) hn ha h6 k1 (by rw[← ht];exact k2) (by rw[← ht];exact k3);refine⟨ab,aC,?_⟩;rintro o e ⟨rfl,rfl⟩;rw[aQ (n:=t.2.2.1+1) ab ab,uT ab];have hle:=Mx src (cL b) (jX t);have er:((t.2.1,t.1,0,(t.2.2.1+1)%4294967296,20,0,[]):kV)=jX t:=rfl;rw[er];refine⟨by show ((eV src (cL b) (jX t)).length:Int)<=_;omega,?_,hh.2.symm⟩;rw[hh.1,← ht];rfl
   .refine rm hn (λk=>?_);obtain⟨-,⟨k,-⟩|⟨k,-⟩|⟨-,k1,k2,k3⟩⟩:=k
    .omega
    .omega
    .rw[← ht] at k2 k3;simp[k1,k2,k3] at h
  .have h1:=aO h1;have h17:=aO h17;have h6:=aO h6;refine rm hn (λk=>?_);obtain⟨-,⟨k,-⟩|⟨k,-⟩|⟨k,-⟩⟩:=k
   .exact h1 k
   .exact h17 k
   .exact h6 k
theorem Rv:aD 177 aW5.spec:=aH Tryz.func177 (au (au (au (au (au (au (au (au aE (Ct.named QI)) (Ct.named at0)) (Ct.named JV)) (Ct.named as2)) (Ct.named V7)) (Ct.named GP)) Ky) QL) aR aM1
end Go.RS
