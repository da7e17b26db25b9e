/- Ipv4: packets without options. -/
import Derived.Test.YtpdpkobkpacbnaaGreatDoorWeq
import Derived.Test.YtpdpkobkpacbnaaGreatDoorIdent
import Derived.Laws.BitsAllLaws
set_option maxRecDepth 100000
set_option linter.unusedVariables false
open Int (toNat)
open List (length take set drop)
namespace Go.RS
open Go.SX Go.Proofs
abbrev jP:CT := .pair cI (.pair cI (.pair cI (.pair cI (.pair .bool (.pair cP cP)))))
abbrev uZ:CT := .pair jP (.sl bN)
abbrev cH:Type:=Int×Int×Int×Int×Bool×Int×Int
abbrev ra:Type:=cH×ae
def p8(n:Int):Prop:=0<=n/\n<=255
instance (n:Int):Decidable (p8 n):=by unfold p8;infer_instance
def kW(h:cH):Prop:=p8 h.1/\p8 h.2.2.1/\p8 h.2.2.2.1/\0<=h.2.1/\h.2.1<=65535
instance (h:cH):Decidable (kW h):=by unfold kW;infer_instance
def l8(h:cH):Int:=if kW h then 0 else 1
def CG(h:cH)(n:Int):ae:=[69,h.1]++(w2 n++(w2 h.2.1++(w2 (if h.2.2.2.2.1 then 16384 else 0)++[h.2.2.1,h.2.2.2.1])))
def JN(h:cH):ae:=w4 h.2.2.2.2.2.1++w4 h.2.2.2.2.2.2
def g9(h:cH)(n:Int):ae:=CG h n++([0,0]++JN h)
def iY(h:cH)(n:Int):ae:=cR (g9 h n) 10 (de (g9 h n))
def fv(p:ra):Int:=if ¬ kW p.1 then 1 else if (1480:Int)<p.2.length then 5 else 0
def d7(p:ra):ae:=if fv p=0 then iY p.1 (20+p.2.length)++p.2 else []
def dV(b:ae):Int :=
 if (b.length:Int)<20 then 3 else if ¬ (b.getD 0 default=69/\(aH b 6=0∨aH b 6=16384)/\20<=aH b 2) then 2
 else if de (cR (b.take 20) 10 0)≠aH b 10 then 4 else 0
def pC:cH:=(0,0,0,0,false,0,0)
def bH(b:ae):cH:=(b.getD 1 default,aH b 4,b.getD 8 default,b.getD 9 default,decide (aH b 6=16384),fp ((b.drop 12).take 4),fp ((b.drop 16).take 4))
def jR(b:ae):cH:=if dV b=0 then bH b else pC
def ja(b:ae):Int:=if dV b=0 then aH b 2 else 0
def bY(b:ae):Int:=if dV b≠0 then dV b else if aH b 2≠b.length then 2 else if 1500<aH b 2 then 5 else 0
def aY(b:ae):ra:=if bY b=0 then (bH b,b.drop 20) else (pC,[])
def yB(h:cH):cH:=(h.1,h.2.1,h.2.2.1-1,h.2.2.2)
def gw(b:ae):Int:=if bY b≠0 then bY b else if (bH b).2.2.1<2 then 7 else 0
def io(b:ae):ae:=if gw b=0 then d7 (yB (bH b),b.drop 20) else []
theorem Vf(h:cH)(n:Int):(g9 h n).length=20:=rfl
theorem r0(h:cH)(n:Int):(iY h n).length=20:=by unfold iY;rw[mP];rfl
theorem Ft{h:cH}{n:Int}(hk:kW h):bytes (g9 h n):=by
 obtain⟨h1,h2,h3,-⟩:=hk
 exact iZ (iZ (nq ab ab (nq h1.1 h1.2 nM)) (iZ (mI _) (iZ (mI _) (iZ (mI _) (nq h2.1 h2.2 (nq h3.1 h3.2 nM))))))
  (iZ (nq ab ab (nq ab ab nM)) (iZ (zU _) (zU _)))
theorem H4{h:cH}{n:Int}(hk:kW h):bytes (iY h n):=tI (Ft hk)
theorem mr{n:Nat}{b:ae}(h:n+1<=b.length):∃ x r,b=x::r/\n<=r.length:=by
 cases b with
 | nil=>simp at h
 | cons x r=>exact⟨x,r,rfl,by simpa using h⟩
theorem X3{b:ae}(h:20<=b.length):∃ x0 x1 x2 x3 x4 x5 x6 x7 x8 x9 x10 x11 x12 x13 x14 x15 x16 x17 x18 x19 r,b=x0::x1::x2::x3::x4::x5::x6::x7::x8::x9::x10::x11::x12::x13::x14::x15::x16::x17::x18::x19::r:=by
 obtain⟨x0,b1,rfl,h1⟩:=mr (n:=19) h
 obtain⟨x1,b2,rfl,h2⟩:=mr (n:=18) h1
 obtain⟨x2,b3,rfl,h3⟩:=mr (n:=17) h2
 obtain⟨x3,b4,rfl,h4⟩:=mr (n:=16) h3
 obtain⟨x4,b5,rfl,h5⟩:=mr (n:=15) h4
 obtain⟨x5,b6,rfl,h6⟩:=mr (n:=14) h5
 obtain⟨x6,b7,rfl,h7⟩:=mr (n:=13) h6
 obtain⟨x7,b8,rfl,h8⟩:=mr (n:=12) h7
 obtain⟨x8,b9,rfl,h9⟩:=mr (n:=11) h8
 obtain⟨x9,b10,rfl,h10⟩:=mr (n:=10) h9
 obtain⟨x10,b11,rfl,h11⟩:=mr (n:=9) h10
 obtain⟨x11,b12,rfl,h12⟩:=mr (n:=8) h11
 obtain⟨x12,b13,rfl,h13⟩:=mr (n:=7) h12
 obtain⟨x13,b14,rfl,h14⟩:=mr (n:=6) h13
 obtain⟨x14,b15,rfl,h15⟩:=mr (n:=5) h14
 obtain⟨x15,b16,rfl,h16⟩:=mr (n:=4) h15
 obtain⟨x16,b17,rfl,h17⟩:=mr (n:=3) h16
 obtain⟨x17,b18,rfl,h18⟩:=mr (n:=2) h17
 obtain⟨x18,b19,rfl,h19⟩:=mr (n:=1) h18
 obtain⟨x19,b20,rfl,h20⟩:=mr (n:=0) h19
 exact⟨x0,x1,x2,x3,x4,x5,x6,x7,x8,x9,x10,x11,x12,x13,x14,x15,x16,x17,x18,x19,b20,rfl⟩
theorem aJ6(a:Int):fp [a]=a:=by simp[fp]
theorem By(a b c d:Int):fp [a,b,c,d]=((a*256+b)*256+c)*256+d:=by simp[fp]
theorem Ja{b:ae}{a w:Int}(h1:1<=w)(h2:w<=7)(h3:0<=a)(h4:a+w<=b.length):cB b a w=fp ((b.drop a.toNat).take w.toNat):=by
 rw[cB,af ab]
theorem aj5{b:ae}{i:Nat}(h:i<b.length):(b.drop i).take 1=[b.getD i default]:=by
 rw[sm h,bJ,cK h];rfl
theorem Dr{b:ae}{a:Int}(h3:0<=a)(h4:a+1<=b.length):cB b a 1=b.getD a.toNat default:=by
 rw[Ja ab ab h3 h4,show (1:Int).toNat=1 from rfl,aj5 ab,aJ6]
theorem ny{b:ae}{a:Int}(h3:0<=a)(h4:a+2<=b.length):cB b a 2=aH b a.toNat:=by
 rw[Ja ab ab h3 h4];rfl
theorem CB{b:ae}{a:Int}(h3:0<=a)(h4:a+4<=b.length):cB b a 4=fp ((b.drop a.toNat).take 4):=by
 rw[Ja ab ab h3 h4];rfl
theorem vt{b:ae}{n i:Nat}(h:i<n):(b.take n).getD i default=b.getD i default:=by
 rw[bJ,qi,am h,← bJ]
theorem yE{b:ae}{n i k:Nat}(h:i+k<=n):((b.take n).drop i).take k=(b.drop i).take k:=by
 rw[List.drop_take,List.take_take,Nat.min_eq_left ab]
theorem sj{b:ae}{n i:Nat}(h:i+2<=n):aH (b.take n) i=aH b i:=by
 unfold aH;rw[yE h]
theorem FI{b:ae}{n:Nat}(h:bytes b):bytes (b.take n):=λx hx=>h x (oP hx)
theorem vu{b:ae}{n:Nat}(h:bytes b):bytes (b.drop n):=λx hx=>h x (xg hx)
theorem xe{b:ae}(h:bytes b){i:Nat}(hi:i<b.length):0<=b.getD i default/\b.getD i default<=255:=by
 have:=bR (xs:=b) (i:=(i:Int)) ab ab
 exact h _ this
theorem nS{b:ae}(h:bytes b)(i:Nat):0<=aH b i/\aH b i<=65535:=by
 have:=FC 2 ((b.drop i).take 2) (by rw[dA];omega) (λx hx=>h x (xg (oP hx)))
 have e:(256:Int)^2=65536:=rfl
 unfold aH;omega
theorem rW{b:ae}(h:bytes b)(i:Nat):0<=fp ((b.drop i).take 4)/\fp ((b.drop i).take 4)<=4294967295:=by
 have:=FC 4 ((b.drop i).take 4) (by rw[dA];omega) (λx hx=>h x (xg (oP hx)))
 have e:(256:Int)^4=4294967296:=rfl
 omega
theorem mi{a:Int}{l:ae}(h:bytes (a::l)):(0<=a/\a<=255)/\bytes l:=⟨h a fY,λx hx=>h x (fM _ hx)⟩
theorem PE{a b c d:Int}(ha:0<=a/\a<=255)(hb:0<=b/\b<=255)(hc:0<=c/\c<=255)(hd:0<=d/\d<=255):w4 (((a*256+b)*256+c)*256+d)=[a,b,c,d]:=by
 unfold w4
 have e1:(((a*256+b)*256+c)*256+d)/16777216%256=a:=ab
 have e2:(((a*256+b)*256+c)*256+d)/65536%256=b:=ab
 have e3:(((a*256+b)*256+c)*256+d)/256%256=c:=ab
 have e4:(((a*256+b)*256+c)*256+d)%256=d:=ab
 rw[e1,e2,e3,e4]
theorem QC{b:ae}(hb:bytes b)(hl:20<=b.length)(h0:b.getD 0 default=69)(hf:aH b 6=0∨aH b 6=16384) :
  g9 (bH b) (aH b 2)=cR (b.take 20) 10 0/\(iY (bH b) (aH b 2)=b.take 20↔de (cR (b.take 20) 10 0)=aH b 10):=by
 obtain⟨x0,x1,x2,x3,x4,x5,x6,x7,x8,x9,x10,x11,x12,x13,x14,x15,x16,x17,x18,x19,r,rfl⟩:=X3 hl
 have hb0:=hb
 obtain⟨k0,hb⟩:=mi hb
 obtain⟨k1,hb⟩:=mi hb
 obtain⟨k2,hb⟩:=mi hb
 obtain⟨k3,hb⟩:=mi hb
 obtain⟨k4,hb⟩:=mi hb
 obtain⟨k5,hb⟩:=mi hb
 obtain⟨k6,hb⟩:=mi hb
 obtain⟨k7,hb⟩:=mi hb
 obtain⟨k8,hb⟩:=mi hb
 obtain⟨k9,hb⟩:=mi hb
 obtain⟨k10,hb⟩:=mi hb
 obtain⟨k11,hb⟩:=mi hb
 obtain⟨k12,hb⟩:=mi hb
 obtain⟨k13,hb⟩:=mi hb
 obtain⟨k14,hb⟩:=mi hb
 obtain⟨k15,hb⟩:=mi hb
 obtain⟨k16,hb⟩:=mi hb
 obtain⟨k17,hb⟩:=mi hb
 obtain⟨k18,hb⟩:=mi hb
 obtain⟨k19,hb⟩:=mi hb
 have e2:aH (x0::x1::x2::x3::x4::x5::x6::x7::x8::x9::x10::x11::x12::x13::x14::x15::x16::x17::x18::x19::r) 2=x2*256+x3:=ie _ _ _
 have e4:aH (x0::x1::x2::x3::x4::x5::x6::x7::x8::x9::x10::x11::x12::x13::x14::x15::x16::x17::x18::x19::r) 4=x4*256+x5:=ie _ _ _
 have e6:aH (x0::x1::x2::x3::x4::x5::x6::x7::x8::x9::x10::x11::x12::x13::x14::x15::x16::x17::x18::x19::r) 6=x6*256+x7:=ie _ _ _
 have e10:aH (x0::x1::x2::x3::x4::x5::x6::x7::x8::x9::x10::x11::x12::x13::x14::x15::x16::x17::x18::x19::r) 10=x10*256+x11:=ie _ _ _
 have n12:fp (((x0::x1::x2::x3::x4::x5::x6::x7::x8::x9::x10::x11::x12::x13::x14::x15::x16::x17::x18::x19::r).drop 12).take 4)=((x12*256+x13)*256+x14)*256+x15:=By _ _ _ _
 have n16:fp (((x0::x1::x2::x3::x4::x5::x6::x7::x8::x9::x10::x11::x12::x13::x14::x15::x16::x17::x18::x19::r).drop 16).take 4)=((x16*256+x17)*256+x18)*256+x19:=By _ _ _ _
 have h0:x0=69:=h0
 subst h0
 rw[e6] at hf
 have hk:w2 (if decide (x6*256+x7=16384) then 16384 else 0)=[x6,x7]:=by
  rcases hf with hf|hf
  .rw[hf];have:x6=0/\x7=0:=ab;rw[this.1,this.2];rfl
  .rw[hf];have:x6=64/\x7=0:=ab;rw[this.1,this.2];rfl
 have hbody:g9 (bH (69::x1::x2::x3::x4::x5::x6::x7::x8::x9::x10::x11::x12::x13::x14::x15::x16::x17::x18::x19::r)) (aH (69::x1::x2::x3::x4::x5::x6::x7::x8::x9::x10::x11::x12::x13::x14::x15::x16::x17::x18::x19::r) 2)=cR ((69::x1::x2::x3::x4::x5::x6::x7::x8::x9::x10::x11::x12::x13::x14::x15::x16::x17::x18::x19::r).take 20) 10 0:=by
  unfold g9 CG JN bH;simp only;rw[e2,e4,e6,n12,n16,hk,E8 k2.1 k2.2 k3.1 k3.2,E8 k4.1 k4.2 k5.1 k5.2,PE k12 k13 k14 k15,PE k16 k17 k18 k19];rfl
 refine⟨hbody,?_⟩
 rw[iY,hbody,e10]
 have hc:=pK (b:=cR ((69::x1::x2::x3::x4::x5::x6::x7::x8::x9::x10::x11::x12::x13::x14::x15::x16::x17::x18::x19::r).take 20) 10 0) (tI (λx hx=>hb0 x (oP hx)))
 generalize de (cR ((69::x1::x2::x3::x4::x5::x6::x7::x8::x9::x10::x11::x12::x13::x14::x15::x16::x17::x18::x19::r).take 20) 10 0)=c at hc ⊢
 have e:cR (cR ((69::x1::x2::x3::x4::x5::x6::x7::x8::x9::x10::x11::x12::x13::x14::x15::x16::x17::x18::x19::r).take 20) 10 0) 10 c=[69,x1,x2,x3,x4,x5,x6,x7,x8,x9,c/256%256,c%256,x12,x13,x14,x15,x16,x17,x18,x19]:=rfl
 rw[e]
 have e':(69::x1::x2::x3::x4::x5::x6::x7::x8::x9::x10::x11::x12::x13::x14::x15::x16::x17::x18::x19::r).take 20=[69,x1,x2,x3,x4,x5,x6,x7,x8,x9,x10,x11,x12,x13,x14,x15,x16,x17,x18,x19]:=rfl
 rw[e']
 constructor
 .intro h;simp only[List.cons.injEq,iu,true_and] at h;omega
 .intro h;have:c/256%256=x10/\c%256=x11:=ab;rw[this.1,this.2]
def r9(k:Nat):Nat:=[0,1,2,4,6,8,9,10,12,16,20].getD k 20
theorem Yx{h:cH}{n f k:Int}(hok:kW h)(n0:0<=n)(n1:n<=65535)(s0:0<=h.2.2.2.2.2.1/\h.2.2.2.2.2.1<=4294967295)(d0:0<=h.2.2.2.2.2.2/\h.2.2.2.2.2.2<=4294967295)(hf:f=if h.2.2.2.2.1 then 16384 else 0)(k0:0<=k)(k1:k<10) :
  cQ ((g9 h n).take (r9 k.toNat)) (lP [69,h.1,n,h.2.1,f,h.2.2.1,h.2.2.2.1,0,h.2.2.2.2.2.1,h.2.2.2.2.2.2] k.toNat) (lP [1,1,2,2,2,1,1,2,4,4] k.toNat)=(g9 h n).take (r9 (k+1).toNat):=by
 obtain⟨h1,h2,h3,h4,h5⟩:=hok
 have hf0:0<=f/\f<=65535:=by rw[hf];split <;> omega
 have:k=0∨k=1∨k=2∨k=3∨k=4∨k=5∨k=6∨k=7∨k=8∨k=9:=ab
 rcases this with rfl|rfl|rfl|rfl|rfl|rfl|rfl|rfl|rfl|rfl
 .exact tQ (b:=[]) (n:=69) ab ab
 .exact tQ (b:=[69]) h1.1 h1.2
 .exact jQ (b:=[69,h.1]) n0 n1
 .exact jQ (b:=[69,h.1]++w2 n) h4 h5
 .have:=jQ (b:=[69,h.1]++(w2 n++w2 h.2.1)) hf0.1 hf0.2;rw[hf] at this ⊢;exact this
 .exact tQ (b:=(g9 h n).take 8) h2.1 h2.2
 .exact tQ (b:=(g9 h n).take 9) h3.1 h3.2
 .exact jQ (b:=(g9 h n).take 10) (n:=0) ab ab
 .exact vW (b:=(g9 h n).take 12) s0.1 s0.2
 .exact vW (b:=(g9 h n).take 16) d0.1 d0.2
theorem AQ{b:ae}(h:dV b=0):20<=b.length:=by
 unfold dV at h
 split at h
 .cases h
 .omega
theorem El{b:ae}(h:bY b=0):dV b=0:=by
 unfold bY at h
 split at h
 next k=>exact absurd h k
 next k=>exact o8.1 k
theorem vO{b:ae}(h:bY b=0):(b.length:Int)<=1500/\aH b 2=b.length:=by
 unfold bY at h
 split at h
 next k=>exact absurd h k
 .split at h
  .cases h
  .split at h
   .cases h
   .omega
theorem ai2{b:ae}(hb:bytes b)(h:dV b=0):kW (bH b):=by
 have hl:=AQ h
 exact⟨xe hb ab,xe hb ab,xe hb ab,nS hb 4⟩
theorem Th{b:ae}(hb:bytes b)(h:bY b=0)(h2:¬ (bH b).2.2.1<2):kW (yB (bH b)):=by
 obtain⟨k1,k2,k3,k4⟩:=ai2 hb (El h)
 refine⟨k1,?_,k3,k4⟩
 obtain⟨k5,k6⟩:=k2
 show 0<=(bH b).2.2.1-1/\(bH b).2.2.1-1<=255
 omega
def XU:Ct:=⟨[.val cI],[.val .bool],λd=>[],λd=>((decide (p8 d.1),()),())⟩
theorem ag1 :
 ∀(a:Int),aq a/\True->True-> ∀(b:Bool),b=decide (0<=a)->(ah b)/\(ar b)/\(bif b then decide (a<256) else false)=decide (p8 a):=by
  delta ah ar;rintro n - -
  (repeat (refine bX ?_;repeat refine bZ ?_));unfold p8;by_cases h:0<=n <;> simp[h] <;> omega
theorem ae3:aB 235 XU.spec:=aF Tryz.func235 aC aT ag1
def Zf:Ct:=⟨[.agg jP],[.val cI],λd=>[],λd=>((l8 d.1,()),())⟩
theorem Wq :
 ∀(a:cH),CT.wf jP a/\True->True-> ∀(b:Bool),b= ! decide (p8 a.1)->(ah (! b))/\((! b)->(ar (! b))/\(ar (! b))/\True)/\(ah (! b))/\(aE b)/\ ∀(c:Bool),(c=bif b then true else ! decide (p8 a.2.2.1))->(ah (! c))/\((! c)->(ar (! c))/\(ar (! c))/\True)/\(ah (! c))/\(aE c)/\ ∀(d:Bool),(d=bif c then true else ! decide (p8 a.2.2.2.1))->(ah (! d))/\(ah (! d))/\(aE d)/\ ∀(e:Bool),(e=bif d then true else decide (a.2.1<0))->(ah (! e))/\(ah (! e))/\(aE e)/\ao (bif e then true else decide (65536<=a.2.1)) (1=l8 a) (0=l8 a):=by
  delta ah ar aE;rintro h - -
  (repeat (refine bX ?_;repeat refine bZ ?_));refine aw (λhc=>?_) (λhc=>?_)
  .rw[l8,af];intro k;obtain⟨k1,k2,k3,k4,k5⟩:=k;simp[k1,k2,k3,dE] at hc;omega
  .rw[l8,am];simp[dE] at hc;exact⟨hc.1.1.1.1,hc.1.1.1.2,hc.1.1.2,ab,ab⟩
theorem ab9:aB 234 Zf.spec:=aF Tryz.func234 (av aC ae3) aT Wq
def MD:Ct:=⟨[.agg uZ],[.own 5 bN,.val cI],λd=>[(d.1.2.length:Int)<=1073741824],λd=>((d7 d.1,fv d.1,()),())⟩
def Um:bw MD.ps->ce:=(λd=>{loops:=(bp 12 (λS=>{ι:=Int×ae,qn:=ft,μ:=λi=>(10-i.1).toNat,inv:=λi=>0<=i.1/\i.1<=10/\i.2=(g9 d.1.1 (20+d.1.2.length)).take (r9 i.1.toNat),keep:=[1,4,53],slots:=λi=>[(7,.own 524288 1),(54,.int .i64 i.1)],keepN:=[32,80],names:=λi=>[(524288,.live (.row 5 bN i.2))]}) cC)})
def Gk(a:(Int×Int×Int×Int×Bool×Int×Int)×ae)(b:Int)(c:ae) :=
 (2:Int)=2/\a.1.2.2.1=a.1.2.2.1/\(1:Int)=1/\a.1.2.2.2.1=a.1.2.2.2.1/\(1:Int)=1/\(0:Int)=0/\(2:Int)=2/\aj a.1.2.2.2.2.2.1=aj a.1.2.2.2.2.2.1/\(4:Int)=4/\aj a.1.2.2.2.2.2.2=aj a.1.2.2.2.2.2.2/\(4:Int)=4/\0=b/\a.1.1=a.1.1/\a.1.2.1=a.1.2.1/\a.1.2.2.1=a.1.2.2.1/\a.1.2.2.2.1=a.1.2.2.2.1/\a.1.2.2.2.2.1=a.1.2.2.2.2.1/\a.1.2.2.2.2.2.1=a.1.2.2.2.2.2.1/\a.1.2.2.2.2.2.2=a.1.2.2.2.2.2.2/\a.2=a.2/\a.1.1=a.1.1/\a.1.2.1=a.1.2.1/\a.1.2.2.1=a.1.2.2.1/\a.1.2.2.2.1=a.1.2.2.2.1/\a.1.2.2.2.2.1=a.1.2.2.2.2.1/\a.1.2.2.2.2.2.1=a.1.2.2.2.2.2.1/\a.1.2.2.2.2.2.2=a.1.2.2.2.2.2.2/\c=([]:ae)/\True
def Hq(a:(Int×Int×Int×Int×Bool×Int×Int)×ae)(b:Int)(d:ae)(f:Int)(g:ae) :=
 (2:Int)=2/\a.1.2.2.1=a.1.2.2.1/\(1:Int)=1/\a.1.2.2.2.1=a.1.2.2.2.1/\(1:Int)=1/\(0:Int)=0/\(2:Int)=2/\aj a.1.2.2.2.2.2.1=aj a.1.2.2.2.2.2.1/\(4:Int)=4/\aj a.1.2.2.2.2.2.2=aj a.1.2.2.2.2.2.2/\(4:Int)=4/\aj (b+1)=f/\a.1.1=a.1.1/\a.1.2.1=a.1.2.1/\a.1.2.2.1=a.1.2.2.1/\a.1.2.2.2.1=a.1.2.2.2.1/\a.1.2.2.2.2.1=a.1.2.2.2.2.1/\a.1.2.2.2.2.2.1=a.1.2.2.2.2.2.1/\a.1.2.2.2.2.2.2=a.1.2.2.2.2.2.2/\a.2=a.2/\a.1.1=a.1.1/\a.1.2.1=a.1.2.1/\a.1.2.2.1=a.1.2.2.1/\a.1.2.2.2.1=a.1.2.2.2.1/\a.1.2.2.2.2.1=a.1.2.2.2.2.1/\a.1.2.2.2.2.2.1=a.1.2.2.2.2.2.1/\a.1.2.2.2.2.2.2=a.1.2.2.2.2.2.2/\d=g/\True
def C6(c:ae)(d:Int) :=
 set c (toNat 10) (IntKind.wrap .u8 (dF IntKind.i64 d (8:Int)))
def Hy(a:(Int×Int×Int×Int×Bool×Int×Int)×ae)(c:ae) :=
 (ac c)<=1099511627776/\ ∀(d:Int),d=65535 -oc (bQ true c)->(0:Int)<=8/\(0:Int)<=10/\10<(ac c)/\(0:Int)<=11/\11<((length (C6 c d)):Int)/\(length (set (C6 c d) (toNat 11) (IntKind.wrap .u8 d))+a.2.length)*(1:Nat)<=(140737488355328:Nat)/\set (C6 c d) (toNat 11) (IntKind.wrap .u8 d)++a.2=d7 a/\0=fv a
def BS(b:Int) :=
 lP [(1:Int),(1:Int),(2:Int),(2:Int),(2:Int),(1:Int),(1:Int),(2:Int),(4:Int),(4:Int)] b.toNat
def mS(a:(Int×Int×Int×Int×Bool×Int×Int)×ae) :=
 (20:Int)+(ac a.2)
def Jd(a:(Int×Int×Int×Int×Bool×Int×Int)×ae)(b:Int) :=
 lP [(69:Int),a.1.1,aj (mS a),a.1.2.1,(16384:Int),a.1.2.2.1,a.1.2.2.2.1,(0:Int),aj a.1.2.2.2.2.2.1,aj a.1.2.2.2.2.2.2] b.toNat
theorem aC5 :
 ∀(a:(Int×Int×Int×Int×Bool×Int×Int)×ae),CT.wf uZ a/\True->(ac a.2)<=1073741824->ao (! decide (l8 a.1=0)) (([]:ae)=d7 a/\l8 a.1=fv a) (ao (decide (1480<(ac a.2))) (([]:ae)=d7 a/\5=fv a) (ao a.1.2.2.2.2.1 ((∃(b:Int) (c:ae),(0<=b/\b<=10/\c=take (r9 b.toNat) (g9 a.1 (mS a)))/\(69:Int)=69/\(1:Int)=1/\a.1.1=a.1.1/\(1:Int)=1/\aj (mS a)=aj (mS a)/\(2:Int)=2/\a.1.2.1=a.1.2.1/\(2:Int)=2/\(16384:Int)=16384/\(Gk a b c))/\ ∀(b:Int)(c:ae),0<=b/\b<=10/\c=take (r9 b.toNat) (g9 a.1 (mS a))->ao (decide (b<10)) (0<=b/\b<(↑(10:Nat):Int)/\(ac c)<=1099511627776/\ ∀(d:ae)(e:Int),d=cQ c (Jd a b) (BS b)/\e=qr (Jd a b) (BS b)-> ∃(f:Int) (g:ae),(0<=f/\f<=10/\g=take (r9 f.toNat) (g9 a.1 (mS a)))/\toNat ((10:Int) -f)<toNat ((10:Int)
 -b)/\(69:Int)=69/\(1:Int)=1/\a.1.1=a.1.1/\(1:Int)=1/\aj (mS a)=aj (mS a)/\(2:Int)=2/\a.1.2.1=a.1.2.1/\(2:Int)=2/\(16384:Int)=16384/\(Hq a b d f g)) (Hy a c)) ((∃(b:Int) (c:ae),(0<=b/\b<=10/\c=take (r9 b.toNat) (g9 a.1 (mS a)))/\(69:Int)=69/\(1:Int)=1/\a.1.1=a.1.1/\(1:Int)=1/\aj (mS a)=aj (mS a)/\(2:Int)=2/\a.1.2.1=a.1.2.1/\(2:Int)=2/\(0:Int)=0/\(Gk a b c))/\ ∀(b:Int)(c:ae),0<=b/\b<=10/\c=take (r9 b.toNat) (g9 a.1 (mS a))->ao (decide (b<10)) (0<=b/\b<(↑(10:Nat):Int)/\(ac c)<=1099511627776/\ ∀(d:ae)(e:Int),d=cQ c (lP [(69:Int),a.1.1,aj (mS a),a.1.2.1,(0:Int),a.1.2.2.1,a.1.2.2.2.1,(0:Int),aj a.1.2.2.2.2.2.1,aj a.1.2.2.2.2.2.2] b.toNat) (BS b)/\e=qr (lP [(69:Int),a.1.1,aj (mS a),a.1.2.1,(0:Int),a.1.2.2.1,a.1.2.2.2.1,(0:Int),aj a.1.2.2.2.2.2.1,aj a.1.2.2.2.2.2.2] b.toNat) (BS b)-> ∃(f:Int) (g:List
 Int),(0<=f/\f<=10/\g=take (r9 f.toNat) (g9 a.1 (mS a)))/\toNat ((10:Int) -f)<toNat ((10:Int) -b)/\(69:Int)=69/\(1:Int)=1/\a.1.1=a.1.1/\(1:Int)=1/\aj (mS a)=aj (mS a)/\(2:Int)=2/\a.1.2.1=a.1.2.1/\(2:Int)=2/\(0:Int)=0/\(Hq a b d f g)) (Hy a c)))):=by
  delta Gk Hq Hy BS mS C6 Jd aj ac;rintro d ⟨⟨hw,-⟩,-⟩ hl;obtain⟨-,-,-,-,-,s0,d0⟩:=hw;have s0:0<=d.1.2.2.2.2.2.1/\d.1.2.2.2.2.2.1<=4294967295:=s0;have d0:0<=d.1.2.2.2.2.2.2/\d.1.2.2.2.2.2.2<=4294967295:=d0;refine aw (λhc=>?_) (λhc=>?_)
  .have hn:¬ kW d.1:=λk=>by rw[l8,am k] at hc;cases hc
   have he:fv d=1:=by rw[fv,am hn]
   rw[d7,he,l8,af hn];exact⟨rfl,rfl⟩
  have hok:kW d.1:=fj λk=>by rw[l8,af k] at hc;cases hc
  refine aw (λh5=>?_) (λh5=>?_)
  .have h5:=aI h5;have he:fv d=5:=by rw[fv,af (λk=>k hok),am h5]
   rw[d7,he];exact⟨rfl,rfl⟩
  have h5:=aL h5;have he:fv d=0:=by rw[fv,af (λk=>k hok),af h5]
  have e20:IntKind.wrap .i64 (20+(d.2.length:Int))=20+d.2.length:=aG ab ab;have es:IntKind.wrap .i64 d.1.2.2.2.2.2.1=d.1.2.2.2.2.2.1:=aG (by have:=s0.1;omega) (by have:=s0.2;omega);have ed:IntKind.wrap .i64 d.1.2.2.2.2.2.2=d.1.2.2.2.2.2.2:=aG (by have:=d0.1;omega) (by have:=d0.2;omega);have hc:=pK (Ft (n:=20+d.2.length) hok);have hbl:=Vf d.1 (20+d.2.length);have step:=λf hf k=>Yx (h:=d.1) (n:=20+d.2.length) (f:=f) (k:=k) hok ab ab s0 d0 hf;have fin:∀ ys,ys=g9 d.1 (20+d.2.length)->(set (set ys (toNat 10) (IntKind.wrap .u8 (dF .i64 (65535-oc (bQ true ys)) 8))) (toNat 11) (IntKind.wrap .u8 (65535-oc (bQ true ys)))++d.2=d7 d/\(0:Int)=fv d):=by
   rintro ys rfl;have hc:0<=65535-oc (bQ true (g9 d.1 (20+d.2.length))):=hc.1;rw[Jt hc,IntKind.wrap_u8',IntKind.wrap_u8',d7,he,am rfl];exact⟨rfl,rfl⟩
  rw[e20,es,ed];refine aw (λhk=>?_) (λhk=>?_)
  .refine⟨⟨0,[],⟨ab,ab,rfl⟩,aP⟩,?_⟩;rintro k ys ⟨k0,k1,rfl⟩;refine bT (λh=>?_) (λh=>?_)
   .have st:=step 16384 (by rw[hk];rfl) k k0 h;refine⟨k0,h,by rw[dA];omega,?_⟩;rintro y _ ⟨rfl,-⟩;exact⟨k+1,_,⟨ab,ab,st⟩,ab,aP⟩
   .have e10:k=10:=ab;subst e10;have et:(g9 d.1 (20+d.2.length)).take (r9 (toNat 10))=g9 d.1 (20+d.2.length):=fe (by rw[hbl];decide);rw[et];refine⟨ab,?_⟩;rintro c rfl;refine⟨ab,ab,ab,ab,by rw[gC];omega,by rw[gC,gC];omega,fin _ rfl⟩
  .refine⟨⟨0,[],⟨ab,ab,rfl⟩,aP⟩,?_⟩;rintro k ys ⟨k0,k1,rfl⟩;refine bT (λh=>?_) (λh=>?_)
   .have st:=step 0 (by rw[hk];rfl) k k0 h;refine⟨k0,h,by rw[dA];omega,?_⟩;rintro y _ ⟨rfl,-⟩;exact⟨k+1,_,⟨ab,ab,st⟩,ab,aP⟩
   .have e10:k=10:=ab;subst e10;have et:(g9 d.1 (20+d.2.length)).take (r9 (toNat 10))=g9 d.1 (20+d.2.length):=fe (by rw[hbl];decide);rw[et];refine⟨ab,?_⟩;rintro c rfl;refine⟨ab,ab,ab,ab,by rw[gC];omega,by rw[gC,gC];omega,fin _ rfl⟩
theorem Rr:aB 226 MD.spec:=aF Tryz.func226 (av (av (av aC ab9) (Ct.named Lv)) (Ct.named wZ)) Um aC5
def aa4:Ct:=⟨[.val cI,.box 22 (.row 5 bN),.box 3 cI],[.val cI],λd=>[(d.2.1.length:Int)<=100000,0<=d.1,d.1<=8,0<=d.2.2.1,d.2.2.1<=100000],λd=>((cB d.2.1 d.2.2.1 d.1,()),(d.2.1,d.2.2.1+d.1,()))⟩
theorem XT :
 ∀(a:Int)(b:ae)(c:Int),aq a/\(b.length<=maxLen/\ ∀(d:Int),d∈b->0<=d/\d<=255)/\aq c/\True->(ac b)<=100000/\0<=a/\a<=8/\0<=c/\c<=100000->(ac b)<=9223372036854775807/\cB b c a=cB b c a/\b=b/\aj (c+a)=c+a:=by
  delta aj ac;rintro w b a-⟨h1,h2,h3,h4,h5⟩;exact⟨ab,rfl,rfl,aG ab ab⟩
theorem az6:aB 167 aa4.spec:=aF Tryz.func167 (av aC Fy) aT XT
def V9:Ct:=⟨[.val (.sl bN)],[.agg jP,.val cI,.val cI],λd=>[(d.1.length:Int)<=1099511627776],λd=>((jR d.1,ja d.1,dV d.1,()),())⟩
def rM :=
 ((0:Int),(0:Int),(0:Int),(0:Int),false,(0:Int),(0:Int))
def tF(a:ae) :=
 a.length<=maxLen/\ ∀(b:Int),b∈a->0<=b/\b<=255
theorem ao9 :
 ∀(a:ae),(tF a)/\True->(ac a)<=1099511627776->ao (decide ((ac a)<20)) ((rM)=jR a/\0=ja a/\3=dV a) ((0:Int)<=0/\(0:Int)<=20/\20<=(ac a)/\((length (cL a (toNat 0) (toNat 20))):Int)<=1099511627776/\((length (cL a (toNat 0) (toNat 20))):Int)<=100000/\(0:Int)<=1/\(1:Int)<=8/\(0:Int)<=0/\(0:Int)<=100000/\ ∀(b:Int)(c:ae)(d:Int),b=cB (cL a (toNat 0) (toNat 20)) (0:Int) (1:Int)/\c=cL a (toNat 0) (toNat 20)/\d=0+1->(ac c)<=100000/\(0:Int)<=1/\(1:Int)<=8/\0<=d/\d<=100000/\ ∀(e:Int)(f:ae)(g:Int),e=cB c d (1:Int)/\f=c/\g=d+1->(ac f)<=100000/\(0:Int)<=2/\(2:Int)<=8/\0<=g/\g<=100000/\ ∀(h:Int)(i:ae)(j:Int),h=cB f g (2:Int)/\i=f/\j=g+2->(ac i)<=100000/\(0:Int)<=2/\(2:Int)<=8/\0<=j/\j<=100000/\ ∀(k:Int)(l:ae)(m:Int),k=cB i j (2:Int)/\l=i/\m=j+2->(ac
 l)<=100000/\(0:Int)<=2/\(2:Int)<=8/\0<=m/\m<=100000/\ ∀(n:Int)(o:ae)(p:Int),n=cB l m (2:Int)/\o=l/\p=m+2->(ac o)<=100000/\(0:Int)<=1/\(1:Int)<=8/\0<=p/\p<=100000/\ ∀(q:Int)(r:ae)(s:Int),q=cB o p (1:Int)/\r=o/\s=p+1->(ac r)<=100000/\(0:Int)<=1/\(1:Int)<=8/\0<=s/\s<=100000/\ ∀(t:Int)(u:ae)(v:Int),t=cB r s (1:Int)/\u=r/\v=s+1->(ac u)<=100000/\(0:Int)<=2/\(2:Int)<=8/\0<=v/\v<=100000/\ ∀(w:Int)(x:ae)(y:Int),w=cB u v (2:Int)/\x=u/\y=v+2->(ac x)<=100000/\(0:Int)<=4/\(4:Int)<=8/\0<=y/\y<=100000/\ ∀(z:Int)(A:ae)(B:Int),z=cB x y (4:Int)/\A=x/\B=y+4->(ac A)<=100000/\(0:Int)<=4/\(4:Int)<=8/\0<=B/\B<=100000/\ ∀(C:Int)(D:ae)(E:Int),C=cB A B (4:Int)/\D=A/\E=B+4-> ∀(F:Bool),F= ! decide (b=69)->(ah (! F))/\(ah (! F))/\ ∀(G:Bool),G= ! decide (n=0)->(ah (! F&&G))/\(ah (! F&&G))/\((! F)->(ar (! F))/\(G->(! F&&G))/\True)/\(aE F)/\
 ∀(H:Bool),(H=bif F then true else bif G then ! decide (n=16384) else false)->(ah (! H))/\(aE H)/\ao (bif H then true else decide (h<20)) ((rM)=jR a/\0=ja a/\2=dV a) ((0:Int)<=10/\10<(ac D)/\(0:Int)<=11/\11<((length (set D (toNat 10) (0:Int))):Int)/\((length (set (set D (toNat 10) (0:Int)) (toNat 11) (0:Int))):Int)<=1099511627776/\ ∀(I:Int),I=65535 -oc (bQ true (set (set D (toNat 10) (0:Int)) (toNat 11) (0:Int)))->ao (! decide (I=w)) ((rM)=jR a/\0=ja a/\4=dV a) ((e,k,q,t,decide (n=16384),IntKind.wrap .u32 z,IntKind.wrap .u32 C)=jR a/\h=ja a/\0=dV a))):=by
  delta rM tF ah ar aE ac;rintro b ⟨⟨-,hb⟩,-⟩ hl;refine aw (λh=>?_) (λh=>?_)
  .have h:=aI h;have e:dV b=3:=by rw[dV,am h]
   rw[jR,ja,e];exact⟨rfl,rfl,rfl⟩
  have h:=aL h;have hB:cL b (toNat 0) (toNat 20)=b.take 20:=rfl;have hBl:(b.take 20).length=20:=by rw[dA];omega
  rw[hB];refine⟨ab,ab,ab,ab,ab,ab,ab,ab,ab,?_⟩;rintro v0 _ a0 ⟨e0,rfl,q0⟩;rw[Dr ab ab,vt bt] at e0;have q0:a0=1:=q0;subst q0;refine⟨ab,ab,ab,ab,ab,?_⟩;rintro v1 _ a1 ⟨e1,rfl,q1⟩;rw[Dr ab ab,vt bt] at e1;have q1:a1=2:=q1;subst q1;refine⟨ab,ab,ab,ab,ab,?_⟩;rintro v2 _ a2 ⟨e2,rfl,q2⟩;rw[ny ab ab,sj bt] at e2;have q2:a2=4:=q2;subst q2;refine⟨ab,ab,ab,ab,ab,?_⟩;rintro v3 _ a3 ⟨e3,rfl,q3⟩;rw[ny ab ab,sj bt] at e3;have q3:a3=6:=q3;subst q3;refine⟨ab,ab,ab,ab,ab,?_⟩;rintro v4 _ a4 ⟨e4,rfl,q4⟩;rw[ny ab ab,sj bt] at e4;have q4:a4=8:=q4;subst q4;refine⟨ab,ab,ab,ab,ab,?_⟩;rintro v5 _ a5 ⟨e5,rfl,q5⟩;rw[Dr ab ab,vt bt] at e5;have q5:a5=9:=q5;subst q5;refine⟨ab,ab,ab,ab,ab,?_⟩;rintro v6 _ a6 ⟨e6,rfl,q6⟩;rw[Dr ab ab,vt bt] at e6;have q6:a6=10:=q6;subst q6;refine⟨ab,ab,ab,ab,ab,?_⟩;rintro v7 _ a7 ⟨e7,rfl,q7⟩;rw[ny ab ab,sj bt] at e7;have q7:a7=12:=q7;subst q7;refine⟨ab,ab,ab,ab,ab,?_⟩
  rintro v8 _ a8 ⟨e8,rfl,q8⟩;rw[CB ab ab,yE bt] at e8;have q8:a8=16:=q8;subst q8;refine⟨ab,ab,ab,ab,ab,?_⟩;rintro v9 _ a9 ⟨e9,rfl,q9⟩;rw[CB ab ab,yE bt] at e9;have q9:a9=20:=q9;subst q9;subst e0 e1 e2 e3 e4 e5 e6 e7 e8 e9;have n12:=rW hb 12;have n16:=rW hb 16;have hcs:65535-oc (bQ true (((b.take 20).set (toNat 10) 0).set (toNat 11) 0))=de (cR (b.take 20) 10 0):=rfl
  (repeat (refine bX ?_;repeat refine bZ ?_));refine aw (λhc=>?_) (λhc=>?_)
  .have e:dV b=2:=by
    rw[dV,af h,am];rintro⟨h0,hf,h2⟩;rw[show b.getD (toNat 0) default=69 from h0] at hc;rcases hf with hf|hf
    .rw[show aH b (toNat 6)=0 from hf] at hc;simp at hc;have h2:20<=aH b (toNat 2):=h2;simp at h2;omega
    .rw[show aH b (toNat 6)=16384 from hf] at hc;simp at hc;have h2:20<=aH b (toNat 2):=h2;simp at h2;omega
   rw[jR,ja,e];exact⟨rfl,rfl,rfl⟩
  have hg:b.getD 0 default=69/\(aH b 6=0∨aH b 6=16384)/\20<=aH b 2:=by
   by_cases h0:b.getD (toNat 0) default=69
   .by_cases h6:aH b (toNat 6)=0
    .simp[h0,h6] at hc;exact⟨h0,.inl h6,ab⟩
    .by_cases h7:aH b (toNat 6)=16384
     .simp[h0,h7] at hc;exact⟨h0,.inr h7,ab⟩
     .exfalso;rw[h0,dP h6,dP h7] at hc;simp at hc
   .exfalso;rw[dP h0] at hc;simp at hc
  refine⟨ab,ab,ab,by rw[gC];omega,by rw[gC,gC];omega,?_⟩;rw[hcs];rintro c rfl;refine aw (λhc=>?_) (λhc=>?_)
  .have e:dV b=4:=by
    rw[dV,af h,af (λk=>k hg),am];intro k;rw[show aH b (toNat 10)=aH b 10 from rfl,k] at hc;simp at hc
   rw[jR,ja,e];exact⟨rfl,rfl,rfl⟩
  .have e:dV b=0:=by
    rw[dV,af h,af (λk=>k hg),af];intro k;exact k (by simpa using hc)
   rw[jR,ja,e,am rfl,am rfl,show toNat 12=12 from rfl,show toNat 16=16 from rfl,qy n12.1 n12.2,qy n16.1 n16.2];exact⟨rfl,rfl,rfl⟩
theorem Mq:aB 124 V9.spec:=aF Tryz.func124 (av (av (av aC r4) (Ct.named az6)) (Ct.named wZ)) aT ao9
def ay7:Ct:=⟨[.val (.sl bN)],[.agg uZ,.val cI],λd=>[(d.1.length:Int)<=1099511627776],λd=>((aY d.1,bY d.1,()),())⟩
def wo :=
 ((rM),([]:ae))
theorem aE2 :
 ∀(a:ae),(tF a)/\True->(ac a)<=1099511627776->(ac a)<=1099511627776/\ao (! decide (dV a=0)) ((wo)=aY a/\dV a=bY a) (ao (! decide (ja a=(ac a))) ((wo)=aY a/\2=bY a) (ao (decide (1500<ja a)) ((wo)=aY a/\5=bY a) ((0:Int)<=20/\20<=(ac a)/\(ac a)<=(ac a)/\((length (cL a (toNat 20) (toNat (ac a)))):Int)<=1099511627776/\(jR a,cL a (toNat 20) (toNat (ac a)))=aY a/\0=bY a))):=by
  delta rM tF wo ac;rintro b ⟨⟨-,hb⟩,-⟩ hl;refine⟨hl,aw (λhc=>?_) (λhc=>?_)⟩
  .have hc:¬ dV b=0:=by simpa using hc
   have e:bY b=dV b:=by rw[bY,am hc]
   rw[aY,e,af hc];exact⟨rfl,rfl⟩
  have hc:dV b=0:=by simpa using hc
  have hlen:ja b=aH b 2:=by rw[ja,am hc]
  rw[hlen];refine aw (λh2=>?_) (λh2=>?_)
  .have h2:¬ aH b 2=b.length:=by simpa using h2
   have e:bY b=2:=by rw[bY,af (λk=>k hc),am h2]
   rw[aY,e];exact⟨rfl,rfl⟩
  have h2:aH b 2=b.length:=by simpa using h2
  refine aw (λh5=>?_) (λh5=>?_)
  .have h5:=aI h5;have e:bY b=5:=by rw[bY,af (λk=>k hc),af (λk=>k h2),am h5]
   rw[aY,e];exact⟨rfl,rfl⟩
  have h5:=aL h5;have e:bY b=0:=by rw[bY,af (λk=>k hc),af (λk=>k h2),af h5]
  have h20:=AQ hc;rw[show toNat 20=20 from rfl,vX,aY,e,am rfl,jR,am hc,fy];exact⟨ab,ab,ab,ab,rfl,rfl⟩
theorem Bd:aB 56 ay7.spec:=aF Tryz.func56 (av (av aC Mq) r4) aT aE2
def Tq:Ct:=⟨[.val (.sl bN)],[.own 5 bN,.val cI],λd=>[(d.1.length:Int)<=1099511627776],λd=>((io d.1,gw d.1,()),())⟩
def JR(a:ae) :=
 (((aY a).1.1,(aY a).1.2.1,aj ((aY a).1.2.2.1 -1),(aY a).1.2.2.2),(aY a).2)
theorem T9 :
 ∀(a:ae),(tF a)/\True->(ac a)<=1099511627776->(ac a)<=1099511627776/\ao (! decide (bY a=0)) (([]:ae)=io a/\bY a=gw a) (ao (decide ((aY a).1.2.2.1<2)) (([]:ae)=io a/\7=gw a) (((length (aY a).2):Int)<=1073741824/\d7 (JR a)=io a/\fv (JR a)=gw a)):=by
  delta tF JR aj ac;rintro b ⟨⟨-,hb⟩,-⟩ hl;refine⟨hl,aw (λhc=>?_) (λhc=>?_)⟩
  .have hc:¬ bY b=0:=by simpa using hc
   have e:gw b=bY b:=by rw[gw,am hc]
   rw[io,e,af hc];exact⟨rfl,rfl⟩
  have hc:bY b=0:=by simpa using hc
  have hp:aY b=(bH b,b.drop 20):=by rw[aY,am hc]
  rw[hp];have h8:=xe hb (i:=8) (by have:=AQ (El hc);omega);refine aw (λh2=>?_) (λh2=>?_)
  .have h2:=aI h2;have e:gw b=7:=by rw[gw,af (λk=>k hc),am h2]
   rw[io,e];exact⟨rfl,rfl⟩
  have h2:=aL h2;have e:gw b=0:=by rw[gw,af (λk=>k hc),af h2]
  have hd:=vO hc;have h82:¬ b.getD 8 default<2:=h2;rw[io,e,am rfl];have hok:=Th hb hc h2;refine⟨by rw[fy];omega,?_⟩;have ew:IntKind.wrap .i64 ((bH b).2.2.1-1)=(bH b).2.2.1-1:=aG (by show _<=b.getD 8 default-1;omega) (by show b.getD 8 default-1<=_;omega);rw[ew];refine⟨rfl,?_⟩;rw[fv,af (λk=>k hok),af];simp only[fy];omega
theorem Yo:aB 204 Tq.spec:=aF Tryz.func204 (av (av aC Bd) Rr) aT T9
def SM:Ct:=⟨[.agg jP],[.val cI],λd=>[],λd=>((l8 d.1,()),())⟩
theorem WK :
 ∀(a:cH),CT.wf jP a/\True->True-> ∀(b:Bool),b=decide (a.1<0)->(ah (! b))/\(ah (! b))/\(aE b)/\ ∀(c:Bool),(c=bif b then true else decide (255<a.1))->(ah (! c))/\(ah (! c))/\(aE c)/\ ∀(d:Bool),(d=bif c then true else decide (a.2.2.1<0))->(ah (! d))/\(ah (! d))/\(aE d)/\ ∀(e:Bool),(e=bif d then true else decide (255<a.2.2.1))->(ah (! e))/\(ah (! e))/\(aE e)/\ ∀(f:Bool),(f=bif e then true else decide (a.2.2.2.1<0))->(ah (! f))/\(ah (! f))/\(aE f)/\ ∀(g:Bool),(g=bif f then true else decide (255<a.2.2.2.1))->(ah (! g))/\(ah (! g))/\(aE g)/\ ∀(h:Bool),(h=bif g then true else decide (a.2.1<0))->(ah (! h))/\(ah (! h))/\(aE h)/\ao (bif h then true else decide (65535<a.2.1)) (1=l8 a) (0=l8 a):=by
  delta ah aE;rintro h - -
  (repeat (refine bX ?_;repeat refine bZ ?_));refine aw (λhc=>?_) (λhc=>?_)
  .rw[l8,af];intro k;obtain⟨k1,k2,k3,k4,k5⟩:=k;unfold p8 at k1 k2 k3;simp[dE] at hc;omega
  .rw[l8,am];unfold kW p8;simp[dE] at hc;omega
theorem aw9:aB 74 SM.spec:=aF Tryz.func74 aC aT WK
def YV:Ct:=⟨[.agg jP,.val cI],[.own 5 bN],λd=>[kW d.1,0<=d.2.1,d.2.1<=65535],λd=>((iY d.1 d.2.1,()),())⟩
def JT(a:cH)(b:Int)(g:ae) :=
 (ac g)<=1099511627776/\ ∀(h:ae),h=cQ g a.2.2.1 (1:Int)->(ac h)<=1099511627776/\ ∀(i:ae),i=cQ h a.2.2.2.1 (1:Int)->(↑(0:Nat):Int)<=1099511627776/\ ∀(j:ae),j=cQ ([]:ae) (aj a.2.2.2.2.2.1) (4:Int)->(ac j)<=1099511627776/\ ∀(k:ae),k=cQ j (aj a.2.2.2.2.2.2) (4:Int)->i.length*(1:Nat)<=(140737488355328:Nat)/\(length [(0:Int),(0:Int)]+k.length)*(1:Nat)<=(140737488355328:Nat)/\(i.length+length ([(0:Int),(0:Int)]++k))*(1:Nat)<=(140737488355328:Nat)/\((length (i++([(0:Int),(0:Int)]++k))):Int)<=1099511627776/\ ∀(l:Int),l=65535 -oc (bQ true (i++([(0:Int),(0:Int)]++k)))->(ac i)<=1099511627776/\ ∀(m:ae),m=cQ i l (2:Int)->(m.length+k.length)*(1:Nat)<=(140737488355328:Nat)/\m++k=iY a b
theorem TR :
 ∀(a:cH)(b:Int),CT.wf jP a/\aq b/\True->kW a/\0<=b/\b<=65535->ao a.2.2.2.2.1 ((↑(0:Nat):Int)<=1099511627776/\ ∀(c:ae),c=cQ ([]:ae) (69:Int) (1:Int)->(ac c)<=1099511627776/\ ∀(d:ae),d=cQ c a.1 (1:Int)->(ac d)<=1099511627776/\ ∀(e:ae),e=cQ d b (2:Int)->(ac e)<=1099511627776/\ ∀(f:ae),f=cQ e a.2.1 (2:Int)->(ac f)<=1099511627776/\ ∀(g:ae),g=cQ f (16384:Int) (2:Int)->(JT a b g)) ((↑(0:Nat):Int)<=1099511627776/\ ∀(c:ae),c=cQ ([]:ae) (69:Int) (1:Int)->(ac c)<=1099511627776/\ ∀(d:ae),d=cQ c a.1 (1:Int)->(ac d)<=1099511627776/\ ∀(e:ae),e=cQ d b (2:Int)->(ac e)<=1099511627776/\ ∀(f:ae),f=cQ e a.2.1 (2:Int)->(ac f)<=1099511627776/\ ∀(g:ae),g=cQ f (0:Int) (2:Int)->(JT a b g)):=by
  delta JT aj ac;rintro h n ⟨hw,-⟩⟨hok,n0,n1⟩;obtain⟨-,-,-,-,-,s0,d0⟩:=hw;have s0:0<=h.2.2.2.2.2.1/\h.2.2.2.2.2.1<=4294967295:=s0;have d0:0<=h.2.2.2.2.2.2/\h.2.2.2.2.2.2<=4294967295:=d0;have es:IntKind.wrap .i64 h.2.2.2.2.2.1=h.2.2.2.2.2.1:=aG ab ab;have ed:IntKind.wrap .i64 h.2.2.2.2.2.2=h.2.2.2.2.2.2:=aG ab ab;rw[es,ed];have hc:=pK (Ft (n:=n) hok);obtain⟨h1,h2,h3,h4,h5⟩:=hok;have key:∀ f:Int,(f=if h.2.2.2.2.1 then 16384 else 0)->0<=f->f<=65535->((0:Nat):Int)<=1099511627776∧∀ x1,x1=cQ [] 69 1->(x1.length:Int)<=1099511627776∧∀ x2,x2=cQ x1 h.1 1->(x2.length:Int)<=1099511627776∧∀ x3,x3=cQ x2 n 2->(x3.length:Int)<=1099511627776 ∧
    ∀ x4,x4=cQ x3 h.2.1 2->(x4.length:Int)<=1099511627776∧∀ x5,x5=cQ x4 f 2->(x5.length:Int)<=1099511627776∧∀ x6,x6=cQ x5 h.2.2.1 1->(x6.length:Int)<=1099511627776∧∀ x7,x7=cQ x6 h.2.2.2.1 1->((0:Nat):Int)<=1099511627776 ∧
    ∀ x8,x8=cQ [] h.2.2.2.2.2.1 4->(x8.length:Int)<=1099511627776∧∀ x9,x9=cQ x8 h.2.2.2.2.2.2 4->x7.length*1<=140737488355328/\(length [(0:Int),0]+x9.length)*1<=140737488355328/\(x7.length+length ([0,0]++x9))*1<=140737488355328 ∧
    ((x7++([0,0]++x9)).length:Int)<=1099511627776∧∀ c,c=65535-oc (bQ true (x7++([0,0]++x9)))->(x7.length:Int)<=1099511627776∧∀ x11,x11=cQ x7 c 2->(x11.length+x9.length)*1<=140737488355328/\x11++x9=iY h n:=by
   intro f hf f0 f1;refine⟨ab,?_⟩;rintro x1 e1;rw[tQ ab ab] at e1;refine⟨by rw[e1];simp,?_⟩;rintro x2 e2;rw[tQ h1.1 h1.2,e1] at e2;refine⟨by rw[e2];simp,?_⟩;rintro x3 e3;rw[jQ n0 n1,e2] at e3;refine⟨by rw[e3];simp[w2],?_⟩;rintro x4 e4;rw[jQ h4 h5,e3] at e4;refine⟨by rw[e4];simp[w2],?_⟩;rintro x5 e5;rw[jQ f0 f1,e4] at e5;refine⟨by rw[e5];simp[w2],?_⟩;rintro x6 e6;rw[tQ h2.1 h2.2,e5] at e6;refine⟨by rw[e6];simp[w2],?_⟩;rintro x7 e7;rw[tQ h3.1 h3.2,e6] at e7;have e7:x7=CG h n:=by rw[e7,hf];simp[CG]
   refine⟨ab,?_⟩;rintro x8 e8;rw[vW s0.1 s0.2] at e8;refine⟨by rw[e8];simp[w4],?_⟩;rintro x9 e9;rw[vW d0.1 d0.2,e8] at e9;have e9:x9=JN h:=e9;have l7:x7.length=10:=by rw[e7];rfl
   have l9:x9.length=8:=by rw[e9];rfl
   have eb:x7++([0,0]++x9)=g9 h n:=by rw[e7,e9];rfl
   refine⟨ab,by simp[l9],by simp[l7,l9],by simp[l7,l9],?_⟩;rw[eb];rintro c rfl;refine⟨ab,?_⟩;rintro x11 e11;rw[show 65535-oc (bQ true (g9 h n))=de (g9 h n) from rfl,jQ hc.1 hc.2] at e11;refine⟨by rw[e11,cA,l7,l9];simp[w2],?_⟩;rw[e11,e7,e9,iL];rfl
  refine aw (λhk=>?_) (λhk=>?_)
  .exact key 16384 (by rw[hk];rfl) ab ab
  .exact key 0 (by rw[hk];rfl) ab ab
theorem Mz:aB 75 YV.spec:=aF Tryz.func75 (av (av aC (Ct.named Ay)) (Ct.named G3)) aT TR
def Z1:Ct:=⟨[.agg uZ],[.own 5 bN,.val cI],λd=>[(d.1.2.length:Int)<=1073741824],λd=>((d7 d.1,fv d.1,()),())⟩
theorem S7 :
 ∀(a:(Int×Int×Int×Int×Bool×Int×Int)×ae),CT.wf uZ a/\True->(ac a.2)<=1073741824->ao (! decide (l8 a.1=0)) (([]:ae)=d7 a/\l8 a.1=fv a) (ao (decide (1500<aj ((ac a.2)+20))) (([]:ae)=d7 a/\5=fv a) (kW a.1/\0<=aj ((ac a.2)+20)/\aj ((ac a.2)+20)<=65535/\(length (iY a.1 (aj ((ac a.2)+20)))+a.2.length)*(1:Nat)<=(140737488355328:Nat)/\iY a.1 (aj ((ac a.2)+20))++a.2=d7 a/\0=fv a)):=by
  delta aj ac;rintro d ⟨⟨hw,-⟩,-⟩ hl;refine aw (λhc=>?_) (λhc=>?_)
  .have hn:¬ kW d.1:=λk=>by rw[l8,am k] at hc;cases hc
   have he:fv d=1:=by rw[fv,am hn]
   rw[d7,he,l8,af hn];exact⟨rfl,rfl⟩
  have hok:kW d.1:=fj λk=>by rw[l8,af k] at hc;cases hc
  have e20:IntKind.wrap .i64 ((d.2.length:Int)+20)=20+d.2.length:=by rw[aG ab ab];omega
  rw[e20];refine aw (λh5=>?_) (λh5=>?_)
  .have h5:=aI h5;have he:fv d=5:=by rw[fv,af (λk=>k hok),am ab]
   rw[d7,he];exact⟨rfl,rfl⟩
  have h5:=aL h5;have he:fv d=0:=by rw[fv,af (λk=>k hok),af ab]
  refine⟨hok,ab,ab,by rw[r0];omega,?_⟩;rw[d7,he,am rfl];exact⟨rfl,rfl⟩
theorem Lp:aB 36 Z1.spec:=aF Tryz.func36 (av (av aC aw9) Mz) aT S7
def av6:Ct:=⟨[.val (.sl bN)],[.agg jP,.val cI,.val cI],λd=>[(d.1.length:Int)<=1099511627776],λd=>((jR d.1,ja d.1,dV d.1,()),())⟩
def Ea(a:ae) :=
 (aj (ai a (1:Int)),cB a (4:Int) (2:Int),aj (ai a (8:Int)),aj (ai a (9:Int)),! decide (cB a (6:Int) (2:Int)=0),IntKind.wrap .u32 (cB a (12:Int) (4:Int)),IntKind.wrap .u32 (cB a (16:Int) (4:Int)))
theorem aC3 :
 ∀(a:ae),(tF a)/\True->(ac a)<=1099511627776->ao (decide ((ac a)<20)) ((rM)=jR a/\0=ja a/\3=dV a) ((ac a)<=9223372036854775807/\(ac a)<=9223372036854775807/\(0:Int)<=0/\0<(ac a)/\ ∀(b:Bool),b= ! decide (ai a (0:Int)=69)->(ah (! b))/\(ah (! b))/\ ∀(c:Bool),c= ! decide (cB a (6:Int) (2:Int)=0)->(ah (! b&&c))/\((! b)->(ar (! b))/\(c->(! b&&c))/\True)/\(aE b)/\ ∀(d:Bool),(d=bif b then true else bif c then ! decide (cB a (6:Int) (2:Int)=16384) else false)->(ah (! d))/\(aE d)/\ao (bif d then true else decide (cB a (2:Int) (2:Int)<20)) ((rM)=jR a/\0=ja a/\2=dV a) ((0:Int)<=1/\1<(ac a)/\(ac a)<=9223372036854775807/\(0:Int)<=8/\8<(ac a)/\(0:Int)<=9/\9<(ac a)/\(ac a)<=9223372036854775807/\(ac a)<=9223372036854775807/\kW (Ea a)/\0<=cB a (2:Int) (2:Int)/\cB a (2:Int) (2:Int)<=65535/\(0:Int)<=0/\(0:Int)<=20/\20<=(ac a)/\ao (! decide
 (iY (Ea a) (cB a (2:Int) (2:Int))=cL a (toNat 0) (toNat 20))) ((rM)=jR a/\0=ja a/\4=dV a) ((Ea a)=jR a/\cB a (2:Int) (2:Int)=ja a/\0=dV a))):=by
  delta rM Ea tF ah ar aE aj ai ac;rintro b ⟨⟨-,hb⟩,-⟩ hl;refine aw (λh=>?_) (λh=>?_)
  .have h:=aI h;have e:dV b=3:=by rw[dV,am h]
   rw[jR,ja,e];exact⟨rfl,rfl,rfl⟩
  have h:=aL h;rw[ny (a:=6) ab ab,ny (a:=2) ab ab,ny (a:=4) ab ab,CB (a:=12) ab ab,CB (a:=16) ab ab];have n12:=rW hb 12;have n16:=rW hb 16;have b1:=xe hb (i:=1) ab;have b8:=xe hb (i:=8) ab;have b9:=xe hb (i:=9) ab;have w4':=nS hb 4;have w2':=nS hb 2;rw[aG (n:=b.getD (toNat 1) default) (by have:=b1.1;simp at this ⊢;omega) (by have:=b1.2;simp at this ⊢;omega),aG (n:=b.getD (toNat 8) default) (by have:=b8.1;simp at this ⊢;omega) (by have:=b8.2;simp at this ⊢;omega),aG (n:=b.getD (toNat 9) default) (by have:=b9.1;simp at this ⊢;omega) (by have:=b9.2;simp at this ⊢;omega)];rw[show (toNat 12)=12 from rfl,show (toNat 16)=16 from rfl,qy n12.1 n12.2,qy n16.1 n16.2];refine⟨ab,ab,ab,ab,?_⟩
  (repeat (refine bX ?_;repeat refine bZ ?_));refine aw (λhc=>?_) (λhc=>?_)
  .have e:dV b=2:=by
    rw[dV,af h,am];rintro⟨h0,hf,h2⟩;rw[show b.getD (toNat 0) default=69 from h0] at hc;have h2:20<=aH b (toNat 2):=h2;rcases hf with hf|hf
    .rw[show aH b (toNat 6)=0 from hf] at hc;simp at hc;simp at h2;omega
    .rw[show aH b (toNat 6)=16384 from hf] at hc;simp at hc;simp at h2;omega
   rw[jR,ja,e];exact⟨rfl,rfl,rfl⟩
  have hg:b.getD 0 default=69/\(aH b 6=0∨aH b 6=16384)/\20<=aH b 2:=by
   by_cases h0:b.getD (toNat 0) default=69
   .by_cases h6:aH b (toNat 6)=0
    .simp[h0,h6] at hc;exact⟨h0,.inl h6,ab⟩
    .by_cases h7:aH b (toNat 6)=16384
     .simp[h0,h7] at hc;exact⟨h0,.inr h7,ab⟩
     .exfalso;rw[h0,dP h6,dP h7] at hc;simp at hc
   .exfalso;rw[dP h0] at hc;simp at hc
  have hdr:(b.getD (toNat 1) default,aH b (toNat 4),b.getD (toNat 8) default,b.getD (toNat 9) default,!decide (aH b (toNat 6)=0),fp ((b.drop 12).take 4),fp ((b.drop 16).take 4))=bH b:=by
   have:(!decide (aH b (toNat 6)=0))=decide (aH b 6=16384):=by
    rw[show toNat 6=6 from rfl];rcases hg.2.1 with hf|hf <;> rw[hf] <;> rfl
   rw[this];rfl
  rw[hdr];obtain⟨-,hm⟩:=QC hb ab hg.1 hg.2.1;have hs:cL b (toNat 0) (toNat 20)=b.take 20:=rfl;rw[hs,show toNat 2=2 from rfl];refine⟨ab,ab,ab,ab,ab,ab,ab,ab,ab,⟨b1,b8,b9,w4'.1,w4'.2⟩,ab,ab,ab,ab,ab,?_⟩;refine aw (λhc=>?_) (λhc=>?_)
  .have e:dV b=4:=by
    rw[dV,af h,af (λk=>k hg),am];intro k;rw[hm.2 k] at hc;simp at hc
   rw[jR,ja,e];exact⟨rfl,rfl,rfl⟩
  .have hc:iY (bH b) (aH b 2)=b.take 20:=by simpa using hc
   have e:dV b=0:=by
    rw[dV,af h,af (λk=>k hg),af];intro k;exact k (hm.1 hc)
   rw[jR,ja,e,am rfl,am rfl];exact⟨rfl,rfl,rfl⟩
theorem SP:aB 148 av6.spec:=aF Tryz.func148 (av (av (av aC KA) Mz) aU4) aT aC3
def aS6:Ct:=⟨[.val (.sl bN)],[.agg uZ,.val cI],λd=>[(d.1.length:Int)<=1099511627776],λd=>((aY d.1,bY d.1,()),())⟩
theorem Uk :
 ∀(a:ae),(tF a)/\True->(ac a)<=1099511627776->(ac a)<=1099511627776/\ao (! decide (dV a=0)) ((wo)=aY a/\dV a=bY a) (ao (! decide (ja a=(ac a))) ((wo)=aY a/\2=bY a) (ao (decide (1500<ja a)) ((wo)=aY a/\5=bY a) ((0:Int)<=20/\20<=(ac a)/\(ac a)<=(ac a)/\length (cL a (toNat 20) (toNat (ac a)))*(1:Nat)<=(140737488355328:Nat)/\(jR a,cL a (toNat 20) (toNat (ac a)))=aY a/\0=bY a))):=by
  delta rM tF wo ac;rintro b ⟨⟨-,hb⟩,-⟩ hl;refine⟨hl,aw (λhc=>?_) (λhc=>?_)⟩
  .have hc:¬ dV b=0:=by simpa using hc
   have e:bY b=dV b:=by rw[bY,am hc]
   rw[aY,e,af hc];exact⟨rfl,rfl⟩
  have hc:dV b=0:=by simpa using hc
  have hlen:ja b=aH b 2:=by rw[ja,am hc]
  rw[hlen];refine aw (λh2=>?_) (λh2=>?_)
  .have h2:¬ aH b 2=b.length:=by simpa using h2
   have e:bY b=2:=by rw[bY,af (λk=>k hc),am h2]
   rw[aY,e];exact⟨rfl,rfl⟩
  have h2:aH b 2=b.length:=by simpa using h2
  refine aw (λh5=>?_) (λh5=>?_)
  .have h5:=aI h5;have e:bY b=5:=by rw[bY,af (λk=>k hc),af (λk=>k h2),am h5]
   rw[aY,e];exact⟨rfl,rfl⟩
  have h5:=aL h5;have e:bY b=0:=by rw[bY,af (λk=>k hc),af (λk=>k h2),af h5]
  have h20:=AQ hc;rw[show toNat 20=20 from rfl,vX,aY,e,am rfl,jR,am hc,fy];exact⟨ab,ab,ab,ab,rfl,rfl⟩
theorem TP:aB 83 aS6.spec:=aF Tryz.func83 (av aC SP) aT Uk
abbrev pT:CT := .pair cP (.pair cP (.pair cI (.pair cI (.pair cI cI))))
abbrev bz:Type:=Int×Int×Int×Int×Int×Int
def ly(n:Int):Prop:=n=1∨n=6∨n=17
instance (n:Int):Decidable (ly n):=by unfold ly;infer_instance
def i9(p:bz):Prop:=(0<=p.2.2.2.1/\p.2.2.2.1<=1023)/\(0<=p.2.2.2.2.1/\p.2.2.2.2.1<=65534)/\1<=p.2.2.2.2.2/\p.2.2.2.2.2<=255
instance (p:bz):Decidable (i9 p):=by unfold i9;infer_instance
def cf(p:bz):Int:=if ¬ ly p.2.2.1 then 16 else if ¬ i9 p then 1 else 0
def rk(p:bz):Int:=oc (65535-(16384+p.2.2.2.1)+de (cV (false,21075,p.2.2.2.2.1,[0,0])))
def vB(p:bz):Int:=oc (65535-(p.2.2.2.2.1+1)+fQ p.1 p.2.1 17 (fK (20000+p.2.2.2.1,33434,[0,0])))
def uW(p:bz):Int:=if vB p=0 then 65535 else vB p
def mn(p:bz):nO:=(false,21075,p.2.2.2.2.1,w2 (rk p))
def sg(p:bz):ro:=(20000+p.2.2.2.1,33434,w2 (uW p))
def nF(p:bz):mL:=(20000+p.2.2.2.1,80,p.2.2.2.2.1,0,2,1024,[])
def fq(p:bz):ae:=if p.2.2.1=1 then fN (mn p) else if p.2.2.1=17 then mE p.1 p.2.1 (sg p) else fI p.1 p.2.1 (nF p)
def sI(p:bz):cH:=(0,p.2.2.2.2.1,p.2.2.2.2.2,p.2.2.1,true,p.1,p.2.1)
def build(p:bz):ae:=if cf p=0 then d7 (sI p,fq p) else []
def Ri:d6:=(0,0,0,0,0)
def zE:bz:=(0,0,0,0,0,0)
def pW(x:ra):d6:=(x.1.2.2.2.2.2.1,x.1.2.2.2.2.2.2,x.1.2.2.2.1,if ly x.1.2.2.2.1/\4<=x.2.length then aH x.2 0 else 0,if ly x.1.2.2.2.1/\4<=x.2.length then aH x.2 2 else 0)
def bc(b:ae):d6:=if bY b=0 then pW (aY b) else Ri
def zF(p:bz):d6:=if cf p=0 then bc (build p) else Ri
def zx(p:bz):Int:=if cf p=0 then bY (build p) else cf p
theorem lq{p:bz}:cf p=0↔ly p.2.2.1/\i9 p:=by
 unfold cf
 constructor
 .intro h;split at h
  .cases h
  .split at h
   .cases h
   next h1 h2=>exact⟨o8.1 h1,o8.1 h2⟩
 .rintro⟨h1,h2⟩;rw[af (λk=>k h1),af (λk=>k h2)]
theorem DM{b:ae}{i:Nat}{c:Int}(h:i+2<=b.length)(c0:0<=c)(c1:c<=65535):aH (cR b i c) i=c:=by
 rw[JC (by rw[mP];exact h)]
 unfold cR
 rw[BF ab,PD ab,PD (by rw[gC];omega)]
 omega
theorem vN{b:ae}{i j:Nat}{c:Int}(h:j+2<=b.length)(hn:j+2<=i∨i+2<=j):aH (cR b i c) j=aH b j:=by
 rw[JC (by rw[mP];exact h),JC h]
 unfold cR
 rw[BF ab,BF ab,BF ab,BF ab]
theorem Pj{s d:Int}{p:Int}{X:ae}(hx:bytes X)(hp:0<p%256):0<=fQ s d p X/\fQ s d p X<=65534:=by
 have h1:=(z9 (a:=s) (b:=d) (p:=p) hx).1
 refine⟨h1,?_⟩
 unfold fQ at h1 ⊢
 split
 .omega
 .unfold de;rw[IC];have h2:=OM s d p X.length;have h3:=(AJ true X hx).1;unfold oc;rw[af ab];omega
theorem Ph:bytes [0,0]:=nq (by omega) (by omega) (nq (by omega) (by omega) nM)
theorem Pb(t:Int):bytes (cV (false,21075,t,[0,0])):=xl Ph
theorem HT(f:Int):bytes (fK (20000+f,33434,[0,0])):=Ch Ph
theorem QA{p:bz}(h:i9 p):1<=rk p/\rk p<=65535:=by
 have:=pK (Pb p.2.2.2.2.1)
 obtain⟨⟨h1,h2⟩,-⟩:=h
 unfold rk oc
 rw[af ab];omega
theorem ah9{p:bz}(h:i9 p):0<=vB p/\vB p<=65535:=by
 have:=Pj (s:=p.1) (d:=p.2.1) (p:=17) (HT p.2.2.2.1) bt
 obtain⟨-,⟨h1,h2⟩,-⟩:=h
 exact wH ab
theorem Oo{p:bz}(h:i9 p):1<=uW p/\uW p<=65535:=by
 have:=ah9 h
 unfold uW;split <;> omega
theorem zQ(n:Int):(w2 n).length=2:=rfl
theorem J0{p:bz}(h:i9 p):Dp (w2 (rk p)) (mn p):=by
 obtain⟨-,⟨h1,h2⟩,-⟩:=h
 exact⟨⟨(jF _).2 ⟨by show (0:Int)<=21075;omega,by show (21075:Int)<=_;omega⟩,(jF _).2 ⟨h1,by show p.2.2.2.2.1<=_;omega⟩⟩,rfl⟩
theorem LI{p:bz}(h:i9 p):HQ (w2 (uW p)) (sg p):=by
 obtain⟨⟨h1,h2⟩,-⟩:=h
 exact⟨⟨(jF _).2 ⟨by show (0:Int)<=20000+p.2.2.2.1;omega,by show 20000+p.2.2.2.1<=_;omega⟩,(jF _).2 ⟨by show (0:Int)<=33434;omega,by show (33434:Int)<=_;omega⟩⟩,rfl⟩
theorem J8{p:bz}(h:i9 p):Fc [] (nF p):=by
 obtain⟨⟨h1,h2⟩,⟨h3,h4⟩,-⟩:=h
 refine⟨⟨(jF _).2 ⟨?_,?_⟩,(jF _).2 ⟨?_,?_⟩,⟨?_,?_⟩,⟨?_,?_⟩,⟨?_,?_⟩,(jF _).2 ⟨?_,?_⟩⟩,rfl⟩ <;> simp only[nF] <;> omega
theorem Nl{p:bz}(h:i9 p):kG (mn p)=0:=E5 (J0 h) (by rw[zQ];omega)
theorem PR{p:bz}(h:i9 p):oa (sg p)=0:=NH (LI h) (by rw[zQ];omega)
theorem ML{p:bz}(h:i9 p):lJ (nF p)=0:=ID (J8 h) (by simp)
theorem zM{p:bz}(h:i9 p)(h1:p.2.2.1=1):fq p=cR (cV (mn p)) 2 (de (cV (mn p))):=by
 rw[fq,am h1,fN,am (Nl h)]
theorem BL{p:bz}(h:i9 p)(h1:p.2.2.1=17):fq p=cR (fK (sg p)) 6 (kS p.1 p.2.1 (fK (sg p))):=by
 rw[fq,af ab,am h1,mE,am (PR h)]
theorem ze{p:bz}(h:i9 p)(h1:p.2.2.1=6):fq p=cR (kC (nF p)) 16 (fQ p.1 p.2.1 6 (kC (nF p))):=by
 rw[fq,af ab,af ab,fI,am (ML h)]
theorem xA{p:bz}(h:cf p=0):(p.2.2.1≠6/\(fq p).length=10)∨(p.2.2.1=6/\(fq p).length=20):=by
 obtain⟨h1|h1|h1,h2⟩:=lq.1 h
 .rw[zM h2 h1,mP];exact .inl ⟨ab,rfl⟩
 .rw[ze h2 h1,mP];exact .inr ⟨h1,rfl⟩
 .rw[BL h2 h1,mP];exact .inl ⟨ab,rfl⟩
theorem Pl{p:bz}(h:cf p=0):bytes (fq p):=by
 obtain⟨h1|h1|h1,h2⟩:=lq.1 h
 .rw[zM h2 h1];exact tI (xl (mI _))
 .rw[ze h2 h1];exact tI (Ag (J8 h2).1 nM)
 .rw[BL h2 h1];exact tI (Ch (mI _))
theorem I1{p:bz}(h:cf p=0):kW (sI p):=by
 obtain⟨h1,⟨-,⟨h2,h3⟩,h4,h5⟩⟩:=lq.1 h
 refine⟨⟨?_,?_⟩,⟨?_,?_⟩,⟨?_,?_⟩,?_,?_⟩ <;> simp only[sI] <;> unfold ly at h1 <;> omega
theorem Kj{p:bz}(h:cf p=0):fv (sI p,fq p)=0:=by
 rw[fv,af (λk=>k (I1 h)),af]
 rcases xA h with h|h <;> rw[h.2] <;> simp
theorem Ew{p:bz}(h:cf p=0):build p=iY (sI p) (20+(fq p).length)++fq p:=by
 rw[build,am h,d7,am (Kj h)]
theorem Jw(p:bz):(build p).length<=40:=by
 by_cases h:cf p=0
 .rw[Ew h,cA,r0];rcases xA h with h|h <;> omega
 .rw[build,af h];simp
theorem IR(p:bz):bytes (build p):=by
 by_cases h:cf p=0
 .rw[Ew h];exact iZ (H4 (I1 h)) (Pl h)
 .rw[build,af h];exact nM
theorem TA{b:ae}(h:bY b=0):bc b=pW (bH b,b.drop 20):=by rw[bc,am h,aY,am h]
def au5:Ct:=⟨[.agg pT],[.val cI],λd=>[],λd=>((cf d.1,()),())⟩
def uf(a b c d e f:Int) :=
 (0<=a/\a<=4294967295)/\(0<=b/\b<=4294967295)/\aq c/\aq d/\aq e/\aq f
theorem YQ :
 ∀(a b c d e f:Int),(uf a b c d e f)/\True->True-> ∀(g:Bool),g= ! decide (c=1)->(ah g)/\(ah g)/\(ar g)/\ ∀(h:Bool),(h=bif g then ! decide (c=6) else false)->(ah h)/\(ah h)/\(ar h)/\ao (bif h then ! decide (c=17) else false) (16=cf (a,b,c,d,e,f)) (∀(i:Bool),i=decide (d<0)->(ah (! i))/\(ah (! i))/\(aE i)/\ao (bif i then true else decide (1023<d)) (ao (bif i then true else decide (1023<d)) (1=cf (a,b,c,d,e,f)) (0=cf (a,b,c,d,e,f))) (∀(j:Bool),j=decide (e<0)->(ah (! j))/\(ah (! j))/\(aE j)/\ao (bif j then true else decide (65534<e)) (ao (bif j then true else decide (65534<e)) (1=cf (a,b,c,d,e,f)) (0=cf (a,b,c,d,e,f))) (∀(k:Bool),k=decide (f<1)->(ah (! k))/\(ah (! k))/\(aE k)/\ao (bif k then true else decide (255<f)) (1=cf (a,b,c,d,e,f)) (0=cf (a,b,c,d,e,f))))):=by
  delta uf ah ar aE;rintro s d pr f t l - -
  (repeat (refine bX ?_;repeat refine bZ ?_));refine aw (λhc=>?_) (λhc=>?_)
  .rw[cf,am];simp only[ly];intro k;rcases k with rfl|rfl|rfl <;> simp at hc
  have hp:ly pr:=by
   unfold ly;by_cases h1:pr=1
   .exact .inl h1
   .by_cases h6:pr=6
    .exact .inr (.inl h6)
    .simp[h1,h6] at hc;exact .inr (.inr hc)
  have key:∀(v:Int),(v=if i9 (s,d,pr,f,t,l) then 0 else 1)->v=cf (s,d,pr,f,t,l):=by
   intro v hv;rw[cf,af (λk=>k hp),hv];by_cases k:i9 (s,d,pr,f,t,l)
   .rw[am k,af (λq=>q k)]
   .rw[af k,am k]
  (repeat (refine bX ?_;repeat refine bZ ?_));refine aw (λh1=>?_) (λh1=>?_)
  .have hn:¬ i9 (s,d,pr,f,t,l):=by
    rintro⟨⟨a,b⟩,-⟩;simp only at a b;simp[dE] at h1;omega
   exact aw (λ_=>key 1 (by rw[af hn])) (λh=>by rw[h] at h1;cases h1)
  (repeat (refine bX ?_;repeat refine bZ ?_));refine aw (λh2=>?_) (λh2=>?_)
  .have hn:¬ i9 (s,d,pr,f,t,l):=by
    rintro⟨-,⟨a,b⟩,-⟩;simp only at a b;simp[dE] at h2;omega
   exact aw (λ_=>key 1 (by rw[af hn])) (λh=>by rw[h] at h2;cases h2)
  (repeat (refine bX ?_;repeat refine bZ ?_));simp[dE] at h1 h2;refine aw (λh3=>?_) (λh3=>?_)
  .have hn:¬ i9 (s,d,pr,f,t,l):=by
    rintro⟨-,-,a,b⟩;simp only at a b;simp[dE] at h3;omega
   exact key 1 (by rw[af hn])
  .have hn:i9 (s,d,pr,f,t,l):=by
    simp[dE] at h3;refine⟨⟨?_,?_⟩,⟨?_,?_⟩,?_,?_⟩ <;> simp only <;> omega
   exact key 0 (by rw[am hn])
theorem Qd:aB 60 au5.spec:=aF Tryz.func60 aC aT YQ
def Y1:Ct:=⟨[.agg pT],[.val cI],λd=>[],λd=>((cf d.1,()),())⟩
theorem au8 :
 ∀(a b c d e f:Int),(uf a b c d e f)/\True->True-> ∀(g:Bool),g= ! decide (c=1)->(ah g)/\(ah g)/\(ar g)/\ ∀(h:Bool),(h=bif g then ! decide (c=17) else false)->(ah h)/\(ah h)/\(ar h)/\ao (bif h then ! decide (c=6) else false) (16=cf (a,b,c,d,e,f)) (∀(i:Bool),i=decide (d<0)->(ah (! i))/\(ah (! i))/\(aE i)/\ ∀(j:Bool),(j=bif i then true else decide (1023<d))->(ah (! j))/\(ah (! j))/\(aE j)/\ ∀(k:Bool),(k=bif j then true else decide (e<0))->(ah (! k))/\(ah (! k))/\(aE k)/\ ∀(l:Bool),(l=bif k then true else decide (65534<e))->(ah (! l))/\(ah (! l))/\(aE l)/\ ∀(m:Bool),(m=bif l then true else decide (f<1))->(ah (! m))/\(ah (! m))/\(aE m)/\ao (bif m then true else decide (255<f)) (1=cf (a,b,c,d,e,f)) (0=cf (a,b,c,d,e,f))):=by
  delta uf ah ar aE;rintro s d pr f t l - -
  (repeat (refine bX ?_;repeat refine bZ ?_));refine aw (λhc=>?_) (λhc=>?_)
  .rw[cf,am];simp only[ly];intro k;rcases k with rfl|rfl|rfl <;> simp at hc
  have hp:ly pr:=by
   unfold ly;by_cases h1:pr=1
   .exact .inl h1
   .by_cases h6:pr=17
    .exact .inr (.inr h6)
    .simp[h1,h6] at hc;exact .inr (.inl hc)
  have key:∀(v:Int),(v=if i9 (s,d,pr,f,t,l) then 0 else 1)->v=cf (s,d,pr,f,t,l):=by
   intro v hv;rw[cf,af (λk=>k hp),hv];by_cases k:i9 (s,d,pr,f,t,l)
   .rw[am k,af (λq=>q k)]
   .rw[af k,am k]
  (repeat (refine bX ?_;repeat refine bZ ?_));refine aw (λh1=>?_) (λh1=>?_)
  .have hn:¬ i9 (s,d,pr,f,t,l):=by
    rintro⟨⟨a,b⟩,⟨a2,b2⟩,a3,b3⟩;simp only at a b a2 b2 a3 b3;simp[dE] at h1;omega
   exact key 1 (by rw[af hn])
  .have hn:i9 (s,d,pr,f,t,l):=by
    simp[dE] at h1;refine⟨⟨?_,?_⟩,⟨?_,?_⟩,?_,?_⟩ <;> simp only <;> omega
   exact key 0 (by rw[am hn])
theorem GD:aB 33 Y1.spec:=aF Tryz.func33 aC aT au8
def aH5:Ct:=⟨[.val (.sl bN)],[.agg yg,.val cI],λd=>[(d.1.length:Int)<=1099511627776],λd=>((bc d.1,bY d.1,()),())⟩
def AZ(a:ae)(b:(Int×Int×Int×Int×Bool×Int×Int)×ae) :=
 (b.1.2.2.2.2.2.1,b.1.2.2.2.2.2.2,b.1.2.2.2.1,(0:Int),(0:Int))=bc a/\0=bY a
def Ed(a:ae)(b:(Int×Int×Int×Int×Bool×Int×Int)×ae) :=
 ao (decide (4<=(ac b.2))) ((ac b.2)<=9223372036854775807/\(ac b.2)<=9223372036854775807/\(b.1.2.2.2.2.2.1,b.1.2.2.2.2.2.2,b.1.2.2.2.1,cB b.2 (0:Int) (2:Int),cB b.2 (2:Int) (2:Int))=bc a/\0=bY a) (AZ a b)
theorem SD :
 ∀(a:ae),(a.length<=maxLen/\ ∀(b:Int),b∈a->0<=b/\b<=255)/\True->(ac a)<=1099511627776->(ac a)<=1099511627776/\ ∀(b:(Int×Int×Int×Int×Bool×Int×Int)×ae)(c:Int),b=aY a/\c=bY a->ao (! decide (c=0)) (((0:Int),(0:Int),(0:Int),(0:Int),(0:Int))=bc a/\c=bY a) (ao (decide (b.1.2.2.2.1=1)) (ao (decide (b.1.2.2.2.1=1)) (Ed a b) (AZ a b)) (ao (decide (b.1.2.2.2.1=6)) (ao (decide (b.1.2.2.2.1=6)) (Ed a b) (AZ a b)) (ao (decide (b.1.2.2.2.1=17)) (Ed a b) (AZ a b)))):=by
  delta Ed AZ ac;rintro b ⟨⟨-,hb⟩,-⟩ hl;refine⟨hl,?_⟩;rintro d e ⟨rfl,rfl⟩;refine aw (λh=>?_) (λh=>?_)
  .have h:¬ bY b=0:=by simpa using h
   rw[bc,af h];exact⟨rfl,rfl⟩
  have h:bY b=0:=by simpa using h
  have hdl:=vO h;have hk:bc b=pW (aY b):=by rw[bc,am h]
  rw[hk,h];have hpl:((aY b).2.length:Int)<=1500:=by rw[aY,am h];simp only[fy];omega
  generalize aY b=x at *;have yes:ly x.1.2.2.2.1->(4:Int)<=x.2.length->((x.2.length:Int)<=9223372036854775807/\(x.2.length:Int)<=9223372036854775807/\(x.1.2.2.2.2.2.1,x.1.2.2.2.2.2.2,x.1.2.2.2.1,cB x.2 0 2,cB x.2 2 2)=pW x/\(0:Int)=0):=by
   intro h1 h2;refine⟨ab,ab,?_,rfl⟩;rw[ny ab ab,ny ab ab,pW,am ⟨h1,ab⟩,am ⟨h1,ab⟩];rfl
  have no:¬ (ly x.1.2.2.2.1/\(4:Int)<=x.2.length)->((x.1.2.2.2.2.2.1,x.1.2.2.2.2.2.2,x.1.2.2.2.1,(0:Int),(0:Int))=pW x/\(0:Int)=0):=by
   intro h1;rw[pW,af (λk=>h1 ⟨k.1,ab⟩),af (λk=>h1 ⟨k.1,ab⟩)];exact⟨rfl,rfl⟩
  refine aw (λh1=>?_) (λh1=>?_)
  .refine aw (λ_=>?_) (λk=>by rw[h1] at k;cases k);have h1:=aI h1;exact aw (λh4=>yes (.inl h1) (aI h4)) (λh4=>no (λk=>(aL h4) k.2))
  refine aw (λh6=>?_) (λh6=>?_)
  .refine aw (λ_=>?_) (λk=>by rw[h6] at k;cases k);have h6:=aI h6;exact aw (λh4=>yes (.inr (.inl h6)) (aI h4)) (λh4=>no (λk=>(aL h4) k.2))
  refine bT (λh17=>?_) (λh17=>?_)
  .exact aw (λh4=>yes (.inr (.inr h17)) (aI h4)) (λh4=>no (λk=>(aL h4) k.2))
  .have h1:=aL h1;have h6:=aL h6;exact no (λk=>by rcases k.1 with k|k|k <;> contradiction)
theorem aT6:aB 225 aH5.spec:=aF Tryz.func225 (av (av aC (Ct.named Bd)) Fy) aT SD
def VL:Ct:=⟨[.val cI,.val cI],[.val cI],λd=>[0<=d.1,d.1<=65535,0<=d.2.1,d.2.1<=65535],λd=>((if oc (65535-d.2.1+d.1)=0 then 65535 else oc (65535-d.2.1+d.1),()),())⟩
def HX(a b:Int) :=
 if (dj (aj ((65535:Int) -b))&&dj a)=true then oc (aj ((65535:Int) -b)+a) else (0:Int)
theorem aP0 :
 ∀(a b:Int),aq a/\aq b/\True->0<=a/\a<=65535/\0<=b/\b<=65535->ao (decide ((HX a b)=0)) (65535=if oc ((65535:Int) -b+a)=0 then (65535:Int) else oc ((65535:Int) -b+a)) ((HX a b)=if oc ((65535:Int) -b+a)=0 then (65535:Int) else oc ((65535:Int) -b+a)):=by
  delta HX aj;rintro a b-⟨a0,a1,b0,b1⟩;rw[aG (n:=65535-b) ab ab,am (by simp only[dM,jF];omega)];refine bT (λh=>?_) (λh=>?_)
  .rw[am h]
  .rw[af h]
theorem aQ7:aB 78 VL.spec:=aF Tryz.func78 (av aC MO) aT aP0
def ah8:Ct:=⟨[.agg pT],[.own 5 bN],λd=>[cf d.1=0],λd=>((fq d.1,()),())⟩
theorem Wt :
 ∀(a b c d e f:Int),(uf a b c d e f)/\True->cf (a,b,c,d,e,f)=0->ao (decide (c=1)) (((length [(0:Int),(0:Int)]):Int)<=1073741824/\ ∀(g:ae)(h:Int),g=fN (false,(21075:Int),e,[(0:Int),(0:Int)])/\h=kG (false,(21075:Int),e,[(0:Int),(0:Int)])->(ac g)<=9223372036854775807/\ ∀(i:Int),i=cB g (2:Int) (2:Int)->0<=i/\i<=65535/\0<=aj ((16384:Int)+d)/\aj ((16384:Int)+d)<=65535/\ ∀(j:Int),(j=if oc ((65535:Int) -aj ((16384:Int)+d)+i)=0 then (65535:Int) else oc ((65535:Int) -aj ((16384:Int)+d)+i))->(↑(0:Nat):Int)<=1099511627776/\ ∀(k:ae),k=cQ ([]:ae) j (2:Int)->(ac k)<=1073741824/\ ∀(l:ae)(m:Int),l=fN (false,(21075:Int),e,k)/\m=kG (false,(21075:Int),e,k)->l=fq (a,b,c,d,e,f)) (ao (decide (c=17)) ((↑(0:Nat):Int)<=1099511627776/\ ∀(g:ae),g=cQ ([]:ae) (aj ((20000:Int)+d)) (2:Int)->(ac g)<=1099511627776/\ ∀(h:List
 Int),h=cQ g (33434:Int) (2:Int)->(h.length+length [(0:Int),(10:Int),(0:Int),(0:Int),(0:Int),(0:Int)])*(1:Nat)<=(140737488355328:Nat)/\((length (h++[(0:Int),(10:Int),(0:Int),(0:Int),(0:Int),(0:Int)])):Int)<=1073741824/\ ∀(i:Int),i=fQ a b (17:Int) (h++[(0:Int),(10:Int),(0:Int),(0:Int),(0:Int),(0:Int)])->0<=i/\i<=65535/\0<=aj (e+1)/\aj (e+1)<=65535/\ ∀(j:Int),(j=if oc ((65535:Int) -aj (e+1)+i)=0 then (65535:Int) else oc ((65535:Int) -aj (e+1)+i))->(↑(0:Nat):Int)<=1099511627776/\ ∀(k:ae),k=cQ ([]:ae) j (2:Int)->(ac k)<=1073741824/\mE a b (aj ((20000:Int)+d),(33434:Int),k)=fq (a,b,c,d,e,f)) ((↑(0:Nat):Int)<=1000000/\fI a b (aj ((20000:Int)+d),(80:Int),e,(0:Int),(2:Int),(1024:Int),([]:ae))=fq (a,b,c,d,e,f))):=by
  delta uf aj ac;rintro s d pr f t l-he;obtain⟨hp,hr⟩:=lq.1 he;have hr':=hr;obtain⟨⟨f0,f1⟩,⟨t0,t1⟩,l0,l1⟩:=hr';simp only at f0 f1 t0 t1 l0 l1;rw[aG (n:=16384+f) ab ab,aG (n:=20000+f) ab ab,aG (n:=t+1) ab ab];refine aw (λh1=>?_) (λh1=>aw (λh17=>?_) (λh17=>?_))
  .have h1:=aI h1;have e0:kG (false,21075,t,[0,0])=0:=E5 (data:=[0,0]) ⟨⟨(jF _).2 ⟨by show (0:Int)<=21075;omega,by show (21075:Int)<=_;omega⟩,(jF _).2 ⟨t0,by show t<=_;omega⟩⟩,rfl⟩ aA;have hc:=pK (Pb t);refine⟨aA,?_⟩;rintro b _ ⟨rfl,-⟩;rw[fN,am e0];have hl:(cR (cV (false,21075,t,[0,0])) 2 (de (cV (false,21075,t,[0,0])))).length=10:=by rw[mP];rfl
   refine⟨ab,?_⟩;rw[ny ab ab,show toNat 2=2 from rfl,DM (by show 2+2<=10;omega) hc.1 hc.2];rintro _ rfl;refine⟨hc.1,hc.2,ab,ab,?_⟩;have hi:=QA hr;have ei:oc (65535-(16384+f)+de (cV (false,21075,t,[0,0])))=rk (s,d,pr,f,t,l):=rfl;rw[ei,af ab];rintro _ rfl;refine⟨ab,?_⟩;rw[jQ ab ab];rintro _ rfl;refine⟨by simp[w2],?_⟩;rintro _ _ ⟨rfl,-⟩;rw[fq,am h1];rfl
  .have h17:=aI h17;refine⟨ab,?_⟩;rw[jQ ab ab];rintro _ rfl;refine⟨by simp[w2],?_⟩;rw[jQ ab ab];rintro _ rfl;have eb:[]++w2 (20000+f)++w2 33434++[0,10,0,0,0,0]=fK (20000+f,33434,[0,0]):=by simp[fK,w2]
   rw[eb];refine⟨by simp[w2],by show ((10:Nat):Int)<=_;omega,?_⟩;have hq:=Pj (s:=s) (d:=d) (p:=17) (HT f) bt;rintro _ rfl;refine⟨hq.1,ab,ab,ab,?_⟩;have hu:=Oo hr;have eu:(if oc (65535-(t+1)+fQ s d 17 (fK (20000+f,33434,[0,0])))=0 then 65535 else oc (65535-(t+1)+fQ s d 17 (fK (20000+f,33434,[0,0]))))=uW (s,d,pr,f,t,l):=rfl;rw[eu];rintro _ rfl;refine⟨ab,?_⟩;rw[jQ ab ab];rintro _ rfl;refine⟨by simp[w2],?_⟩;rw[fq,af (by simp only;omega),am h17];rfl
  .have h1:=aL h1;have h17:=aL h17;rw[fq,af h1,af h17];exact⟨ab,rfl⟩
theorem Rl:aB 37 ah8.spec:=aF Tryz.func37 (av (av (av (av (av (av (av aC (Ct.named as4)) (Ct.named KA)) (Ct.named aQ7)) (Ct.named Ay)) (Ct.named Jg)) Ue) aJ0) aT Wt
def aN5:Ct:=⟨[.agg pT],[.own 5 bN,.val cI],λd=>[],λd=>((build d.1,cf d.1,()),())⟩
theorem aU5 :
 ∀(a b c d e f:Int),(uf a b c d e f)/\True->True->ao (! decide (cf (a,b,c,d,e,f)=0)) (([]:ae)=build (a,b,c,d,e,f)/\cf (a,b,c,d,e,f)=cf (a,b,c,d,e,f)) (cf (a,b,c,d,e,f)=0/\((length (fq (a,b,c,d,e,f))):Int)<=1073741824/\d7 (((0:Int),e,f,c,true,a,b),fq (a,b,c,d,e,f))=build (a,b,c,d,e,f)/\fv (((0:Int),e,f,c,true,a,b),fq (a,b,c,d,e,f))=cf (a,b,c,d,e,f)):=by
  delta uf;rintro s d pr f t l - -;refine aw (λh=>?_) (λh=>?_)
  .have h:¬ cf (s,d,pr,f,t,l)=0:=by simpa using h
   rw[build,af h];exact⟨rfl,rfl⟩
  have h:cf (s,d,pr,f,t,l)=0:=by simpa using h
  have e0:=Kj h;have hl:=xA h;refine⟨h,ab,?_⟩;rw[build,am h,h];exact⟨rfl,e0⟩
theorem Zy:aB 11 aN5.spec:=aF Tryz.func11 (av (av (av aC GD) Rl) Lp) aT aU5
def ZP:Ct:=⟨[.agg uZ],[.agg yg],λd=>[(d.1.2.length:Int)<=1099511627776],λd=>((pW d.1,()),())⟩
theorem aM9 :
 ∀(a:(Int×Int×Int×Int×Bool×Int×Int)×ae),CT.wf uZ a/\True->(ac a.2)<=1099511627776-> ∀(b:Bool),b=decide (4<=(ac a.2))->(ah b)/\(ah b)/\(ah b)/\ ∀(c:Bool),c=decide (a.1.2.2.2.1=1)->(ah (b&& ! c))/\(ah (b&& ! c))/\(b->(ar b)/\(c=false->(b&& ! c))/\True)/\(ah b)/\ ∀(d:Bool),(d=bif c then true else decide (a.1.2.2.2.1=17))->(ah (b&& ! d))/\(ah (b&& ! d))/\(b->(ar b)/\(d=false->(b&& ! d))/\True)/\(ar b)/\ao (bif b then bif d then true else decide (a.1.2.2.2.1=6) else false) ((ac a.2)<=9223372036854775807/\(ac a.2)<=9223372036854775807/\(a.1.2.2.2.2.2.1,a.1.2.2.2.2.2.2,a.1.2.2.2.1,cB a.2 (0:Int) (2:Int),cB a.2 (2:Int) (2:Int))=pW a) ((a.1.2.2.2.2.2.1,a.1.2.2.2.2.2.2,a.1.2.2.2.1,(0:Int),(0:Int))=pW a):=by
  delta ah ar ac;rintro x-hl
  (repeat (refine bX ?_;repeat refine bZ ?_));refine aw (λh=>?_) (λh=>?_)
  .have h4:(4:Int)<=x.2.length:=fj λk=>by rw[dP k] at h;cases h
   have hp:ly x.1.2.2.2.1:=by
    rw[cM h4] at h;unfold ly;by_cases h1:x.1.2.2.2.1=1
    .exact .inl h1
    .by_cases h17:x.1.2.2.2.1=17
     .exact .inr (.inr h17)
     .simp[h1,h17] at h;exact .inr (.inl h)
   refine⟨ab,ab,?_⟩;rw[ny ab ab,ny ab ab,pW,am ⟨hp,ab⟩,am ⟨hp,ab⟩];rfl
  .have hn:¬ (ly x.1.2.2.2.1/\4<=x.2.length):=by
    rintro⟨hp,h4⟩;rw[cM (show (4:Int)<=x.2.length by omega)] at h;rcases hp with hp|hp|hp <;> simp[hp] at h
   rw[pW,af hn,af hn]
theorem ZZ:aB 84 ZP.spec:=aF Tryz.func84 (av aC KA) aT aM9
def V8:Ct:=⟨[.val (.sl bN)],[.agg yg,.val cI],λd=>[(d.1.length:Int)<=1099511627776],λd=>((bc d.1,bY d.1,()),())⟩
theorem VS :
 ∀(a:ae),(a.length<=maxLen/\ ∀(b:Int),b∈a->0<=b/\b<=255)/\True->(ac a)<=1099511627776->(ac a)<=1099511627776/\ ∀(b:(Int×Int×Int×Int×Bool×Int×Int)×ae)(c:Int),b=aY a/\c=bY a->ao (! decide (c=0)) (((0:Int),(0:Int),(0:Int),(0:Int),(0:Int))=bc a/\c=bY a) ((ac b.2)<=1099511627776/\(b.1.2.2.2.2.2.1,b.1.2.2.2.2.2.2,b.1.2.2.2.1,if ly b.1.2.2.2.1/\(4:Nat)<=b.2.length then aH b.2 (0:Nat) else (0:Int),if ly b.1.2.2.2.1/\(4:Nat)<=b.2.length then aH b.2 (2:Nat) else (0:Int))=bc a/\0=bY a):=by
  delta ac;rintro b ⟨⟨-,hb⟩,-⟩ hl;refine⟨hl,?_⟩;rintro d e ⟨rfl,rfl⟩;refine aw (λh=>?_) (λh=>?_)
  .have h:¬ bY b=0:=by simpa using h
   rw[bc,af h];exact⟨rfl,rfl⟩
  have h:bY b=0:=by simpa using h
  have hdl:=vO h;have hpl:((aY b).2.length:Int)<=1500:=by rw[aY,am h];simp only[fy];omega
  refine⟨ab,?_⟩;rw[bc,am h,h];exact⟨rfl,rfl⟩
theorem as5:aB 38 V8.spec:=aF Tryz.func38 (av (av aC (Ct.named TP)) ZZ) aT VS
def af5:Ct:=⟨[.agg pT],[.agg yg,.val cI],λd=>[],λd=>((zF d.1,zx d.1,()),())⟩
theorem VI :
 ∀(a b c d e f:Int),(uf a b c d e f)/\True->True->ao (! decide (cf (a,b,c,d,e,f)=0)) (((0:Int),(0:Int),(0:Int),(0:Int),(0:Int))=zF (a,b,c,d,e,f)/\cf (a,b,c,d,e,f)=zx (a,b,c,d,e,f)) (((length (build (a,b,c,d,e,f))):Int)<=1099511627776/\bc (build (a,b,c,d,e,f))=zF (a,b,c,d,e,f)/\bY (build (a,b,c,d,e,f))=zx (a,b,c,d,e,f)):=by
  delta uf;rintro s d pr f t l - -;refine aw (λh=>?_) (λh=>?_)
  .have h:¬ cf (s,d,pr,f,t,l)=0:=by simpa using h
   rw[zF,zx,af h,af h];exact⟨rfl,rfl⟩
  have h:cf (s,d,pr,f,t,l)=0:=by simpa using h
  have hl:=Jw (s,d,pr,f,t,l);rw[zF,zx,am h,am h];exact⟨ab,rfl,rfl⟩
theorem as9:aB 12 af5.spec:=aF Tryz.func12 (av (av aC Zy) as5) aT VI
def u32(n:Int):Prop:=0<=n/\n<=4294967295
theorem az3(h:cH)(n:Int)(X:ae):iY h n++X=69::h.1::n/256%256::n%256::h.2.1/256%256::h.2.1%256::(if h.2.2.2.2.1 then (16384:Int) else 0)/256%256::(if h.2.2.2.2.1 then (16384:Int) else 0)%256::h.2.2.1::h.2.2.2.1 ::
  de (g9 h n)/256%256::de (g9 h n)%256::h.2.2.2.2.2.1/16777216%256::h.2.2.2.2.2.1/65536%256::h.2.2.2.2.2.1/256%256::h.2.2.2.2.2.1%256::h.2.2.2.2.2.2/16777216%256::h.2.2.2.2.2.2/65536%256::h.2.2.2.2.2.2/256%256::h.2.2.2.2.2.2%256::X:=rfl
theorem Gv{n:Int}(h:u32 n):((n/16777216%256*256+n/65536%256)*256+n/256%256)*256+n%256=n:=by
 obtain⟨h0,h1⟩:=h;omega
theorem Iy{h:cH}{X:ae}(hk:kW h)(hs:u32 h.2.2.2.2.2.1)(hd:u32 h.2.2.2.2.2.2)(hl:(X.length:Int)<=1480)(hX:bytes X) :
  bH (iY h (20+X.length)++X)=h/\bY (iY h (20+X.length)++X)=0/\(iY h (20+X.length)++X).drop 20=X:=by
 have hbb:bytes (iY h (20+X.length)++X):=iZ (H4 hk) hX
 have hlen:(iY h (20+X.length)++X).length=20+X.length:=by rw[cA,r0]
 have hc:=pK (Ft (n:=20+X.length) hk)
 obtain⟨tos,id,ttl,pr,kp,s,d⟩:=h
 obtain⟨h1,h2,h3,h4,h5⟩:=hk
 simp only at h1 h2 h3 h4 h5 hs hd
 have E:=az3 (tos,id,ttl,pr,kp,s,d) (20+X.length) X
 simp only at E
 have w2e:aH (iY (tos,id,ttl,pr,kp,s,d) (20+X.length)++X) 2=20+X.length:=by
  rw[E];show aH (_::_::_) 0=_;rw[ie];exact mC ab ab
 have w4e:aH (iY (tos,id,ttl,pr,kp,s,d) (20+X.length)++X) 4=id:=by
  rw[E];show aH (_::_::_) 0=_;rw[ie];exact mC h4 h5
 have w6e:aH (iY (tos,id,ttl,pr,kp,s,d) (20+X.length)++X) 6=if kp then 16384 else 0:=by
  rw[E];show aH (_::_::_) 0=_;rw[ie];cases kp <;> rfl
 have w10e:aH (iY (tos,id,ttl,pr,kp,s,d) (20+X.length)++X) 10=de (g9 (tos,id,ttl,pr,kp,s,d) (20+X.length)):=by
  rw[E];show aH (_::_::_) 0=_;rw[ie];exact mC hc.1 hc.2
 have hF:bH (iY (tos,id,ttl,pr,kp,s,d) (20+X.length)++X)=(tos,id,ttl,pr,kp,s,d):=by
  unfold bH;rw[w4e,w6e,E];have e1:decide ((if kp=true then (16384:Int) else 0)=16384)=kp:=by cases kp <;> rfl
  rw[e1];have e2:=Gv hs;have e3:=Gv hd;show (tos,id,ttl,pr,kp,fp [_,_,_,_],fp [_,_,_,_])=_;rw[By,By,e2,e3]
 refine⟨hF,?_,?_⟩
 .have hb:=QC hbb ab (by rw[E];rfl) (by rw[w6e];cases kp <;> simp);rw[hF,w2e,w10e] at hb;have ht:(iY (tos,id,ttl,pr,kp,s,d) (20+X.length)++X).take 20=iY (tos,id,ttl,pr,kp,s,d) (20+X.length):=by
   rw[List.take_append_of_le_length (by rw[r0];omega),fe (by rw[r0];omega)]
  have hp:dV (iY (tos,id,ttl,pr,kp,s,d) (20+X.length)++X)=0:=by
   rw[dV,af ab,af,af]
   .rw[o8,w10e,← hb.1]
   .rw[o8];refine⟨by rw[E];rfl,by rw[w6e];cases kp <;> simp,by rw[w2e];omega⟩
  rw[bY,af (λk=>k hp),af (by rw[w2e,hlen];omega),af (by rw[w2e];omega)]
 .rw[List.drop_append,r0,List.drop_of_length_le (by rw[r0];omega)];simp
theorem Dv{p:bz}(h:cf p=0)(hs:u32 p.1)(hd:u32 p.2.1):bH (build p)=sI p/\bY (build p)=0/\(build p).drop 20=fq p:=by
 rw[Ew h]
 refine Iy (I1 h) hs hd ?_ (Pl h)
 rcases xA h with h|h <;> omega
theorem ZV(t n:Int):bQ true (cV (false,21075,t,w2 n))=bQ true (cV (false,21075,t,[0,0]))+(n/256%256*256+n%256):=by
 simp[cV,w2,bQ];omega
theorem Su(f n:Int):bQ true (fK (20000+f,33434,w2 n))=bQ true (fK (20000+f,33434,[0,0]))+(n/256%256*256+n%256):=by
 simp[fK,w2,bQ];omega
theorem Yj(t:Int):2048<=bQ true (cV (false,21075,t,[0,0])):=by
 simp[cV,w2,bQ];omega
theorem Nw{p:bz}(h:i9 p):de (cV (mn p))=16384+p.2.2.2.1:=by
 have hn:=QA h
 obtain⟨⟨f0,f1⟩,-⟩:=h
 have e:rk p=oc (65535-(16384+p.2.2.2.1)+de (cV (false,21075,p.2.2.2.2.1,[0,0]))):=rfl
 have hp:=Yj p.2.2.2.2.1
 unfold mn de
 rw[ZV,mC ab hn.2,e]
 unfold de
 generalize bQ true (cV (false,21075,p.2.2.2.2.1,[0,0]))=S at hp ⊢
 unfold oc
 rw[af (by omega:¬ S=0)]
 rw[af ab,af ab]
 omega
theorem Uw{p:bz}(h:i9 p):kS p.1 p.2.1 (fK (sg p))=p.2.2.2.2.1+1:=by
 have hn:=Oo h
 obtain⟨-,⟨t0,t1⟩,-⟩:=h
 have l0:(fK (20000+p.2.2.2.1,33434,[0,0])).length=10:=rfl
 have l1:(fK (sg p)).length=10:=rfl
 have eX:vB p=oc (65535-(p.2.2.2.2.1+1)+fQ p.1 p.2.1 17 (fK (20000+p.2.2.2.1,33434,[0,0]))):=rfl
 have eN:uW p=if vB p=0 then 65535 else vB p:=rfl
 have hp:=OM p.1 p.2.1 17 10
 have h2:=(AJ true (fK (20000+p.2.2.2.1,33434,[0,0])) (HT _)).1
 have eP:fQ p.1 p.2.1 17 (fK (20000+p.2.2.2.1,33434,[0,0]))=65535-oc (bQ true (rS p.1 p.2.1 17 10)+bQ true (fK (20000+p.2.2.2.1,33434,[0,0]))):=by
  rw[fQ,af (by rw[l0];omega),de,IC,l0];rfl
 have eQ:fQ p.1 p.2.1 17 (fK (sg p))=65535-oc (bQ true (rS p.1 p.2.1 17 10)+(bQ true (fK (20000+p.2.2.2.1,33434,[0,0]))+uW p)):=by
  rw[fQ,af (by rw[l1];omega),de,IC,l1];unfold sg;rw[Su,mC ab hn.2];rfl
 rw[kS,eQ]
 rw[eP] at eX
 generalize bQ true (rS p.1 p.2.1 17 10)=H at *
 generalize bQ true (fK (20000+p.2.2.2.1,33434,[0,0]))=S at *
 generalize uW p=N at *
 generalize vB p=X at *
 generalize p.2.2.2.2.1=t at *
 have hH:(17:Int)%256=17:=rfl
 rw[hH] at hp
 clear eP eQ l0 l1 hH
 have hN:(N-(65535-(t+1)+(65535-(H+S))))%65535=0:=by
  unfold oc at eX;rw[af (by omega:¬ H+S=0)] at eX;split at eX <;> split at eN <;> omega
 unfold oc
 rw[af (by omega:¬ H+(S+N)=0)]
 split <;> omega
def xZ(p:bz):Int:=if p.2.2.1=1 then 2048 else 20000+p.2.2.2.1
def wg(p:bz):Int:=if p.2.2.1=1 then 16384+p.2.2.2.1 else if p.2.2.1=17 then 33434 else 80
theorem KZ{p:bz}(h:cf p=0):aH (fq p) 0=xZ p/\aH (fq p) 2=wg p:=by
 obtain⟨h1|h1|h1,h2⟩:=lq.1 h
 .have hs:=Nw h2;have hf:=h2.1;rw[zM h2 h1,xZ,wg,am h1,am h1,vN (by show 0+2<=10;omega) ab,DM (by show 2+2<=10;omega) ab ab,hs];exact⟨rfl,rfl⟩
 .have hf:=h2.1;rw[ze h2 h1,xZ,wg,af ab,af ab,af ab,vN (by show 0+2<=20;omega) ab,vN (by show 2+2<=20;omega) ab];constructor
  .show aH (_::_::_) 0=_;rw[ie];exact mC (n:=20000+p.2.2.2.1) ab ab
  .rfl
 .have hf:=h2.1;rw[BL h2 h1,xZ,wg,af ab,af ab,am h1,vN (by show 0+2<=10;omega) ab,vN (by show 2+2<=10;omega) ab];constructor
  .show aH (_::_::_) 0=_;rw[ie];exact mC (n:=20000+p.2.2.2.1) ab ab
  .rfl
theorem Jk{p:bz}(h:cf p=0)(hs:u32 p.1)(hd:u32 p.2.1):bc (build p)=(p.1,p.2.1,p.2.2.1,xZ p,wg p):=by
 obtain⟨e1,e2,e3⟩:=Dv h hs hd
 have hp:=(lq.1 h).1
 have hw:=KZ h
 rw[TA e2,e1,e3,pW]
 have hl:ly (sI p).2.2.2.1/\4<=(fq p).length:=⟨hp,by rcases xA h with h|h <;> omega⟩
 simp only
 rw[am hl,am hl,hw.1,hw.2];rfl
theorem aC4{p:bz}(h:cf p=0)(hs:u32 p.1)(hd:u32 p.2.1) :
  (p.2.2.2.2.2<2->gw (build p)=7)/\(2<=p.2.2.2.2.2->gw (build p)=0/\io (build p)=build (p.1,p.2.1,p.2.2.1,p.2.2.2.1,p.2.2.2.2.1,p.2.2.2.2.2-1)/\cf (p.1,p.2.1,p.2.2.1,p.2.2.2.1,p.2.2.2.2.1,p.2.2.2.2.2-1)=0):=by
 obtain⟨e1,e2,e3⟩:=Dv h hs hd
 constructor
 .intro hl;rw[gw,af (λk=>k e2),e1];exact am hl
 .intro hl;have l0:gw (build p)=0:=by rw[gw,af (λk=>k e2),e1,af (by show ¬ p.2.2.2.2.2<2;omega)]
  have hq:cf (p.1,p.2.1,p.2.2.1,p.2.2.2.1,p.2.2.2.2.1,p.2.2.2.2.2-1)=0:=by
   obtain⟨k1,k2,k3,k4,k5⟩:=lq.1 h;exact lq.2 ⟨k1,k2,k3,by simp only;omega,by simp only;omega⟩
  refine⟨l0,?_,hq⟩;rw[io,am l0,e1,e3,build,am hq];rfl
def U1:Cn:=⟨[.box 83 jW],[.agg pT],λd=>[aS d.1],λd y=>aS y.2.1/\u32 y.1.1.1/\u32 y.1.1.2.1,λd h=>⟨((zE,()),(d.1,())),h.1,by simp[u32,zE],by simp[u32,zE]⟩⟩
theorem at2 :
 ∀(a:ae)(b:Int),((a.length<=maxLen/\ ∀(c:Int),c∈a->0<=c/\c<=255)/\aq b)/\True->0<=b/\b<=(ac a)->aS (a,b)/\ ∀(c:Int)(d:ae)(e:Int),aS (d,e)/\0<=c/\c<=4294967295->aS (d,e)/\ ∀(f:Int)(g:ae)(h:Int),aS (g,h)/\0<=f/\f<=4294967295->aS (g,h)/\ ∀(i:Int)(j:ae)(k:Int),aS (j,k)/\(i=17∨i=1∨i=6)->aS (j,k)/\ ∀(l:Int)(m:ae)(n:Int),0<=l/\(l<6∨l=0)/\aS (m,n)->aS (m,n)/\ ∀(o:Int)(p:ae)(q:Int),0<=o/\(o<2000∨o=0)/\aS (p,q)->aS (p,q)/\ ∀(r:Int)(s:ae)(t:Int),0<=r/\(r<6∨r=0)/\aS (s,t)->aS (s,t)/\ ∀(u:Int)(v:ae)(w:Int),0<=u/\(u<12∨u=0)/\aS (v,w)->ao (decide (u=8)) (aS (v,w)/\u32 c/\u32 f) (ao (decide (u=9)) (aS (v,w)/\ ∀(x:Int)(y:ae)(z:Int),aS (y,z)/\aq x->aS (y,z)/\ ∀(A:Int)(B:ae)(C:Int),aS (B,C)/\aq A->aS (B,C)/\u32 c/\u32 f) (ao (decide (u=10)) (aS (v,w)/\ ∀(x:Int)(y:ae)(z:Int),aS (y,z)/\aq x->aS
 (y,z)/\u32 c/\u32 f) (ao (decide (u=11)) (aS (v,w)/\ ∀(x:Int)(y:ae)(z:Int),aS (y,z)/\aq x->aS (y,z)/\u32 c/\u32 f) (aS (v,w)/\u32 c/\u32 f)))):=by
  delta ac;rintro l p-h;refine⟨h,?_⟩;rintro s _ _ ⟨hc,s0,s1⟩;refine⟨hc,?_⟩;rintro d _ _ ⟨hc,d0,d1⟩;refine⟨hc,?_⟩;rintro _ _ _ ⟨hc,-⟩;refine⟨hc,?_⟩;rintro _ _ _ ⟨-,-,hc⟩;refine⟨hc,?_⟩;rintro _ _ _ ⟨-,-,hc⟩;refine⟨hc,?_⟩;rintro _ _ _ ⟨-,-,hc⟩;refine⟨hc,?_⟩;rintro _ _ _ ⟨-,-,hc⟩;have fin:∀ q,aS q->aS q/\u32 s/\u32 d:=λq hq=>⟨hq,⟨s0,s1⟩,d0,d1⟩
  refine aw (λ_=>fin _ hc) (λ_=>aw (λ_=>⟨hc,?_⟩) (λ_=>aw (λ_=>⟨hc,?_⟩) (λ_=>aw (λ_=>⟨hc,?_⟩) (λ_=>fin _ hc))))
  .rintro _ _ _ ⟨hc,-⟩;refine⟨hc,?_⟩;rintro _ _ _ ⟨hc,-⟩;exact fin _ hc
  .rintro _ _ _ ⟨hc,-⟩;exact fin _ hc
  .rintro _ _ _ ⟨hc,-⟩;exact fin _ hc
theorem Zn:aB 32 U1.spec:=qw Tryz.func32 (av (av (av (av aC Rm) M7) AI) ab3) aT at2
def Y2:Cn:=⟨[.box 83 jW],[.agg pT],λd=>[aS d.1],λd y=>aS y.2.1/\u32 y.1.1.1/\u32 y.1.1.2.1/\cf y.1.1=0,λd h=>⟨(((0,0,1,0,0,1),()),(d.1,())),h.1,by simp[u32],by simp[u32],rfl⟩⟩
theorem U9 :
 ∀(a:ae)(b:Int),((a.length<=maxLen/\ ∀(c:Int),c∈a->0<=c/\c<=255)/\aq b)/\True->0<=b/\b<=(ac a)->aS (a,b)/\ ∀(c d e f g h:Int)(i:ae)(j:Int),aS (i,j)/\u32 c/\u32 d->ao (! decide (cf (c,d,e,f,g,h)=0)) (aS (i,j)/\ ∀(k:Int)(l:ae)(m:Int),aS (l,m)/\(k=17∨k=1∨k=6)->aS (l,m)/\ ∀(n:Int)(o:ae)(p:Int),0<=n/\(n<4∨n=0)/\aS (o,p)->aS (o,p)/\ ∀(q:Int)(r:ae)(s:Int),0<=q/\(q<100∨q=0)/\aS (r,s)->aS (r,s)/\ ∀(t:Int)(u:ae)(v:Int),0<=t/\(t<5∨t=0)/\aS (u,v)->aS (u,v)/\u32 c/\u32 d/\cf (c,d,k,n,q,aj ((1:Int)+t))=0) (aS (i,j)/\u32 c/\u32 d/\cf (c,d,e,f,g,h)=0):=by
  delta aj ac;rintro l p-h;refine⟨h,?_⟩;rintro s d pr f t l _ _ ⟨hc,hs,hd⟩;refine aw (λ_=>⟨hc,?_⟩) (λhn=>⟨hc,hs,hd,by simpa using hn⟩);rintro pr _ _ ⟨hc,hp⟩;refine⟨hc,?_⟩;rintro f _ _ ⟨f0,f1,hc⟩;refine⟨hc,?_⟩;rintro t _ _ ⟨t0,t1,hc⟩;refine⟨hc,?_⟩;rintro l _ _ ⟨l0,l1,hc⟩;rw[aG (n:=1+l) ab ab];refine⟨hc,hs,hd,lq.2 ⟨?_,⟨?_,?_⟩,⟨?_,?_⟩,?_,?_⟩⟩ <;> simp only[ly] <;> omega
theorem Yn:aB 8 Y2.spec:=qw Tryz.func8 (av (av (av (av aC Zn) GD) M7) AI) aT U9
abbrev m8:CT := .pair cP cI
def gG(a b:Int):Int:=if a<b then -1 else if b<a then 1 else 0
abbrev d9:Type:=Int×Int
def gB(p q:d9):Int:=if gG p.1 q.1≠0 then gG p.1 q.1 else gG p.2 q.2
def mU:ae->Int
 | []=>0
 | x::xs=>if x≠0 then x else mU xs
theorem TV{l:ae}{j:Int}(h0:0<=j)(h1:j<l.length):l.drop j.toNat=l.getD j.toNat default::l.drop (j+1).toNat:=by
 have hj:j.toNat<l.length:=ab
 rw[sm hj,bJ,cK hj,f9]
 congr 2;omega
theorem RN{α:Type} [Inhabited α] {l:List α} {j:Int} (h0:0<=j) (h1:j<l.length) {y:α} (hy:y∈l.take (j+1).toNat):y∈l.take j.toNat∨y=l.getD j.toNat default:=by
 have hj:j.toNat<l.length:=ab
 have e:(j+1).toNat=j.toNat+1:=ab
 rw[e,yf hj] at hy
 rcases dB.1 hy with hy|hy
 .exact .inl hy
 .right;simp at hy;rw[bJ,cK hj,f9];exact hy
theorem Ug{l:ae}{v j:Int}(h0:0<=j)(h1:j<l.length)(hv:l.getD j.toNat default=v)(h2:∀ y∈l.take j.toNat,y≠v):l.idxOf v=j.toNat:=by
 have hj:j.toNat<l.length:=ab
 rw[bJ,cK hj,f9] at hv
 have e:l=l.take j.toNat++l[j.toNat]::l.drop (j.toNat+1):=by
  rw[← sm hj,ng]
 rw[e,List.idxOf_append,af (λhm=>h2 v hm rfl),hv,List.idxOf_cons_self]
 simp;omega
def an7:Ct:=⟨[.val cI],[.val .bool],λ_=>[],λ_=>((false,()),())⟩
theorem Vt :
 ∀(a:Int),aq a/\True->True->(! decide (a=a))=false:=by
  rintro x - -;simp
theorem aA1:aB 155 an7.spec:=aF Tryz.func155 aC aT Vt
def af9:Ct:=⟨[.val cP],[.val .bool],λ_=>[],λ_=>((false,()),())⟩
theorem at6 :
 ∀(a:Int),(0<=a/\a<=4294967295)/\True->True->(! decide (a=a))=false:=by
  rintro x - -;simp
theorem aP4:aB 206 af9.spec:=aF Tryz.func206 aC aT at6
def aO2:Ct:=⟨[.val cI,.val cI],[.val cI],λ_=>[],λd=>((gG d.1 d.2.1,()),())⟩
def AK(a b:Int) :=
 ao (decide (a<b)) (-1=gG a b) (ao (decide (b<a)) (1=gG a b) (0=gG a b))
theorem Z5 :
 ∀(a b:Int),aq a/\aq b/\True->True->(AK a b):=by
  delta AK;rintro x y - -;unfold gG;refine aw (λh=>?_) (λh=>aw (λh2=>?_) (λh2=>?_))
  .rw[am (aI h)]
  .rw[af (aL h),am (aI h2)]
  .rw[af (aL h),af (aL h2)]
theorem PH:aB 107 aO2.spec:=aF Tryz.func107 (av aC aA1) aT Z5
def VY:Ct:=⟨[.val cP,.val cP],[.val cI],λ_=>[],λd=>((gG d.1 d.2.1,()),())⟩
theorem Tk :
 ∀(a b:Int),(0<=a/\a<=4294967295)/\(0<=b/\b<=4294967295)/\True->True->(AK a b):=by
  delta AK;rintro x y - -;unfold gG;refine aw (λh=>?_) (λh=>aw (λh2=>?_) (λh2=>?_))
  .rw[am (aI h)]
  .rw[af (aL h),am (aI h2)]
  .rw[af (aL h),af (aL h2)]
theorem UY:aB 189 VY.spec:=aF Tryz.func189 (av aC aP4) aT Tk
def K9:Ct:=⟨[.val (.sl cI)],[.val cI],λ_=>[],λd=>((mU d.1,()),())⟩
def TF:bw K9.ps->ce:=(λd=>{loops:=(bp 3 (λS=>{ι:=Int,μ:=λi=>(d.1.length-i).toNat,inv:=λi=>0<=i/\i<=d.1.length/\mU d.1=mU (d.1.drop i.toNat),keep:=[3,6,7],slots:=λi=>[(8,.int .i64 i)]}) cC)})
theorem aX0 :
 ∀(a:ae),(a.length<=maxLen/\ ∀(b:Int),b∈a->aq b)/\True->True->(∃(b:Int),(0<=b/\b<=(ac a)/\mU a=mU (drop b.toNat a))/\(0:Int)=0/\a=a/\(ac a)=(ac a)/\0=b/\True)/\ ∀(b:Int),0<=b/\b<=(ac a)/\mU a=mU (drop b.toNat a)->ao (decide (b<(ac a))) (0<=b/\b<(ac a)/\ao (! decide (ai a b=0)) (ai a b=mU a) (∃(c:Int),(0<=c/\c<=(ac a)/\mU a=mU (drop c.toNat a))/\toNat ((ac a) -c)<toNat ((ac a) -b)/\(0:Int)=0/\a=a/\(ac a)=(ac a)/\aj (b+1)=c/\True)) (0=mU a):=by
  delta aj ai ac;rintro x ⟨⟨hl,-⟩,-⟩ -;simp only[maxLen] at hl;refine⟨⟨0,⟨ab,ab,rfl⟩,aP⟩,?_⟩;rintro j ⟨h0,h1,h2⟩;refine bT (λhj=>?_) (λhj=>?_)
  .have e:=TV (l:=x) h0 hj;rw[e] at h2;refine⟨h0,hj,aw (λhz=>?_) (λhz=>?_)⟩
   .have hz:x.getD j.toNat default≠0:=by simpa only[rP,pn] using hz
    rw[h2,mU,am hz]
   .have hz:¬ x.getD j.toNat default≠0:=by simpa only[vK,mh,ne_eq,o8] using hz
    rw[mU,af hz] at h2;exact⟨j+1,⟨ab,ab,h2⟩,ab,aP⟩
  .rw[h2,List.drop_eq_nil_of_le ab];rfl
theorem ME:aB 106 K9.spec:=aF Tryz.func106 aC TF aX0
def aw5:Ct:=⟨[.agg m8,.agg m8],[.val cI],λ_=>[],λd=>((gB d.1 d.2.1,()),())⟩
theorem aA0 :
 ∀(a b c d:Int),((0<=a/\a<=4294967295)/\aq b)/\((0<=c/\c<=4294967295)/\aq d)/\True->True->mU [gG a c,gG b d]=gB (a,b) (c,d):=by
  rintro x y z u - -;simp only[mU,gB];split
  .rfl
  .split
   .rfl
   next h=>simp at h;exact h.symm
theorem Ls:aB 163 aw5.spec:=aF Tryz.func163 (av (av (av aC UY) PH) ME) aT aA0
def aq2:Ct:=⟨[.val cI,.val cI],[.val cI],λ_=>[],λd=>((gG d.1 d.2.1,()),())⟩
theorem aL1 :
 ∀(a b:Int),aq a/\aq b/\True->True->(AK a b):=by
  delta AK;rintro x y - -;unfold gG;refine aw (λh=>?_) (λh=>aw (λh2=>?_) (λh2=>?_))
  .rw[am (aI h)]
  .rw[af (aL h),am (aI h2)]
  .rw[af (aL h),af (aL h2)]
theorem Sq:aB 174 aq2.spec:=aF Tryz.func174 aC aT aL1
def Yf:Ct:=⟨[.agg m8,.agg m8],[.val cI],λ_=>[],λd=>((gB d.1 d.2.1,()),())⟩
theorem ax5 :
 ∀(a b c d:Int),((0<=a/\a<=4294967295)/\aq b)/\((0<=c/\c<=4294967295)/\aq d)/\True->True->ao (! decide (a=c)) (gG (aj a) (aj c)=gB (a,b) (c,d)) (gG b d=gB (a,b) (c,d)):=by
  delta aj;rintro x y z u ⟨⟨⟨h0,h1⟩,-⟩,⟨⟨h2,h3⟩,-⟩,-⟩ -;unfold gB;refine aw (λh=>?_) (λh=>?_)
  .simp at h;rw[aG ab ab,aG ab ab,am (by simp only[gG];split <;> first|omega|(split <;> omega))]
  .simp at h;subst h;rw[af (by simp[gG])]
theorem Qm:aB 136 Yf.spec:=aF Tryz.func136 (av aC Sq) aT ax5
def sz(n:Int):Int:=2^(32-n).toNat
def jS(p:d9):Bool:=decide (0<=p.2/\p.2<=32/\p.1%sz p.2=0)
def dS(p:d9)(a:Int):Bool:=jS p&&decide (p.1<=a/\a<p.1+sz p.2)
theorem Yi(n:Int):0<sz n:=Int.pow_pos (by decide)
theorem aS9(n:Int):sz n=((2^(32-n).toNat:Nat):Int):=by unfold sz;rw[Int.natCast_pow];rfl
theorem Ee{n:Int}(h0:0<=n)(h1:n<=32):∃ k:Nat,k<=32/\n=32-k/\sz n=((2^k:Nat):Int):=⟨(32-n).toNat,ab,ab,aS9 n⟩
theorem aC6{n:Int}(h0:0<=n)(h1:n<=32):eM .u32 4294967295 (32-n)=4294967296-sz n:=by
 obtain⟨k,hk,rfl,e⟩:=Ee h0 h1
 rw[e]
 have:(32:Int)-(32-(k:Int))=(k:Int):=ab
 rw[this]
 unfold eM
 rw[IntKind.wrap_u32]
 have hm:min ((k:Int)).toNat IntKind.u32.bits=k:=by simp only[IntKind.bits,Int.toNat_natCast];omega
 rw[hm]
 have hd:∀ k:Nat,k<=32->(4294967295*2^k:Int)%4294967296=4294967296-((2^k:Nat):Int):=bt
 exact hd k hk
theorem af0{n:Int}(h0:0<=n)(h1:n<=32):eM .i64 1 (32-n)=sz n:=by
 obtain⟨k,hk,rfl,e⟩:=Ee h0 h1
 rw[e]
 have:(32:Int)-(32-(k:Int))=(k:Int):=ab
 rw[this]
 unfold eM
 have hm:min ((k:Int)).toNat IntKind.i64.bits=k:=by simp only[IntKind.bits,Int.toNat_natCast];omega
 rw[hm,Int.one_mul]
 have e2:((2:Int)^k)=((2^k:Nat):Int):=by rw[Int.natCast_pow];rfl
 have:(2:Nat)^k<=2^32:=Nat.pow_le_pow_right bt hk
 rw[e2]
 generalize 2^k=s at this ⊢
 exact aG ab ab
theorem Td{x n:Int}(h0:0<=x)(h1:x<=4294967295)(h2:0<=n)(h3:n<=32):bits .andNot .u32 x (4294967296-sz n)=x%sz n:=by
 obtain⟨k,hk,rfl,e⟩:=Ee h2 h3
 have hp:(2:Nat)^k<=2^32:=Nat.pow_le_pow_right bt hk
 have hp0:0<(2:Nat)^k:=Nat.two_pow_pos k
 rw[e,u32_andNot _ _ h0 ab ab ab]
 have e1:4294967295-((4294967296:Int)-((2^k:Nat):Int)).toNat=2^k-1:=ab
 rw[e1,zd]
 obtain⟨m,rfl⟩:=pE h0
 rw[Int.toNat_natCast,Int.natCast_emod]
theorem am7{a k:Nat}(hk:k<=32)(ha:a<4294967296):a &&& (4294967296-2^k)=a/2^k*2^k:=by
 have e:4294967296-2^k=(2^(32-k)-1) <<< k:=by
  rw[Nat.shiftLeft_eq,Nat.sub_mul,← Nat.pow_add,kr];congr 1;rw[show 32-k+k=32 from by omega]
 rw[e,← Nat.shiftRight_eq_div_pow,← Nat.shiftLeft_eq]
 apply Nat.eq_of_testBit_eq
 intro i
 simp only[Nat.testBit_and,Nat.testBit_shiftLeft,Nat.testBit_two_pow_sub_one,Nat.testBit_shiftRight]
 by_cases hi:k<=i
 .have e2:k+(i-k)=i:=ab;simp only[hi,decide_true,Bool.true_and,e2];by_cases h32:i<32
  .have:i-k<32-k:=ab;simp[this]
  .have:a.testBit i=false:=Nat.testBit_lt_two_pow (Nat.lt_of_lt_of_le ha (Nat.pow_le_pow_right (show 0<2 by decide) (by omega:32<=i)));simp[this]
 .simp[hi]
theorem Xu{a n x:Int}(h0:0<=a)(h1:a<=4294967295)(h2:0<=n)(h3:n<=32)(hx:0<=x)(hm:x%sz n=0) :
  (bits .and .u32 a (4294967296-sz n)=x)↔(x<=a/\a<x+sz n):=by
 obtain⟨k,hk,rfl,e⟩:=Ee h2 h3
 have hp:(2:Nat)^k<=2^32:=Nat.pow_le_pow_right bt hk
 have hp0:0<(2:Nat)^k:=Nat.two_pow_pos k
 rw[e] at hm ⊢
 rw[u32_and _ _ h0 ab ab ab]
 have e1:((4294967296:Int)-((2^k:Nat):Int)).toNat=4294967296-2^k:=ab
 rw[e1,am7 hk ab]
 obtain⟨m,rfl⟩:=pE h0
 obtain⟨y,rfl⟩:=pE hx
 rw[Int.toNat_natCast]
 have hm:y%2^k=0:=by
  have:((y%2^k:Nat):Int)=0:=by rw[Int.natCast_emod];exact hm
  omega
 generalize 2^k=s at *
 have d:=Nat.div_add_mod m s
 have dl:=Nat.mod_lt m hp0
 have dy:=Nat.div_add_mod y s
 rw[hm] at dy
 rw[Nat.mul_comm] at d
 constructor
 .intro h;omega
 .rintro⟨h,h'⟩;have hq:m/s=y/s:=by
   apply Nat.le_antisymm
   .have:m<(y/s+1)*s:=by rw[fS,kr,Nat.mul_comm (y/s)];omega
    have:=Nat.div_lt_of_lt_mul (Nat.mul_comm _ _▸this:m<s*(y/s+1));omega
   .exact Nat.div_le_div_right ab
  rw[hq,Nat.mul_comm];omega
def ay5:Ct:=⟨[.val cI],[.val cP],λd=>[0<=d.1/\d.1<=32],λd=>((4294967296-sz d.1,()),())⟩
theorem ak2 :
 ∀(a:Int),aq a/\True->0<=a/\a<=32->0<=aj ((32:Int) -a)/\eM IntKind.u32 (4294967295:Int) (aj ((32:Int) -a))=4294967296 -sz a:=by
  delta aj;rintro x-⟨h0,h1⟩;rw[aG ab ab];exact⟨ab,aC6 h0 h1⟩
theorem Ps:aB 165 ay5.spec:=aF Tryz.func165 aC aT ak2
def Xh:Ct:=⟨[.agg m8],[.val .bool],λ_=>[],λd=>((jS d.1,()),())⟩
theorem aW2 :
 ∀(a b:Int),((0<=a/\a<=4294967295)/\aq b)/\True->True-> ∀(c:Bool),c=decide (0<=b)->(ah c)/\(ah c)/\(ar c)/\ ∀(d:Bool),(d=bif c then decide (b<=32) else false)->(ah d)/\(ah d)/\(d->(ar d)/\(0<=b/\b<=32)/\True)/\(d->(ar d)/\(ar d)/\True)/\(ah d)/\(ar d)/\(bif d then decide (bits BinOp.andNot IntKind.u32 a ((4294967296:Int) -sz b)=0) else false)=jS (a,b):=by
  delta ah ar;rintro x n ⟨⟨⟨h0,h1⟩,-⟩,-⟩ -
  (repeat (refine bX ?_;repeat refine bZ ?_));by_cases hn:0<=n/\n<=32
  .have:=Td (n:=n) h0 h1 hn.1 hn.2;simp[jS,hn,this]
  .simp only[jS];by_cases h2:0<=n
   .have:¬ n<=32:=λh=>hn ⟨h2,h⟩;simp[this]
   .simp[h2]
theorem Ld:aB 164 Xh.spec:=aF Tryz.func164 (av aC Ps) aT aW2
def Ye:Ct:=⟨[.agg m8,.val cP],[.val .bool],λ_=>[],λd=>((dS d.1 d.2.1,()),())⟩
theorem ak9 :
 ∀(a b c:Int),((0<=a/\a<=4294967295)/\aq b)/\(0<=c/\c<=4294967295)/\True->True-> ∀(d:Bool),d=jS (a,b)->(ah d)/\(d->(ar d)/\(0<=b/\b<=32)/\True)/\(d->(ar d)/\(ar d)/\True)/\(ah d)/\(d->(ar d)/\(ar d)/\True)/\(ar d)/\(bif d then decide (bits BinOp.and IntKind.u32 c ((4294967296:Int) -sz b)=a) else false)=dS (a,b) c:=by
  delta ah ar;rintro x n a ⟨⟨⟨h0,h1⟩,-⟩,⟨h2,h3⟩,-⟩ -;have hv:∀ b:Bool,b=jS (x,n)->b=true->0<=n/\n<=32/\x%sz n=0:=by
   rintro b rfl h;simpa[jS] using h
  rintro b hb;have hr:=hv b hb;refine⟨aA,λh=>⟨λ_=>h,⟨(hr h).1,(hr h).2.1⟩,bv⟩,aA,aA,aA,aA,?_⟩;unfold dS;rw[← hb];cases b with
  | false=>rfl
  | true =>
   obtain⟨r1,r2,r3⟩:=hr rfl;have:=Xu (n:=n) (x:=x) h2 h3 r1 r2 h0 r3;rw[ut];simpa using this
theorem Mx:aB 115 Ye.spec:=aF Tryz.func115 (av (av aC Ps) Ld) aT ak9
def WE:Ct:=⟨[.val cI],[.val cI],λd=>[0<=d.1/\d.1<=32],λd=>((sz d.1,()),())⟩
theorem Y5 :
 ∀(a:Int),aq a/\True->0<=a/\a<=32->0<=aj ((32:Int) -a)/\eM IntKind.i64 (1:Int) (aj ((32:Int) -a))=sz a:=by
  delta aj;rintro x-⟨h0,h1⟩;rw[aG ab ab];exact⟨ab,af0 h0 h1⟩
theorem aQ4:aB 173 WE.spec:=aF Tryz.func173 aC aT Y5
def UN:Ct:=⟨[.agg m8],[.val .bool],λ_=>[],λd=>((jS d.1,()),())⟩
theorem ar3 :
 ∀(a b:Int),((0<=a/\a<=4294967295)/\aq b)/\True->True-> ∀(c:Bool),c=decide (0<=b)->(ah c)/\(ah c)/\(ar c)/\ ∀(d:Bool),(d=bif c then decide (b<=32) else false)->(ah d)/\(ah d)/\(ah d)/\(d->(ar d)/\(0<=b/\b<=32)/\True)/\(d->(ar d)/\(ar d)/\sz b≠(0:Int)/\True)/\(ah d)/\(ar d)/\(bif d then decide (Int.tmod (aj a) (sz b)=0) else false)=jS (a,b):=by
  delta ah ar aj;rintro x n ⟨⟨⟨h0,h1⟩,-⟩,-⟩ -;have hp:=Yi n
  (repeat (refine bX ?_;repeat refine bZ ?_));rw[aG ab ab,Gi h0];simp only[jS];by_cases h2:0<=n
  .by_cases h3:n<=32
   .simp[h2,h3]
   .simp[h2,h3]
  .simp[h2]
theorem aU0:aB 135 UN.spec:=aF Tryz.func135 (av aC aQ4) aT ar3
def Q7:Ct:=⟨[.val (.sl cI),.val cI],[.val cI],λ_=>[],λd=>((if d.2.1∈d.1 then (d.1.idxOf d.2.1:Int) else -1,()),())⟩
def ZL:bw Q7.ps->ce:=(λd=>{loops:=(bp 2 (λS=>{ι:=Int,μ:=λi=>(d.1.length-i).toNat,inv:=λi=>0<=i/\i<=d.1.length∧∀ y∈d.1.take i.toNat,y≠d.2.1,keep:=[0,1,6,7],slots:=λi=>[(8,.int .i64 i)]}) cC)})
theorem ay8 :
 ∀(a:ae)(b:Int),(a.length<=maxLen/\ ∀(c:Int),c∈a->aq c)/\aq b/\True->True->(∃(c:Int),(0<=c/\c<=(ac a)/\ ∀(d:Int),d∈take c.toNat a->d≠b)/\a=a/\b=b/\a=a/\(ac a)=(ac a)/\0=c/\True)/\ ∀(c:Int),(0<=c/\c<=(ac a)/\ ∀(d:Int),d∈take c.toNat a->d≠b)->ao (decide (c<(ac a))) (0<=c/\c<(ac a)/\ao (decide (b=ai a c)) (c=if b∈a then (↑(List.idxOf b a):Int) else (-1:Int)) (∃(d:Int),(0<=d/\d<=(ac a)/\ ∀(e:Int),e∈take d.toNat a->e≠b)/\toNat ((ac a) -d)<toNat ((ac a) -c)/\a=a/\b=b/\a=a/\(ac a)=(ac a)/\aj (c+1)=d/\True)) (-1=if b∈a then (↑(List.idxOf b a):Int) else (-1:Int)):=by
  delta aj ai ac;rintro x v ⟨⟨hl,-⟩,-⟩ -;simp only[maxLen] at hl;refine⟨⟨0,⟨ab,ab,aA⟩,aP⟩,?_⟩;rintro j ⟨h0,h1,h2⟩;refine bT (λhj=>?_) (λhj=>?_)
  .refine⟨h0,hj,bT (λhz=>?_) (λhz=>?_)⟩
   .have hm:v∈x:=by rw[hz];exact bR h0 hj
    rw[am hm];have:=Ug (l:=x) (v:=v) h0 hj hz.symm h2;omega
   .refine⟨j+1,⟨ab,ab,λy hy=>?_⟩,ab,aP⟩;rcases RN h0 hj hy with hy|rfl
    .exact h2 y hy
    .exact λe=>hz e.symm
  .rw[fe ab] at h2;rw[af (λhm=>h2 v hm rfl)]
theorem aa1:aB 211 Q7.spec:=aF Tryz.func211 aC ZL ay8
def aK3:Ct:=⟨[.val (.sl cI),.val cI],[.val .bool],λ_=>[],λd=>((decide (d.2.1∈d.1),()),())⟩
theorem ah5 :
 ∀(a:ae)(b:Int),(a.length<=maxLen/\ ∀(c:Int),c∈a->aq c)/\aq b/\True->True->decide (0<=if b∈a then (↑(List.idxOf b a):Int) else (-1:Int))=decide (b∈a):=by
  rintro x v - -;by_cases h:v∈x
  .rw[am h];simp[h];
  .rw[af h];simp[h]
theorem Un:aB 196 aK3.spec:=aF Tryz.func196 (av aC aa1) aT ah5
end Go.RS
