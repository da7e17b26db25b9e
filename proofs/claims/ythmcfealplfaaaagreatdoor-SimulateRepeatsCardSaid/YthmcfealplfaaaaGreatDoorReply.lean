/- Ipv4: packets without options. -/
import Derived.Test.YthmcfealplfaaaaGreatDoorTrback
import Derived.Test.YthmcfealplfaaaaGreatDoorIdent
import Derived.Laws.BitsAllLaws
namespace Go.RS
open Go.SX Go.Proofs
set_option maxRecDepth 100000
set_option linter.unusedVariables false
abbrev j8:CT := .pair cI (.pair cI (.pair cI (.pair cI (.pair .bool (.pair cj cj)))))
abbrev uA:CT := .pair j8 (.sl bj)
abbrev bY:Type:=Int×Int×Int×Int×Bool×Int×Int
abbrev oa:Type:=bY×List Int
def mW(n:Int):Prop:=0<=n/\n<=255
instance (n:Int):Decidable (mW n):=by unfold mW;infer_instance
def iZ(h:bY):Prop:=mW h.1/\mW h.2.2.1/\mW h.2.2.2.1/\0<=h.2.1/\h.2.1<=65535
instance (h:bY):Decidable (iZ h):=by unfold iZ;infer_instance
def js(h:bY):Int:=if iZ h then 0 else 1
def AI(h:bY)(n:Int):List Int:=[69,h.1]++(w2 n++(w2 h.2.1++(w2 (if h.2.2.2.2.1 then 16384 else 0)++[h.2.2.1,h.2.2.2.1])))
def Cw(h:bY):List Int:=w4 h.2.2.2.2.2.1++w4 h.2.2.2.2.2.2
def fp(h:bY)(n:Int):List Int:=AI h n++([0,0]++Cw h)
def gk(h:bY)(n:Int):List Int:=bJ (fp h n) 10 (ci (fp h n))
def da(p:oa):Int:=if ¬ iZ p.1 then 1 else if (1480:Int)<p.2.length then 5 else 0
def cQ(p:oa):List Int:=if da p=0 then gk p.1 (20+p.2.length)++p.2 else []
def fD(b:List Int):Int :=
 if (b.length:Int)<20 then 3 else if ¬ (b.getD 0 default=69/\(aG b 6=0∨aG b 6=16384)/\20<=aG b 2) then 2
 else if ci (bJ (b.take 20) 10 0)≠aG b 10 then 4 else 0
def m8:bY:=(0,0,0,0,false,0,0)
def bQ(b:List Int):bY:=(b.getD 1 default,aG b 4,b.getD 8 default,b.getD 9 default,decide (aG b 6=16384),dH ((b.drop 12).take 4),dH ((b.drop 16).take 4))
def oB(b:List Int):bY:=if fD b=0 then bQ b else m8
def mC(b:List Int):Int:=if fD b=0 then aG b 2 else 0
def bW(b:List Int):Int:=if fD b≠0 then fD b else if aG b 2≠b.length then 2 else if 1500<aG b 2 then 5 else 0
def aR(b:List Int):oa:=if bW b=0 then (bQ b,b.drop 20) else (m8,[])
def uU(h:bY):bY:=(h.1,h.2.1,h.2.2.1-1,h.2.2.2)
def fV(b:List Int):Int:=if bW b≠0 then bW b else if (bQ b).2.2.1<2 then 7 else 0
def gN(b:List Int):List Int:=if fV b=0 then cQ (uU (bQ b),b.drop 20) else []
theorem P6(h:bY)(n:Int):(fp h n).length=20:=rfl
theorem oS(h:bY)(n:Int):(gk h n).length=20:=by unfold gk;rw[j9];rfl
theorem z8{h:bY}{n:Int}(hk:iZ h):bytes (fp h n):=by
 obtain⟨h1,h2,h3,-⟩:=hk
 exact fT (fT (jT (by omega) (by omega) (jT h1.1 h1.2 kR)) (fT (jP _) (fT (jP _) (fT (jP _) (jT h2.1 h2.2 (jT h3.1 h3.2 kR))))))
  (fT (jT (by omega) (by omega) (jT (by omega) (by omega) kR)) (fT (vJ _) (vJ _)))
theorem Eo{h:bY}{n:Int}(hk:iZ h):bytes (gk h n):=pf (z8 hk)
theorem jx{n:Nat}{b:List Int}(h:n+1<=b.length):∃ x r,b=x::r/\n<=r.length:=by
 cases b with
 | nil=>simp at h
 | cons x r=>exact⟨x,r,rfl,by simpa using h⟩
theorem Rr{b:List Int}(h:20<=b.length):∃ x0 x1 x2 x3 x4 x5 x6 x7 x8 x9 x10 x11 x12 x13 x14 x15 x16 x17 x18 x19 r,b=x0::x1::x2::x3::x4::x5::x6::x7::x8::x9::x10::x11::x12::x13::x14::x15::x16::x17::x18::x19::r:=by
 obtain⟨x0,b1,rfl,h1⟩:=jx (n:=19) h
 obtain⟨x1,b2,rfl,h2⟩:=jx (n:=18) h1
 obtain⟨x2,b3,rfl,h3⟩:=jx (n:=17) h2
 obtain⟨x3,b4,rfl,h4⟩:=jx (n:=16) h3
 obtain⟨x4,b5,rfl,h5⟩:=jx (n:=15) h4
 obtain⟨x5,b6,rfl,h6⟩:=jx (n:=14) h5
 obtain⟨x6,b7,rfl,h7⟩:=jx (n:=13) h6
 obtain⟨x7,b8,rfl,h8⟩:=jx (n:=12) h7
 obtain⟨x8,b9,rfl,h9⟩:=jx (n:=11) h8
 obtain⟨x9,b10,rfl,h10⟩:=jx (n:=10) h9
 obtain⟨x10,b11,rfl,h11⟩:=jx (n:=9) h10
 obtain⟨x11,b12,rfl,h12⟩:=jx (n:=8) h11
 obtain⟨x12,b13,rfl,h13⟩:=jx (n:=7) h12
 obtain⟨x13,b14,rfl,h14⟩:=jx (n:=6) h13
 obtain⟨x14,b15,rfl,h15⟩:=jx (n:=5) h14
 obtain⟨x15,b16,rfl,h16⟩:=jx (n:=4) h15
 obtain⟨x16,b17,rfl,h17⟩:=jx (n:=3) h16
 obtain⟨x17,b18,rfl,h18⟩:=jx (n:=2) h17
 obtain⟨x18,b19,rfl,h19⟩:=jx (n:=1) h18
 obtain⟨x19,b20,rfl,h20⟩:=jx (n:=0) h19
 exact⟨x0,x1,x2,x3,x4,x5,x6,x7,x8,x9,x10,x11,x12,x13,x14,x15,x16,x17,x18,x19,b20,rfl⟩
theorem V5(a:Int):dH [a]=a:=by simp[dH]
theorem xA(a b c d:Int):dH [a,b,c,d]=((a*256+b)*256+c)*256+d:=by simp[dH]
theorem EN{b:List Int}{a w:Int}(h1:1<=w)(h2:w<=7)(h3:0<=a)(h4:a+w<=b.length):dO b a w=dH ((b.drop a.toNat).take w.toNat):=by
 rw[dO,if_neg (by omega)]
theorem YK{b:List Int}{i:Nat}(h:i<b.length):(b.drop i).take 1=[b.getD i default]:=by
 rw[List.drop_eq_getElem_cons h,List.getD_eq_getElem?_getD,List.getElem?_eq_getElem h];rfl
theorem yM{b:List Int}{a:Int}(h3:0<=a)(h4:a+1<=b.length):dO b a 1=b.getD a.toNat default:=by
 rw[EN (by omega) (by omega) h3 h4,show (1:Int).toNat=1 from rfl,YK (by omega),V5]
theorem tH{b:List Int}{a:Int}(h3:0<=a)(h4:a+2<=b.length):dO b a 2=aG b a.toNat:=by
 rw[EN (by omega) (by omega) h3 h4];rfl
theorem L9{b:List Int}{a:Int}(h3:0<=a)(h4:a+4<=b.length):dO b a 4=dH ((b.drop a.toNat).take 4):=by
 rw[EN (by omega) (by omega) h3 h4];rfl
theorem sm{b:List Int}{n i:Nat}(h:i<n):(b.take n).getD i default=b.getD i default:=by
 rw[List.getD_eq_getElem?_getD,List.getElem?_take,if_pos h,← List.getD_eq_getElem?_getD]
theorem wF{b:List Int}{n i k:Nat}(h:i+k<=n):((b.take n).drop i).take k=(b.drop i).take k:=by
 rw[List.drop_take,List.take_take,Nat.min_eq_left (by omega)]
theorem oV{b:List Int}{n i:Nat}(h:i+2<=n):aG (b.take n) i=aG b i:=by
 unfold aG;rw[wF h]
theorem Bi{b:List Int}{n:Nat}(h:bytes b):bytes (b.take n):=fun x hx=>h x (List.mem_of_mem_take hx)
theorem rX{b:List Int}{n:Nat}(h:bytes b):bytes (b.drop n):=fun x hx=>h x (List.mem_of_mem_drop hx)
theorem Bd{b:List Int}(h:bytes b){i:Nat}(hi:i<b.length):0<=b.getD i default/\b.getD i default<=255:=by
 have:=bL (xs:=b) (i:=(i:Int)) (by omega) (by omega)
 exact h _ this
theorem qL{b:List Int}(h:bytes b)(i:Nat):0<=aG b i/\aG b i<=65535:=by
 have:=z7 2 ((b.drop i).take 2) (by rw[List.length_take];omega) (fun x hx=>h x (List.mem_of_mem_drop (List.mem_of_mem_take hx)))
 have e:(256:Int)^2=65536:=rfl
 unfold aG;omega
theorem sg{b:List Int}(h:bytes b)(i:Nat):0<=dH ((b.drop i).take 4)/\dH ((b.drop i).take 4)<=4294967295:=by
 have:=z7 4 ((b.drop i).take 4) (by rw[List.length_take];omega) (fun x hx=>h x (List.mem_of_mem_drop (List.mem_of_mem_take hx)))
 have e:(256:Int)^4=4294967296:=rfl
 omega
theorem jz{a:Int}{l:List Int}(h:bytes (a::l)):(0<=a/\a<=255)/\bytes l:=⟨h a List.mem_cons_self,fun x hx=>h x (List.mem_cons_of_mem _ hx)⟩
theorem JX{a b c d:Int}(ha:0<=a/\a<=255)(hb:0<=b/\b<=255)(hc:0<=c/\c<=255)(hd:0<=d/\d<=255):w4 (((a*256+b)*256+c)*256+d)=[a,b,c,d]:=by
 unfold w4
 have e1:(((a*256+b)*256+c)*256+d)/16777216%256=a:=by omega
 have e2:(((a*256+b)*256+c)*256+d)/65536%256=b:=by omega
 have e3:(((a*256+b)*256+c)*256+d)/256%256=c:=by omega
 have e4:(((a*256+b)*256+c)*256+d)%256=d:=by omega
 rw[e1,e2,e3,e4]
theorem Si{b:List Int}(hb:bytes b)(hl:20<=b.length)(h0:b.getD 0 default=69)(hf:aG b 6=0∨aG b 6=16384) :
  fp (bQ b) (aG b 2)=bJ (b.take 20) 10 0/\(gk (bQ b) (aG b 2)=b.take 20↔ci (bJ (b.take 20) 10 0)=aG b 10):=by
 obtain⟨x0,x1,x2,x3,x4,x5,x6,x7,x8,x9,x10,x11,x12,x13,x14,x15,x16,x17,x18,x19,r,rfl⟩:=Rr hl
 have hb0:=hb
 obtain⟨k0,hb⟩:=jz hb
 obtain⟨k1,hb⟩:=jz hb
 obtain⟨k2,hb⟩:=jz hb
 obtain⟨k3,hb⟩:=jz hb
 obtain⟨k4,hb⟩:=jz hb
 obtain⟨k5,hb⟩:=jz hb
 obtain⟨k6,hb⟩:=jz hb
 obtain⟨k7,hb⟩:=jz hb
 obtain⟨k8,hb⟩:=jz hb
 obtain⟨k9,hb⟩:=jz hb
 obtain⟨k10,hb⟩:=jz hb
 obtain⟨k11,hb⟩:=jz hb
 obtain⟨k12,hb⟩:=jz hb
 obtain⟨k13,hb⟩:=jz hb
 obtain⟨k14,hb⟩:=jz hb
 obtain⟨k15,hb⟩:=jz hb
 obtain⟨k16,hb⟩:=jz hb
 obtain⟨k17,hb⟩:=jz hb
 obtain⟨k18,hb⟩:=jz hb
 obtain⟨k19,hb⟩:=jz hb
 have e2:aG (x0::x1::x2::x3::x4::x5::x6::x7::x8::x9::x10::x11::x12::x13::x14::x15::x16::x17::x18::x19::r) 2=x2*256+x3:=fG _ _ _
 have e4:aG (x0::x1::x2::x3::x4::x5::x6::x7::x8::x9::x10::x11::x12::x13::x14::x15::x16::x17::x18::x19::r) 4=x4*256+x5:=fG _ _ _
 have e6:aG (x0::x1::x2::x3::x4::x5::x6::x7::x8::x9::x10::x11::x12::x13::x14::x15::x16::x17::x18::x19::r) 6=x6*256+x7:=fG _ _ _
 have e10:aG (x0::x1::x2::x3::x4::x5::x6::x7::x8::x9::x10::x11::x12::x13::x14::x15::x16::x17::x18::x19::r) 10=x10*256+x11:=fG _ _ _
 have n12:dH (((x0::x1::x2::x3::x4::x5::x6::x7::x8::x9::x10::x11::x12::x13::x14::x15::x16::x17::x18::x19::r).drop 12).take 4)=((x12*256+x13)*256+x14)*256+x15:=xA _ _ _ _
 have n16:dH (((x0::x1::x2::x3::x4::x5::x6::x7::x8::x9::x10::x11::x12::x13::x14::x15::x16::x17::x18::x19::r).drop 16).take 4)=((x16*256+x17)*256+x18)*256+x19:=xA _ _ _ _
 have h0:x0=69:=h0
 subst h0
 rw[e6] at hf
 have hk:w2 (if decide (x6*256+x7=16384) then 16384 else 0)=[x6,x7]:=by
  rcases hf with hf|hf
  ·rw[hf]
   have:x6=0/\x7=0:=by omega
   rw[this.1,this.2];rfl
  ·rw[hf]
   have:x6=64/\x7=0:=by omega
   rw[this.1,this.2];rfl
 have hbody:fp (bQ (69::x1::x2::x3::x4::x5::x6::x7::x8::x9::x10::x11::x12::x13::x14::x15::x16::x17::x18::x19::r)) (aG (69::x1::x2::x3::x4::x5::x6::x7::x8::x9::x10::x11::x12::x13::x14::x15::x16::x17::x18::x19::r) 2)=bJ ((69::x1::x2::x3::x4::x5::x6::x7::x8::x9::x10::x11::x12::x13::x14::x15::x16::x17::x18::x19::r).take 20) 10 0:=by
  unfold fp AI Cw bQ
  simp only
  rw[e2,e4,e6,n12,n16,hk,AF k2.1 k2.2 k3.1 k3.2,AF k4.1 k4.2 k5.1 k5.2,JX k12 k13 k14 k15,JX k16 k17 k18 k19]
  rfl
 refine⟨hbody,?_⟩
 rw[gk,hbody,e10]
 have hc:=nh (b:=bJ ((69::x1::x2::x3::x4::x5::x6::x7::x8::x9::x10::x11::x12::x13::x14::x15::x16::x17::x18::x19::r).take 20) 10 0) (pf (fun x hx=>hb0 x (List.mem_of_mem_take hx)))
 generalize ci (bJ ((69::x1::x2::x3::x4::x5::x6::x7::x8::x9::x10::x11::x12::x13::x14::x15::x16::x17::x18::x19::r).take 20) 10 0)=c at hc ⊢
 have e:bJ (bJ ((69::x1::x2::x3::x4::x5::x6::x7::x8::x9::x10::x11::x12::x13::x14::x15::x16::x17::x18::x19::r).take 20) 10 0) 10 c=[69,x1,x2,x3,x4,x5,x6,x7,x8,x9,c/256%256,c%256,x12,x13,x14,x15,x16,x17,x18,x19]:=rfl
 rw[e]
 have e':(69::x1::x2::x3::x4::x5::x6::x7::x8::x9::x10::x11::x12::x13::x14::x15::x16::x17::x18::x19::r).take 20=[69,x1,x2,x3,x4,x5,x6,x7,x8,x9,x10,x11,x12,x13,x14,x15,x16,x17,x18,x19]:=rfl
 rw[e']
 constructor
 ·intro h
  simp only[List.cons.injEq,and_true,true_and] at h
  omega
 ·intro h
  have:c/256%256=x10/\c%256=x11:=by omega
  rw[this.1,this.2]
def oh(k:Nat):Nat:=[0,1,2,4,6,8,9,10,12,16,20].getD k 20
theorem ah4{h:bY}{n f k:Int}(hok:iZ h)(n0:0<=n)(n1:n<=65535)(s0:0<=h.2.2.2.2.2.1/\h.2.2.2.2.2.1<=4294967295)(d0:0<=h.2.2.2.2.2.2/\h.2.2.2.2.2.2<=4294967295)(hf:f=if h.2.2.2.2.1 then 16384 else 0)(k0:0<=k)(k1:k<10) :
  bG ((fp h n).take (oh k.toNat)) (jS [69,h.1,n,h.2.1,f,h.2.2.1,h.2.2.2.1,0,h.2.2.2.2.2.1,h.2.2.2.2.2.2] k.toNat) (jS [1,1,2,2,2,1,1,2,4,4] k.toNat)=(fp h n).take (oh (k+1).toNat):=by
 obtain⟨h1,h2,h3,h4,h5⟩:=hok
 have hf0:0<=f/\f<=65535:=by rw[hf];split <;> omega
 have:k=0∨k=1∨k=2∨k=3∨k=4∨k=5∨k=6∨k=7∨k=8∨k=9:=by omega
 rcases this with rfl|rfl|rfl|rfl|rfl|rfl|rfl|rfl|rfl|rfl
 ·exact p8 (b:=[]) (n:=69) (by omega) (by omega)
 ·exact p8 (b:=[69]) h1.1 h1.2
 ·exact gO (b:=[69,h.1]) n0 n1
 ·exact gO (b:=[69,h.1]++w2 n) h4 h5
 ·have:=gO (b:=[69,h.1]++(w2 n++w2 h.2.1)) hf0.1 hf0.2
  rw[hf] at this ⊢;exact this
 ·exact p8 (b:=(fp h n).take 8) h2.1 h2.2
 ·exact p8 (b:=(fp h n).take 9) h3.1 h3.2
 ·exact gO (b:=(fp h n).take 10) (n:=0) (by omega) (by omega)
 ·exact rV (b:=(fp h n).take 12) s0.1 s0.2
 ·exact rV (b:=(fp h n).take 16) d0.1 d0.2
theorem Bg{b:List Int}(h:fD b=0):20<=b.length:=by
 unfold fD at h
 split at h
 ·cases h
 ·omega
theorem Bq{b:List Int}(h:bW b=0):fD b=0:=by
 unfold bW at h
 split at h
 ·rename_i k;exact absurd h k
 ·rename_i k;exact Decidable.not_not.1 k
theorem wA{b:List Int}(h:bW b=0):(b.length:Int)<=1500/\aG b 2=b.length:=by
 unfold bW at h
 split at h
 ·rename_i k;exact absurd h k
 ·split at h
  ·cases h
  ·split at h
   ·cases h
   ·omega
theorem Xp{b:List Int}(hb:bytes b)(h:fD b=0):iZ (bQ b):=by
 have hl:=Bg h
 exact⟨Bd hb (by omega),Bd hb (by omega),Bd hb (by omega),qL hb 4⟩
theorem Us{b:List Int}(hb:bytes b)(h:bW b=0)(h2:¬ (bQ b).2.2.1<2):iZ (uU (bQ b)):=by
 obtain⟨k1,k2,k3,k4⟩:=Xp hb (Bq h)
 refine⟨k1,?_,k3,k4⟩
 obtain⟨k5,k6⟩:=k2
 show 0<=(bQ b).2.2.1-1/\(bQ b).2.2.1-1<=255
 omega
def Ld:Ct:=⟨[.val cI],[.val .bool],fun d=>[],fun d=>((decide (mW d.1),()),())⟩
def P2:ar Ld.ps->az:=(fun _=>{})
theorem ZA :
 ∀(a:Int),ab a/\True->True-> ∀(b:Bool),b=decide (0<=a)->(b->(b->b)/\True)/\(b->b)/\(bif b then decide (a<256) else false)=decide (mW a):=by
  rintro n - -
  (repeat (intro (b_:Bool) (hb_:b_=_);(repeat refine⟨(by first|(simp;done)|(rw[hb_];simp;done)|(rw[hb_];simp;omega)|(rw[hb_];simp;intros;omega)|(rw[hb_];simp +contextual;done)),?_⟩);subst hb_))
  unfold mW
  by_cases h:0<=n <;> simp[h] <;> omega
theorem WJ:ax Tryz.prog GL 290 Ld.spec:=Ct.okH _ Tryz.func290 (by kernel_rfl) aD av P2 (aC (by kernel_rfl) ZA)
def Jp:Ct:=⟨[.agg j8],[.val cI],fun d=>[],fun d=>((js d.1,()),())⟩
def Rl:ar Jp.ps->az:=(fun _=>{})
theorem QB :
 ∀(a:bY),CT.wf j8 a/\True->True-> ∀(b:Bool),b= ! decide (mW a.1)->((! b)->((! b)->(! b))/\True)/\((! b)->((! b)->(! b))/\((! b)->(! b))/\True)/\((! b)->((! b)->(! b))/\True)/\(b=false->(! b))/\ ∀(c:Bool),(c=bif b then true else ! decide (mW a.2.2.1))->((! c)->((! c)->(! c))/\True)/\((! c)->((! c)->(! c))/\((! c)->(! c))/\True)/\((! c)->((! c)->(! c))/\True)/\(c=false->(! c))/\ ∀(d:Bool),(d=bif c then true else ! decide (mW a.2.2.2.1))->((! d)->((! d)->(! d))/\True)/\((! d)->((! d)->(! d))/\True)/\(d=false->(! d))/\ ∀(e:Bool),(e=bif d then true else decide (a.2.1<0))->((! e)->((! e)->(! e))/\True)/\((! e)->((! e)->(! e))/\True)/\(e=false->(! e))/\ad (bif e then true else decide (65536<=a.2.1)) ((1:Int)=js a) ((0:Int)=js a):=by
  rintro h - -
  (repeat (intro (b_:Bool) (hb_:b_=_);(repeat refine⟨(by first|(simp;done)|(rw[hb_];simp;done)|(rw[hb_];simp;omega)|(rw[hb_];simp;intros;omega)|(rw[hb_];simp +contextual;done)),?_⟩);subst hb_))
  refine ae (fun hc=>?_) (fun hc=>?_)
  ·rw[js,if_neg]
   intro k;obtain⟨k1,k2,k3,k4,k5⟩:=k
   simp[k1,k2,k3,Bool.cond_eq_ite] at hc;omega
  ·rw[js,if_pos]
   simp[Bool.cond_eq_ite] at hc
   exact⟨hc.1.1.1.1,hc.1.1.1.2,hc.1.1.2,by omega,by omega⟩
theorem U2:ax Tryz.prog GL 289 Jp.spec:=Ct.okH _ Tryz.func289 (by kernel_rfl) (ah aD WJ) av Rl (aC (by kernel_rfl) QB)
def M9:Ct:=⟨[.agg uA],[.own 5 bj,.val cI],fun d=>[(d.1.2.length:Int)<=1073741824],fun d=>((cQ d.1,da d.1,()),())⟩
def ag9:ar M9.ps->az:=(fun d=>{loops:=(fun n=>match n with|12=>some (fun S=>{ι:=Int×(List Int),qn:=⟨fun k_=>∀(k:Int)(ys:(List Int)),k_ (k,ys),fun k_ h_ i=>h_ i.1 i.2,fun k_=>∃ (k:Int) (ys:(List Int)),k_ (k,ys),fun k_ ⟨k,ys,h_⟩=>⟨_,h_⟩⟩,μ:=fun i=>(10-i.1).toNat,inv:=fun i=>0<=i.1/\i.1<=10/\i.2=(fp d.1.1 (20+d.1.2.length)).take (oh i.1.toNat),keep:=[1,4,53],slots:=fun i=>[(7,.own 524288 1),(54,.int .i64 i.1)],keepN:=[32,80],names:=fun i=>[(524288,.live (.row 5 bj i.2))]})|_=>none)})
def Gs(a:(Int×Int×Int×Int×Bool×Int×Int)×List Int)(b:Int)(c:List Int) :=
 (2:Int)=2/\a.1.2.2.1=a.1.2.2.1/\(1:Int)=1/\a.1.2.2.2.1=a.1.2.2.2.1/\(1:Int)=1/\(0:Int)=0/\(2:Int)=2/\IntKind.wrap .i64 a.1.2.2.2.2.2.1=IntKind.wrap .i64 a.1.2.2.2.2.2.1/\(4:Int)=4/\IntKind.wrap .i64 a.1.2.2.2.2.2.2=IntKind.wrap .i64 a.1.2.2.2.2.2.2/\(4:Int)=4/\(0:Int)=b/\a.1.1=a.1.1/\a.1.2.1=a.1.2.1/\a.1.2.2.1=a.1.2.2.1/\a.1.2.2.2.1=a.1.2.2.2.1/\a.1.2.2.2.2.1=a.1.2.2.2.2.1/\a.1.2.2.2.2.2.1=a.1.2.2.2.2.2.1/\a.1.2.2.2.2.2.2=a.1.2.2.2.2.2.2/\a.2=a.2/\a.1.1=a.1.1/\a.1.2.1=a.1.2.1/\a.1.2.2.1=a.1.2.2.1/\a.1.2.2.2.1=a.1.2.2.2.1/\a.1.2.2.2.2.1=a.1.2.2.2.2.1/\a.1.2.2.2.2.2.1=a.1.2.2.2.2.2.1/\a.1.2.2.2.2.2.2=a.1.2.2.2.2.2.2/\c=([]:List Int)/\True
def Dd(a:(Int×Int×Int×Int×Bool×Int×Int)×List Int)(b:Int)(d:List Int)(f:Int)(g:List Int) :=
 (2:Int)=2/\a.1.2.2.1=a.1.2.2.1/\(1:Int)=1/\a.1.2.2.2.1=a.1.2.2.2.1/\(1:Int)=1/\(0:Int)=0/\(2:Int)=2/\IntKind.wrap .i64 a.1.2.2.2.2.2.1=IntKind.wrap .i64 a.1.2.2.2.2.2.1/\(4:Int)=4/\IntKind.wrap .i64 a.1.2.2.2.2.2.2=IntKind.wrap .i64 a.1.2.2.2.2.2.2/\(4:Int)=4/\IntKind.wrap .i64 (b+(1:Int))=f/\a.1.1=a.1.1/\a.1.2.1=a.1.2.1/\a.1.2.2.1=a.1.2.2.1/\a.1.2.2.2.1=a.1.2.2.2.1/\a.1.2.2.2.2.1=a.1.2.2.2.2.1/\a.1.2.2.2.2.2.1=a.1.2.2.2.2.2.1/\a.1.2.2.2.2.2.2=a.1.2.2.2.2.2.2/\a.2=a.2/\a.1.1=a.1.1/\a.1.2.1=a.1.2.1/\a.1.2.2.1=a.1.2.2.1/\a.1.2.2.2.1=a.1.2.2.2.1/\a.1.2.2.2.2.1=a.1.2.2.2.2.1/\a.1.2.2.2.2.2.1=a.1.2.2.2.2.2.1/\a.1.2.2.2.2.2.2=a.1.2.2.2.2.2.2/\d=g/\True
def y9(c:List Int)(d:Int) :=
 List.set c (Int.toNat (10:Int)) (IntKind.wrap .u8 (cT IntKind.i64 d (8:Int)))
def Gy(a:(Int×Int×Int×Int×Bool×Int×Int)×List Int)(c:List Int) :=
 (c.length:Int)<=1099511627776/\ ∀(d:Int),d=65535 -oc (aY true c)->(0:Int)<=8/\(0:Int)<=10/\10<(c.length:Int)/\(0:Int)<=11/\11<((List.length (y9 c d)):Int)/\(List.length (List.set (y9 c d) (Int.toNat (11:Int)) (IntKind.wrap .u8 d))+a.2.length)*(1:Nat)<=(140737488355328:Nat)/\List.set (y9 c d) (Int.toNat (11:Int)) (IntKind.wrap .u8 d)++a.2=cQ a/\(0:Int)=da a
def kI(a:(Int×Int×Int×Int×Bool×Int×Int)×List Int) :=
 (20:Int)+(a.2.length:Int)
def xC(b:Int) :=
 jS [(1:Int),(1:Int),(2:Int),(2:Int),(2:Int),(1:Int),(1:Int),(2:Int),(4:Int),(4:Int)] b.toNat
def CU(a:(Int×Int×Int×Int×Bool×Int×Int)×List Int)(b:Int) :=
 jS [(69:Int),a.1.1,IntKind.wrap .i64 (kI a),a.1.2.1,(16384:Int),a.1.2.2.1,a.1.2.2.2.1,(0:Int),IntKind.wrap .i64 a.1.2.2.2.2.2.1,IntKind.wrap .i64 a.1.2.2.2.2.2.2] b.toNat
def B5(a:(Int×Int×Int×Int×Bool×Int×Int)×List Int)(b:Int) :=
 jS [(69:Int),a.1.1,IntKind.wrap .i64 (kI a),a.1.2.1,(0:Int),a.1.2.2.1,a.1.2.2.2.1,(0:Int),IntKind.wrap .i64 a.1.2.2.2.2.2.1,IntKind.wrap .i64 a.1.2.2.2.2.2.2] b.toNat
theorem ap4 :
 ∀(a:(Int×Int×Int×Int×Bool×Int×Int)×List Int),CT.wf uA a/\True->(a.2.length:Int)<=1073741824->ad (! decide (js a.1=0)) (([]:List Int)=cQ a/\js a.1=da a) (ad (decide (1480<(a.2.length:Int))) (([]:List Int)=cQ a/\(5:Int)=da a) (ad a.1.2.2.2.2.1 ((∃(b:Int) (c:List Int),(0<=b/\b<=10/\c=List.take (oh b.toNat) (fp a.1 (kI a)))/\(69:Int)=69/\(1:Int)=1/\a.1.1=a.1.1/\(1:Int)=1/\IntKind.wrap .i64 (kI a)=IntKind.wrap .i64 (kI a)/\(2:Int)=2/\a.1.2.1=a.1.2.1/\(2:Int)=2/\(16384:Int)=16384/\(Gs a b c))/\ ∀(b:Int)(c:List Int),0<=b/\b<=10/\c=List.take (oh b.toNat) (fp a.1 (kI a))->ad (decide (b<10)) (0<=b/\b<(↑(10:Nat):Int)/\(c.length:Int)<=1099511627776/\ ∀(d:List Int)(e:Int),d=bG c (CU a b) (xC b)/\e=nY (CU a b) (xC b)-> ∃(f:Int) (g:List Int),(0<=f/\f<=10/\g=List.take (oh f.toNat) (fp a.1 (kI a)))/\Int.toNat ((10:Int)
 -f)<Int.toNat ((10:Int) -b)/\(69:Int)=69/\(1:Int)=1/\a.1.1=a.1.1/\(1:Int)=1/\IntKind.wrap .i64 (kI a)=IntKind.wrap .i64 (kI a)/\(2:Int)=2/\a.1.2.1=a.1.2.1/\(2:Int)=2/\(16384:Int)=16384/\(Dd a b d f g)) (Gy a c)) ((∃(b:Int) (c:List Int),(0<=b/\b<=10/\c=List.take (oh b.toNat) (fp a.1 (kI a)))/\(69:Int)=69/\(1:Int)=1/\a.1.1=a.1.1/\(1:Int)=1/\IntKind.wrap .i64 (kI a)=IntKind.wrap .i64 (kI a)/\(2:Int)=2/\a.1.2.1=a.1.2.1/\(2:Int)=2/\(0:Int)=0/\(Gs a b c))/\ ∀(b:Int)(c:List Int),0<=b/\b<=10/\c=List.take (oh b.toNat) (fp a.1 (kI a))->ad (decide (b<10)) (0<=b/\b<(↑(10:Nat):Int)/\(c.length:Int)<=1099511627776/\ ∀(d:List Int)(e:Int),d=bG c (B5 a b) (xC b)/\e=nY (B5 a b) (xC b)-> ∃(f:Int) (g:List Int),(0<=f/\f<=10/\g=List.take (oh f.toNat) (fp a.1 (kI a)))/\Int.toNat ((10:Int) -f)<Int.toNat ((10:Int)
 -b)/\(69:Int)=69/\(1:Int)=1/\a.1.1=a.1.1/\(1:Int)=1/\IntKind.wrap .i64 (kI a)=IntKind.wrap .i64 (kI a)/\(2:Int)=2/\a.1.2.1=a.1.2.1/\(2:Int)=2/\(0:Int)=0/\(Dd a b d f g)) (Gy a c)))):=by
  delta Gs Dd Gy kI xC y9 CU B5
  rintro d ⟨⟨hw,-⟩,-⟩ hl
  obtain⟨-,-,-,-,-,s0,d0⟩:=hw
  have s0:0<=d.1.2.2.2.2.2.1/\d.1.2.2.2.2.2.1<=4294967295:=s0
  have d0:0<=d.1.2.2.2.2.2.2/\d.1.2.2.2.2.2.2<=4294967295:=d0
  refine ae (fun hc=>?_) (fun hc=>?_)
  ·have hn:¬ iZ d.1:=fun k=>by rw[js,if_pos k] at hc;cases hc
   have he:da d=1:=by rw[da,if_pos hn]
   rw[cQ,he,js,if_neg hn];exact⟨rfl,rfl⟩
  have hok:iZ d.1:=Classical.byContradiction fun k=>by rw[js,if_neg k] at hc;cases hc
  refine ae (fun h5=>?_) (fun h5=>?_)
  ·have h5:=of_decide_eq_true h5
   have he:da d=5:=by rw[da,if_neg (fun k=>k hok),if_pos h5]
   rw[cQ,he];exact⟨rfl,rfl⟩
  have h5:=of_decide_eq_false h5
  have he:da d=0:=by rw[da,if_neg (fun k=>k hok),if_neg h5]
  have e20:IntKind.wrap .i64 (20+(d.2.length:Int))=20+d.2.length:=ai (by omega) (by omega)
  have es:IntKind.wrap .i64 d.1.2.2.2.2.2.1=d.1.2.2.2.2.2.1:=ai (by have:=s0.1;omega) (by have:=s0.2;omega)
  have ed:IntKind.wrap .i64 d.1.2.2.2.2.2.2=d.1.2.2.2.2.2.2:=ai (by have:=d0.1;omega) (by have:=d0.2;omega)
  have hc:=nh (z8 (n:=20+d.2.length) hok)
  have hbl:=P6 d.1 (20+d.2.length)
  have step:=fun f hf k=>ah4 (h:=d.1) (n:=20+d.2.length) (f:=f) (k:=k) hok (by omega) (by omega) s0 d0 hf
  have fin:∀ ys,ys=fp d.1 (20+d.2.length)->(List.set (List.set ys (Int.toNat 10) (IntKind.wrap .u8 (cT .i64 (65535-oc (aY true ys)) 8))) (Int.toNat 11) (IntKind.wrap .u8 (65535-oc (aY true ys)))++d.2=cQ d/\(0:Int)=da d):=by
   rintro ys rfl
   have hc:0<=65535-oc (aY true (fp d.1 (20+d.2.length))):=hc.1
   rw[Cg hc,IntKind.wrap_u8',IntKind.wrap_u8',cQ,he,if_pos rfl]
   exact⟨rfl,rfl⟩
  rw[e20,es,ed]
  refine ae (fun hk=>?_) (fun hk=>?_)
  ·refine⟨⟨0,[],⟨by omega,by omega,rfl⟩,(by repeat' first|exact trivial|refine⟨trivial,?_⟩|refine⟨(by with_reducible rfl),?_⟩|refine⟨ai (by omega) (by omega),?_⟩|refine⟨rfl,?_⟩)⟩,?_⟩
   rintro k ys ⟨k0,k1,rfl⟩
   refine ae (fun h=>?_) (fun h=>?_)
   ·have h:=of_decide_eq_true h
    have st:=step 16384 (by rw[hk];rfl) k k0 h
    refine⟨k0,h,by rw[List.length_take];omega,?_⟩
    rintro y _ ⟨rfl,-⟩
    exact⟨k+1,_,⟨by omega,by omega,st⟩,by omega,(by repeat' first|exact trivial|refine⟨trivial,?_⟩|refine⟨(by with_reducible rfl),?_⟩|refine⟨ai (by omega) (by omega),?_⟩|refine⟨rfl,?_⟩)⟩
   ·have h:=of_decide_eq_false h
    have e10:k=10:=by omega
    subst e10
    have et:(fp d.1 (20+d.2.length)).take (oh (Int.toNat 10))=fp d.1 (20+d.2.length):=List.take_of_length_le (by rw[hbl];decide)
    rw[et]
    refine⟨by omega,?_⟩
    rintro c rfl
    refine⟨by omega,by omega,by omega,by omega,by rw[List.length_set];omega,by rw[List.length_set,List.length_set];omega,fin _ rfl⟩
  ·refine⟨⟨0,[],⟨by omega,by omega,rfl⟩,(by repeat' first|exact trivial|refine⟨trivial,?_⟩|refine⟨(by with_reducible rfl),?_⟩|refine⟨ai (by omega) (by omega),?_⟩|refine⟨rfl,?_⟩)⟩,?_⟩
   rintro k ys ⟨k0,k1,rfl⟩
   refine ae (fun h=>?_) (fun h=>?_)
   ·have h:=of_decide_eq_true h
    have st:=step 0 (by rw[hk];rfl) k k0 h
    refine⟨k0,h,by rw[List.length_take];omega,?_⟩
    rintro y _ ⟨rfl,-⟩
    exact⟨k+1,_,⟨by omega,by omega,st⟩,by omega,(by repeat' first|exact trivial|refine⟨trivial,?_⟩|refine⟨(by with_reducible rfl),?_⟩|refine⟨ai (by omega) (by omega),?_⟩|refine⟨rfl,?_⟩)⟩
   ·have h:=of_decide_eq_false h
    have e10:k=10:=by omega
    subst e10
    have et:(fp d.1 (20+d.2.length)).take (oh (Int.toNat 10))=fp d.1 (20+d.2.length):=List.take_of_length_le (by rw[hbl];decide)
    rw[et]
    refine⟨by omega,?_⟩
    rintro c rfl
    refine⟨by omega,by omega,by omega,by omega,by rw[List.length_set];omega,by rw[List.length_set,List.length_set];omega,fin _ rfl⟩
theorem H5:ax Tryz.prog GL 279 M9.spec:=Ct.okH _ Tryz.func279 (by kernel_rfl) (ah (ah (ah aD U2) (Ct.named N2)) (Ct.named uM)) av ag9 (aC (by kernel_rfl) ap4)
def KP:Ct:=⟨[.val cI,.box 22 (.row 5 bj),.box 3 cI],[.val cI],fun d=>[(d.2.1.length:Int)<=100000,0<=d.1,d.1<=8,0<=d.2.2.1,d.2.2.1<=100000],fun d=>((dO d.2.1 d.2.2.1 d.1,()),(d.2.1,d.2.2.1+d.1,()))⟩
def YC:ar KP.ps->az:=(fun _=>{})
theorem Xr :
 ∀(a:Int)(b:List Int)(c:Int),ab a/\(b.length<=maxLen/\ ∀(d:Int),d∈b->0<=d/\d<=255)/\ab c/\True->(b.length:Int)<=100000/\0<=a/\a<=8/\0<=c/\c<=100000->(b.length:Int)<=1099511627776/\dO b c a=dO b c a/\b=b/\IntKind.wrap .i64 (c+a)=c+a:=by
  rintro w b a-⟨h1,h2,h3,h4,h5⟩
  exact⟨by omega,rfl,rfl,ai (by omega) (by omega)⟩
theorem VO:ax Tryz.prog GL 207 KP.spec:=Ct.okH _ Tryz.func207 (by kernel_rfl) (ah aD FQ) av YC (aC (by kernel_rfl) Xr)
def IM:Ct:=⟨[.val (.sl bj)],[.agg j8,.val cI,.val cI],fun d=>[(d.1.length:Int)<=1099511627776],fun d=>((oB d.1,mC d.1,fD d.1,()),())⟩
def Vi:ar IM.ps->az:=(fun _=>{})
def rQ :=
 ((0:Int),(0:Int),(0:Int),(0:Int),false,(0:Int),(0:Int))
def BJ(a:List Int) :=
 cf a (Int.toNat (0:Int)) (Int.toNat (20:Int))
theorem at0 :
 ∀(a:List Int),(a.length<=maxLen/\ ∀(b:Int),b∈a->0<=b/\b<=255)/\True->(a.length:Int)<=1099511627776->ad (decide ((a.length:Int)<20)) ((rQ)=oB a/\(0:Int)=mC a/\(3:Int)=fD a) ((0:Int)<=0/\(0:Int)<=20/\20<=(a.length:Int)/\((List.length (BJ a)):Int)<=1099511627776/\((List.length (BJ a)):Int)<=100000/\(0:Int)<=1/\(1:Int)<=8/\(0:Int)<=0/\(0:Int)<=100000/\ ∀(b:Int)(c:List Int)(d:Int),b=dO (BJ a) (0:Int) (1:Int)/\c=cf a (Int.toNat (0:Int)) (Int.toNat (20:Int))/\d=0+(1:Int)->(c.length:Int)<=100000/\(0:Int)<=1/\(1:Int)<=8/\0<=d/\d<=100000/\ ∀(e:Int)(f:List Int)(g:Int),e=dO c d (1:Int)/\f=c/\g=d+(1:Int)->(f.length:Int)<=100000/\(0:Int)<=2/\(2:Int)<=8/\0<=g/\g<=100000/\ ∀(h:Int)(i:List Int)(j:Int),h=dO f g (2:Int)/\i=f/\j=g+(2:Int)->(i.length:Int)<=100000/\(0:Int)<=2/\(2:Int)<=8/\0<=j/\j<=100000/\ ∀(k:Int)(l:List Int)(m:Int),k=dO i j
 (2:Int)/\l=i/\m=j+(2:Int)->(l.length:Int)<=100000/\(0:Int)<=2/\(2:Int)<=8/\0<=m/\m<=100000/\ ∀(n:Int)(o:List Int)(p:Int),n=dO l m (2:Int)/\o=l/\p=m+(2:Int)->(o.length:Int)<=100000/\(0:Int)<=1/\(1:Int)<=8/\0<=p/\p<=100000/\ ∀(q:Int)(r:List Int)(s:Int),q=dO o p (1:Int)/\r=o/\s=p+(1:Int)->(r.length:Int)<=100000/\(0:Int)<=1/\(1:Int)<=8/\0<=s/\s<=100000/\ ∀(t:Int)(u:List Int)(v:Int),t=dO r s (1:Int)/\u=r/\v=s+(1:Int)->(u.length:Int)<=100000/\(0:Int)<=2/\(2:Int)<=8/\0<=v/\v<=100000/\ ∀(w:Int)(x:List Int)(y:Int),w=dO u v (2:Int)/\x=u/\y=v+(2:Int)->(x.length:Int)<=100000/\(0:Int)<=4/\(4:Int)<=8/\0<=y/\y<=100000/\ ∀(z:Int)(A:List Int)(B:Int),z=dO x y (4:Int)/\A=x/\B=y+(4:Int)->(A.length:Int)<=100000/\(0:Int)<=4/\(4:Int)<=8/\0<=B/\B<=100000/\ ∀(C:Int)(D:List Int)(E:Int),C=dO A B (4:Int)/\D=A/\E=B+(4:Int)-> ∀(F:Bool),F= ! decide (b=69)->((! F)->((! F)->(! F))/\True)/\((!
 F)->((! F)->(! F))/\True)/\ ∀(G:Bool),G= ! decide (n=0)->((! F&&G)->((! F&&G)->(! F&&G))/\True)/\((! F&&G)->((! F&&G)->(! F&&G))/\True)/\((! F)->((! F)->(! F))/\(G->(! F&&G))/\True)/\(F=false->(! F))/\ ∀(H:Bool),(H=bif F then true else bif G then ! decide (n=16384) else false)->((! H)->((! H)->(! H))/\True)/\(H=false->(! H))/\ad (bif H then true else decide (h<20)) ((rQ)=oB a/\(0:Int)=mC a/\(2:Int)=fD a) ((0:Int)<=10/\10<(D.length:Int)/\(0:Int)<=11/\11<((List.length (List.set D (Int.toNat (10:Int)) (0:Int))):Int)/\((List.length (List.set (List.set D (Int.toNat (10:Int)) (0:Int)) (Int.toNat (11:Int)) (0:Int))):Int)<=1099511627776/\ ∀(I:Int),I=65535 -oc (aY true (List.set (List.set D (Int.toNat (10:Int)) (0:Int)) (Int.toNat (11:Int)) (0:Int)))->ad (! decide (I=w)) ((rQ)=oB a/\(0:Int)=mC a/\(4:Int)=fD a) ((e,k,q,t,decide (n=16384),IntKind.wrap .u32 z,IntKind.wrap
 .u32 C)=oB a/\h=mC a/\(0:Int)=fD a))):=by
  delta rQ BJ
  rintro b ⟨⟨-,hb⟩,-⟩ hl
  refine ae (fun h=>?_) (fun h=>?_)
  ·have h:=of_decide_eq_true h
   have e:fD b=3:=by rw[fD,if_pos h]
   rw[oB,mC,e];exact⟨rfl,rfl,rfl⟩
  have h:=of_decide_eq_false h
  have hB:cf b (Int.toNat 0) (Int.toNat 20)=b.take 20:=rfl
  have hBl:(b.take 20).length=20:=by rw[List.length_take];omega
  rw[hB]
  refine⟨by omega,by omega,by omega,by omega,by omega,by omega,by omega,by omega,by omega,?_⟩
  rintro v0 _ a0 ⟨e0,rfl,q0⟩
  rw[yM (by omega) (by omega),sm (by decide)] at e0
  have q0:a0=1:=q0
  subst q0
  refine⟨by omega,by omega,by omega,by omega,by omega,?_⟩
  rintro v1 _ a1 ⟨e1,rfl,q1⟩
  rw[yM (by omega) (by omega),sm (by decide)] at e1
  have q1:a1=2:=q1
  subst q1
  refine⟨by omega,by omega,by omega,by omega,by omega,?_⟩
  rintro v2 _ a2 ⟨e2,rfl,q2⟩
  rw[tH (by omega) (by omega),oV (by decide)] at e2
  have q2:a2=4:=q2
  subst q2
  refine⟨by omega,by omega,by omega,by omega,by omega,?_⟩
  rintro v3 _ a3 ⟨e3,rfl,q3⟩
  rw[tH (by omega) (by omega),oV (by decide)] at e3
  have q3:a3=6:=q3
  subst q3
  refine⟨by omega,by omega,by omega,by omega,by omega,?_⟩
  rintro v4 _ a4 ⟨e4,rfl,q4⟩
  rw[tH (by omega) (by omega),oV (by decide)] at e4
  have q4:a4=8:=q4
  subst q4
  refine⟨by omega,by omega,by omega,by omega,by omega,?_⟩
  rintro v5 _ a5 ⟨e5,rfl,q5⟩
  rw[yM (by omega) (by omega),sm (by decide)] at e5
  have q5:a5=9:=q5
  subst q5
  refine⟨by omega,by omega,by omega,by omega,by omega,?_⟩
  rintro v6 _ a6 ⟨e6,rfl,q6⟩
  rw[yM (by omega) (by omega),sm (by decide)] at e6
  have q6:a6=10:=q6
  subst q6
  refine⟨by omega,by omega,by omega,by omega,by omega,?_⟩
  rintro v7 _ a7 ⟨e7,rfl,q7⟩
  rw[tH (by omega) (by omega),oV (by decide)] at e7
  have q7:a7=12:=q7
  subst q7
  refine⟨by omega,by omega,by omega,by omega,by omega,?_⟩
  rintro v8 _ a8 ⟨e8,rfl,q8⟩
  rw[L9 (by omega) (by omega),wF (by decide)] at e8
  have q8:a8=16:=q8
  subst q8
  refine⟨by omega,by omega,by omega,by omega,by omega,?_⟩
  rintro v9 _ a9 ⟨e9,rfl,q9⟩
  rw[L9 (by omega) (by omega),wF (by decide)] at e9
  have q9:a9=20:=q9
  subst q9
  subst e0 e1 e2 e3 e4 e5 e6 e7 e8 e9
  have n12:=sg hb 12
  have n16:=sg hb 16
  have hcs:65535-oc (aY true (((b.take 20).set (Int.toNat 10) 0).set (Int.toNat 11) 0))=ci (bJ (b.take 20) 10 0):=rfl
  (repeat (intro (b_:Bool) (hb_:b_=_);(repeat refine⟨(by first|(simp;done)|(rw[hb_];simp;done)|(rw[hb_];simp;omega)|(rw[hb_];simp;intros;omega)|(rw[hb_];simp +contextual;done)),?_⟩);subst hb_))
  refine ae (fun hc=>?_) (fun hc=>?_)
  ·have e:fD b=2:=by
    rw[fD,if_neg h,if_pos]
    rintro⟨h0,hf,h2⟩
    rw[show b.getD (Int.toNat 0) default=69 from h0] at hc
    rcases hf with hf|hf
    ·rw[show aG b (Int.toNat 6)=0 from hf] at hc
     simp at hc
     have h2:20<=aG b (Int.toNat 2):=h2
     simp at h2;omega
    ·rw[show aG b (Int.toNat 6)=16384 from hf] at hc
     simp at hc
     have h2:20<=aG b (Int.toNat 2):=h2
     simp at h2;omega
   rw[oB,mC,e];exact⟨rfl,rfl,rfl⟩
  have hg:b.getD 0 default=69/\(aG b 6=0∨aG b 6=16384)/\20<=aG b 2:=by
   by_cases h0:b.getD (Int.toNat 0) default=69
   ·by_cases h6:aG b (Int.toNat 6)=0
    ·simp[h0,h6] at hc
     exact⟨h0,.inl h6,by omega⟩
    ·by_cases h7:aG b (Int.toNat 6)=16384
     ·simp[h0,h7] at hc
      exact⟨h0,.inr h7,by omega⟩
     ·exfalso
      rw[h0,decide_eq_false h6,decide_eq_false h7] at hc;simp at hc
   ·exfalso
    rw[decide_eq_false h0] at hc;simp at hc
  refine⟨by omega,by omega,by omega,by rw[List.length_set];omega,by rw[List.length_set,List.length_set];omega,?_⟩
  rw[hcs]
  rintro c rfl
  refine ae (fun hc=>?_) (fun hc=>?_)
  ·have e:fD b=4:=by
    rw[fD,if_neg h,if_neg (fun k=>k hg),if_pos]
    intro k
    rw[show aG b (Int.toNat 10)=aG b 10 from rfl,k] at hc;simp at hc
   rw[oB,mC,e];exact⟨rfl,rfl,rfl⟩
  ·have e:fD b=0:=by
    rw[fD,if_neg h,if_neg (fun k=>k hg),if_neg]
    intro k
    exact k (by simpa using hc)
   rw[oB,mC,e,if_pos rfl,if_pos rfl,show Int.toNat 12=12 from rfl,show Int.toNat 16=16 from rfl,pV n12.1 n12.2,pV n16.1 n16.2]
   exact⟨rfl,rfl,rfl⟩
theorem TW:ax Tryz.prog GL 161 IM.spec:=Ct.okH _ Tryz.func161 (by kernel_rfl) (ah (ah (ah aD py) (Ct.named VO)) (Ct.named uM)) av Vi (aC (by kernel_rfl) at0)
def NY:Ct:=⟨[.val (.sl bj)],[.agg uA,.val cI],fun d=>[(d.1.length:Int)<=1099511627776],fun d=>((aR d.1,bW d.1,()),())⟩
def Ua:ar NY.ps->az:=(fun _=>{})
theorem V2 :
 ∀(a:List Int),(a.length<=maxLen/\ ∀(b:Int),b∈a->0<=b/\b<=255)/\True->(a.length:Int)<=1099511627776->(a.length:Int)<=1099511627776/\ad (! decide (fD a=0)) (((rQ),([]:List Int))=aR a/\fD a=bW a) (ad (! decide (mC a=(a.length:Int))) (((rQ),([]:List Int))=aR a/\(2:Int)=bW a) (ad (decide (1500<mC a)) (((rQ),([]:List Int))=aR a/\(5:Int)=bW a) ((0:Int)<=20/\20<=(a.length:Int)/\(a.length:Int)<=(a.length:Int)/\((List.length (cf a (Int.toNat (20:Int)) (Int.toNat (a.length:Int)))):Int)<=1099511627776/\(oB a,cf a (Int.toNat (20:Int)) (Int.toNat (a.length:Int)))=aR a/\(0:Int)=bW a))):=by
  delta rQ
  rintro b ⟨⟨-,hb⟩,-⟩ hl
  refine⟨hl,ae (fun hc=>?_) (fun hc=>?_)⟩
  ·have hc:¬ fD b=0:=by simpa using hc
   have e:bW b=fD b:=by rw[bW,if_pos hc]
   rw[aR,e,if_neg hc];exact⟨rfl,rfl⟩
  have hc:fD b=0:=by simpa using hc
  have hlen:mC b=aG b 2:=by rw[mC,if_pos hc]
  rw[hlen]
  refine ae (fun h2=>?_) (fun h2=>?_)
  ·have h2:¬ aG b 2=b.length:=by simpa using h2
   have e:bW b=2:=by rw[bW,if_neg (fun k=>k hc),if_pos h2]
   rw[aR,e];exact⟨rfl,rfl⟩
  have h2:aG b 2=b.length:=by simpa using h2
  refine ae (fun h5=>?_) (fun h5=>?_)
  ·have h5:=of_decide_eq_true h5
   have e:bW b=5:=by rw[bW,if_neg (fun k=>k hc),if_neg (fun k=>k h2),if_pos h5]
   rw[aR,e];exact⟨rfl,rfl⟩
  have h5:=of_decide_eq_false h5
  have e:bW b=0:=by rw[bW,if_neg (fun k=>k hc),if_neg (fun k=>k h2),if_neg h5]
  have h20:=Bg hc
  rw[show Int.toNat 20=20 from rfl,si,aR,e,if_pos rfl,oB,if_pos hc,List.length_drop]
  exact⟨by omega,by omega,by omega,by omega,rfl,rfl⟩
theorem BH:ax Tryz.prog GL 88 NY.spec:=Ct.okH _ Tryz.func88 (by kernel_rfl) (ah (ah aD TW) py) av Ua (aC (by kernel_rfl) V2)
def G0:Ct:=⟨[.val (.sl bj)],[.own 5 bj,.val cI],fun d=>[(d.1.length:Int)<=1099511627776],fun d=>((gN d.1,fV d.1,()),())⟩
def ao0:ar G0.ps->az:=(fun _=>{})
def Gh(a:List Int) :=
 (((aR a).1.1,(aR a).1.2.1,IntKind.wrap .i64 ((aR a).1.2.2.1 -(1:Int)),(aR a).1.2.2.2),(aR a).2)
theorem Wg :
 ∀(a:List Int),(a.length<=maxLen/\ ∀(b:Int),b∈a->0<=b/\b<=255)/\True->(a.length:Int)<=1099511627776->(a.length:Int)<=1099511627776/\ad (! decide (bW a=0)) (([]:List Int)=gN a/\bW a=fV a) (ad (decide ((aR a).1.2.2.1<2)) (([]:List Int)=gN a/\(7:Int)=fV a) (((List.length (aR a).2):Int)<=1073741824/\cQ (Gh a)=gN a/\da (Gh a)=fV a)):=by
  delta Gh
  rintro b ⟨⟨-,hb⟩,-⟩ hl
  refine⟨hl,ae (fun hc=>?_) (fun hc=>?_)⟩
  ·have hc:¬ bW b=0:=by simpa using hc
   have e:fV b=bW b:=by rw[fV,if_pos hc]
   rw[gN,e,if_neg hc];exact⟨rfl,rfl⟩
  have hc:bW b=0:=by simpa using hc
  have hp:aR b=(bQ b,b.drop 20):=by rw[aR,if_pos hc]
  rw[hp]
  have h8:=Bd hb (i:=8) (by have:=Bg (Bq hc);omega)
  refine ae (fun h2=>?_) (fun h2=>?_)
  ·have h2:=of_decide_eq_true h2
   have e:fV b=7:=by rw[fV,if_neg (fun k=>k hc),if_pos h2]
   rw[gN,e];exact⟨rfl,rfl⟩
  have h2:=of_decide_eq_false h2
  have e:fV b=0:=by rw[fV,if_neg (fun k=>k hc),if_neg h2]
  have hd:=wA hc
  have h82:¬ b.getD 8 default<2:=h2
  rw[gN,e,if_pos rfl]
  have hok:=Us hb hc h2
  refine⟨by rw[List.length_drop];omega,?_⟩
  have ew:IntKind.wrap .i64 ((bQ b).2.2.1-1)=(bQ b).2.2.1-1:=ai (by show _<=b.getD 8 default-1;omega) (by show b.getD 8 default-1<=_;omega)
  rw[ew]
  refine⟨rfl,?_⟩
  rw[da,if_neg (fun k=>k hok),if_neg]
  simp only[List.length_drop];omega
theorem XV:ax Tryz.prog GL 249 G0.spec:=Ct.okH _ Tryz.func249 (by kernel_rfl) (ah (ah aD BH) H5) av ao0 (aC (by kernel_rfl) Wg)
def OB:Ct:=⟨[.agg j8],[.val cI],fun d=>[],fun d=>((js d.1,()),())⟩
def We:ar OB.ps->az:=(fun _=>{})
theorem Rc :
 ∀(a:bY),CT.wf j8 a/\True->True-> ∀(b:Bool),b=decide (a.1<0)->((! b)->((! b)->(! b))/\True)/\((! b)->((! b)->(! b))/\True)/\(b=false->(! b))/\ ∀(c:Bool),(c=bif b then true else decide (255<a.1))->((! c)->((! c)->(! c))/\True)/\((! c)->((! c)->(! c))/\True)/\(c=false->(! c))/\ ∀(d:Bool),(d=bif c then true else decide (a.2.2.1<0))->((! d)->((! d)->(! d))/\True)/\((! d)->((! d)->(! d))/\True)/\(d=false->(! d))/\ ∀(e:Bool),(e=bif d then true else decide (255<a.2.2.1))->((! e)->((! e)->(! e))/\True)/\((! e)->((! e)->(! e))/\True)/\(e=false->(! e))/\ ∀(f:Bool),(f=bif e then true else decide (a.2.2.2.1<0))->((! f)->((! f)->(! f))/\True)/\((! f)->((! f)->(! f))/\True)/\(f=false->(! f))/\ ∀(g:Bool),(g=bif f then true else decide (255<a.2.2.2.1))->((! g)->((! g)->(! g))/\True)/\((! g)->((! g)->(! g))/\True)/\(g=false->(! g))/\ ∀(h:Bool),(h=bif g then true else decide (a.2.1<0))->((! h)->((!
 h)->(! h))/\True)/\((! h)->((! h)->(! h))/\True)/\(h=false->(! h))/\ad (bif h then true else decide (65535<a.2.1)) ((1:Int)=js a) ((0:Int)=js a):=by
  rintro h - -
  (repeat (intro (b_:Bool) (hb_:b_=_);(repeat refine⟨(by first|(simp;done)|(rw[hb_];simp;done)|(rw[hb_];simp;omega)|(rw[hb_];simp;intros;omega)|(rw[hb_];simp +contextual;done)),?_⟩);subst hb_))
  refine ae (fun hc=>?_) (fun hc=>?_)
  ·rw[js,if_neg]
   intro k;obtain⟨k1,k2,k3,k4,k5⟩:=k
   unfold mW at k1 k2 k3
   simp[Bool.cond_eq_ite] at hc;omega
  ·rw[js,if_pos]
   unfold iZ mW
   simp[Bool.cond_eq_ite] at hc;omega
theorem WS:ax Tryz.prog GL 140 OB.spec:=Ct.okH _ Tryz.func140 (by kernel_rfl) aD av We (aC (by kernel_rfl) Rc)
def Pg:Ct:=⟨[.agg j8,.val cI],[.own 5 bj],fun d=>[iZ d.1,0<=d.2.1,d.2.1<=65535],fun d=>((gk d.1 d.2.1,()),())⟩
def RH:ar Pg.ps->az:=(fun _=>{})
def DK(a:bY)(b:Int)(g:List Int) :=
 (g.length:Int)<=1099511627776/\ ∀(h:List Int),h=bG g a.2.2.1 (1:Int)->(h.length:Int)<=1099511627776/\ ∀(i:List Int),i=bG h a.2.2.2.1 (1:Int)->(↑(0:Nat):Int)<=1099511627776/\ ∀(j:List Int),j=bG ([]:List Int) (IntKind.wrap .i64 a.2.2.2.2.2.1) (4:Int)->(j.length:Int)<=1099511627776/\ ∀(k:List Int),k=bG j (IntKind.wrap .i64 a.2.2.2.2.2.2) (4:Int)->i.length*(1:Nat)<=(140737488355328:Nat)/\(List.length [(0:Int),(0:Int)]+k.length)*(1:Nat)<=(140737488355328:Nat)/\(i.length+List.length ([(0:Int),(0:Int)]++k))*(1:Nat)<=(140737488355328:Nat)/\((List.length (i++([(0:Int),(0:Int)]++k))):Int)<=1099511627776/\ ∀(l:Int),l=65535 -oc (aY true (i++([(0:Int),(0:Int)]++k)))->(i.length:Int)<=1099511627776/\ ∀(m:List Int),m=bG i l (2:Int)->(m.length+k.length)*(1:Nat)<=(140737488355328:Nat)/\m++k=gk a b
theorem ao5 :
 ∀(a:bY)(b:Int),CT.wf j8 a/\ab b/\True->iZ a/\0<=b/\b<=65535->ad a.2.2.2.2.1 ((↑(0:Nat):Int)<=1099511627776/\ ∀(c:List Int),c=bG ([]:List Int) (69:Int) (1:Int)->(c.length:Int)<=1099511627776/\ ∀(d:List Int),d=bG c a.1 (1:Int)->(d.length:Int)<=1099511627776/\ ∀(e:List Int),e=bG d b (2:Int)->(e.length:Int)<=1099511627776/\ ∀(f:List Int),f=bG e a.2.1 (2:Int)->(f.length:Int)<=1099511627776/\ ∀(g:List Int),g=bG f (16384:Int) (2:Int)->(DK a b g)) ((↑(0:Nat):Int)<=1099511627776/\ ∀(c:List Int),c=bG ([]:List Int) (69:Int) (1:Int)->(c.length:Int)<=1099511627776/\ ∀(d:List Int),d=bG c a.1 (1:Int)->(d.length:Int)<=1099511627776/\ ∀(e:List Int),e=bG d b (2:Int)->(e.length:Int)<=1099511627776/\ ∀(f:List Int),f=bG e a.2.1 (2:Int)->(f.length:Int)<=1099511627776/\ ∀(g:List Int),g=bG f (0:Int) (2:Int)->(DK a b g)):=by
  delta DK
  rintro h n ⟨hw,-⟩⟨hok,n0,n1⟩
  obtain⟨-,-,-,-,-,s0,d0⟩:=hw
  have s0:0<=h.2.2.2.2.2.1/\h.2.2.2.2.2.1<=4294967295:=s0
  have d0:0<=h.2.2.2.2.2.2/\h.2.2.2.2.2.2<=4294967295:=d0
  have es:IntKind.wrap .i64 h.2.2.2.2.2.1=h.2.2.2.2.2.1:=ai (by omega) (by omega)
  have ed:IntKind.wrap .i64 h.2.2.2.2.2.2=h.2.2.2.2.2.2:=ai (by omega) (by omega)
  rw[es,ed]
  have hc:=nh (z8 (n:=n) hok)
  obtain⟨h1,h2,h3,h4,h5⟩:=hok
  have key:∀ f:Int,(f=if h.2.2.2.2.1 then 16384 else 0)->0<=f->f<=65535->((0:Nat):Int)<=1099511627776∧∀ x1,x1=bG [] 69 1->(x1.length:Int)<=1099511627776∧∀ x2,x2=bG x1 h.1 1->(x2.length:Int)<=1099511627776∧∀ x3,x3=bG x2 n 2->(x3.length:Int)<=1099511627776 ∧
    ∀ x4,x4=bG x3 h.2.1 2->(x4.length:Int)<=1099511627776∧∀ x5,x5=bG x4 f 2->(x5.length:Int)<=1099511627776∧∀ x6,x6=bG x5 h.2.2.1 1->(x6.length:Int)<=1099511627776∧∀ x7,x7=bG x6 h.2.2.2.1 1->((0:Nat):Int)<=1099511627776 ∧
    ∀ x8,x8=bG [] h.2.2.2.2.2.1 4->(x8.length:Int)<=1099511627776∧∀ x9,x9=bG x8 h.2.2.2.2.2.2 4->x7.length*1<=140737488355328/\(List.length [(0:Int),0]+x9.length)*1<=140737488355328/\(x7.length+List.length ([0,0]++x9))*1<=140737488355328 ∧
    ((x7++([0,0]++x9)).length:Int)<=1099511627776∧∀ c,c=65535-oc (aY true (x7++([0,0]++x9)))->(x7.length:Int)<=1099511627776∧∀ x11,x11=bG x7 c 2->(x11.length+x9.length)*1<=140737488355328/\x11++x9=gk h n:=by
   intro f hf f0 f1
   refine⟨by omega,?_⟩
   rintro x1 e1
   rw[p8 (by omega) (by omega)] at e1
   refine⟨by rw[e1];simp,?_⟩
   rintro x2 e2
   rw[p8 h1.1 h1.2,e1] at e2
   refine⟨by rw[e2];simp,?_⟩
   rintro x3 e3
   rw[gO n0 n1,e2] at e3
   refine⟨by rw[e3];simp[w2],?_⟩
   rintro x4 e4
   rw[gO h4 h5,e3] at e4
   refine⟨by rw[e4];simp[w2],?_⟩
   rintro x5 e5
   rw[gO f0 f1,e4] at e5
   refine⟨by rw[e5];simp[w2],?_⟩
   rintro x6 e6
   rw[p8 h2.1 h2.2,e5] at e6
   refine⟨by rw[e6];simp[w2],?_⟩
   rintro x7 e7
   rw[p8 h3.1 h3.2,e6] at e7
   have e7:x7=AI h n:=by rw[e7,hf];simp[AI]
   refine⟨by omega,?_⟩
   rintro x8 e8
   rw[rV s0.1 s0.2] at e8
   refine⟨by rw[e8];simp[w4],?_⟩
   rintro x9 e9
   rw[rV d0.1 d0.2,e8] at e9
   have e9:x9=Cw h:=e9
   have l7:x7.length=10:=by rw[e7];rfl
   have l9:x9.length=8:=by rw[e9];rfl
   have eb:x7++([0,0]++x9)=fp h n:=by rw[e7,e9];rfl
   refine⟨by omega,by simp[l9],by simp[l7,l9],by simp[l7,l9],?_⟩
   rw[eb]
   rintro c rfl
   refine⟨by omega,?_⟩
   rintro x11 e11
   rw[show 65535-oc (aY true (fp h n))=ci (fp h n) from rfl,gO hc.1 hc.2] at e11
   refine⟨by rw[e11,List.length_append,l7,l9];simp[w2],?_⟩
   rw[e11,e7,e9,List.append_assoc];rfl
  refine ae (fun hk=>?_) (fun hk=>?_)
  ·exact key 16384 (by rw[hk];rfl) (by omega) (by omega)
  ·exact key 0 (by rw[hk];rfl) (by omega) (by omega)
theorem UB:ax Tryz.prog GL 141 Pg.spec:=Ct.okH _ Tryz.func141 (by kernel_rfl) (ah (ah aD (Ct.named vL)) (Ct.named FX)) av RH (aC (by kernel_rfl) ao5)
def PB:Ct:=⟨[.agg uA],[.own 5 bj,.val cI],fun d=>[(d.1.2.length:Int)<=1073741824],fun d=>((cQ d.1,da d.1,()),())⟩
def Yz:ar PB.ps->az:=(fun _=>{})
theorem RM :
 ∀(a:(Int×Int×Int×Int×Bool×Int×Int)×List Int),CT.wf uA a/\True->(a.2.length:Int)<=1073741824->ad (! decide (js a.1=0)) (([]:List Int)=cQ a/\js a.1=da a) (ad (decide (1500<IntKind.wrap .i64 ((a.2.length:Int)+(20:Int)))) (([]:List Int)=cQ a/\(5:Int)=da a) (iZ a.1/\0<=IntKind.wrap .i64 ((a.2.length:Int)+(20:Int))/\IntKind.wrap .i64 ((a.2.length:Int)+(20:Int))<=65535/\(List.length (gk a.1 (IntKind.wrap .i64 ((a.2.length:Int)+(20:Int))))+a.2.length)*(1:Nat)<=(140737488355328:Nat)/\gk a.1 (IntKind.wrap .i64 ((a.2.length:Int)+(20:Int)))++a.2=cQ a/\(0:Int)=da a)):=by
  rintro d ⟨⟨hw,-⟩,-⟩ hl
  refine ae (fun hc=>?_) (fun hc=>?_)
  ·have hn:¬ iZ d.1:=fun k=>by rw[js,if_pos k] at hc;cases hc
   have he:da d=1:=by rw[da,if_pos hn]
   rw[cQ,he,js,if_neg hn];exact⟨rfl,rfl⟩
  have hok:iZ d.1:=Classical.byContradiction fun k=>by rw[js,if_neg k] at hc;cases hc
  have e20:IntKind.wrap .i64 ((d.2.length:Int)+20)=20+d.2.length:=by rw[ai (by omega) (by omega)];omega
  rw[e20]
  refine ae (fun h5=>?_) (fun h5=>?_)
  ·have h5:=of_decide_eq_true h5
   have he:da d=5:=by rw[da,if_neg (fun k=>k hok),if_pos (by omega)]
   rw[cQ,he];exact⟨rfl,rfl⟩
  have h5:=of_decide_eq_false h5
  have he:da d=0:=by rw[da,if_neg (fun k=>k hok),if_neg (by omega)]
  refine⟨hok,by omega,by omega,by rw[oS];omega,?_⟩
  rw[cQ,he,if_pos rfl]
  exact⟨rfl,rfl⟩
theorem Q8:ax Tryz.prog GL 77 PB.spec:=Ct.okH _ Tryz.func77 (by kernel_rfl) (ah (ah aD WS) UB) av Yz (aC (by kernel_rfl) RM)
end Go.RS

/- Probe: probes, their packets and keys. -/
namespace Go.RS
open Go.SX Go.Proofs
set_option maxRecDepth 100000
set_option linter.unusedVariables false
abbrev xi:CT := .pair cj (.pair cj (.pair cI (.pair cI (.pair cI cI))))
abbrev bN:Type:=Int×Int×Int×Int×Int×Int
def mB(n:Int):Prop:=n=1∨n=6∨n=17
instance (n:Int):Decidable (mB n):=by unfold mB;infer_instance
def iP(p:bN):Prop:=(0<=p.2.2.2.1/\p.2.2.2.1<=1023)/\(0<=p.2.2.2.2.1/\p.2.2.2.2.1<=65534)/\1<=p.2.2.2.2.2/\p.2.2.2.2.2<=255
instance (p:bN):Decidable (iP p):=by unfold iP;infer_instance
def dI(p:bN):Int:=if ¬ mB p.2.2.1 then 16 else if ¬ iP p then 1 else 0
def nu(p:bN):Int:=oc (65535-(16384+p.2.2.2.1)+ci (bI (false,21075,p.2.2.2.2.1,[0,0])))
def rP(p:bN):Int:=oc (65535-(p.2.2.2.2.1+1)+dE p.1 p.2.1 17 (dm (20000+p.2.2.2.1,33434,[0,0])))
def qx(p:bN):Int:=if rP p=0 then 65535 else rP p
def jm(p:bN):kX:=(false,21075,p.2.2.2.2.1,w2 (nu p))
def oX(p:bN):nI:=(20000+p.2.2.2.1,33434,w2 (qx p))
def kD(p:bN):jL:=(20000+p.2.2.2.1,80,p.2.2.2.2.1,0,2,1024,[])
def dB(p:bN):List Int:=if p.2.2.1=1 then dk (jm p) else if p.2.2.1=17 then jN p.1 p.2.1 (oX p) else dj p.1 p.2.1 (kD p)
def po(p:bN):bY:=(0,p.2.2.2.2.1,p.2.2.2.2.2,p.2.2.1,true,p.1,p.2.1)
def build(p:bN):List Int:=if dI p=0 then cQ (po p,dB p) else []
def Xg:mA:=(0,0,0,0,0)
def wz:bN:=(0,0,0,0,0,0)
def uN(x:oa):mA:=(x.1.2.2.2.2.2.1,x.1.2.2.2.2.2.2,x.1.2.2.2.1,if mB x.1.2.2.2.1/\4<=x.2.length then aG x.2 0 else 0,if mB x.1.2.2.2.1/\4<=x.2.length then aG x.2 2 else 0)
def fv(b:List Int):mA:=if bW b=0 then uN (aR b) else Xg
theorem lh{p:bN}:dI p=0↔mB p.2.2.1/\iP p:=by
 unfold dI
 constructor
 ·intro h
  split at h
  ·cases h
  ·split at h
   ·cases h
   ·rename_i h1 h2;exact⟨Decidable.not_not.1 h1,Decidable.not_not.1 h2⟩
 ·rintro⟨h1,h2⟩
  rw[if_neg (fun k=>k h1),if_neg (fun k=>k h2)]
theorem AL{b:List Int}{i:Nat}{c:Int}(h:i+2<=b.length)(c0:0<=c)(c1:c<=65535):aG (bJ b i c) i=c:=by
 rw[Fw (by rw[j9];exact h)]
 unfold bJ
 rw[yz (by omega),ND (by omega),ND (by rw[List.length_set];omega)]
 omega
theorem rY{b:List Int}{i j:Nat}{c:Int}(h:j+2<=b.length)(hn:j+2<=i∨i+2<=j):aG (bJ b i c) j=aG b j:=by
 rw[Fw (by rw[j9];exact h),Fw h]
 unfold bJ
 rw[yz (by omega),yz (by omega),yz (by omega),yz (by omega)]
theorem It{s d:Int}{p:Int}{X:List Int}(hx:bytes X)(hp:0<p%256):0<=dE s d p X/\dE s d p X<=65534:=by
 have h1:=(vA (a:=s) (b:=d) (p:=p) hx).1
 refine⟨h1,?_⟩
 unfold dE at h1 ⊢
 split
 ·omega
 ·unfold ci
  rw[CI]
  have h2:=JN s d p X.length
  have h3:=(vx true X hx).1
  unfold oc
  rw[if_neg (by omega)];omega
theorem KE:bytes [0,0]:=jT (by omega) (by omega) (jT (by omega) (by omega) kR)
theorem J7(t:Int):bytes (bI (false,21075,t,[0,0])):=tz KE
theorem Gn(f:Int):bytes (dm (20000+f,33434,[0,0])):=xw KE
theorem JD{p:bN}(h:iP p):1<=nu p/\nu p<=65535:=by
 have:=nh (J7 p.2.2.2.2.1)
 obtain⟨⟨h1,h2⟩,-⟩:=h
 unfold nu oc
 rw[if_neg (by omega)];omega
theorem SN{p:bN}(h:iP p):0<=rP p/\rP p<=65535:=by
 have:=It (s:=p.1) (d:=p.2.1) (p:=17) (Gn p.2.2.2.1) (by decide)
 obtain⟨-,⟨h1,h2⟩,-⟩:=h
 exact rO (by omega)
theorem KK{p:bN}(h:iP p):1<=qx p/\qx p<=65535:=by
 have:=SN h
 unfold qx;split <;> omega
theorem vF(n:Int):(w2 n).length=2:=rfl
theorem Ee{p:bN}(h:iP p):AW (w2 (nu p)) (jm p):=by
 obtain⟨-,⟨h1,h2⟩,-⟩:=h
 exact⟨⟨(gz _).2 ⟨by show (0:Int)<=21075;omega,by show (21075:Int)<=_;omega⟩,(gz _).2 ⟨h1,by show p.2.2.2.2.1<=_;omega⟩⟩,rfl⟩
theorem Ki{p:bN}(h:iP p):DW (w2 (qx p)) (oX p):=by
 obtain⟨⟨h1,h2⟩,-⟩:=h
 exact⟨⟨(gz _).2 ⟨by show (0:Int)<=20000+p.2.2.2.1;omega,by show 20000+p.2.2.2.1<=_;omega⟩,(gz _).2 ⟨by show (0:Int)<=33434;omega,by show (33434:Int)<=_;omega⟩⟩,rfl⟩
theorem Dy{p:bN}(h:iP p):AJ [] (kD p):=by
 obtain⟨⟨h1,h2⟩,⟨h3,h4⟩,-⟩:=h
 refine⟨⟨(gz _).2 ⟨?_,?_⟩,(gz _).2 ⟨?_,?_⟩,⟨?_,?_⟩,⟨?_,?_⟩,⟨?_,?_⟩,(gz _).2 ⟨?_,?_⟩⟩,rfl⟩ <;> simp only[kD] <;> omega
theorem Ox{p:bN}(h:iP p):ik (jm p)=0:=AH (Ee h) (by rw[vF];omega)
theorem KF{p:bN}(h:iP p):kS (oX p)=0:=HF (Ki h) (by rw[vF];omega)
theorem IP{p:bN}(h:iP p):i9 (kD p)=0:=Gu (Dy h) (by simp)
theorem vS{p:bN}(h:iP p)(h1:p.2.2.1=1):dB p=bJ (bI (jm p)) 2 (ci (bI (jm p))):=by
 rw[dB,if_pos h1,dk,if_pos (Ox h)]
theorem yp{p:bN}(h:iP p)(h1:p.2.2.1=17):dB p=bJ (dm (oX p)) 6 (iL p.1 p.2.1 (dm (oX p))):=by
 rw[dB,if_neg (by omega),if_pos h1,jN,if_pos (KF h)]
theorem uX{p:bN}(h:iP p)(h1:p.2.2.1=6):dB p=bJ (io (kD p)) 16 (dE p.1 p.2.1 6 (io (kD p))):=by
 rw[dB,if_neg (by omega),if_neg (by omega),dj,if_pos (IP h)]
theorem yc{p:bN}(h:dI p=0):(p.2.2.1≠6/\(dB p).length=10)∨(p.2.2.1=6/\(dB p).length=20):=by
 obtain⟨h1|h1|h1,h2⟩:=lh.1 h
 ·rw[vS h2 h1,j9];exact .inl ⟨by omega,rfl⟩
 ·rw[uX h2 h1,j9];exact .inr ⟨h1,rfl⟩
 ·rw[yp h2 h1,j9];exact .inl ⟨by omega,rfl⟩
theorem Nv{p:bN}(h:dI p=0):bytes (dB p):=by
 obtain⟨h1|h1|h1,h2⟩:=lh.1 h
 ·rw[vS h2 h1];exact pf (tz (jP _))
 ·rw[uX h2 h1];exact pf (vt (Dy h2).1 kR)
 ·rw[yp h2 h1];exact pf (xw (jP _))
theorem CE{p:bN}(h:dI p=0):iZ (po p):=by
 obtain⟨h1,⟨-,⟨h2,h3⟩,h4,h5⟩⟩:=lh.1 h
 refine⟨⟨?_,?_⟩,⟨?_,?_⟩,⟨?_,?_⟩,?_,?_⟩ <;> simp only[po] <;> unfold mB at h1 <;> omega
theorem H2{p:bN}(h:dI p=0):da (po p,dB p)=0:=by
 rw[da,if_neg (fun k=>k (CE h)),if_neg]
 rcases yc h with h|h <;> rw[h.2] <;> simp
theorem Au{p:bN}(h:dI p=0):build p=gk (po p) (20+(dB p).length)++dB p:=by
 rw[build,if_pos h,cQ,if_pos (H2 h)]
theorem DJ(p:bN):(build p).length<=40:=by
 by_cases h:dI p=0
 ·rw[Au h,List.length_append,oS]
  rcases yc h with h|h <;> omega
 ·rw[build,if_neg h];simp
theorem E8(p:bN):bytes (build p):=by
 by_cases h:dI p=0
 ·rw[Au h];exact fT (Eo (CE h)) (Nv h)
 ·rw[build,if_neg h];exact kR
def KB:Ct:=⟨[.agg xi],[.val cI],fun d=>[],fun d=>((dI d.1,()),())⟩
def ah5:ar KB.ps->az:=(fun _=>{})
theorem QX :
 ∀(a b c d e f:Int),((0<=a/\a<=4294967295)/\(0<=b/\b<=4294967295)/\ab c/\ab d/\ab e/\ab f)/\True->True-> ∀(g:Bool),g= ! decide (c=1)->(g->(g->g)/\True)/\(g->(g->g)/\True)/\(g->g)/\ ∀(h:Bool),(h=bif g then ! decide (c=17) else false)->(h->(h->h)/\True)/\(h->(h->h)/\True)/\(h->h)/\ad (bif h then ! decide (c=6) else false) ((16:Int)=dI (a,b,c,d,e,f)) (∀(i:Bool),i=decide (d<0)->((! i)->((! i)->(! i))/\True)/\((! i)->((! i)->(! i))/\True)/\(i=false->(! i))/\ ∀(j:Bool),(j=bif i then true else decide (1023<d))->((! j)->((! j)->(! j))/\True)/\((! j)->((! j)->(! j))/\True)/\(j=false->(! j))/\ ∀(k:Bool),(k=bif j then true else decide (e<0))->((! k)->((! k)->(! k))/\True)/\((! k)->((! k)->(! k))/\True)/\(k=false->(! k))/\ ∀(l:Bool),(l=bif k then true else decide (65534<e))->((! l)->((! l)->(! l))/\True)/\((! l)->((! l)->(! l))/\True)/\(l=false->(! l))/\ ∀(m:Bool),(m=bif l then true else
 decide (f<1))->((! m)->((! m)->(! m))/\True)/\((! m)->((! m)->(! m))/\True)/\(m=false->(! m))/\ad (bif m then true else decide (255<f)) ((1:Int)=dI (a,b,c,d,e,f)) ((0:Int)=dI (a,b,c,d,e,f))):=by
  rintro s d pr f t l - -
  (repeat (intro (b_:Bool) (hb_:b_=_);(repeat refine⟨(by first|(simp;done)|(rw[hb_];simp;done)|(rw[hb_];simp;omega)|(rw[hb_];simp;intros;omega)|(rw[hb_];simp +contextual;done)),?_⟩);subst hb_))
  refine ae (fun hc=>?_) (fun hc=>?_)
  ·rw[dI,if_pos]
   simp only[mB]
   intro k
   rcases k with rfl|rfl|rfl <;> simp at hc
  have hp:mB pr:=by
   unfold mB
   by_cases h1:pr=1
   ·exact .inl h1
   ·by_cases h6:pr=17
    ·exact .inr (.inr h6)
    ·simp[h1,h6] at hc;exact .inr (.inl hc)
  have key:∀(v:Int),(v=if iP (s,d,pr,f,t,l) then 0 else 1)->v=dI (s,d,pr,f,t,l):=by
   intro v hv
   rw[dI,if_neg (fun k=>k hp),hv]
   by_cases k:iP (s,d,pr,f,t,l)
   ·rw[if_pos k,if_neg (fun q=>q k)]
   ·rw[if_neg k,if_pos k]
  (repeat (intro (b_:Bool) (hb_:b_=_);(repeat refine⟨(by first|(simp;done)|(rw[hb_];simp;done)|(rw[hb_];simp;omega)|(rw[hb_];simp;intros;omega)|(rw[hb_];simp +contextual;done)),?_⟩);subst hb_))
  refine ae (fun h1=>?_) (fun h1=>?_)
  ·have hn:¬ iP (s,d,pr,f,t,l):=by
    rintro⟨⟨a,b⟩,⟨a2,b2⟩,a3,b3⟩
    simp only at a b a2 b2 a3 b3
    simp[Bool.cond_eq_ite] at h1;omega
   exact key 1 (by rw[if_neg hn])
  ·have hn:iP (s,d,pr,f,t,l):=by
    simp[Bool.cond_eq_ite] at h1
    refine⟨⟨?_,?_⟩,⟨?_,?_⟩,?_,?_⟩ <;> simp only <;> omega
   exact key 0 (by rw[if_pos hn])
theorem I6:ax Tryz.prog GL 75 KB.spec:=Ct.okH _ Tryz.func75 (by kernel_rfl) aD av ah5 (aC (by kernel_rfl) QX)
def Jo:Ct:=⟨[.val (.sl bj)],[.agg Dn,.val cI],fun d=>[(d.1.length:Int)<=1099511627776],fun d=>((fv d.1,bW d.1,()),())⟩
def Qp:ar Jo.ps->az:=(fun _=>{})
def xe(a:List Int)(b:(Int×Int×Int×Int×Bool×Int×Int)×List Int) :=
 (b.1.2.2.2.2.2.1,b.1.2.2.2.2.2.2,b.1.2.2.2.1,(0:Int),(0:Int))=fv a/\(0:Int)=bW a
def Ba(a:List Int)(b:(Int×Int×Int×Int×Bool×Int×Int)×List Int) :=
 ad (decide (4<=(b.2.length:Int))) ((b.2.length:Int)<=1099511627776/\(b.2.length:Int)<=1099511627776/\(b.1.2.2.2.2.2.1,b.1.2.2.2.2.2.2,b.1.2.2.2.1,dO b.2 (0:Int) (2:Int),dO b.2 (2:Int) (2:Int))=fv a/\(0:Int)=bW a) (xe a b)
theorem ao6 :
 ∀(a:List Int),(a.length<=maxLen/\ ∀(b:Int),b∈a->0<=b/\b<=255)/\True->(a.length:Int)<=1099511627776->(a.length:Int)<=1099511627776/\ ∀(b:(Int×Int×Int×Int×Bool×Int×Int)×List Int)(c:Int),b=aR a/\c=bW a->ad (! decide (c=0)) (((0:Int),(0:Int),(0:Int),(0:Int),(0:Int))=fv a/\c=bW a) (ad (decide (b.1.2.2.2.1=1)) (ad (decide (b.1.2.2.2.1=1)) (Ba a b) (xe a b)) (ad (decide (b.1.2.2.2.1=6)) (ad (decide (b.1.2.2.2.1=6)) (Ba a b) (xe a b)) (ad (decide (b.1.2.2.2.1=17)) (Ba a b) (xe a b)))):=by
  delta Ba xe
  rintro b ⟨⟨-,hb⟩,-⟩ hl
  refine⟨hl,?_⟩
  rintro d e ⟨rfl,rfl⟩
  refine ae (fun h=>?_) (fun h=>?_)
  ·have h:¬ bW b=0:=by simpa using h
   rw[fv,if_neg h];exact⟨rfl,rfl⟩
  have h:bW b=0:=by simpa using h
  have hdl:=wA h
  have hk:fv b=uN (aR b):=by rw[fv,if_pos h]
  rw[hk,h]
  have hpl:((aR b).2.length:Int)<=1500:=by rw[aR,if_pos h];simp only[List.length_drop];omega
  generalize aR b=x at *
  have yes:mB x.1.2.2.2.1->(4:Int)<=x.2.length->((x.2.length:Int)<=1099511627776/\(x.2.length:Int)<=1099511627776/\(x.1.2.2.2.2.2.1,x.1.2.2.2.2.2.2,x.1.2.2.2.1,dO x.2 0 2,dO x.2 2 2)=uN x/\(0:Int)=0):=by
   intro h1 h2
   refine⟨by omega,by omega,?_,rfl⟩
   rw[tH (by omega) (by omega),tH (by omega) (by omega),uN,if_pos ⟨h1,by omega⟩,if_pos ⟨h1,by omega⟩];rfl
  have no:¬ (mB x.1.2.2.2.1/\(4:Int)<=x.2.length)->((x.1.2.2.2.2.2.1,x.1.2.2.2.2.2.2,x.1.2.2.2.1,(0:Int),(0:Int))=uN x/\(0:Int)=0):=by
   intro h1
   rw[uN,if_neg (fun k=>h1 ⟨k.1,by omega⟩),if_neg (fun k=>h1 ⟨k.1,by omega⟩)];exact⟨rfl,rfl⟩
  refine ae (fun h1=>?_) (fun h1=>?_)
  ·refine ae (fun _=>?_) (fun k=>by rw[h1] at k;cases k)
   have h1:=of_decide_eq_true h1
   exact ae (fun h4=>yes (.inl h1) (of_decide_eq_true h4)) (fun h4=>no (fun k=>(of_decide_eq_false h4) k.2))
  refine ae (fun h6=>?_) (fun h6=>?_)
  ·refine ae (fun _=>?_) (fun k=>by rw[h6] at k;cases k)
   have h6:=of_decide_eq_true h6
   exact ae (fun h4=>yes (.inr (.inl h6)) (of_decide_eq_true h4)) (fun h4=>no (fun k=>(of_decide_eq_false h4) k.2))
  refine ae (fun h17=>?_) (fun h17=>?_)
  ·have h17:=of_decide_eq_true h17
   exact ae (fun h4=>yes (.inr (.inr h17)) (of_decide_eq_true h4)) (fun h4=>no (fun k=>(of_decide_eq_false h4) k.2))
  ·have h1:=of_decide_eq_false h1
   have h6:=of_decide_eq_false h6
   have h17:=of_decide_eq_false h17
   exact no (fun k=>by rcases k.1 with k|k|k <;> contradiction)
theorem QJ:ax Tryz.prog GL 278 Jo.spec:=Ct.okH _ Tryz.func278 (by kernel_rfl) (ah (ah aD (Ct.named BH)) FQ) av Qp (aC (by kernel_rfl) ao6)
def Iy:Ct:=⟨[.val cI,.val cI],[.val cI],fun d=>[0<=d.1,d.1<=65535,0<=d.2.1,d.2.1<=65535],fun d=>((if oc (65535-d.2.1+d.1)=0 then 65535 else oc (65535-d.2.1+d.1),()),())⟩
def an3:ar Iy.ps->az:=(fun _=>{})
def ER(a b:Int) :=
 if (bV (IntKind.wrap .i64 ((65535:Int) -b))&&bV a)=true then oc (IntKind.wrap .i64 ((65535:Int) -b)+a) else (0:Int)
theorem ar6 :
 ∀(a b:Int),ab a/\ab b/\True->0<=a/\a<=65535/\0<=b/\b<=65535->ad (decide ((ER a b)=0)) ((65535:Int)=if oc ((65535:Int) -b+a)=0 then (65535:Int) else oc ((65535:Int) -b+a)) ((ER a b)=if oc ((65535:Int) -b+a)=0 then (65535:Int) else oc ((65535:Int) -b+a)):=by
  delta ER
  rintro a b-⟨a0,a1,b0,b1⟩
  rw[ai (n:=65535-b) (by omega) (by omega),if_pos (by simp only[Bool.and_eq_true,gz];omega)]
  refine ae (fun h=>?_) (fun h=>?_)
  ·rw[if_pos (of_decide_eq_true h)]
  ·rw[if_neg (of_decide_eq_false h)]
theorem W3:ax Tryz.prog GL 144 Iy.spec:=Ct.okH _ Tryz.func144 (by kernel_rfl) (ah aD Li) av an3 (aC (by kernel_rfl) ar6)
def H0:Ct:=⟨[.agg xi],[.own 5 bj],fun d=>[dI d.1=0],fun d=>((dB d.1,()),())⟩
def TI:ar H0.ps->az:=(fun _=>{})
theorem Rh :
 ∀(a b c d e f:Int),((0<=a/\a<=4294967295)/\(0<=b/\b<=4294967295)/\ab c/\ab d/\ab e/\ab f)/\True->dI (a,b,c,d,e,f)=0->ad (decide (c=1)) (((List.length [(0:Int),(0:Int)]):Int)<=1073741824/\ ∀(g:List Int)(h:Int),g=dk (false,(21075:Int),e,[(0:Int),(0:Int)])/\h=ik (false,(21075:Int),e,[(0:Int),(0:Int)])->(g.length:Int)<=1099511627776/\ ∀(i:Int),i=dO g (2:Int) (2:Int)->0<=i/\i<=65535/\0<=IntKind.wrap .i64 ((16384:Int)+d)/\IntKind.wrap .i64 ((16384:Int)+d)<=65535/\ ∀(j:Int),(j=if oc ((65535:Int) -IntKind.wrap .i64 ((16384:Int)+d)+i)=0 then (65535:Int) else oc ((65535:Int) -IntKind.wrap .i64 ((16384:Int)+d)+i))->(↑(0:Nat):Int)<=1099511627776/\ ∀(k:List Int),k=bG ([]:List Int) j (2:Int)->(k.length:Int)<=1073741824/\ ∀(l:List Int)(m:Int),l=dk (false,(21075:Int),e,k)/\m=ik (false,(21075:Int),e,k)->l=dB (a,b,c,d,e,f)) (ad (decide (c=17))
 ((↑(0:Nat):Int)<=1099511627776/\ ∀(g:List Int),g=bG ([]:List Int) (IntKind.wrap .i64 ((20000:Int)+d)) (2:Int)->(g.length:Int)<=1099511627776/\ ∀(h:List Int),h=bG g (33434:Int) (2:Int)->(h.length+List.length [(0:Int),(10:Int),(0:Int),(0:Int),(0:Int),(0:Int)])*(1:Nat)<=(140737488355328:Nat)/\((List.length (h++[(0:Int),(10:Int),(0:Int),(0:Int),(0:Int),(0:Int)])):Int)<=1073741824/\ ∀(i:Int),i=dE a b (17:Int) (h++[(0:Int),(10:Int),(0:Int),(0:Int),(0:Int),(0:Int)])->0<=i/\i<=65535/\0<=IntKind.wrap .i64 (e+(1:Int))/\IntKind.wrap .i64 (e+(1:Int))<=65535/\ ∀(j:Int),(j=if oc ((65535:Int) -IntKind.wrap .i64 (e+(1:Int))+i)=0 then (65535:Int) else oc ((65535:Int) -IntKind.wrap .i64 (e+(1:Int))+i))->(↑(0:Nat):Int)<=1099511627776/\ ∀(k:List Int),k=bG ([]:List Int) j (2:Int)->(k.length:Int)<=1073741824/\jN a b (IntKind.wrap .i64 ((20000:Int)+d),(33434:Int),k)=dB (a,b,c,d,e,f))
 ((↑(0:Nat):Int)<=1000000/\dj a b (IntKind.wrap .i64 ((20000:Int)+d),(80:Int),e,(0:Int),(2:Int),(1024:Int),([]:List Int))=dB (a,b,c,d,e,f))):=by
  rintro s d pr f t l-he
  obtain⟨hp,hr⟩:=lh.1 he
  have hr':=hr
  obtain⟨⟨f0,f1⟩,⟨t0,t1⟩,l0,l1⟩:=hr'
  simp only at f0 f1 t0 t1 l0 l1
  rw[ai (n:=16384+f) (by omega) (by omega),ai (n:=20000+f) (by omega) (by omega),ai (n:=t+1) (by omega) (by omega)]
  refine ae (fun h1=>?_) (fun h1=>ae (fun h17=>?_) (fun h17=>?_))
  ·have h1:=of_decide_eq_true h1
   have e0:ik (false,21075,t,[0,0])=0:=AH (data:=[0,0]) ⟨⟨(gz _).2 ⟨by show (0:Int)<=21075;omega,by show (21075:Int)<=_;omega⟩,(gz _).2 ⟨t0,by show t<=_;omega⟩⟩,rfl⟩ (by simp)
   have hc:=nh (J7 t)
   refine⟨by simp,?_⟩
   rintro b _ ⟨rfl,-⟩
   rw[dk,if_pos e0]
   have hl:(bJ (bI (false,21075,t,[0,0])) 2 (ci (bI (false,21075,t,[0,0])))).length=10:=by rw[j9];rfl
   refine⟨by omega,?_⟩
   rw[tH (by omega) (by omega),show Int.toNat 2=2 from rfl,AL (by show 2+2<=10;omega) hc.1 hc.2]
   rintro _ rfl
   refine⟨hc.1,hc.2,by omega,by omega,?_⟩
   have hi:=JD hr
   have ei:oc (65535-(16384+f)+ci (bI (false,21075,t,[0,0])))=nu (s,d,pr,f,t,l):=rfl
   rw[ei,if_neg (by omega)]
   rintro _ rfl
   refine⟨by omega,?_⟩
   rw[gO (by omega) (by omega)]
   rintro _ rfl
   refine⟨by simp[w2],?_⟩
   rintro _ _ ⟨rfl,-⟩
   rw[dB,if_pos h1];rfl
  ·have h17:=of_decide_eq_true h17
   refine⟨by omega,?_⟩
   rw[gO (by omega) (by omega)]
   rintro _ rfl
   refine⟨by simp[w2],?_⟩
   rw[gO (by omega) (by omega)]
   rintro _ rfl
   have eb:[]++w2 (20000+f)++w2 33434++[0,10,0,0,0,0]=dm (20000+f,33434,[0,0]):=by simp[dm,w2]
   rw[eb]
   refine⟨by simp[w2],by show ((10:Nat):Int)<=_;omega,?_⟩
   have hq:=It (s:=s) (d:=d) (p:=17) (Gn f) (by decide)
   rintro _ rfl
   refine⟨hq.1,by omega,by omega,by omega,?_⟩
   have hu:=KK hr
   have eu:(if oc (65535-(t+1)+dE s d 17 (dm (20000+f,33434,[0,0])))=0 then 65535 else oc (65535-(t+1)+dE s d 17 (dm (20000+f,33434,[0,0]))))=qx (s,d,pr,f,t,l):=rfl
   rw[eu]
   rintro _ rfl
   refine⟨by omega,?_⟩
   rw[gO (by omega) (by omega)]
   rintro _ rfl
   refine⟨by simp[w2],?_⟩
   rw[dB,if_neg (by simp only;omega),if_pos h17];rfl
  ·have h1:=of_decide_eq_false h1
   have h17:=of_decide_eq_false h17
   rw[dB,if_neg h1,if_neg h17]
   exact⟨by omega,rfl⟩
theorem Td:ax Tryz.prog GL 78 H0.spec:=Ct.okH _ Tryz.func78 (by kernel_rfl) (ah (ah (ah (ah (ah (ah (ah aD (Ct.named ZD)) (Ct.named Qx)) (Ct.named W3)) (Ct.named vL)) (Ct.named Ga)) Un) ZG) av TI (aC (by kernel_rfl) Rh)
end Go.RS

/- Pback: probes read back from their packets. -/
namespace Go.RS
open Go.SX Go.Proofs
set_option maxRecDepth 100000
set_option linter.unusedVariables false
def u32(n:Int):Prop:=0<=n/\n<=4294967295
theorem Wl(h:bY)(n:Int)(X:List Int):gk h n++X=69::h.1::n/256%256::n%256::h.2.1/256%256::h.2.1%256::(if h.2.2.2.2.1 then (16384:Int) else 0)/256%256::(if h.2.2.2.2.1 then (16384:Int) else 0)%256::h.2.2.1::h.2.2.2.1 ::
  ci (fp h n)/256%256::ci (fp h n)%256::h.2.2.2.2.2.1/16777216%256::h.2.2.2.2.2.1/65536%256::h.2.2.2.2.2.1/256%256::h.2.2.2.2.2.1%256::h.2.2.2.2.2.2/16777216%256::h.2.2.2.2.2.2/65536%256::h.2.2.2.2.2.2/256%256::h.2.2.2.2.2.2%256::X:=rfl
theorem BW{n:Int}(h:u32 n):((n/16777216%256*256+n/65536%256)*256+n/256%256)*256+n%256=n:=by
 obtain⟨h0,h1⟩:=h;omega
theorem GG{h:bY}{X:List Int}(hk:iZ h)(hs:u32 h.2.2.2.2.2.1)(hd:u32 h.2.2.2.2.2.2)(hl:(X.length:Int)<=1480)(hX:bytes X) :
  bQ (gk h (20+X.length)++X)=h/\bW (gk h (20+X.length)++X)=0/\(gk h (20+X.length)++X).drop 20=X:=by
 have hbb:bytes (gk h (20+X.length)++X):=fT (Eo hk) hX
 have hlen:(gk h (20+X.length)++X).length=20+X.length:=by rw[List.length_append,oS]
 have hc:=nh (z8 (n:=20+X.length) hk)
 obtain⟨tos,id,ttl,pr,kp,s,d⟩:=h
 obtain⟨h1,h2,h3,h4,h5⟩:=hk
 simp only at h1 h2 h3 h4 h5 hs hd
 have E:=Wl (tos,id,ttl,pr,kp,s,d) (20+X.length) X
 simp only at E
 have w2e:aG (gk (tos,id,ttl,pr,kp,s,d) (20+X.length)++X) 2=20+X.length:=by
  rw[E];show aG (_::_::_) 0=_;rw[fG];exact jG (by omega) (by omega)
 have w4e:aG (gk (tos,id,ttl,pr,kp,s,d) (20+X.length)++X) 4=id:=by
  rw[E];show aG (_::_::_) 0=_;rw[fG];exact jG h4 h5
 have w6e:aG (gk (tos,id,ttl,pr,kp,s,d) (20+X.length)++X) 6=if kp then 16384 else 0:=by
  rw[E];show aG (_::_::_) 0=_;rw[fG];cases kp <;> rfl
 have w10e:aG (gk (tos,id,ttl,pr,kp,s,d) (20+X.length)++X) 10=ci (fp (tos,id,ttl,pr,kp,s,d) (20+X.length)):=by
  rw[E];show aG (_::_::_) 0=_;rw[fG];exact jG hc.1 hc.2
 have hF:bQ (gk (tos,id,ttl,pr,kp,s,d) (20+X.length)++X)=(tos,id,ttl,pr,kp,s,d):=by
  unfold bQ
  rw[w4e,w6e,E]
  have e1:decide ((if kp=true then (16384:Int) else 0)=16384)=kp:=by cases kp <;> rfl
  rw[e1]
  have e2:=BW hs
  have e3:=BW hd
  show (tos,id,ttl,pr,kp,dH [_,_,_,_],dH [_,_,_,_])=_
  rw[xA,xA,e2,e3]
 refine⟨hF,?_,?_⟩
 ·have hb:=Si hbb (by omega) (by rw[E];rfl) (by rw[w6e];cases kp <;> simp)
  rw[hF,w2e,w10e] at hb
  have ht:(gk (tos,id,ttl,pr,kp,s,d) (20+X.length)++X).take 20=gk (tos,id,ttl,pr,kp,s,d) (20+X.length):=by
   rw[List.take_append_of_le_length (by rw[oS];omega),List.take_of_length_le (by rw[oS];omega)]
  have hp:fD (gk (tos,id,ttl,pr,kp,s,d) (20+X.length)++X)=0:=by
   rw[fD,if_neg (by omega),if_neg,if_neg]
   ·rw[Decidable.not_not,w10e,← hb.1]
   ·rw[Decidable.not_not]
    refine⟨by rw[E];rfl,by rw[w6e];cases kp <;> simp,by rw[w2e];omega⟩
  rw[bW,if_neg (fun k=>k hp),if_neg (by rw[w2e,hlen];omega),if_neg (by rw[w2e];omega)]
 ·rw[List.drop_append,oS,List.drop_of_length_le (by rw[oS];omega)];simp
theorem HK{p:bN}(h:dI p=0)(hs:u32 p.1)(hd:u32 p.2.1):bQ (build p)=po p/\bW (build p)=0/\(build p).drop 20=dB p:=by
 rw[Au h]
 refine GG (CE h) hs hd ?_ (Nv h)
 rcases yc h with h|h <;> omega
theorem WZ(t n:Int):aY true (bI (false,21075,t,w2 n))=aY true (bI (false,21075,t,[0,0]))+(n/256%256*256+n%256):=by
 simp[bI,w2,aY];omega
theorem Yl(f n:Int):aY true (dm (20000+f,33434,w2 n))=aY true (dm (20000+f,33434,[0,0]))+(n/256%256*256+n%256):=by
 simp[dm,w2,aY];omega
theorem Y6(t:Int):2048<=aY true (bI (false,21075,t,[0,0])):=by
 simp[bI,w2,aY];omega
theorem Je{p:bN}(h:iP p):ci (bI (jm p))=16384+p.2.2.2.1:=by
 have hn:=JD h
 obtain⟨⟨f0,f1⟩,-⟩:=h
 have e:nu p=oc (65535-(16384+p.2.2.2.1)+ci (bI (false,21075,p.2.2.2.2.1,[0,0]))):=rfl
 have hp:=Y6 p.2.2.2.2.1
 unfold jm ci
 rw[WZ,jG (by omega) hn.2,e]
 unfold ci
 generalize aY true (bI (false,21075,p.2.2.2.2.1,[0,0]))=S at hp ⊢
 unfold oc
 rw[if_neg (by omega:¬ S=0)]
 rw[if_neg (by omega),if_neg (by omega)]
 omega
theorem RW{p:bN}(h:iP p):iL p.1 p.2.1 (dm (oX p))=p.2.2.2.2.1+1:=by
 have hn:=KK h
 obtain⟨-,⟨t0,t1⟩,-⟩:=h
 have l0:(dm (20000+p.2.2.2.1,33434,[0,0])).length=10:=rfl
 have l1:(dm (oX p)).length=10:=rfl
 have eX:rP p=oc (65535-(p.2.2.2.2.1+1)+dE p.1 p.2.1 17 (dm (20000+p.2.2.2.1,33434,[0,0]))):=rfl
 have eN:qx p=if rP p=0 then 65535 else rP p:=rfl
 have hp:=JN p.1 p.2.1 17 10
 have h2:=(vx true (dm (20000+p.2.2.2.1,33434,[0,0])) (Gn _)).1
 have eP:dE p.1 p.2.1 17 (dm (20000+p.2.2.2.1,33434,[0,0]))=65535-oc (aY true (pb p.1 p.2.1 17 10)+aY true (dm (20000+p.2.2.2.1,33434,[0,0]))):=by
  rw[dE,if_neg (by rw[l0];omega),ci,CI,l0];rfl
 have eQ:dE p.1 p.2.1 17 (dm (oX p))=65535-oc (aY true (pb p.1 p.2.1 17 10)+(aY true (dm (20000+p.2.2.2.1,33434,[0,0]))+qx p)):=by
  rw[dE,if_neg (by rw[l1];omega),ci,CI,l1]
  unfold oX
  rw[Yl,jG (by omega) hn.2];rfl
 rw[iL,eQ]
 rw[eP] at eX
 generalize aY true (pb p.1 p.2.1 17 10)=H at *
 generalize aY true (dm (20000+p.2.2.2.1,33434,[0,0]))=S at *
 generalize qx p=N at *
 generalize rP p=X at *
 generalize p.2.2.2.2.1=t at *
 have hH:(17:Int)%256=17:=rfl
 rw[hH] at hp
 clear eP eQ l0 l1 hH
 have hN:(N-(65535-(t+1)+(65535-(H+S))))%65535=0:=by
  unfold oc at eX
  rw[if_neg (by omega:¬ H+S=0)] at eX
  split at eX <;> split at eN <;> omega
 unfold oc
 rw[if_neg (by omega:¬ H+(S+N)=0)]
 split <;> omega
def uy(p:bN):Int:=if p.2.2.1=1 then 2048 else 20000+p.2.2.2.1
def tR(p:bN):Int:=if p.2.2.1=1 then 16384+p.2.2.2.1 else if p.2.2.1=17 then 33434 else 80
theorem Sn{p:bN}(h:dI p=0):aG (dB p) 0=uy p/\aG (dB p) 2=tR p:=by
 obtain⟨h1|h1|h1,h2⟩:=lh.1 h
 ·have hs:=Je h2
  have hf:=h2.1
  rw[vS h2 h1,uy,tR,if_pos h1,if_pos h1,rY (by show 0+2<=10;omega) (by omega),AL (by show 2+2<=10;omega) (by omega) (by omega),hs]
  exact⟨rfl,rfl⟩
 ·have hf:=h2.1
  rw[uX h2 h1,uy,tR,if_neg (by omega),if_neg (by omega),if_neg (by omega),rY (by show 0+2<=20;omega) (by omega),rY (by show 2+2<=20;omega) (by omega)]
  constructor
  ·show aG (_::_::_) 0=_;rw[fG];exact jG (n:=20000+p.2.2.2.1) (by omega) (by omega)
  ·rfl
 ·have hf:=h2.1
  rw[yp h2 h1,uy,tR,if_neg (by omega),if_neg (by omega),if_pos h1,rY (by show 0+2<=10;omega) (by omega),rY (by show 2+2<=10;omega) (by omega)]
  constructor
  ·show aG (_::_::_) 0=_;rw[fG];exact jG (n:=20000+p.2.2.2.1) (by omega) (by omega)
  ·rfl
def GW:Cn:=⟨[.box 109 f8],[.agg xi],fun d=>[ay d.1],fun d y=>ay y.2.1/\u32 y.1.1.1/\u32 y.1.1.2.1,fun d h=>⟨((wz,()),(d.1,())),h.1,by simp[u32,wz],by simp[u32,wz]⟩⟩
def Yg:ar GW.ps->az:=(fun _=>{})
theorem Z5 :
 ∀(a:List Int)(b:Int),((a.length<=maxLen/\ ∀(c:Int),c∈a->0<=c/\c<=255)/\ab b)/\True->0<=b/\b<=(a.length:Int)->ay (a,b)/\ ∀(c:Int)(d:List Int)(e:Int),ay (d,e)/\0<=c/\c<=4294967295->ay (d,e)/\ ∀(f:Int)(g:List Int)(h:Int),ay (g,h)/\0<=f/\f<=4294967295->ay (g,h)/\ ∀(i:Int)(j:List Int)(k:Int),ay (j,k)/\(i=17∨i=1∨i=6)->ay (j,k)/\ ∀(l:Int)(m:List Int)(n:Int),0<=l/\(l<6∨l=0)/\ay (m,n)->ay (m,n)/\ ∀(o:Int)(p:List Int)(q:Int),0<=o/\(o<2000∨o=0)/\ay (p,q)->ay (p,q)/\ ∀(r:Int)(s:List Int)(t:Int),0<=r/\(r<6∨r=0)/\ay (s,t)->ay (s,t)/\ ∀(u:Int)(v:List Int)(w:Int),0<=u/\(u<12∨u=0)/\ay (v,w)->ad (decide (u=8)) (ay (v,w)/\u32 c/\u32 f) (ad (decide (u=9)) (ay (v,w)/\ ∀(x:Int)(y:List Int)(z:Int),ay (y,z)/\ab x->ay (y,z)/\ ∀(A:Int)(B:List Int)(C:Int),ay (B,C)/\ab A->ay (B,C)/\u32 c/\u32 f) (ad (decide (u=10)) (ay (v,w)/\ ∀(x:Int)(y:List Int)(z:Int),ay (y,z)/\ab
 x->ay (y,z)/\u32 c/\u32 f) (ad (decide (u=11)) (ay (v,w)/\ ∀(x:Int)(y:List Int)(z:Int),ay (y,z)/\ab x->ay (y,z)/\u32 c/\u32 f) (ay (v,w)/\u32 c/\u32 f)))):=by
  rintro l p-h
  refine⟨h,?_⟩
  rintro s _ _ ⟨hc,s0,s1⟩
  refine⟨hc,?_⟩
  rintro d _ _ ⟨hc,d0,d1⟩
  refine⟨hc,?_⟩
  rintro _ _ _ ⟨hc,-⟩
  refine⟨hc,?_⟩
  rintro _ _ _ ⟨-,-,hc⟩
  refine⟨hc,?_⟩
  rintro _ _ _ ⟨-,-,hc⟩
  refine⟨hc,?_⟩
  rintro _ _ _ ⟨-,-,hc⟩
  refine⟨hc,?_⟩
  rintro _ _ _ ⟨-,-,hc⟩
  have fin:∀ q,ay q->ay q/\u32 s/\u32 d:=fun q hq=>⟨hq,⟨s0,s1⟩,d0,d1⟩
  refine ae (fun _=>fin _ hc) (fun _=>ae (fun _=>⟨hc,?_⟩) (fun _=>ae (fun _=>⟨hc,?_⟩) (fun _=>ae (fun _=>⟨hc,?_⟩) (fun _=>fin _ hc))))
  ·rintro _ _ _ ⟨hc,-⟩
   refine⟨hc,?_⟩
   rintro _ _ _ ⟨hc,-⟩
   exact fin _ hc
  ·rintro _ _ _ ⟨hc,-⟩
   exact fin _ hc
  ·rintro _ _ _ ⟨hc,-⟩
   exact fin _ hc
theorem aj0:ax Tryz.prog GL 74 GW.spec:=Cn.okH _ Tryz.func74 (by kernel_rfl) (ah (ah (ah (ah aD Hs) If) pQ) RG) av Yg (aC (by kernel_rfl) Z5)
def LW:Cn:=⟨[.box 109 f8],[.agg xi],fun d=>[ay d.1],fun d y=>ay y.2.1/\u32 y.1.1.1/\u32 y.1.1.2.1/\dI y.1.1=0,fun d h=>⟨(((0,0,1,0,0,1),()),(d.1,())),h.1,by simp[u32],by simp[u32],rfl⟩⟩
def ai0:ar LW.ps->az:=(fun _=>{})
theorem VT :
 ∀(a:List Int)(b:Int),((a.length<=maxLen/\ ∀(c:Int),c∈a->0<=c/\c<=255)/\ab b)/\True->0<=b/\b<=(a.length:Int)->ay (a,b)/\ ∀(c d e f g h:Int)(i:List Int)(j:Int),ay (i,j)/\u32 c/\u32 d->ad (! decide (dI (c,d,e,f,g,h)=0)) (ay (i,j)/\ ∀(k:Int)(l:List Int)(m:Int),ay (l,m)/\(k=17∨k=1∨k=6)->ay (l,m)/\ ∀(n:Int)(o:List Int)(p:Int),0<=n/\(n<4∨n=0)/\ay (o,p)->ay (o,p)/\ ∀(q:Int)(r:List Int)(s:Int),0<=q/\(q<100∨q=0)/\ay (r,s)->ay (r,s)/\ ∀(t:Int)(u:List Int)(v:Int),0<=t/\(t<5∨t=0)/\ay (u,v)->ay (u,v)/\u32 c/\u32 d/\dI (c,d,k,n,q,IntKind.wrap .i64 ((1:Int)+t))=0) (ay (i,j)/\u32 c/\u32 d/\dI (c,d,e,f,g,h)=0):=by
  rintro l p-h
  refine⟨h,?_⟩
  rintro s d pr f t l _ _ ⟨hc,hs,hd⟩
  refine ae (fun _=>⟨hc,?_⟩) (fun hn=>⟨hc,hs,hd,by simpa using hn⟩)
  rintro pr _ _ ⟨hc,hp⟩
  refine⟨hc,?_⟩
  rintro f _ _ ⟨f0,f1,hc⟩
  refine⟨hc,?_⟩
  rintro t _ _ ⟨t0,t1,hc⟩
  refine⟨hc,?_⟩
  rintro l _ _ ⟨l0,l1,hc⟩
  rw[ai (n:=1+l) (by omega) (by omega)]
  refine⟨hc,hs,hd,lh.2 ⟨?_,⟨?_,?_⟩,⟨?_,?_⟩,?_,?_⟩⟩ <;> simp only[mB] <;> omega
theorem P8:ax Tryz.prog GL 31 LW.spec:=Cn.okH _ Tryz.func31 (by kernel_rfl) (ah (ah (ah (ah aD aj0) I6) If) pQ) av ai0 (aC (by kernel_rfl) VT)
end Go.RS

/- Addr: prefixes, and functions of Go's library over numbers. -/
namespace Go.RS
open Go.SX Go.Proofs
set_option maxRecDepth 100000
set_option linter.unusedVariables false
abbrev kr:CT := .pair cj cI
def eT(a b:Int):Int:=if a<b then -1 else if b<a then 1 else 0
abbrev cO:Type:=Int×Int
def fj(p q:cO):Int:=if eT p.1 q.1≠0 then eT p.1 q.1 else eT p.2 q.2
def jZ:List Int->Int
 | []=>0
 | x::xs=>if x≠0 then x else jZ xs
theorem Sp{l:List Int}{j:Int}(h0:0<=j)(h1:j<l.length):l.drop j.toNat=l.getD j.toNat default::l.drop (j+1).toNat:=by
 have hj:j.toNat<l.length:=by omega
 rw[List.drop_eq_getElem_cons hj,List.getD_eq_getElem?_getD,List.getElem?_eq_getElem hj,Option.getD_some]
 congr 2;omega
theorem KC{α:Type} [Inhabited α] {l:List α} {j:Int} (h0:0<=j) (h1:j<l.length) {y:α} (hy:y∈l.take (j+1).toNat):y∈l.take j.toNat∨y=l.getD j.toNat default:=by
 have hj:j.toNat<l.length:=by omega
 have e:(j+1).toNat=j.toNat+1:=by omega
 rw[e,List.take_succ_eq_append_getElem hj] at hy
 rcases List.mem_append.1 hy with hy|hy
 ·exact .inl hy
 ·right
  simp at hy
  rw[List.getD_eq_getElem?_getD,List.getElem?_eq_getElem hj,Option.getD_some];exact hy
theorem X0{l:List Int}{v j:Int}(h0:0<=j)(h1:j<l.length)(hv:l.getD j.toNat default=v)(h2:∀ y∈l.take j.toNat,y≠v):l.idxOf v=j.toNat:=by
 have hj:j.toNat<l.length:=by omega
 rw[List.getD_eq_getElem?_getD,List.getElem?_eq_getElem hj,Option.getD_some] at hv
 have e:l=l.take j.toNat++l[j.toNat]::l.drop (j.toNat+1):=by
  rw[← List.drop_eq_getElem_cons hj,List.take_append_drop]
 rw[e,List.idxOf_append,if_neg (fun hm=>h2 v hm rfl),hv,List.idxOf_cons_self]
 simp;omega
def Hg:Ct:=⟨[.val cI],[.val .bool],fun _=>[],fun _=>((false,()),())⟩
def R5:ar Hg.ps->az:=(fun _=>{})
theorem Tz :
 ∀(a:Int),ab a/\True->True->(! decide (a=a))=false:=by
  rintro x - -
  simp
theorem Sd:ax Tryz.prog GL 170 Hg.spec:=Ct.okH _ Tryz.func170 (by kernel_rfl) aD av R5 (aC (by kernel_rfl) Tz)
def J1:Ct:=⟨[.val cj],[.val .bool],fun _=>[],fun _=>((false,()),())⟩
def Qb:ar J1.ps->az:=(fun _=>{})
theorem XK :
 ∀(a:Int),(0<=a/\a<=4294967295)/\True->True->(! decide (a=a))=false:=by
  rintro x - -
  simp
theorem VU:ax Tryz.prog GL 260 J1.spec:=Ct.okH _ Tryz.func260 (by kernel_rfl) aD av Qb (aC (by kernel_rfl) XK)
def Pi:Ct:=⟨[.val cI,.val cI],[.val cI],fun _=>[],fun d=>((eT d.1 d.2.1,()),())⟩
def U0:ar Pi.ps->az:=(fun _=>{})
def wu(a b:Int) :=
 ad (decide (a<b)) ((-1:Int)=eT a b) (ad (decide (b<a)) ((1:Int)=eT a b) ((0:Int)=eT a b))
theorem Te :
 ∀(a b:Int),ab a/\ab b/\True->True->(wu a b):=by
  delta wu
  rintro x y - -
  unfold eT
  refine ae (fun h=>?_) (fun h=>ae (fun h2=>?_) (fun h2=>?_))
  ·rw[if_pos (of_decide_eq_true h)]
  ·rw[if_neg (of_decide_eq_false h),if_pos (of_decide_eq_true h2)]
  ·rw[if_neg (of_decide_eq_false h),if_neg (of_decide_eq_false h2)]
theorem Ih:ax Tryz.prog GL 107 Pi.spec:=Ct.okH _ Tryz.func107 (by kernel_rfl) (ah aD Sd) av U0 (aC (by kernel_rfl) Te)
def Ho:Ct:=⟨[.val cj,.val cj],[.val cI],fun _=>[],fun d=>((eT d.1 d.2.1,()),())⟩
def YX:ar Ho.ps->az:=(fun _=>{})
theorem UI :
 ∀(a b:Int),(0<=a/\a<=4294967295)/\(0<=b/\b<=4294967295)/\True->True->(wu a b):=by
  delta wu
  rintro x y - -
  unfold eT
  refine ae (fun h=>?_) (fun h=>ae (fun h2=>?_) (fun h2=>?_))
  ·rw[if_pos (of_decide_eq_true h)]
  ·rw[if_neg (of_decide_eq_false h),if_pos (of_decide_eq_true h2)]
  ·rw[if_neg (of_decide_eq_false h),if_neg (of_decide_eq_false h2)]
theorem SM:ax Tryz.prog GL 238 Ho.spec:=Ct.okH _ Tryz.func238 (by kernel_rfl) (ah aD VU) av YX (aC (by kernel_rfl) UI)
def Kd:Ct:=⟨[.val (.sl cI)],[.val cI],fun _=>[],fun d=>((jZ d.1,()),())⟩
def Qk:ar Kd.ps->az:=(fun d=>{loops:=(fun n=>match n with|3=>some (fun S=>{ι:=Int,μ:=fun i=>(d.1.length-i).toNat,inv:=fun i=>0<=i/\i<=d.1.length/\jZ d.1=jZ (d.1.drop i.toNat),keep:=[3,6,7],slots:=fun i=>[(8,.int .i64 i)],names:=fun i=>[]})|_=>none)})
def gU(a:List Int) :=
 (a.length:Int)
theorem UR :
 ∀(a:List Int),(a.length<=maxLen/\ ∀(b:Int),b∈a->ab b)/\True->True->(∃(b:Int),(0<=b/\b<=(gU a)/\jZ a=jZ (List.drop b.toNat a))/\(0:Int)=0/\a=a/\(gU a)=(gU a)/\(0:Int)=b/\True)/\ ∀(b:Int),0<=b/\b<=(gU a)/\jZ a=jZ (List.drop b.toNat a)->ad (decide (b<(gU a))) (0<=b/\b<(gU a)/\ad (! decide (a.getD b.toNat default=0)) (a.getD b.toNat default=jZ a) (∃(c:Int),(0<=c/\c<=(gU a)/\jZ a=jZ (List.drop c.toNat a))/\Int.toNat ((gU a) -c)<Int.toNat ((gU a) -b)/\(0:Int)=0/\a=a/\(gU a)=(gU a)/\IntKind.wrap .i64 (b+(1:Int))=c/\True)) ((0:Int)=jZ a):=by
  delta gU
  rintro x ⟨⟨hl,-⟩,-⟩ -
  simp only[maxLen] at hl
  refine⟨⟨0,⟨by omega,by omega,rfl⟩,(by repeat' first|exact trivial|refine⟨trivial,?_⟩|refine⟨(by with_reducible rfl),?_⟩|refine⟨ai (by omega) (by omega),?_⟩|refine⟨rfl,?_⟩)⟩,?_⟩
  rintro j ⟨h0,h1,h2⟩
  refine ae (fun hj=>?_) (fun hj=>?_)
  ·have hj:=of_decide_eq_true hj
   have e:=Sp (l:=x) h0 hj
   rw[e] at h2
   refine⟨h0,hj,ae (fun hz=>?_) (fun hz=>?_)⟩
   ·have hz:x.getD j.toNat default≠0:=by simpa only[Bool.not_eq_true',decide_eq_false_iff_not] using hz
    rw[h2,jZ,if_pos hz]
   ·have hz:¬ x.getD j.toNat default≠0:=by simpa only[Bool.not_eq_false',decide_eq_true_eq,ne_eq,Decidable.not_not] using hz
    rw[jZ,if_neg hz] at h2
    exact⟨j+1,⟨by omega,by omega,h2⟩,by omega,(by repeat' first|exact trivial|refine⟨trivial,?_⟩|refine⟨(by with_reducible rfl),?_⟩|refine⟨ai (by omega) (by omega),?_⟩|refine⟨rfl,?_⟩)⟩
  ·have hj:=of_decide_eq_false hj
   rw[h2,List.drop_eq_nil_of_le (by omega)];rfl
theorem Lc:ax Tryz.prog GL 106 Kd.spec:=Ct.okH _ Tryz.func106 (by kernel_rfl) aD av Qk (aC (by kernel_rfl) UR)
def Kt:Ct:=⟨[.agg kr,.agg kr],[.val cI],fun _=>[],fun d=>((fj d.1 d.2.1,()),())⟩
def Qy:ar Kt.ps->az:=(fun _=>{})
theorem X2 :
 ∀(a b c d:Int),((0<=a/\a<=4294967295)/\ab b)/\((0<=c/\c<=4294967295)/\ab d)/\True->True->jZ [eT a c,eT b d]=fj (a,b) (c,d):=by
  rintro x y z u - -
  simp only[jZ,fj]
  split
  ·rfl
  ·split
   ·rfl
   ·rename_i h;simp at h;exact h.symm
theorem Ok:ax Tryz.prog GL 203 Kt.spec:=Ct.okH _ Tryz.func203 (by kernel_rfl) (ah (ah (ah aD SM) Ih) Lc) av Qy (aC (by kernel_rfl) X2)
def Pe:Ct:=⟨[.val cI,.val cI],[.val cI],fun _=>[],fun d=>((eT d.1 d.2.1,()),())⟩
def Uv:ar Pe.ps->az:=(fun _=>{})
theorem ZB :
 ∀(a b:Int),ab a/\ab b/\True->True->(wu a b):=by
  delta wu
  rintro x y - -
  unfold eT
  refine ae (fun h=>?_) (fun h=>ae (fun h2=>?_) (fun h2=>?_))
  ·rw[if_pos (of_decide_eq_true h)]
  ·rw[if_neg (of_decide_eq_false h),if_pos (of_decide_eq_true h2)]
  ·rw[if_neg (of_decide_eq_false h),if_neg (of_decide_eq_false h2)]
theorem XX:ax Tryz.prog GL 224 Pe.spec:=Ct.okH _ Tryz.func224 (by kernel_rfl) aD av Uv (aC (by kernel_rfl) ZB)
def MH:Ct:=⟨[.agg kr,.agg kr],[.val cI],fun _=>[],fun d=>((fj d.1 d.2.1,()),())⟩
def aj1:ar MH.ps->az:=(fun _=>{})
theorem Qi :
 ∀(a b c d:Int),((0<=a/\a<=4294967295)/\ab b)/\((0<=c/\c<=4294967295)/\ab d)/\True->True->ad (! decide (a=c)) (eT (IntKind.wrap .i64 a) (IntKind.wrap .i64 c)=fj (a,b) (c,d)) (eT b d=fj (a,b) (c,d)):=by
  rintro x y z u ⟨⟨⟨h0,h1⟩,-⟩,⟨⟨h2,h3⟩,-⟩,-⟩ -
  unfold fj
  refine ae (fun h=>?_) (fun h=>?_)
  ·simp at h
   rw[ai (by omega) (by omega),ai (by omega) (by omega),if_pos (by simp only[eT];split <;> first|omega|(split <;> omega))]
  ·simp at h
   subst h
   rw[if_neg (by simp[eT])]
theorem VX:ax Tryz.prog GL 182 MH.spec:=Ct.okH _ Tryz.func182 (by kernel_rfl) (ah aD XX) av aj1 (aC (by kernel_rfl) Qi)
def sz(n:Int):Int:=2^(32-n).toNat
def iU(p:cO):Bool:=decide (0<=p.2/\p.2<=32/\p.1%sz p.2=0)
def cU(p:cO)(a:Int):Bool:=iU p&&decide (p.1<=a/\a<p.1+sz p.2)
theorem YG(n:Int):sz n=((2^(32-n).toNat:Nat):Int):=by unfold sz;rw[Int.natCast_pow];rfl
theorem En{n:Int}(h0:0<=n)(h1:n<=32):∃ k:Nat,k<=32/\n=32-k/\sz n=((2^k:Nat):Int):=⟨(32-n).toNat,by omega,by omega,YG n⟩
theorem TA{n:Int}(h0:0<=n)(h1:n<=32):de .u32 4294967295 (32-n)=4294967296-sz n:=by
 obtain⟨k,hk,rfl,e⟩:=En h0 h1
 rw[e]
 have:(32:Int)-(32-(k:Int))=(k:Int):=by omega
 rw[this]
 unfold de
 rw[IntKind.wrap_u32]
 have hm:min ((k:Int)).toNat IntKind.u32.bits=k:=by simp only[IntKind.bits,Int.toNat_natCast];omega
 rw[hm]
 have hd:∀ k:Nat,k<=32->(4294967295*2^k:Int)%4294967296=4294967296-((2^k:Nat):Int):=by decide
 exact hd k hk
theorem Vy{x n:Int}(h0:0<=x)(h1:x<=4294967295)(h2:0<=n)(h3:n<=32):bits .andNot .u32 x (4294967296-sz n)=x%sz n:=by
 obtain⟨k,hk,rfl,e⟩:=En h2 h3
 have hp:(2:Nat)^k<=2^32:=Nat.pow_le_pow_right (by decide) hk
 have hp0:0<(2:Nat)^k:=Nat.two_pow_pos k
 rw[e,u32_andNot _ _ h0 (by omega) (by omega) (by omega)]
 have e1:4294967295-((4294967296:Int)-((2^k:Nat):Int)).toNat=2^k-1:=by omega
 rw[e1,Nat.and_two_pow_sub_one_eq_mod]
 obtain⟨m,rfl⟩:=Int.eq_ofNat_of_zero_le h0
 rw[Int.toNat_natCast,Int.natCast_emod]
theorem SH{a k:Nat}(hk:k<=32)(ha:a<4294967296):a &&& (4294967296-2^k)=a/2^k*2^k:=by
 have e:4294967296-2^k=(2^(32-k)-1) <<< k:=by
  rw[Nat.shiftLeft_eq,Nat.sub_mul,← Nat.pow_add,Nat.one_mul]
  congr 1
  rw[show 32-k+k=32 from by omega]
 rw[e,← Nat.shiftRight_eq_div_pow,← Nat.shiftLeft_eq]
 apply Nat.eq_of_testBit_eq
 intro i
 simp only[Nat.testBit_and,Nat.testBit_shiftLeft,Nat.testBit_two_pow_sub_one,Nat.testBit_shiftRight]
 by_cases hi:k<=i
 ·have e2:k+(i-k)=i:=by omega
  simp only[hi,decide_true,Bool.true_and,e2]
  by_cases h32:i<32
  ·have:i-k<32-k:=by omega
   simp[this]
  ·have:a.testBit i=false:=Nat.testBit_lt_two_pow (Nat.lt_of_lt_of_le ha (Nat.pow_le_pow_right (show 0<2 by decide) (by omega:32<=i)))
   simp[this]
 ·simp[hi]
theorem Xf{a n x:Int}(h0:0<=a)(h1:a<=4294967295)(h2:0<=n)(h3:n<=32)(hx:0<=x)(hm:x%sz n=0) :
  (bits .and .u32 a (4294967296-sz n)=x)↔(x<=a/\a<x+sz n):=by
 obtain⟨k,hk,rfl,e⟩:=En h2 h3
 have hp:(2:Nat)^k<=2^32:=Nat.pow_le_pow_right (by decide) hk
 have hp0:0<(2:Nat)^k:=Nat.two_pow_pos k
 rw[e] at hm ⊢
 rw[u32_and _ _ h0 (by omega) (by omega) (by omega)]
 have e1:((4294967296:Int)-((2^k:Nat):Int)).toNat=4294967296-2^k:=by omega
 rw[e1,SH hk (by omega)]
 obtain⟨m,rfl⟩:=Int.eq_ofNat_of_zero_le h0
 obtain⟨y,rfl⟩:=Int.eq_ofNat_of_zero_le hx
 rw[Int.toNat_natCast]
 have hm:y%2^k=0:=by
  have:((y%2^k:Nat):Int)=0:=by rw[Int.natCast_emod];exact hm
  omega
 generalize 2^k=s at *
 have d:=Nat.div_add_mod m s
 have dl:=Nat.mod_lt m hp0
 have dy:=Nat.div_add_mod y s
 rw[hm] at dy
 rw[Nat.mul_comm] at d
 constructor
 ·intro h;omega
 ·rintro⟨h,h'⟩
  have hq:m/s=y/s:=by
   apply Nat.le_antisymm
   ·have:m<(y/s+1)*s:=by rw[Nat.add_mul,Nat.one_mul,Nat.mul_comm (y/s)];omega
    have:=Nat.div_lt_of_lt_mul (Nat.mul_comm _ _▸this:m<s*(y/s+1))
    omega
   ·exact Nat.div_le_div_right (by omega)
  rw[hq,Nat.mul_comm];omega
def Mb:Ct:=⟨[.val cI],[.val cj],fun d=>[0<=d.1/\d.1<=32],fun d=>((4294967296-sz d.1,()),())⟩
def TE:ar Mb.ps->az:=(fun _=>{})
theorem ao4 :
 ∀(a:Int),ab a/\True->0<=a/\a<=32->0<=IntKind.wrap .i64 ((32:Int) -a)/\de IntKind.u32 (4294967295:Int) (IntKind.wrap .i64 ((32:Int) -a))=4294967296 -sz a:=by
  rintro x-⟨h0,h1⟩
  rw[ai (by omega) (by omega)]
  exact⟨by omega,TA h0 h1⟩
theorem LR:ax Tryz.prog GL 205 Mb.spec:=Ct.okH _ Tryz.func205 (by kernel_rfl) aD av TE (aC (by kernel_rfl) ao4)
def MS:Ct:=⟨[.agg kr],[.val .bool],fun _=>[],fun d=>((iU d.1,()),())⟩
def Qh:ar MS.ps->az:=(fun _=>{})
theorem Ta :
 ∀(a b:Int),((0<=a/\a<=4294967295)/\ab b)/\True->True-> ∀(c:Bool),c=decide (0<=b)->(c->(c->c)/\True)/\(c->(c->c)/\True)/\(c->c)/\ ∀(d:Bool),(d=bif c then decide (b<=32) else false)->(d->(d->d)/\True)/\(d->(d->d)/\True)/\(d->(d->d)/\(0<=b/\b<=32)/\True)/\(d->(d->d)/\(d->d)/\True)/\(d->(d->d)/\True)/\(d->d)/\(bif d then decide (bits BinOp.andNot IntKind.u32 a ((4294967296:Int) -sz b)=0) else false)=iU (a,b):=by
  rintro x n ⟨⟨⟨h0,h1⟩,-⟩,-⟩ -
  (repeat (intro (b_:Bool) (hb_:b_=_);(repeat refine⟨(by first|(simp;done)|(rw[hb_];simp;done)|(rw[hb_];simp;omega)|(rw[hb_];simp;intros;omega)|(rw[hb_];simp +contextual;done)),?_⟩);subst hb_))
  by_cases hn:0<=n/\n<=32
  ·have:=Vy (n:=n) h0 h1 hn.1 hn.2
   simp[iU,hn,this]
  ·simp only[iU]
   by_cases h2:0<=n
   ·have:¬ n<=32:=fun h=>hn ⟨h2,h⟩
    simp[this]
   ·simp[h2]
theorem Oh:ax Tryz.prog GL 204 MS.spec:=Ct.okH _ Tryz.func204 (by kernel_rfl) (ah aD LR) av Qh (aC (by kernel_rfl) Ta)
def G7:Ct:=⟨[.agg kr,.val cj],[.val .bool],fun _=>[],fun d=>((cU d.1 d.2.1,()),())⟩
def at7:ar G7.ps->az:=(fun _=>{})
theorem Xa :
 ∀(a b c:Int),((0<=a/\a<=4294967295)/\ab b)/\(0<=c/\c<=4294967295)/\True->True-> ∀(d:Bool),d=iU (a,b)->(d->(d->d)/\True)/\(d->(d->d)/\(0<=b/\b<=32)/\True)/\(d->(d->d)/\(d->d)/\True)/\(d->(d->d)/\True)/\(d->(d->d)/\(d->d)/\True)/\(d->d)/\(bif d then decide (bits BinOp.and IntKind.u32 c ((4294967296:Int) -sz b)=a) else false)=cU (a,b) c:=by
  rintro x n a ⟨⟨⟨h0,h1⟩,-⟩,⟨h2,h3⟩,-⟩ -
  have hv:∀ b:Bool,b=iU (x,n)->b=true->0<=n/\n<=32/\x%sz n=0:=by
   rintro b rfl h;simpa[iU] using h
  rintro b hb
  have hr:=hv b hb
  refine⟨by simp,fun h=>⟨fun _=>h,⟨(hr h).1,(hr h).2.1⟩,trivial⟩,by simp,by simp,by simp,by simp,?_⟩
  unfold cU
  rw[← hb]
  cases b with
  | false=>rfl
  | true =>
   obtain⟨r1,r2,r3⟩:=hr rfl
   have:=Xf (n:=n) (x:=x) h2 h3 r1 r2 h0 r3
   rw[Bool.eq_iff_iff];simpa using this
theorem HQ:ax Tryz.prog GL 152 G7.spec:=Ct.okH _ Tryz.func152 (by kernel_rfl) (ah (ah aD LR) Oh) av at7 (aC (by kernel_rfl) Xa)
def Og:Ct:=⟨[.val (.sl cI),.val cI],[.val cI],fun _=>[],fun d=>((if d.2.1∈d.1 then (d.1.idxOf d.2.1:Int) else -1,()),())⟩
def VG:ar Og.ps->az:=(fun d=>{loops:=(fun n=>match n with|2=>some (fun S=>{ι:=Int,μ:=fun i=>(d.1.length-i).toNat,inv:=fun i=>0<=i/\i<=d.1.length∧∀ y∈d.1.take i.toNat,y≠d.2.1,keep:=[0,1,6,7],slots:=fun i=>[(8,.int .i64 i)],names:=fun i=>[]})|_=>none)})
theorem Zi :
 ∀(a:List Int)(b:Int),(a.length<=maxLen/\ ∀(c:Int),c∈a->ab c)/\ab b/\True->True->(∃(c:Int),(0<=c/\c<=(gU a)/\ ∀(d:Int),d∈List.take c.toNat a->d≠b)/\a=a/\b=b/\a=a/\(gU a)=(gU a)/\(0:Int)=c/\True)/\ ∀(c:Int),(0<=c/\c<=(gU a)/\ ∀(d:Int),d∈List.take c.toNat a->d≠b)->ad (decide (c<(gU a))) (0<=c/\c<(gU a)/\ad (decide (b=a.getD c.toNat default)) (c=if b∈a then (↑(List.idxOf b a):Int) else (-1:Int)) (∃(d:Int),(0<=d/\d<=(gU a)/\ ∀(e:Int),e∈List.take d.toNat a->e≠b)/\Int.toNat ((gU a) -d)<Int.toNat ((gU a) -c)/\a=a/\b=b/\a=a/\(gU a)=(gU a)/\IntKind.wrap .i64 (c+(1:Int))=d/\True)) ((-1:Int)=if b∈a then (↑(List.idxOf b a):Int) else (-1:Int)):=by
  delta gU
  rintro x v ⟨⟨hl,-⟩,-⟩ -
  simp only[maxLen] at hl
  refine⟨⟨0,⟨by omega,by omega,by simp⟩,(by repeat' first|exact trivial|refine⟨trivial,?_⟩|refine⟨(by with_reducible rfl),?_⟩|refine⟨ai (by omega) (by omega),?_⟩|refine⟨rfl,?_⟩)⟩,?_⟩
  rintro j ⟨h0,h1,h2⟩
  refine ae (fun hj=>?_) (fun hj=>?_)
  ·have hj:=of_decide_eq_true hj
   refine⟨h0,hj,ae (fun hz=>?_) (fun hz=>?_)⟩
   ·have hz:=of_decide_eq_true hz
    have hm:v∈x:=by rw[hz];exact bL h0 hj
    rw[if_pos hm]
    have:=X0 (l:=x) (v:=v) h0 hj hz.symm h2
    omega
   ·have hz:=of_decide_eq_false hz
    refine⟨j+1,⟨by omega,by omega,fun y hy=>?_⟩,by omega,(by repeat' first|exact trivial|refine⟨trivial,?_⟩|refine⟨(by with_reducible rfl),?_⟩|refine⟨ai (by omega) (by omega),?_⟩|refine⟨rfl,?_⟩)⟩
    rcases KC h0 hj hy with hy|rfl
    ·exact h2 y hy
    ·exact fun e=>hz e.symm
  ·have hj:=of_decide_eq_false hj
   rw[List.take_of_length_le (by omega)] at h2
   rw[if_neg (fun hm=>h2 v hm rfl)]
theorem ac3:ax Tryz.prog GL 280 Og.spec:=Ct.okH _ Tryz.func280 (by kernel_rfl) aD av VG (aC (by kernel_rfl) Zi)
def Hk:Ct:=⟨[.val (.sl cI),.val cI],[.val .bool],fun _=>[],fun d=>((decide (d.2.1∈d.1),()),())⟩
def Ui:ar Hk.ps->az:=(fun _=>{})
theorem Tk :
 ∀(a:List Int)(b:Int),(a.length<=maxLen/\ ∀(c:Int),c∈a->ab c)/\ab b/\True->True->decide (0<=if b∈a then (↑(List.idxOf b a):Int) else (-1:Int))=decide (b∈a):=by
  rintro x v - -
  by_cases h:v∈x
  ·rw[if_pos h];simp[h];
  ·rw[if_neg h];simp[h]
theorem Ze:ax Tryz.prog GL 254 Hk.spec:=Ct.okH _ Tryz.func254 (by kernel_rfl) (ah aD ac3) av Ui (aC (by kernel_rfl) Tk)
end Go.RS

/- Reply: answers. -/
namespace Go.RS
open Go.SX Go.Proofs
set_option maxRecDepth 100000
set_option linter.unusedVariables false
abbrev sD:Type:=Int×Int×Int×Int×Int×Int
def Jr:sD:=(0,0,0,0,0,0)
def fL(a:Int):Int :=
 if a/16777216=0 then 1 else if a/16777216=127 then 2
 else if a/16777216=10∨(a/16777216=172/\16<=a/65536%256/\a/65536%256<32)∨(a/16777216=192/\a/65536%256=168) then 3
 else if a/16777216=169/\a/65536%256=254 then 4
 else if 224<=a/16777216/\a/16777216<240 then 5 else if 240<=a/16777216 then 6 else 0
def fq(a:Int):Prop:=fL a=0∨fL a=3
instance (a:Int):Decidable (fq a):=by unfold fq;infer_instance
def va(x:oa):Int:=x.1.2.2.2.1
def EP(x:oa):Prop:=8<=x.2.length/\(x.1.2.2.2.1=1->x.2.getD 0 default=8)/\(x.1.2.2.2.1=6->14<=x.2.length->bits .and .u8 (x.2.getD 13 default) 4=0)/\fq x.1.2.2.2.2.2.1
instance (x:oa):Decidable (EP x):=by unfold EP;infer_instance
def cq(b:List Int):Prop:=bW b=0/\EP (aR b)
instance (b:List Int):Decidable (cq b):=by unfold cq;infer_instance
def vp(b:List Int):Prop:=bW b=0/\8<=(aR b).2.length/\(va (aR b)=1->(aR b).2.getD 0 default=8)/\(va (aR b)=6->14<=(aR b).2.length->bits .and .u8 ((aR b).2.getD 13 default) 4=0)
instance (b:List Int):Decidable (vp b):=by unfold vp;infer_instance
def nB(b:List Int):oa:=if vp b then aR b else (m8,[])
def gc(id ttl:Int):Prop:=(0<=id/\id<=65535)/\0<=ttl/\ttl<=255
instance (i t:Int):Decidable (gc i t):=by unfold gc;infer_instance
def fW(src dst proto id ttl:Int)(data:List Int):oa:=((0,id,ttl,proto,false,src,dst),data)
def bP(b:List Int):Int:=(bQ b).2.2.2.2.2.1
def fe(b:List Int):Int:=(bQ b).2.2.2.2.2.2
def cV(b:List Int):Int:=(bQ b).2.2.2.1
def oT(kind code id ttl:Int):Prop:=(kind=11∨kind=3)/\(0<=code/\code<=255)/\gc id ttl
instance (k c i t:Int):Decidable (oT k c i t):=by unfold oT;infer_instance
def ft(b:List Int)(kind code id ttl:Int):Int:=if ¬ oT kind code id ttl then 1 else if cq b then 0 else 17
def gF(b:List Int)(src kind code id ttl:Int):List Int:=if ft b kind code id ttl=0 then cQ (fW src (bP b) 1 id ttl (fU (kind,code,b.take 28))) else []
def ju(s:jL):jL:=(s.2.1,s.1,0,(s.2.2.1+1)%4294967296,20,0,[])
def qa(b:List Int):Prop:=cq b/\((cV b=1/\iE (b.drop 20)=0)∨(cV b=17/\gW (bP b) (fe b) (b.drop 20)=0) ∨
 (cV b=6/\gJ (bP b) (fe b) (b.drop 20)=0/\bits .and .i64 (dK (bP b) (fe b) (b.drop 20)).2.2.2.2.1 2≠0/\bits .and .i64 (dK (bP b) (fe b) (b.drop 20)).2.2.2.2.1 4=0))
instance (b:List Int):Decidable (qa b):=by unfold qa;infer_instance
def fa(b:List Int)(id ttl:Int):Int:=if ¬ gc id ttl then 1 else if qa b then 0 else 17
def gp(b:List Int)(src id ttl:Int):List Int :=
 if fa b id ttl=0 then
  if cV b=1 then cQ (fW src (bP b) 1 id ttl (dk (true,(dU (b.drop 20)).2)))
  else if cV b=17 then gF b src 3 3 id ttl
  else cQ (fW src (bP b) 6 id ttl (dj src (bP b) (ju (dK (bP b) (fe b) (b.drop 20)))))
 else []
def zn(b:List Int):Prop:=fD b=0/\b.length=28/\(bQ b).1=0/\(bQ b).2.2.2.2.1=true
instance (b:List Int):Decidable (zn b):=by unfold zn;infer_instance
def Cq(b:List Int):Int:=if cV b=1 then aG b 22-16384 else if cV b=17∨cV b=6 then aG b 20-20000 else 0
def zp(b:List Int):bN:=(bP b,fe b,cV b,Cq b,(bQ b).2.1,(bQ b).2.2.1)
def yk(b:List Int):Prop :=
 (cV b=1/\aG b 2=30/\aG b 20=2048/\aG b 24=21075/\aG b 26=(bQ b).2.1) ∨
 (cV b=17/\aG b 2=30/\aG b 22=33434/\aG b 24=aG b 2-20/\aG b 26=(bQ b).2.1+1) ∨
 (cV b=6/\aG b 2=40/\aG b 22=80/\dH ((b.drop 24).take 4)=(bQ b).2.1)
instance (b:List Int):Decidable (yk b):=by unfold yk;infer_instance
def wK(b:List Int):bN×Bool:=if zn b then (zp b,decide (yk b/\dI (zp b)=0)) else (wz,false)
def rK(p:bN)(t:Int):bN:=(p.1,p.2.1,p.2.2.1,p.2.2.2.1,p.2.2.2.2.1,t)
def tC(ty code:Int):Int:=if ty=11 then 1 else if code=3 then 3 else 5
abbrev yu:Type:=bN×sD×Bool
def zK:yu:=(wz,Jr,false)
def H7(dst:Int)(b:List Int):yu :=
 if xX b=0 then (rK (wK (qJ b).2.2).1 0,(0,tC (qJ b).1 (qJ b).2.1,(qJ b).2.1,0,0,(wK (qJ b).2.2).1.2.2.2.2.2),(wK (qJ b).2.2).2&&decide ((wK (qJ b).2.2).1.1=dst)) else zK
def AZ(b:List Int):Prop:=iE b=0/\(dU b).1=true/\(dU b).2.1=21075/\(dU b).2.2.2.length=2
instance (b:List Int):Decidable (AZ b):=by unfold AZ;infer_instance
def I1(src dst:Int)(b:List Int):yu:=if AZ b then ((dst,src,1,aG b 2-18432,(dU b).2.2.1,0),(0,2,0,0,0,0),true) else zK
def zN(src dst:Int)(b:List Int):Prop:=gJ src dst b=0/\(dK src dst b).1=80/\(dK src dst b).2.2.1=0/\(dK src dst b).2.2.2.2.1=20/\(dK src dst b).2.2.2.2.2.1=0/\(dK src dst b).2.2.2.2.2.2=[]
instance (s d:Int) (b:List Int):Decidable (zN s d b):=by unfold zN;infer_instance
def MV(src dst:Int)(b:List Int):yu:=if zN src dst b then ((dst,src,6,(dK src dst b).2.1-20000,(dK src dst b).2.2.2.1-1,0),(0,4,0,0,0,0),true) else zK
def pG(b:List Int):yu :=
 if cV b=1/\0<(b.drop 20).length/\(b.drop 20).getD 0 default=0 then I1 (bP b) (fe b) (b.drop 20)
 else if cV b=1 then H7 (fe b) (b.drop 20) else if cV b=6 then MV (bP b) (fe b) (b.drop 20) else zK
def wY(b:List Int):Prop:=bW b=0/\(pG b).2.2=true/\dI (rK (pG b).1 1)=0
instance (b:List Int):Decidable (wY b):=by unfold wY;infer_instance
def IT(b:List Int):bN×sD:=if wY b then ((pG b).1,(bP b,(pG b).2.1.2.1,(pG b).2.1.2.2.1,(bQ b).2.2.1,(bQ b).2.1,(pG b).2.1.2.2.2.2.2)) else (wz,Jr)
def JL(b:List Int):Int:=if wY b then 0 else 17
theorem ak8(n:Int):bits .and .i64 n 4294967295=n%4294967296:=by
 have h127:(BitVec.ofInt 64 4294967295).toNat=2^32-1:=by decide
 have key:(BitVec.ofInt 64 n &&& BitVec.ofInt 64 4294967295).toNat=(n%((2^64:Nat):Int)).toNat%2^32:=by
  rw[BitVec.toNat_and,BitVec.toNat_ofInt,h127,Nat.and_two_pow_sub_one_eq_mod]
 show IntKind.i64.wrap ((BitVec.ofInt 64 n &&& BitVec.ofInt 64 4294967295).toNat:Nat)=n%4294967296
 rw[key,IntKind.wrap_i64]
 omega
theorem rG{p n a s:Int}(hs:sz n=s)(hn:0<=n/\n<=32)(hp:p%s=0):cU (p,n) a=decide (p<=a/\a<p+s):=by
 unfold cU iU
 simp only
 rw[hs,decide_eq_true ⟨hn.1,hn.2,hp⟩,Bool.true_and]
theorem D9{b:List Int}:cq b↔vp b/\fq (aR b).1.2.2.2.2.2.1:=⟨fun h=>⟨⟨h.1,h.2.1,h.2.2.1,h.2.2.2.1⟩,h.2.2.2.2⟩,fun h=>⟨h.1.1,h.1.2.1,h.1.2.2.1,h.1.2.2.2,h.2⟩⟩
theorem Pz{b:List Int}(h:cq b):nB b=(bQ b,b.drop 20):=by rw[nB,if_pos (D9.1 h).1,aR,if_pos h.1]
theorem n9{b:List Int}(h:cq b):bW b=0/\28<=b.length/\(cV b=1->(b.drop 20).getD 0 default=8)/\(cV b=6->14<=(b.drop 20).length->bits .and .u8 ((b.drop 20).getD 13 default) 4=0)/\fq (bP b):=by
 obtain⟨h1,h2⟩:=h
 rw[aR,if_pos h1] at h2
 obtain⟨k1,k2,k3,k4⟩:=h2
 simp only[List.length_drop] at k1
 exact⟨h1,by omega,k2,k3,k4⟩
theorem Sh{b:List Int}(h1:bW b=0)(h2:28<=b.length)(h3:cV b=1->(b.drop 20).getD 0 default=8)(h4:cV b=6->14<=(b.drop 20).length->bits .and .u8 ((b.drop 20).getD 13 default) 4=0)(h5:fq (bP b)):cq b:=by
 refine⟨h1,?_⟩
 rw[aR,if_pos h1]
 exact⟨by simp only[List.length_drop];omega,h3,h4,h5⟩
theorem u9{src dst proto id ttl:Int}{data:List Int}(hn:gc id ttl)(hp:0<=proto/\proto<=255)(hl:(data.length:Int)<=1480):da (fW src dst proto id ttl data)=0:=by
 obtain⟨⟨a,b⟩,c,d⟩:=hn
 rw[da,if_neg,if_neg (by simp only[fW];omega)]
 rw[Decidable.not_not]
 exact⟨⟨Int.le_refl _,by simp only[fW];omega⟩,⟨c,d⟩,hp,a,b⟩
theorem yS{b:List Int}{src kind code id ttl:Int}(hg:oT kind code id ttl)(ha:cq b) :
  ft b kind code id ttl=0/\gF b src kind code id ttl=cQ (fW src (bP b) 1 id ttl (fU (kind,code,b.take 28)))/\gv (kind,code,b.take 28)=0/\da (fW src (bP b) 1 id ttl (fU (kind,code,b.take 28)))=0:=by
 have he:ft b kind code id ttl=0:=by rw[ft,if_neg (fun k=>k hg),if_pos ha]
 obtain⟨-,hl,-⟩:=n9 ha
 obtain⟨h1,h2,h3⟩:=hg
 refine⟨he,by rw[gF,if_pos he],?_,u9 h3 (by omega) (Db _)⟩
 have ht:(b.take 28).length=28:=by rw[List.length_take];omega
 rw[gv,if_neg,if_neg,if_neg]
 ·simp only;rw[ht];omega
 ·simp only;rw[ht];omega
 ·rw[Decidable.not_not];exact⟨h1.symm,h2⟩
theorem RE{b:List Int}{src kind code id ttl:Int}(hg:¬ oT kind code id ttl):([]:List Int)=gF b src kind code id ttl/\1=ft b kind code id ttl:=by
 have he:ft b kind code id ttl=1:=by rw[ft,if_pos hg]
 rw[gF,he];exact⟨rfl,rfl⟩
theorem RC{b:List Int}{src kind code id ttl:Int}(hg:oT kind code id ttl)(ha:¬ cq b):([]:List Int)=gF b src kind code id ttl/\17=ft b kind code id ttl:=by
 have he:ft b kind code id ttl=17:=by rw[ft,if_neg (fun k=>k hg),if_neg ha]
 rw[gF,he];exact⟨rfl,rfl⟩
theorem Ql(b:List Int):cf b (Int.toNat 0) (Int.toNat 28)=b.take 28:=by
 show cf b 0 28=_
 simp[cf]
theorem XG{b:List Int}{src id ttl:Int}(hn:¬ gc id ttl):([]:List Int)=gp b src id ttl/\1=fa b id ttl:=by
 have he:fa b id ttl=1:=by rw[fa,if_pos hn]
 rw[gp,he];exact⟨rfl,rfl⟩
theorem wL{b:List Int}{src id ttl:Int}(hn:gc id ttl)(ha:¬ qa b):([]:List Int)=gp b src id ttl/\17=fa b id ttl:=by
 have he:fa b id ttl=17:=by rw[fa,if_neg (fun k=>k hn),if_neg ha]
 rw[gp,he];exact⟨rfl,rfl⟩
theorem xS{b:List Int}{id ttl:Int}(hn:gc id ttl)(ha:qa b):fa b id ttl=0:=by rw[fa,if_neg (fun k=>k hn),if_pos ha]
theorem A8{b:List Int}{src id ttl:Int}(hn:gc id ttl)(ha:cq b)(h:cV b=1)(he:iE (b.drop 20)=0) :
  gp b src id ttl=cQ (fW src (bP b) 1 id ttl (dk (true,(dU (b.drop 20)).2)))/\fa b id ttl=0:=by
 have h0:=xS hn (b:=b) ⟨ha,.inl ⟨h,he⟩⟩
 rw[gp,if_pos h0,if_pos h];exact⟨rfl,h0⟩
theorem Av{b:List Int}{src id ttl:Int}(hn:gc id ttl)(ha:cq b)(h:cV b=17)(he:gW (bP b) (fe b) (b.drop 20)=0) :
  gp b src id ttl=gF b src 3 3 id ttl/\fa b id ttl=0:=by
 have h0:=xS hn (b:=b) ⟨ha,.inr (.inl ⟨h,he⟩)⟩
 rw[gp,if_pos h0,if_neg (by omega),if_pos h];exact⟨rfl,h0⟩
theorem zt{b:List Int}{src id ttl:Int}(hn:gc id ttl)(ha:cq b)(h:cV b=6)(he:gJ (bP b) (fe b) (b.drop 20)=0)
  (h2:bits .and .i64 (dK (bP b) (fe b) (b.drop 20)).2.2.2.2.1 2≠0) (h4:bits .and .i64 (dK (bP b) (fe b) (b.drop 20)).2.2.2.2.1 4=0) :
  gp b src id ttl=cQ (fW src (bP b) 6 id ttl (dj src (bP b) (ju (dK (bP b) (fe b) (b.drop 20)))))/\fa b id ttl=0:=by
 have h0:=xS hn (b:=b) ⟨ha,.inr (.inr ⟨h,he,h2,h4⟩)⟩
 rw[gp,if_pos h0,if_neg (by omega),if_neg (by omega)];exact⟨rfl,h0⟩
theorem Ff{b:List Int}{id ttl:Int}(hn:gc id ttl)(ha:cq b):ft b 3 3 id ttl=0:=by
 rw[ft,if_neg (fun k=>k ⟨.inr rfl,⟨by omega,by omega⟩,hn⟩),if_pos ha]
theorem Ht(b:List Int):(dU b).2.2.2.length<=b.length:=by
 unfold dU;split
 ·simp only[List.length_drop];omega
 ·simp
theorem Z6{s d:Int}{b:List Int}(hb:bytes b):(0<=(dK s d b).2.1/\(dK s d b).2.1<=65535)/\(0<=(dK s d b).2.2.1/\(dK s d b).2.2.1<=4294967295)/\0<=(dK s d b).2.2.2.1/\(dK s d b).2.2.2.1<=4294967295:=by
 unfold dK;split
 ·have h1:=qL hb (Int.toNat 2)
  have h2:=qL hb (Int.toNat 4)
  have h3:=qL hb (Int.toNat 6)
  have h4:=qL hb (Int.toNat 8)
  have h5:=qL hb (Int.toNat 10)
  simp only
  omega
 ·simp
def mi(k:Int):cO:=([(0,8),(2130706432,8),(167772160,8),(2886729728,12),(3232235520,16),(2851995648,16),(3758096384,4),(4026531840,4)]:List cO).getD k.toNat (0,0)
def Ii:Ct:=⟨[.val cj],[.val cI],fun d=>[],fun d=>((fL d.1,()),())⟩
def X9:ar Ii.ps->az:=(fun d=>{cuts:=(fun n=>match n with|6=>some (fun S=>{ι:=Unit,inv:=fun i=>cU (mi (S.i 6)) d.1=false,keep:=[0,5,6],slots:=fun i=>[],names:=fun i=>[]})|_=>none),unr:=fun n=>match n with|2=>9|_=>0})
def jr :=
 (2:Int)^IntKind.bits IntKind.i64
def xl :=
 (nat_lit 0+nat_lit 1)%Int.natAbs (jr)+nat_lit 1
def xd :=
 ((xl)%Int.natAbs (jr)+nat_lit 1)%Int.natAbs (jr)+nat_lit 1
def uE :=
 IntKind.wrap .i64 ((0:Int)+(1:Int))+(1:Int)
def vd :=
 IntKind.wrap .i64 (IntKind.wrap .i64 (uE)+(1:Int))+(1:Int)
def A7 :=
 ((xd)%Int.natAbs (jr)+nat_lit 1)%Int.natAbs (jr)+nat_lit 1
def yJ :=
 IntKind.wrap .i64 (IntKind.wrap .i64 (vd)+(1:Int))+(1:Int)
def pC :=
 (2130706432:Int)
def pU :=
 (2886729728:Int)
def pF :=
 (3232235520:Int)
def qm :=
 (2851995648:Int)
def qo :=
 (3758096384:Int)
def ph :=
 (4026531840:Int)
def Dj :=
 mi (Int.ofNat (((xl)%Int.natAbs (jr)+nat_lit 1)%Int.natAbs (jr)))
def Cu :=
 mi (Int.ofNat (((xd)%Int.natAbs (jr)+nat_lit 1)%Int.natAbs (jr)))
def CL :=
 mi (Int.ofNat (((A7)%Int.natAbs (jr)+nat_lit 1)%Int.natAbs (jr)))
def pJ :=
 (167772160:Int)
theorem ae6 :
 ∀(a:Int),(0<=a/\a<=4294967295)/\True->True->ad (cU ((0:Int),(8:Int)) a) ((1:Int)=fL a) (∃(b:Unit),cU (mi (0:Int)) a=false/\a=a/\(0:Int)=0/\(8:Int)=8/\(1:Int)=1/\(pC)=2130706432/\(8:Int)=8/\(2:Int)=2/\(pJ)=167772160/\(8:Int)=8/\(3:Int)=3/\(pU)=2886729728/\(12:Int)=12/\(3:Int)=3/\(pF)=3232235520/\(16:Int)=16/\(3:Int)=3/\(qm)=2851995648/\(16:Int)=16/\(4:Int)=4/\(qo)=3758096384/\(4:Int)=4/\(5:Int)=5/\(ph)=4026531840/\(4:Int)=4/\(6:Int)=6/\(0:Int)=0/\True)/\ ∀(b:Unit),cU (mi (0:Int)) a=false->ad (cU ((pC),(8:Int)) a) ((2:Int)=fL a) (∃(c:Unit),cU (mi (Int.ofNat ((nat_lit 0+nat_lit 1)%Int.natAbs (jr))))
 a=false/\a=a/\(0:Int)=0/\(8:Int)=8/\(1:Int)=1/\(pC)=2130706432/\(8:Int)=8/\(2:Int)=2/\(pJ)=167772160/\(8:Int)=8/\(3:Int)=3/\(pU)=2886729728/\(12:Int)=12/\(3:Int)=3/\(pF)=3232235520/\(16:Int)=16/\(3:Int)=3/\(qm)=2851995648/\(16:Int)=16/\(4:Int)=4/\(qo)=3758096384/\(4:Int)=4/\(5:Int)=5/\(ph)=4026531840/\(4:Int)=4/\(6:Int)=6/\IntKind.wrap .i64 ((0:Int)+(1:Int))=IntKind.wrap .i64 ((0:Int)+(1:Int))/\True)/\ ∀(c:Unit),cU (mi (Int.ofNat ((nat_lit 0+nat_lit 1)%Int.natAbs (jr)))) a=false->ad (cU ((pJ),(8:Int)) a) ((3:Int)=fL a) (∃(d:Unit),cU (mi (Int.ofNat ((xl)%Int.natAbs (jr))))
 a=false/\a=a/\(0:Int)=0/\(8:Int)=8/\(1:Int)=1/\(pC)=2130706432/\(8:Int)=8/\(2:Int)=2/\(pJ)=167772160/\(8:Int)=8/\(3:Int)=3/\(pU)=2886729728/\(12:Int)=12/\(3:Int)=3/\(pF)=3232235520/\(16:Int)=16/\(3:Int)=3/\(qm)=2851995648/\(16:Int)=16/\(4:Int)=4/\(qo)=3758096384/\(4:Int)=4/\(5:Int)=5/\(ph)=4026531840/\(4:Int)=4/\(6:Int)=6/\IntKind.wrap .i64 (uE)=IntKind.wrap .i64 (uE)/\True)/\ ∀(d:Unit),cU (mi (Int.ofNat ((xl)%Int.natAbs (jr)))) a=false->ad (cU ((pU),(12:Int)) a) ((3:Int)=fL a) (∃(e:Unit),cU (Dj)
 a=false/\a=a/\(0:Int)=0/\(8:Int)=8/\(1:Int)=1/\(pC)=2130706432/\(8:Int)=8/\(2:Int)=2/\(pJ)=167772160/\(8:Int)=8/\(3:Int)=3/\(pU)=2886729728/\(12:Int)=12/\(3:Int)=3/\(pF)=3232235520/\(16:Int)=16/\(3:Int)=3/\(qm)=2851995648/\(16:Int)=16/\(4:Int)=4/\(qo)=3758096384/\(4:Int)=4/\(5:Int)=5/\(ph)=4026531840/\(4:Int)=4/\(6:Int)=6/\IntKind.wrap .i64 (IntKind.wrap .i64 (uE)+(1:Int))=IntKind.wrap .i64 (IntKind.wrap .i64 (uE)+(1:Int))/\True)/\ ∀(e:Unit),cU (Dj) a=false->ad (cU ((pF),(16:Int)) a) ((3:Int)=fL a) (∃(f:Unit),cU (mi (Int.ofNat ((xd)%Int.natAbs (jr))))
 a=false/\a=a/\(0:Int)=0/\(8:Int)=8/\(1:Int)=1/\(pC)=2130706432/\(8:Int)=8/\(2:Int)=2/\(pJ)=167772160/\(8:Int)=8/\(3:Int)=3/\(pU)=2886729728/\(12:Int)=12/\(3:Int)=3/\(pF)=3232235520/\(16:Int)=16/\(3:Int)=3/\(qm)=2851995648/\(16:Int)=16/\(4:Int)=4/\(qo)=3758096384/\(4:Int)=4/\(5:Int)=5/\(ph)=4026531840/\(4:Int)=4/\(6:Int)=6/\IntKind.wrap .i64 (vd)=IntKind.wrap .i64 (vd)/\True)/\ ∀(f:Unit),cU (mi (Int.ofNat ((xd)%Int.natAbs (jr)))) a=false->ad (cU ((qm),(16:Int)) a) ((4:Int)=fL a) (∃(g:Unit),cU (Cu)
 a=false/\a=a/\(0:Int)=0/\(8:Int)=8/\(1:Int)=1/\(pC)=2130706432/\(8:Int)=8/\(2:Int)=2/\(pJ)=167772160/\(8:Int)=8/\(3:Int)=3/\(pU)=2886729728/\(12:Int)=12/\(3:Int)=3/\(pF)=3232235520/\(16:Int)=16/\(3:Int)=3/\(qm)=2851995648/\(16:Int)=16/\(4:Int)=4/\(qo)=3758096384/\(4:Int)=4/\(5:Int)=5/\(ph)=4026531840/\(4:Int)=4/\(6:Int)=6/\IntKind.wrap .i64 (IntKind.wrap .i64 (vd)+(1:Int))=IntKind.wrap .i64 (IntKind.wrap .i64 (vd)+(1:Int))/\True)/\ ∀(g:Unit),cU (Cu) a=false->ad (cU ((qo),(4:Int)) a) ((5:Int)=fL a) (∃(h:Unit),cU (mi (Int.ofNat ((A7)%Int.natAbs (jr))))
 a=false/\a=a/\(0:Int)=0/\(8:Int)=8/\(1:Int)=1/\(pC)=2130706432/\(8:Int)=8/\(2:Int)=2/\(pJ)=167772160/\(8:Int)=8/\(3:Int)=3/\(pU)=2886729728/\(12:Int)=12/\(3:Int)=3/\(pF)=3232235520/\(16:Int)=16/\(3:Int)=3/\(qm)=2851995648/\(16:Int)=16/\(4:Int)=4/\(qo)=3758096384/\(4:Int)=4/\(5:Int)=5/\(ph)=4026531840/\(4:Int)=4/\(6:Int)=6/\IntKind.wrap .i64 (yJ)=IntKind.wrap .i64 (yJ)/\True)/\ ∀(h:Unit),cU (mi (Int.ofNat ((A7)%Int.natAbs (jr)))) a=false->ad (cU ((ph),(4:Int)) a) ((6:Int)=fL a) (∃(i:Unit),cU (CL)
 a=false/\a=a/\(0:Int)=0/\(8:Int)=8/\(1:Int)=1/\(pC)=2130706432/\(8:Int)=8/\(2:Int)=2/\(pJ)=167772160/\(8:Int)=8/\(3:Int)=3/\(pU)=2886729728/\(12:Int)=12/\(3:Int)=3/\(pF)=3232235520/\(16:Int)=16/\(3:Int)=3/\(qm)=2851995648/\(16:Int)=16/\(4:Int)=4/\(qo)=3758096384/\(4:Int)=4/\(5:Int)=5/\(ph)=4026531840/\(4:Int)=4/\(6:Int)=6/\IntKind.wrap .i64 (IntKind.wrap .i64 (yJ)+(1:Int))=IntKind.wrap .i64 (IntKind.wrap .i64 (yJ)+(1:Int))/\True)/\ ∀(i:Unit),cU (CL) a=false->(0:Int)=fL a:=by
  delta jr xd vd A7 xl yJ uE pC pU pF qm qo ph Dj Cu CL pJ
  rintro a ⟨⟨a0,a1⟩,-⟩ -
  have q0:=rG (p:=0) (n:=8) (a:=a) (s:=16777216) rfl (by omega) (by omega)
  have q1:=rG (p:=2130706432) (n:=8) (a:=a) (s:=16777216) rfl (by omega) (by omega)
  have q2:=rG (p:=167772160) (n:=8) (a:=a) (s:=16777216) rfl (by omega) (by omega)
  have q3:=rG (p:=2886729728) (n:=12) (a:=a) (s:=1048576) rfl (by omega) (by omega)
  have q4:=rG (p:=3232235520) (n:=16) (a:=a) (s:=65536) rfl (by omega) (by omega)
  have q5:=rG (p:=2851995648) (n:=16) (a:=a) (s:=65536) rfl (by omega) (by omega)
  have q6:=rG (p:=3758096384) (n:=4) (a:=a) (s:=268435456) rfl (by omega) (by omega)
  have q7:=rG (p:=4026531840) (n:=4) (a:=a) (s:=268435456) rfl (by omega) (by omega)
  refine⟨ae (fun h=>?_) (fun h=>⟨(),h,(by repeat' first|exact trivial|refine⟨trivial,?_⟩|refine⟨(by with_reducible rfl),?_⟩|refine⟨ai (by omega) (by omega),?_⟩|refine⟨rfl,?_⟩)⟩),?_⟩
  ·rw[q0] at h
   have h:=of_decide_eq_true h
   unfold fL;rw[if_pos (by omega)]
  rintro-h
  have h:cU (0,8) a=false:=h
  rw[q0] at h
  have h0:=of_decide_eq_false h
  refine⟨ae (fun h=>?_) (fun h=>⟨(),h,(by repeat' first|exact trivial|refine⟨trivial,?_⟩|refine⟨(by with_reducible rfl),?_⟩|refine⟨ai (by omega) (by omega),?_⟩|refine⟨rfl,?_⟩)⟩),?_⟩
  ·rw[q1] at h
   have h:=of_decide_eq_true h
   unfold fL;rw[if_neg (by omega),if_pos (by omega)]
  rintro-h
  have h:cU (2130706432,8) a=false:=h
  rw[q1] at h
  have h1:=of_decide_eq_false h
  refine⟨ae (fun h=>?_) (fun h=>⟨(),h,(by repeat' first|exact trivial|refine⟨trivial,?_⟩|refine⟨(by with_reducible rfl),?_⟩|refine⟨ai (by omega) (by omega),?_⟩|refine⟨rfl,?_⟩)⟩),?_⟩
  ·rw[q2] at h
   have h:=of_decide_eq_true h
   unfold fL;rw[if_neg (by omega),if_neg (by omega),if_pos (by omega)]
  rintro-h
  have h:cU (167772160,8) a=false:=h
  rw[q2] at h
  have h2:=of_decide_eq_false h
  refine⟨ae (fun h=>?_) (fun h=>⟨(),h,(by repeat' first|exact trivial|refine⟨trivial,?_⟩|refine⟨(by with_reducible rfl),?_⟩|refine⟨ai (by omega) (by omega),?_⟩|refine⟨rfl,?_⟩)⟩),?_⟩
  ·rw[q3] at h
   have h:=of_decide_eq_true h
   unfold fL;rw[if_neg (by omega),if_neg (by omega),if_pos (by omega)]
  rintro-h
  have h:cU (2886729728,12) a=false:=h
  rw[q3] at h
  have h3:=of_decide_eq_false h
  refine⟨ae (fun h=>?_) (fun h=>⟨(),h,(by repeat' first|exact trivial|refine⟨trivial,?_⟩|refine⟨(by with_reducible rfl),?_⟩|refine⟨ai (by omega) (by omega),?_⟩|refine⟨rfl,?_⟩)⟩),?_⟩
  ·rw[q4] at h
   have h:=of_decide_eq_true h
   unfold fL;rw[if_neg (by omega),if_neg (by omega),if_pos (by omega)]
  rintro-h
  have h:cU (3232235520,16) a=false:=h
  rw[q4] at h
  have h4:=of_decide_eq_false h
  refine⟨ae (fun h=>?_) (fun h=>⟨(),h,(by repeat' first|exact trivial|refine⟨trivial,?_⟩|refine⟨(by with_reducible rfl),?_⟩|refine⟨ai (by omega) (by omega),?_⟩|refine⟨rfl,?_⟩)⟩),?_⟩
  ·rw[q5] at h
   have h:=of_decide_eq_true h
   unfold fL;rw[if_neg (by omega),if_neg (by omega),if_neg (by omega),if_pos (by omega)]
  rintro-h
  have h:cU (2851995648,16) a=false:=h
  rw[q5] at h
  have h5:=of_decide_eq_false h
  refine⟨ae (fun h=>?_) (fun h=>⟨(),h,(by repeat' first|exact trivial|refine⟨trivial,?_⟩|refine⟨(by with_reducible rfl),?_⟩|refine⟨ai (by omega) (by omega),?_⟩|refine⟨rfl,?_⟩)⟩),?_⟩
  ·rw[q6] at h
   have h:=of_decide_eq_true h
   unfold fL;rw[if_neg (by omega),if_neg (by omega),if_neg (by omega),if_neg (by omega),if_pos (by omega)]
  rintro-h
  have h:cU (3758096384,4) a=false:=h
  rw[q6] at h
  have h6:=of_decide_eq_false h
  refine⟨ae (fun h=>?_) (fun h=>⟨(),h,(by repeat' first|exact trivial|refine⟨trivial,?_⟩|refine⟨(by with_reducible rfl),?_⟩|refine⟨ai (by omega) (by omega),?_⟩|refine⟨rfl,?_⟩)⟩),?_⟩
  ·rw[q7] at h
   have h:=of_decide_eq_true h
   unfold fL;rw[if_neg (by omega),if_neg (by omega),if_neg (by omega),if_neg (by omega),if_neg (by omega),if_pos (by omega)]
  rintro-h
  have h:cU (4026531840,4) a=false:=h
  rw[q7] at h
  have h7:=of_decide_eq_false h
  unfold fL;rw[if_neg (by omega),if_neg (by omega),if_neg (by omega),if_neg (by omega),if_neg (by omega),if_neg (by omega)]
theorem K6:ax Tryz.prog GL 252 Ii.spec:=Ct.okH _ Tryz.func252 (by kernel_rfl) (am7 (ah aD HQ) (d:=8)) av X9 (aC (by kernel_rfl) ae6)
def L4:Ct:=⟨[.val (.sl bj)],[.agg uA,.val .bool],fun d=>[(d.1.length:Int)<=1099511627776],fun d=>((nB d.1,decide (cq d.1),()),())⟩
def WC:ar L4.ps->az:=(fun _=>{})
def Br(a:List Int) :=
 (((0:Int),(0:Int),(0:Int),(0:Int),false,(0:Int),(0:Int)),([]:List Int))=nB a/\false=decide (cq a)
def DH(a:List Int)(b:(Int×Int×Int×Int×Bool×Int×Int)×List Int) :=
 ∀(e:Bool),e=decide (fL b.1.2.2.2.2.2.1=0)->((! e)->((! e)->(! e))/\True)/\(e=false->(! e))/\b=nB a/\(bif e then true else decide (fL b.1.2.2.2.2.2.1=3))=decide (cq a)
theorem XP :
 ∀(a:List Int),(a.length<=maxLen/\ ∀(b:Int),b∈a->0<=b/\b<=255)/\True->(a.length:Int)<=1099511627776->(a.length:Int)<=1099511627776/\ ∀(b:(Int×Int×Int×Int×Bool×Int×Int)×List Int)(c:Int),b=aR a/\c=bW a-> ∀(d:Bool),d= ! decide (c=0)->((! d)->((! d)->(! d))/\True)/\((! d)->((! d)->(! d))/\True)/\((! d)->((! d)->(! d))/\True)/\(d=false->(! d))/\ad (bif d then true else decide ((b.2.length:Int)<8)) (Br a) (ad (decide (b.1.2.2.2.1=1)) ((0:Int)<=0/\0<(b.2.length:Int)/\ad (! decide (List.getD b.2 (Int.toNat (0:Int)) default=8)) (Br a) (DH a b)) (ad (decide (b.1.2.2.2.1=6)) (∀(e:Bool),e=decide (13<(b.2.length:Int))->(e->(e->e)/\True)/\(e->(e->e)/\(0:Int)<=13/\13<(b.2.length:Int)/\True)/\(e->(e->e)/\True)/\(e->(e->e)/\True)/\(e->(e->e)/\True)/\(e->e)/\ad (bif e then ! decide (bits BinOp.and IntKind.u8 (List.getD b.2 (Int.toNat (13:Int)) default) (4:Int)=0) else false) (Br a)
 (∀(f:Bool),f=decide (fL b.1.2.2.2.2.2.1=0)->((! f)->((! f)->(! f))/\True)/\(f=false->(! f))/\b=nB a/\(bif f then true else decide (fL b.1.2.2.2.2.2.1=3))=decide (cq a))) (DH a b))):=by
  delta Br DH
  rintro b ⟨⟨-,hb⟩,-⟩ hl
  refine⟨hl,?_⟩
  rintro d e ⟨rfl,rfl⟩
  have bad:¬ vp b->(((0,0,0,0,false,0,0),[]):oa)=nB b/\false=decide (cq b):=fun h=>by rw[nB,if_neg h,decide_eq_false (fun k=>h (D9.1 k).1)];exact⟨rfl,rfl⟩
  have good:vp b->aR b=nB b/\(bif decide (fL (aR b).1.2.2.2.2.2.1=0) then true else decide (fL (aR b).1.2.2.2.2.2.1=3))=decide (cq b):=by
   intro h
   refine⟨by rw[nB,if_pos h],?_⟩
   rw[Bool.eq_iff_iff,decide_eq_true_iff,D9]
   simp[h,fq,Bool.cond_eq_ite]
  (repeat (intro (b_:Bool) (hb_:b_=_);(repeat refine⟨(by first|(simp;done)|(rw[hb_];simp;done)|(rw[hb_];simp;omega)|(rw[hb_];simp;intros;omega)|(rw[hb_];simp +contextual;done)),?_⟩);subst hb_))
  refine ae (fun h=>?_) (fun h=>?_)
  ·refine bad (fun k=>?_)
   obtain⟨k1,k2,-⟩:=k
   rw[k1] at h;simp at h;omega
  have h1:bW b=0:=by
   refine Classical.byContradiction fun k=>?_
   simp[k] at h
  have h2:8<=(aR b).2.length:=by
   rw[h1] at h;simp at h;omega
  refine ae (fun hp=>?_) (fun hp=>?_)
  ·have hp:va (aR b)=1:=of_decide_eq_true hp
   refine⟨by omega,by omega,ae (fun h8=>?_) (fun h8=>?_)⟩
   ·refine bad (fun k=>?_)
    have:=k.2.2.1 hp
    simp only[show Int.toNat 0=0 from rfl,this] at h8
    simp at h8
   ·(repeat (intro (b_:Bool) (hb_:b_=_);(repeat refine⟨(by first|(simp;done)|(rw[hb_];simp;done)|(rw[hb_];simp;omega)|(rw[hb_];simp;intros;omega)|(rw[hb_];simp +contextual;done)),?_⟩);subst hb_))
    exact good ⟨h1,h2,fun _=>by simpa using h8,fun k=>by omega⟩
  have hp:¬ va (aR b)=1:=of_decide_eq_false hp
  refine ae (fun hq=>?_) (fun hq=>?_)
  ·have hq:va (aR b)=6:=of_decide_eq_true hq
   (repeat (intro (b_:Bool) (hb_:b_=_);(repeat refine⟨(by first|(simp;done)|(rw[hb_];simp;done)|(rw[hb_];simp;omega)|(rw[hb_];simp;intros;omega)|(rw[hb_];simp +contextual;done)),?_⟩);subst hb_))
   refine ae (fun h8=>?_) (fun h8=>?_)
   ·refine bad (fun k=>?_)
    have:=k.2.2.2 hq
    simp[Bool.cond_eq_ite] at h8
    exact h8.2 (this (by omega))
   ·(repeat (intro (b_:Bool) (hb_:b_=_);(repeat refine⟨(by first|(simp;done)|(rw[hb_];simp;done)|(rw[hb_];simp;omega)|(rw[hb_];simp;intros;omega)|(rw[hb_];simp +contextual;done)),?_⟩);subst hb_))
    refine good ⟨h1,h2,fun k=>absurd k hp,fun _ hk=>?_⟩
    refine Classical.byContradiction fun k=>?_
    have k:¬ bits .and .u8 ((aR b).2.getD (Int.toNat 13) default) 4=0:=k
    rw[decide_eq_true (show (13:Int)<((aR b).2.length:Int) by omega),decide_eq_false k] at h8
    cases h8
  ·have hq:¬ va (aR b)=6:=of_decide_eq_false hq
   (repeat (intro (b_:Bool) (hb_:b_=_);(repeat refine⟨(by first|(simp;done)|(rw[hb_];simp;done)|(rw[hb_];simp;omega)|(rw[hb_];simp;intros;omega)|(rw[hb_];simp +contextual;done)),?_⟩);subst hb_))
   exact good ⟨h1,h2,fun k=>absurd k hp,fun k=>absurd k hq⟩
theorem Ni:ax Tryz.prog GL 266 L4.spec:=Ct.okH _ Tryz.func266 (by kernel_rfl) (ah (ah aD (Ct.named BH)) K6) av WC (aC (by kernel_rfl) XP)
def HY:Ct:=⟨[.val cI,.val cI],[.val .bool],fun d=>[],fun d=>((decide (gc d.1 d.2.1),()),())⟩
def Ye:ar HY.ps->az:=(fun _=>{})
theorem W4 :
 ∀(a b:Int),ab a/\ab b/\True->True-> ∀(c:Bool),c=decide (0<=a)->(c->(c->c)/\True)/\(c->c)/\ ∀(d:Bool),(d=bif c then decide (a<=65535) else false)->(d->(d->d)/\True)/\(d->d)/\ ∀(e:Bool),(e=bif d then decide (0<=b) else false)->(e->(e->e)/\True)/\(e->e)/\(bif e then decide (b<=255) else false)=decide (gc a b):=by
  rintro id ttl - -
  (repeat (intro (b_:Bool) (hb_:b_=_);(repeat refine⟨(by first|(simp;done)|(rw[hb_];simp;done)|(rw[hb_];simp;omega)|(rw[hb_];simp;intros;omega)|(rw[hb_];simp +contextual;done)),?_⟩);subst hb_))
  rw[Bool.eq_iff_iff];simp[gc,Bool.cond_eq_ite,and_assoc]
theorem M6:ax Tryz.prog GL 265 HY.spec:=Ct.okH _ Tryz.func265 (by kernel_rfl) aD av Ye (aC (by kernel_rfl) W4)
def JK:Ct:=⟨[.val cj,.val cj,.val cI,.val cI,.val cI,.val (.sl bj)],[.own 5 bj,.val cI],fun d=>[(d.2.2.2.2.2.1.length:Int)<=1073741824],fun d=>((cQ (fW d.1 d.2.1 d.2.2.1 d.2.2.2.1 d.2.2.2.2.1 d.2.2.2.2.2.1),da (fW d.1 d.2.1 d.2.2.1 d.2.2.2.1 d.2.2.2.2.1 d.2.2.2.2.2.1),()),())⟩
def XR:ar JK.ps->az:=(fun _=>{})
theorem Rq :
 ∀(a b c d e:Int)(f:List Int),(0<=a/\a<=4294967295)/\(0<=b/\b<=4294967295)/\ab c/\ab d/\ab e/\(f.length<=maxLen/\ ∀(g:Int),g∈f->0<=g/\g<=255)/\True->(f.length:Int)<=1073741824->(f.length:Int)<=1073741824/\cQ (((0:Int),d,e,c,false,a,b),f)=cQ (fW a b c d e f)/\da (((0:Int),d,e,c,false,a,b),f)=da (fW a b c d e f):=by
  rintro s d p i t data-hl
  exact⟨hl,rfl,rfl⟩
theorem MB:ax Tryz.prog GL 268 JK.spec:=Ct.okH _ Tryz.func268 (by kernel_rfl) (ah aD H5) av XR (aC (by kernel_rfl) Rq)
def Pm:Ct:=⟨[.val (.sl bj),.val cj,.val cI,.val cI,.val cI,.val cI],[.own 5 bj,.val cI],fun d=>[(d.1.length:Int)<=1099511627776],fun d=>((gF d.1 d.2.1 d.2.2.1 d.2.2.2.1 d.2.2.2.2.1 d.2.2.2.2.2.1,ft d.1 d.2.2.1 d.2.2.2.1 d.2.2.2.2.1 d.2.2.2.2.2.1,()),())⟩
def Th:ar Pm.ps->az:=(fun _=>{})
theorem Um :
 ∀(a:List Int)(b c d e f:Int),(a.length<=maxLen/\ ∀(g:Int),g∈a->0<=g/\g<=255)/\(0<=b/\b<=4294967295)/\ab c/\ab d/\ab e/\ab f/\True->(a.length:Int)<=1099511627776-> ∀(g:Bool),g= ! decide (c=11)->(g->(g->g)/\True)/\(g->g)/\ ∀(h:Bool),(h=bif g then ! decide (c=3) else false)->((! h)->((! h)->(! h))/\True)/\(h=false->(! h))/\ ∀(i:Bool),(i=bif h then true else decide (d<0))->((! i)->((! i)->(! i))/\True)/\(i=false->(! i))/\ ∀(j:Bool),(j=bif i then true else decide (255<d))->((! j)->((! j)->(! j))/\((! j)->(! j))/\True)/\((! j)->((! j)->(! j))/\True)/\(j=false->(! j))/\ad (bif j then true else ! decide (gc e f)) (([]:List Int)=gF a b c d e f/\(1:Int)=ft a c d e f) ((a.length:Int)<=1099511627776/\ ∀(k:(Int×Int×Int×Int×Bool×Int×Int)×List Int)(l:Bool),k=nB a/\l=decide (cq a)->ad (! l) (([]:List Int)=gF a b c d e f/\(17:Int)=ft a c d e f)
 ((0:Int)<=0/\(0:Int)<=28/\28<=(a.length:Int)/\((List.length (cf a (Int.toNat (0:Int)) (Int.toNat (28:Int)))):Int)<=1073741824/\ ∀(m:List Int)(n:Int),m=fU (c,d,cf a (Int.toNat (0:Int)) (Int.toNat (28:Int)))/\n=gv (c,d,cf a (Int.toNat (0:Int)) (Int.toNat (28:Int)))->ad (! decide (n=0)) (([]:List Int)=gF a b c d e f/\n=ft a c d e f) ((m.length:Int)<=1073741824/\cQ (fW b k.1.2.2.2.2.2.1 (1:Int) e f m)=gF a b c d e f/\da (fW b k.1.2.2.2.2.2.1 (1:Int) e f m)=ft a c d e f))):=by
  rintro b src kind code id ttl ⟨⟨-,hb⟩,-⟩ hl
  (repeat (intro (b_:Bool) (hb_:b_=_);(repeat refine⟨(by first|(simp;done)|(rw[hb_];simp;done)|(rw[hb_];simp;omega)|(rw[hb_];simp;intros;omega)|(rw[hb_];simp +contextual;done)),?_⟩);subst hb_))
  by_cases hg:oT kind code id ttl
  rotate_left
  ·refine ae (fun _=>RE hg) (fun h=>absurd ?_ hg)
   by_cases hn:gc id ttl
   ·rw[decide_eq_true hn] at h
    refine⟨?_,?_,hn⟩ <;> simp[Bool.cond_eq_ite] at h <;> omega
   ·rw[decide_eq_false hn] at h
    simp at h
  have hg':=hg
  obtain⟨g1,g2,g3⟩:=hg'
  refine ae (fun h=>?_) (fun _=>⟨hl,?_⟩)
  ·exfalso
   rw[decide_eq_true g3] at h
   simp[Bool.cond_eq_ite] at h;omega
  rintro d e ⟨rfl,rfl⟩
  refine ae (fun h=>RC hg (by simpa using h)) (fun h=>?_)
  have ha:cq b:=by simpa using h
  have hgd:=yS (src:=src) hg ha
  obtain⟨-,h28,-⟩:=n9 ha
  rw[Pz ha,Ql]
  refine⟨by omega,by omega,by omega,by rw[List.length_take];omega,?_⟩
  rintro n e ⟨rfl,rfl⟩
  rw[hgd.2.2.1]
  refine ae (fun h=>by simp at h) (fun _=>?_)
  have:=Db (kind,code,b.take 28)
  refine⟨by omega,hgd.2.1.symm,?_⟩
  rw[hgd.1];exact hgd.2.2.2
theorem N9:ax Tryz.prog GL 270 Pm.spec:=Ct.okH _ Tryz.func270 (by kernel_rfl) (ah (ah (ah (ah aD M6) (Ct.named Ni)) (Ct.named Ux)) MB) av Th (aC (by kernel_rfl) Um)
def OP:Ct:=⟨[.val (.sl bj),.val cj,.val cI,.val cI],[.own 5 bj,.val cI],fun d=>[(d.1.length:Int)<=1099511627776],fun d=>((gp d.1 d.2.1 d.2.2.1 d.2.2.2.1,fa d.1 d.2.2.1 d.2.2.2.1,()),())⟩
def Va:ar OP.ps->az:=(fun _=>{})
def uK(a:List Int)(b c d:Int) :=
 ([]:List Int)=gp a b c d/\(17:Int)=fa a c d
def CK(g:Int×Int×Int×Int×Int×Int×List Int) :=
 (g.2.1,g.1,(0:Int),bits BinOp.and IntKind.i64 (IntKind.wrap .i64 (g.2.2.1+(1:Int))) (4294967295:Int),(20:Int),(0:Int),([]:List Int))
theorem Xx :
 ∀(a:List Int)(b c d:Int),(a.length<=maxLen/\ ∀(e:Int),e∈a->0<=e/\e<=255)/\(0<=b/\b<=4294967295)/\ab c/\ab d/\True->(a.length:Int)<=1099511627776->ad (! decide (gc c d)) (([]:List Int)=gp a b c d/\(1:Int)=fa a c d) ((a.length:Int)<=1099511627776/\ ∀(e:(Int×Int×Int×Int×Bool×Int×Int)×List Int)(f:Bool),e=nB a/\f=decide (cq a)->ad (! f) (uK a b c d) (ad (decide (e.1.2.2.2.1=1)) ((e.2.length:Int)<=1000000/\ ∀(g:Bool)(h i:Int)(j:List Int)(k:Int),(g,h,i,j)=dU e.2/\k=iE e.2->ad (! decide (k=0)) (uK a b c d) ((j.length:Int)<=1073741824/\ ∀(l:List Int)(m:Int),l=dk (true,h,i,j)/\m=ik (true,h,i,j)->(l.length:Int)<=1073741824/\cQ (fW b e.1.2.2.2.2.2.1 e.1.2.2.2.1 c d l)=gp a b c d/\da (fW b e.1.2.2.2.2.2.1 e.1.2.2.2.1 c d l)=fa a c d)) (ad (decide (e.1.2.2.2.1=17)) ((e.2.length:Int)<=1000000/\ ∀(g h:Int)(i:List Int)
 (j:Int),(g,h,i)=nJ e.1.2.2.2.2.2.1 e.1.2.2.2.2.2.2 e.2/\j=gW e.1.2.2.2.2.2.1 e.1.2.2.2.2.2.2 e.2->ad (! decide (j=0)) (uK a b c d) ((a.length:Int)<=1099511627776/\gF a b (3:Int) (3:Int) c d=gp a b c d/\ft a (3:Int) (3:Int) c d=fa a c d)) (ad (decide (e.1.2.2.2.1=6)) ((e.2.length:Int)<=1000000/\ ∀(g:Int×Int×Int×Int×Int×Int×List Int)(h:Int),g=dK e.1.2.2.2.2.2.1 e.1.2.2.2.2.2.2 e.2/\h=gJ e.1.2.2.2.2.2.1 e.1.2.2.2.2.2.2 e.2-> ∀(i:Bool),i= ! decide (h=0)->((! i)->((! i)->(! i))/\True)/\((! i)->((! i)->(! i))/\True)/\((! i)->((! i)->(! i))/\True)/\(i=false->(! i))/\ ∀(j:Bool),(j=bif i then true else decide (bits BinOp.and IntKind.i64 g.2.2.2.2.1 (2:Int)=0))->((! j)->((! j)->(! j))/\True)/\((! j)->((! j)->(! j))/\True)/\((! j)->((! j)->(! j))/\True)/\(j=false->(! j))/\ad (bif j then true else ! decide (bits BinOp.and IntKind.i64 g.2.2.2.2.1 (4:Int)=0)) (uK a
 b c d) ((↑(0:Nat):Int)<=1000000/\ ∀(k:List Int)(l:Int),k=dj b e.1.2.2.2.2.2.1 (CK g)/\l=i9 (CK g)->(k.length:Int)<=1073741824/\cQ (fW b e.1.2.2.2.2.2.1 e.1.2.2.2.1 c d k)=gp a b c d/\da (fW b e.1.2.2.2.2.2.1 e.1.2.2.2.1 c d k)=fa a c d)) (uK a b c d))))):=by
  delta uK CK
  rintro b src id ttl ⟨⟨-,hb⟩,-⟩ hl
  by_cases hn:gc id ttl
  rotate_left
  ·exact ae (fun _=>XG hn) (fun h=>absurd (by simpa using h) hn)
  refine ae (fun h=>by simp[hn] at h) (fun _=>⟨hl,?_⟩)
  rintro _ _ ⟨rfl,rfl⟩
  refine ae (fun h=>wL hn (fun k=>?_)) (fun h=>?_)
  ·have:=k.1;simp[this] at h
  have ha:cq b:=by simpa using h
  obtain⟨hd0,h28,hp1,hp6,-⟩:=n9 ha
  have hdl:=wA hd0
  rw[Pz ha]
  have hdb:bytes (b.drop 20):=rX hb
  have hdr:(b.drop 20).length<=1480:=by rw[List.length_drop];omega
  have nofit:∀ k:Prop,(k->qa b->False)->k->([]:List Int)=gp b src id ttl/\(17:Int)=fa b id ttl:=fun k hk h=>wL hn (hk h)
  refine ae (fun h1=>?_) (fun h1=>ae (fun h17=>?_) (fun h17=>ae (fun h6=>?_) (fun h6=>?_)))
  ·have h1:cV b=1:=of_decide_eq_true h1
   refine⟨by show ((b.drop 20).length:Int)<=_;omega,?_⟩
   rintro r i q dt e ⟨hu,rfl⟩
   refine ae (fun h=>?_) (fun h=>?_)
   ·refine wL hn (fun k=>?_)
    obtain⟨-,⟨-,k⟩|⟨k,-⟩|⟨k,-⟩⟩:=k
    ·simp[k] at h
    ·omega
    ·omega
   have h:iE (b.drop 20)=0:=by simpa using h
   have hh:=A8 (src:=src) hn ha h1 h
   have hlen:=Ht (b.drop 20)
   have e2:(i,q,dt)=(dU (b.drop 20)).2:=congrArg Prod.snd hu
   have e3:dt=(dU (b.drop 20)).2.2.2:=by rw[← e2]
   refine⟨by rw[e3];omega,?_⟩
   rintro o e ⟨rfl,rfl⟩
   rw[show ((true,i,q,dt):kX)=(true,(i,q,dt)) from rfl,e2]
   have hle:=af1 (true,(dU (b.drop 20)).2)
   refine⟨by omega,?_,?_⟩
   ·rw[hh.1,← h1];rfl
   ·rw[hh.2];exact u9 hn (by have:=h1;unfold cV at this;simp only;omega) hle
  ·have h1:=of_decide_eq_false h1
   have h17:cV b=17:=of_decide_eq_true h17
   refine⟨by show ((b.drop 20).length:Int)<=_;omega,?_⟩
   rintro sp dp dt e ⟨hu,rfl⟩
   refine ae (fun h=>?_) (fun h=>?_)
   ·refine wL hn (fun k=>?_)
    obtain⟨-,⟨k,-⟩|⟨-,k⟩|⟨k,-⟩⟩:=k
    ·omega
    ·have k:gW (bQ b).2.2.2.2.2.1 (bQ b).2.2.2.2.2.2 (b.drop 20)=0:=k
     simp[k] at h
    ·omega
   have h:gW (bP b) (fe b) (b.drop 20)=0:=by
    have:gW (bQ b).2.2.2.2.2.1 (bQ b).2.2.2.2.2.2 (b.drop 20)=0:=by simpa using h
    exact this
   have hh:=Av (src:=src) hn ha h17 h
   exact⟨hl,hh.1.symm,by rw[hh.2,Ff hn ha]⟩
  ·have h1:=of_decide_eq_false h1
   have h17:=of_decide_eq_false h17
   have h6:cV b=6:=of_decide_eq_true h6
   refine⟨by show ((b.drop 20).length:Int)<=_;omega,?_⟩
   rintro t e ⟨ht,rfl⟩
   have ht:t=dK (bP b) (fe b) (b.drop 20):=ht
   have hr:=Z6 (s:=bP b) (d:=fe b) hdb
   rw[← ht] at hr
   have ee:gJ (bQ b).2.2.2.2.2.1 (bQ b).2.2.2.2.2.2 (b.drop 20)=gJ (bP b) (fe b) (b.drop 20):=rfl
   rw[ee]
   (repeat (intro (b_:Bool) (hb_:b_=_);(repeat refine⟨(by first|(simp;done)|(rw[hb_];simp;done)|(rw[hb_];simp;omega)|(rw[hb_];simp;intros;omega)|(rw[hb_];simp +contextual;done)),?_⟩);subst hb_))
   refine ae (fun h=>?_) (fun h=>?_)
   ·refine wL hn (fun k=>?_)
    obtain⟨-,⟨k,-⟩|⟨k,-⟩|⟨-,k1,k2,k3⟩⟩:=k
    ·omega
    ·omega
    ·rw[← ht] at k2 k3
     simp[k1,k2,k3] at h
   have k1:gJ (bP b) (fe b) (b.drop 20)=0:=Classical.byContradiction fun k=>by simp[k] at h
   have k2:bits .and .i64 t.2.2.2.2.1 2≠0:=fun k=>by simp[k1,k] at h
   have k3:bits .and .i64 t.2.2.2.2.1 4=0:=Classical.byContradiction fun k=>by simp[k1,k2,k] at h
   have hh:=zt (src:=src) hn ha h6 k1 (by rw[← ht];exact k2) (by rw[← ht];exact k3)
   refine⟨by simp,?_⟩
   rintro o e ⟨rfl,rfl⟩
   rw[ai (n:=t.2.2.1+1) (by omega) (by omega),ak8]
   have hle:=YZ src (bP b) (ju t)
   have er:((t.2.1,t.1,0,(t.2.2.1+1)%4294967296,20,0,[]):jL)=ju t:=rfl
   rw[er]
   refine⟨by show ((dj src (bP b) (ju t)).length:Int)<=_;omega,?_,?_⟩
   ·rw[hh.1,← ht,← h6];rfl
   ·rw[hh.2];exact u9 hn (by have:=h6;unfold cV at this;simp only;omega) hle
  ·have h1:=of_decide_eq_false h1
   have h17:=of_decide_eq_false h17
   have h6:=of_decide_eq_false h6
   refine wL hn (fun k=>?_)
   obtain⟨-,⟨k,-⟩|⟨k,-⟩|⟨k,-⟩⟩:=k
   ·exact h1 k
   ·exact h17 k
   ·exact h6 k
theorem TT:ax Tryz.prog GL 244 OP.spec:=Ct.okH _ Tryz.func244 (by kernel_rfl) (ah (ah (ah (ah (ah (ah (ah (ah (ah aD M6) (Ct.named Ni)) (Ct.named av0)) (Ct.named W5)) (Ct.named Sc)) (Ct.named Uy)) (Ct.named as7)) N9) MB) av Va (aC (by kernel_rfl) Xx)
end Go.RS
