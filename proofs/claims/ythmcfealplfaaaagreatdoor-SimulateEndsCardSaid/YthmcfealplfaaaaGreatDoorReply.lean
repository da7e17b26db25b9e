/- Ipv4: packets without options. -/
import Derived.Test.YthmcfealplfaaaaGreatDoorTrback
import Derived.Test.YthmcfealplfaaaaGreatDoorIdent
import Derived.Laws.BitsAllLaws
namespace Go.RS
open Go.SX Go.Proofs
set_option maxRecDepth 100000
set_option linter.unusedVariables false
abbrev jX:CT := .pair cI (.pair cI (.pair cI (.pair cI (.pair .bool (.pair ce ce)))))
abbrev vY:CT := .pair jX (.sl bj)
abbrev bS:Type:=Int×Int×Int×Int×Bool×Int×Int
abbrev nF:Type:=bS×List Int
def mK(n:Int):Prop:=0<=n/\n<=255
instance (n:Int):Decidable (mK n):=by unfold mK;infer_instance
def iZ(h:bS):Prop:=mK h.1/\mK h.2.2.1/\mK h.2.2.2.1/\0<=h.2.1/\h.2.1<=65535
instance (h:bS):Decidable (iZ h):=by unfold iZ;infer_instance
def jl(h:bS):Int:=if iZ h then 0 else 1
def yM(h:bS)(n:Int):List Int:=[69,h.1]++(w2 n++(w2 h.2.1++(w2 (if h.2.2.2.2.1 then 16384 else 0)++[h.2.2.1,h.2.2.2.1])))
def BS(h:bS):List Int:=w4 h.2.2.2.2.2.1++w4 h.2.2.2.2.2.2
def fb(h:bS)(n:Int):List Int:=yM h n++([0,0]++BS h)
def gk(h:bS)(n:Int):List Int:=bz (fb h n) 10 (bV (fb h n))
def c8(p:nF):Int:=if ¬ iZ p.1 then 1 else if (1480:Int)<p.2.length then 5 else 0
def cN(p:nF):List Int:=if c8 p=0 then gk p.1 (20+p.2.length)++p.2 else []
def fC(b:List Int):Int :=
 if (b.length:Int)<20 then 3 else if ¬ (b.getD 0 default=69/\(aG b 6=0∨aG b 6=16384)/\20<=aG b 2) then 2
 else if bV (bz (b.take 20) 10 0)≠aG b 10 then 4 else 0
def mI:bS:=(0,0,0,0,false,0,0)
def bN(b:List Int):bS:=(b.getD 1 default,aG b 4,b.getD 8 default,b.getD 9 default,decide (aG b 6=16384),dG ((b.drop 12).take 4),dG ((b.drop 16).take 4))
def oQ(b:List Int):bS:=if fC b=0 then bN b else mI
def m6(b:List Int):Int:=if fC b=0 then aG b 2 else 0
def bU(b:List Int):Int:=if fC b≠0 then fC b else if aG b 2≠b.length then 2 else if 1500<aG b 2 then 5 else 0
def aS(b:List Int):nF:=if bU b=0 then (bN b,b.drop 20) else (mI,[])
def u5(h:bS):bS:=(h.1,h.2.1,h.2.2.1-1,h.2.2.2)
def fY(b:List Int):Int:=if bU b≠0 then bU b else if (bN b).2.2.1<2 then 7 else 0
def gE(b:List Int):List Int:=if fY b=0 then cN (u5 (bN b),b.drop 20) else []
theorem Vo(h:bS)(n:Int):(fb h n).length=20:=rfl
theorem pc(h:bS)(n:Int):(gk h n).length=20:=by unfold gk;rw[jU];rfl
theorem yW{h:bS}{n:Int}(hk:iZ h):bytes (fb h n):=by
 obtain⟨h1,h2,h3,-⟩:=hk
 exact fP (fP (j4 (by omega) (by omega) (j4 h1.1 h1.2 kM)) (fP (jy _) (fP (jy _) (fP (jy _) (j4 h2.1 h2.2 (j4 h3.1 h3.2 kM))))))
  (fP (j4 (by omega) (by omega) (j4 (by omega) (by omega) kM)) (fP (uH _) (uH _)))
theorem Cl{h:bS}{n:Int}(hk:iZ h):bytes (gk h n):=qh (yW hk)
theorem jv{n:Nat}{b:List Int}(h:n+1<=b.length):∃ x r,b=x::r/\n<=r.length:=by
 cases b with
 | nil=>simp at h
 | cons x r=>exact⟨x,r,rfl,by simpa using h⟩
theorem TQ{b:List Int}(h:20<=b.length):∃ x0 x1 x2 x3 x4 x5 x6 x7 x8 x9 x10 x11 x12 x13 x14 x15 x16 x17 x18 x19 r,b=x0::x1::x2::x3::x4::x5::x6::x7::x8::x9::x10::x11::x12::x13::x14::x15::x16::x17::x18::x19::r:=by
 obtain⟨x0,b1,rfl,h1⟩:=jv (n:=19) h
 obtain⟨x1,b2,rfl,h2⟩:=jv (n:=18) h1
 obtain⟨x2,b3,rfl,h3⟩:=jv (n:=17) h2
 obtain⟨x3,b4,rfl,h4⟩:=jv (n:=16) h3
 obtain⟨x4,b5,rfl,h5⟩:=jv (n:=15) h4
 obtain⟨x5,b6,rfl,h6⟩:=jv (n:=14) h5
 obtain⟨x6,b7,rfl,h7⟩:=jv (n:=13) h6
 obtain⟨x7,b8,rfl,h8⟩:=jv (n:=12) h7
 obtain⟨x8,b9,rfl,h9⟩:=jv (n:=11) h8
 obtain⟨x9,b10,rfl,h10⟩:=jv (n:=10) h9
 obtain⟨x10,b11,rfl,h11⟩:=jv (n:=9) h10
 obtain⟨x11,b12,rfl,h12⟩:=jv (n:=8) h11
 obtain⟨x12,b13,rfl,h13⟩:=jv (n:=7) h12
 obtain⟨x13,b14,rfl,h14⟩:=jv (n:=6) h13
 obtain⟨x14,b15,rfl,h15⟩:=jv (n:=5) h14
 obtain⟨x15,b16,rfl,h16⟩:=jv (n:=4) h15
 obtain⟨x16,b17,rfl,h17⟩:=jv (n:=3) h16
 obtain⟨x17,b18,rfl,h18⟩:=jv (n:=2) h17
 obtain⟨x18,b19,rfl,h19⟩:=jv (n:=1) h18
 obtain⟨x19,b20,rfl,h20⟩:=jv (n:=0) h19
 exact⟨x0,x1,x2,x3,x4,x5,x6,x7,x8,x9,x10,x11,x12,x13,x14,x15,x16,x17,x18,x19,b20,rfl⟩
theorem XU(a:Int):dG [a]=a:=by simp[dG]
theorem yw(a b c d:Int):dG [a,b,c,d]=((a*256+b)*256+c)*256+d:=by simp[dG]
theorem Fb{b:List Int}{a w:Int}(h1:1<=w)(h2:w<=7)(h3:0<=a)(h4:a+w<=b.length):dL b a w=dG ((b.drop a.toNat).take w.toNat):=by
 rw[dL,if_neg (by omega)]
theorem al6{b:List Int}{i:Nat}(h:i<b.length):(b.drop i).take 1=[b.getD i default]:=by
 rw[List.drop_eq_getElem_cons h,List.getD_eq_getElem?_getD,List.getElem?_eq_getElem h];rfl
theorem AT{b:List Int}{a:Int}(h3:0<=a)(h4:a+1<=b.length):dL b a 1=b.getD a.toNat default:=by
 rw[Fb (by omega) (by omega) h3 h4,show (1:Int).toNat=1 from rfl,al6 (by omega),XU]
theorem ub{b:List Int}{a:Int}(h3:0<=a)(h4:a+2<=b.length):dL b a 2=aG b a.toNat:=by
 rw[Fb (by omega) (by omega) h3 h4];rfl
theorem Ok{b:List Int}{a:Int}(h3:0<=a)(h4:a+4<=b.length):dL b a 4=dG ((b.drop a.toNat).take 4):=by
 rw[Fb (by omega) (by omega) h3 h4];rfl
theorem rB{b:List Int}{n i:Nat}(h:i<n):(b.take n).getD i default=b.getD i default:=by
 rw[List.getD_eq_getElem?_getD,List.getElem?_take,if_pos h,← List.getD_eq_getElem?_getD]
theorem vl{b:List Int}{n i k:Nat}(h:i+k<=n):((b.take n).drop i).take k=(b.drop i).take k:=by
 rw[List.drop_take,List.take_take,Nat.min_eq_left (by omega)]
theorem n9{b:List Int}{n i:Nat}(h:i+2<=n):aG (b.take n) i=aG b i:=by
 unfold aG;rw[vl h]
theorem z9{b:List Int}{n:Nat}(h:bytes b):bytes (b.take n):=fun x hx=>h x (List.mem_of_mem_take hx)
theorem rF{b:List Int}{n:Nat}(h:bytes b):bytes (b.drop n):=fun x hx=>h x (List.mem_of_mem_drop hx)
theorem Bi{b:List Int}(h:bytes b){i:Nat}(hi:i<b.length):0<=b.getD i default/\b.getD i default<=255:=by
 have:=bH (xs:=b) (i:=(i:Int)) (by omega) (by omega)
 exact h _ this
theorem qM{b:List Int}(h:bytes b)(i:Nat):0<=aG b i/\aG b i<=65535:=by
 have:=Bw 2 ((b.drop i).take 2) (by rw[List.length_take];omega) (fun x hx=>h x (List.mem_of_mem_drop (List.mem_of_mem_take hx)))
 have e:(256:Int)^2=65536:=rfl
 unfold aG;omega
theorem sF{b:List Int}(h:bytes b)(i:Nat):0<=dG ((b.drop i).take 4)/\dG ((b.drop i).take 4)<=4294967295:=by
 have:=Bw 4 ((b.drop i).take 4) (by rw[List.length_take];omega) (fun x hx=>h x (List.mem_of_mem_drop (List.mem_of_mem_take hx)))
 have e:(256:Int)^4=4294967296:=rfl
 omega
theorem je{a:Int}{l:List Int}(h:bytes (a::l)):(0<=a/\a<=255)/\bytes l:=⟨h a List.mem_cons_self,fun x hx=>h x (List.mem_cons_of_mem _ hx)⟩
theorem NB{a b c d:Int}(ha:0<=a/\a<=255)(hb:0<=b/\b<=255)(hc:0<=c/\c<=255)(hd:0<=d/\d<=255):w4 (((a*256+b)*256+c)*256+d)=[a,b,c,d]:=by
 unfold w4
 have e1:(((a*256+b)*256+c)*256+d)/16777216%256=a:=by omega
 have e2:(((a*256+b)*256+c)*256+d)/65536%256=b:=by omega
 have e3:(((a*256+b)*256+c)*256+d)/256%256=c:=by omega
 have e4:(((a*256+b)*256+c)*256+d)%256=d:=by omega
 rw[e1,e2,e3,e4]
theorem Uc{b:List Int}(hb:bytes b)(hl:20<=b.length)(h0:b.getD 0 default=69)(hf:aG b 6=0∨aG b 6=16384) :
  fb (bN b) (aG b 2)=bz (b.take 20) 10 0/\(gk (bN b) (aG b 2)=b.take 20↔bV (bz (b.take 20) 10 0)=aG b 10):=by
 obtain⟨x0,x1,x2,x3,x4,x5,x6,x7,x8,x9,x10,x11,x12,x13,x14,x15,x16,x17,x18,x19,r,rfl⟩:=TQ hl
 have hb0:=hb
 obtain⟨k0,hb⟩:=je hb
 obtain⟨k1,hb⟩:=je hb
 obtain⟨k2,hb⟩:=je hb
 obtain⟨k3,hb⟩:=je hb
 obtain⟨k4,hb⟩:=je hb
 obtain⟨k5,hb⟩:=je hb
 obtain⟨k6,hb⟩:=je hb
 obtain⟨k7,hb⟩:=je hb
 obtain⟨k8,hb⟩:=je hb
 obtain⟨k9,hb⟩:=je hb
 obtain⟨k10,hb⟩:=je hb
 obtain⟨k11,hb⟩:=je hb
 obtain⟨k12,hb⟩:=je hb
 obtain⟨k13,hb⟩:=je hb
 obtain⟨k14,hb⟩:=je hb
 obtain⟨k15,hb⟩:=je hb
 obtain⟨k16,hb⟩:=je hb
 obtain⟨k17,hb⟩:=je hb
 obtain⟨k18,hb⟩:=je hb
 obtain⟨k19,hb⟩:=je hb
 have e2:aG (x0::x1::x2::x3::x4::x5::x6::x7::x8::x9::x10::x11::x12::x13::x14::x15::x16::x17::x18::x19::r) 2=x2*256+x3:=fB _ _ _
 have e4:aG (x0::x1::x2::x3::x4::x5::x6::x7::x8::x9::x10::x11::x12::x13::x14::x15::x16::x17::x18::x19::r) 4=x4*256+x5:=fB _ _ _
 have e6:aG (x0::x1::x2::x3::x4::x5::x6::x7::x8::x9::x10::x11::x12::x13::x14::x15::x16::x17::x18::x19::r) 6=x6*256+x7:=fB _ _ _
 have e10:aG (x0::x1::x2::x3::x4::x5::x6::x7::x8::x9::x10::x11::x12::x13::x14::x15::x16::x17::x18::x19::r) 10=x10*256+x11:=fB _ _ _
 have n12:dG (((x0::x1::x2::x3::x4::x5::x6::x7::x8::x9::x10::x11::x12::x13::x14::x15::x16::x17::x18::x19::r).drop 12).take 4)=((x12*256+x13)*256+x14)*256+x15:=yw _ _ _ _
 have n16:dG (((x0::x1::x2::x3::x4::x5::x6::x7::x8::x9::x10::x11::x12::x13::x14::x15::x16::x17::x18::x19::r).drop 16).take 4)=((x16*256+x17)*256+x18)*256+x19:=yw _ _ _ _
 have h0:x0=69:=h0
 subst h0
 rw[e6] at hf
 have hk:w2 (if decide (x6*256+x7=16384) then 16384 else 0)=[x6,x7]:=by
  rcases hf with hf|hf
  ·rw[hf]
   have:x6=0/\x7=0:=by omega
   rw[this.1,this.2];rfl
  ·rw[hf]
   have:x6=64/\x7=0:=by omega
   rw[this.1,this.2];rfl
 have hbody:fb (bN (69::x1::x2::x3::x4::x5::x6::x7::x8::x9::x10::x11::x12::x13::x14::x15::x16::x17::x18::x19::r)) (aG (69::x1::x2::x3::x4::x5::x6::x7::x8::x9::x10::x11::x12::x13::x14::x15::x16::x17::x18::x19::r) 2)=bz ((69::x1::x2::x3::x4::x5::x6::x7::x8::x9::x10::x11::x12::x13::x14::x15::x16::x17::x18::x19::r).take 20) 10 0:=by
  unfold fb yM BS bN
  simp only
  rw[e2,e4,e6,n12,n16,hk,AD k2.1 k2.2 k3.1 k3.2,AD k4.1 k4.2 k5.1 k5.2,NB k12 k13 k14 k15,NB k16 k17 k18 k19]
  rfl
 refine⟨hbody,?_⟩
 rw[gk,hbody,e10]
 have hc:=mQ (b:=bz ((69::x1::x2::x3::x4::x5::x6::x7::x8::x9::x10::x11::x12::x13::x14::x15::x16::x17::x18::x19::r).take 20) 10 0) (qh (fun x hx=>hb0 x (List.mem_of_mem_take hx)))
 generalize bV (bz ((69::x1::x2::x3::x4::x5::x6::x7::x8::x9::x10::x11::x12::x13::x14::x15::x16::x17::x18::x19::r).take 20) 10 0)=c at hc ⊢
 have e:bz (bz ((69::x1::x2::x3::x4::x5::x6::x7::x8::x9::x10::x11::x12::x13::x14::x15::x16::x17::x18::x19::r).take 20) 10 0) 10 c=[69,x1,x2,x3,x4,x5,x6,x7,x8,x9,c/256%256,c%256,x12,x13,x14,x15,x16,x17,x18,x19]:=rfl
 rw[e]
 have e':(69::x1::x2::x3::x4::x5::x6::x7::x8::x9::x10::x11::x12::x13::x14::x15::x16::x17::x18::x19::r).take 20=[69,x1,x2,x3,x4,x5,x6,x7,x8,x9,x10,x11,x12,x13,x14,x15,x16,x17,x18,x19]:=rfl
 rw[e']
 constructor
 ·intro h
  simp only[List.cons.injEq,and_true,true_and] at h
  omega
 ·intro h
  have:c/256%256=x10/\c%256=x11:=by omega
  rw[this.1,this.2]
def oU(k:Nat):Nat:=[0,1,2,4,6,8,9,10,12,16,20].getD k 20
theorem Sz{h:bS}{n f k:Int}(hok:iZ h)(n0:0<=n)(n1:n<=65535)(s0:0<=h.2.2.2.2.2.1/\h.2.2.2.2.2.1<=4294967295)(d0:0<=h.2.2.2.2.2.2/\h.2.2.2.2.2.2<=4294967295)(hf:f=if h.2.2.2.2.1 then 16384 else 0)(k0:0<=k)(k1:k<10) :
  bu ((fb h n).take (oU k.toNat)) (jK [69,h.1,n,h.2.1,f,h.2.2.1,h.2.2.2.1,0,h.2.2.2.2.2.1,h.2.2.2.2.2.2] k.toNat) (jK [1,1,2,2,2,1,1,2,4,4] k.toNat)=(fb h n).take (oU (k+1).toNat):=by
 obtain⟨h1,h2,h3,h4,h5⟩:=hok
 have hf0:0<=f/\f<=65535:=by rw[hf];split <;> omega
 have:k=0∨k=1∨k=2∨k=3∨k=4∨k=5∨k=6∨k=7∨k=8∨k=9:=by omega
 rcases this with rfl|rfl|rfl|rfl|rfl|rfl|rfl|rfl|rfl|rfl
 ·exact pm (b:=[]) (n:=69) (by omega) (by omega)
 ·exact pm (b:=[69]) h1.1 h1.2
 ·exact gM (b:=[69,h.1]) n0 n1
 ·exact gM (b:=[69,h.1]++w2 n) h4 h5
 ·have:=gM (b:=[69,h.1]++(w2 n++w2 h.2.1)) hf0.1 hf0.2
  rw[hf] at this ⊢;exact this
 ·exact pm (b:=(fb h n).take 8) h2.1 h2.2
 ·exact pm (b:=(fb h n).take 9) h3.1 h3.2
 ·exact gM (b:=(fb h n).take 10) (n:=0) (by omega) (by omega)
 ·exact rM (b:=(fb h n).take 12) s0.1 s0.2
 ·exact rM (b:=(fb h n).take 16) d0.1 d0.2
theorem Ah{b:List Int}(h:fC b=0):20<=b.length:=by
 unfold fC at h
 split at h
 ·cases h
 ·omega
theorem AL{b:List Int}(h:bU b=0):fC b=0:=by
 unfold bU at h
 split at h
 ·rename_i k;exact absurd h k
 ·rename_i k;exact Decidable.not_not.1 k
theorem wn{b:List Int}(h:bU b=0):(b.length:Int)<=1500/\aG b 2=b.length:=by
 unfold bU at h
 split at h
 ·rename_i k;exact absurd h k
 ·split at h
  ·cases h
  ·split at h
   ·cases h
   ·omega
theorem ai5{b:List Int}(hb:bytes b)(h:fC b=0):iZ (bN b):=by
 have hl:=Ah h
 exact⟨Bi hb (by omega),Bi hb (by omega),Bi hb (by omega),qM hb 4⟩
theorem ai0{b:List Int}(hb:bytes b)(h:bU b=0)(h2:¬ (bN b).2.2.1<2):iZ (u5 (bN b)):=by
 obtain⟨k1,k2,k3,k4⟩:=ai5 hb (AL h)
 refine⟨k1,?_,k3,k4⟩
 obtain⟨k5,k6⟩:=k2
 show 0<=(bN b).2.2.1-1/\(bN b).2.2.1-1<=255
 omega
def Mx:Ct:=⟨[.val cI],[.val .bool],fun d=>[],fun d=>((decide (mK d.1),()),())⟩
def PX:ao Mx.ps->az:=(fun _=>{})
theorem P4 :
 ∀(a:Int),ab a/\True->True-> ∀(b:Bool),b=decide (0<=a)->(b->(b->b)/\True)/\(b->b)/\(bif b then decide (a<256) else false)=decide (mK a):=by
  rintro n - -
  (repeat (intro (b_:Bool) (hb_:b_=_);(repeat refine⟨(by first|(simp;done)|(rw[hb_];simp;done)|(rw[hb_];simp;omega)|(rw[hb_];simp;intros;omega)|(rw[hb_];simp +contextual;done)),?_⟩);subst hb_))
  unfold mK
  by_cases h:0<=n <;> simp[h] <;> omega
theorem ZD:av Tryz.prog GL 290 Mx.spec:=Ct.okH _ Tryz.func290 (by kernel_rfl) aC ar PX (aD (by kernel_rfl) P4)
def KB:Ct:=⟨[.agg jX],[.val cI],fun d=>[],fun d=>((jl d.1,()),())⟩
def RH:ao KB.ps->az:=(fun _=>{})
theorem Uu :
 ∀(a:bS),CT.wf jX a/\True->True-> ∀(b:Bool),b= ! decide (mK a.1)->((! b)->((! b)->(! b))/\True)/\((! b)->((! b)->(! b))/\((! b)->(! b))/\True)/\((! b)->((! b)->(! b))/\True)/\(b=false->(! b))/\ ∀(c:Bool),(c=bif b then true else ! decide (mK a.2.2.1))->((! c)->((! c)->(! c))/\True)/\((! c)->((! c)->(! c))/\((! c)->(! c))/\True)/\((! c)->((! c)->(! c))/\True)/\(c=false->(! c))/\ ∀(d:Bool),(d=bif c then true else ! decide (mK a.2.2.2.1))->((! d)->((! d)->(! d))/\True)/\((! d)->((! d)->(! d))/\True)/\(d=false->(! d))/\ ∀(e:Bool),(e=bif d then true else decide (a.2.1<0))->((! e)->((! e)->(! e))/\True)/\((! e)->((! e)->(! e))/\True)/\(e=false->(! e))/\ad (bif e then true else decide (65536<=a.2.1)) ((1:Int)=jl a) ((0:Int)=jl a):=by
  rintro h - -
  (repeat (intro (b_:Bool) (hb_:b_=_);(repeat refine⟨(by first|(simp;done)|(rw[hb_];simp;done)|(rw[hb_];simp;omega)|(rw[hb_];simp;intros;omega)|(rw[hb_];simp +contextual;done)),?_⟩);subst hb_))
  refine ae (fun hc=>?_) (fun hc=>?_)
  ·rw[jl,if_neg]
   intro k;obtain⟨k1,k2,k3,k4,k5⟩:=k
   simp[k1,k2,k3,Bool.cond_eq_ite] at hc;omega
  ·rw[jl,if_pos]
   simp[Bool.cond_eq_ite] at hc
   exact⟨hc.1.1.1.1,hc.1.1.1.2,hc.1.1.2,by omega,by omega⟩
theorem Qf:av Tryz.prog GL 289 KB.spec:=Ct.okH _ Tryz.func289 (by kernel_rfl) (ai aC ZD) ar RH (aD (by kernel_rfl) Uu)
def Jx:Ct:=⟨[.agg vY],[.own 5 bj,.val cI],fun d=>[(d.1.2.length:Int)<=1073741824],fun d=>((cN d.1,c8 d.1,()),())⟩
def VJ:ao Jx.ps->az:=(fun d=>{loops:=(fun n=>match n with|12=>some (fun S=>{ι:=Int×(List Int),qn:=⟨fun k_=>∀(k:Int)(ys:(List Int)),k_ (k,ys),fun k_ h_ i=>h_ i.1 i.2,fun k_=>∃ (k:Int) (ys:(List Int)),k_ (k,ys),fun k_ ⟨k,ys,h_⟩=>⟨_,h_⟩⟩,μ:=fun i=>(10-i.1).toNat,inv:=fun i=>0<=i.1/\i.1<=10/\i.2=(fb d.1.1 (20+d.1.2.length)).take (oU i.1.toNat),keep:=[1,4,53],slots:=fun i=>[(7,.own 524288 1),(54,.int .i64 i.1)],keepN:=[32,80],names:=fun i=>[(524288,.live (.row 5 bj i.2))]})|_=>none)})
def Eo(a:(Int×Int×Int×Int×Bool×Int×Int)×List Int)(b:Int)(c:List Int) :=
 (2:Int)=2/\a.1.2.2.1=a.1.2.2.1/\(1:Int)=1/\a.1.2.2.2.1=a.1.2.2.2.1/\(1:Int)=1/\(0:Int)=0/\(2:Int)=2/\IntKind.wrap .i64 a.1.2.2.2.2.2.1=IntKind.wrap .i64 a.1.2.2.2.2.2.1/\(4:Int)=4/\IntKind.wrap .i64 a.1.2.2.2.2.2.2=IntKind.wrap .i64 a.1.2.2.2.2.2.2/\(4:Int)=4/\(0:Int)=b/\a.1.1=a.1.1/\a.1.2.1=a.1.2.1/\a.1.2.2.1=a.1.2.2.1/\a.1.2.2.2.1=a.1.2.2.2.1/\a.1.2.2.2.2.1=a.1.2.2.2.2.1/\a.1.2.2.2.2.2.1=a.1.2.2.2.2.2.1/\a.1.2.2.2.2.2.2=a.1.2.2.2.2.2.2/\a.2=a.2/\a.1.1=a.1.1/\a.1.2.1=a.1.2.1/\a.1.2.2.1=a.1.2.2.1/\a.1.2.2.2.1=a.1.2.2.2.1/\a.1.2.2.2.2.1=a.1.2.2.2.2.1/\a.1.2.2.2.2.2.1=a.1.2.2.2.2.2.1/\a.1.2.2.2.2.2.2=a.1.2.2.2.2.2.2/\c=([]:List Int)/\True
def GB(a:(Int×Int×Int×Int×Bool×Int×Int)×List Int)(b:Int)(d:List Int)(f:Int)(g:List Int) :=
 (2:Int)=2/\a.1.2.2.1=a.1.2.2.1/\(1:Int)=1/\a.1.2.2.2.1=a.1.2.2.2.1/\(1:Int)=1/\(0:Int)=0/\(2:Int)=2/\IntKind.wrap .i64 a.1.2.2.2.2.2.1=IntKind.wrap .i64 a.1.2.2.2.2.2.1/\(4:Int)=4/\IntKind.wrap .i64 a.1.2.2.2.2.2.2=IntKind.wrap .i64 a.1.2.2.2.2.2.2/\(4:Int)=4/\IntKind.wrap .i64 (b+(1:Int))=f/\a.1.1=a.1.1/\a.1.2.1=a.1.2.1/\a.1.2.2.1=a.1.2.2.1/\a.1.2.2.2.1=a.1.2.2.2.1/\a.1.2.2.2.2.1=a.1.2.2.2.2.1/\a.1.2.2.2.2.2.1=a.1.2.2.2.2.2.1/\a.1.2.2.2.2.2.2=a.1.2.2.2.2.2.2/\a.2=a.2/\a.1.1=a.1.1/\a.1.2.1=a.1.2.1/\a.1.2.2.1=a.1.2.2.1/\a.1.2.2.2.1=a.1.2.2.2.1/\a.1.2.2.2.2.1=a.1.2.2.2.2.1/\a.1.2.2.2.2.2.1=a.1.2.2.2.2.2.1/\a.1.2.2.2.2.2.2=a.1.2.2.2.2.2.2/\d=g/\True
def yO(c:List Int)(d:Int) :=
 List.set c (Int.toNat (10:Int)) (IntKind.wrap .u8 (cP IntKind.i64 d (8:Int)))
def FU(a:(Int×Int×Int×Int×Bool×Int×Int)×List Int)(c:List Int) :=
 (c.length:Int)<=1099511627776/\ ∀(d:Int),d=65535 -oc (aZ true c)->(0:Int)<=8/\(0:Int)<=10/\10<(c.length:Int)/\(0:Int)<=11/\11<((List.length (yO c d)):Int)/\(List.length (List.set (yO c d) (Int.toNat (11:Int)) (IntKind.wrap .u8 d))+a.2.length)*(1:Nat)<=(140737488355328:Nat)/\List.set (yO c d) (Int.toNat (11:Int)) (IntKind.wrap .u8 d)++a.2=cN a/\(0:Int)=c8 a
def kA(a:(Int×Int×Int×Int×Bool×Int×Int)×List Int) :=
 (20:Int)+(a.2.length:Int)
def xF(b:Int) :=
 jK [(1:Int),(1:Int),(2:Int),(2:Int),(2:Int),(1:Int),(1:Int),(2:Int),(4:Int),(4:Int)] b.toNat
def C3(a:(Int×Int×Int×Int×Bool×Int×Int)×List Int)(b:Int) :=
 jK [(69:Int),a.1.1,IntKind.wrap .i64 (kA a),a.1.2.1,(16384:Int),a.1.2.2.1,a.1.2.2.2.1,(0:Int),IntKind.wrap .i64 a.1.2.2.2.2.2.1,IntKind.wrap .i64 a.1.2.2.2.2.2.2] b.toNat
def Dq(a:(Int×Int×Int×Int×Bool×Int×Int)×List Int)(b:Int) :=
 jK [(69:Int),a.1.1,IntKind.wrap .i64 (kA a),a.1.2.1,(0:Int),a.1.2.2.1,a.1.2.2.2.1,(0:Int),IntKind.wrap .i64 a.1.2.2.2.2.2.1,IntKind.wrap .i64 a.1.2.2.2.2.2.2] b.toNat
theorem ab1 :
 ∀(a:(Int×Int×Int×Int×Bool×Int×Int)×List Int),CT.wf vY a/\True->(a.2.length:Int)<=1073741824->ad (! decide (jl a.1=0)) (([]:List Int)=cN a/\jl a.1=c8 a) (ad (decide (1480<(a.2.length:Int))) (([]:List Int)=cN a/\(5:Int)=c8 a) (ad a.1.2.2.2.2.1 ((∃(b:Int) (c:List Int),(0<=b/\b<=10/\c=List.take (oU b.toNat) (fb a.1 (kA a)))/\(69:Int)=69/\(1:Int)=1/\a.1.1=a.1.1/\(1:Int)=1/\IntKind.wrap .i64 (kA a)=IntKind.wrap .i64 (kA a)/\(2:Int)=2/\a.1.2.1=a.1.2.1/\(2:Int)=2/\(16384:Int)=16384/\(Eo a b c))/\ ∀(b:Int)(c:List Int),0<=b/\b<=10/\c=List.take (oU b.toNat) (fb a.1 (kA a))->ad (decide (b<10)) (0<=b/\b<(↑(10:Nat):Int)/\(c.length:Int)<=1099511627776/\ ∀(d:List Int)(e:Int),d=bu c (C3 a b) (xF b)/\e=nN (C3 a b) (xF b)-> ∃(f:Int) (g:List Int),(0<=f/\f<=10/\g=List.take (oU f.toNat) (fb a.1 (kA a)))/\Int.toNat ((10:Int)
 -f)<Int.toNat ((10:Int) -b)/\(69:Int)=69/\(1:Int)=1/\a.1.1=a.1.1/\(1:Int)=1/\IntKind.wrap .i64 (kA a)=IntKind.wrap .i64 (kA a)/\(2:Int)=2/\a.1.2.1=a.1.2.1/\(2:Int)=2/\(16384:Int)=16384/\(GB a b d f g)) (FU a c)) ((∃(b:Int) (c:List Int),(0<=b/\b<=10/\c=List.take (oU b.toNat) (fb a.1 (kA a)))/\(69:Int)=69/\(1:Int)=1/\a.1.1=a.1.1/\(1:Int)=1/\IntKind.wrap .i64 (kA a)=IntKind.wrap .i64 (kA a)/\(2:Int)=2/\a.1.2.1=a.1.2.1/\(2:Int)=2/\(0:Int)=0/\(Eo a b c))/\ ∀(b:Int)(c:List Int),0<=b/\b<=10/\c=List.take (oU b.toNat) (fb a.1 (kA a))->ad (decide (b<10)) (0<=b/\b<(↑(10:Nat):Int)/\(c.length:Int)<=1099511627776/\ ∀(d:List Int)(e:Int),d=bu c (Dq a b) (xF b)/\e=nN (Dq a b) (xF b)-> ∃(f:Int) (g:List Int),(0<=f/\f<=10/\g=List.take (oU f.toNat) (fb a.1 (kA a)))/\Int.toNat ((10:Int) -f)<Int.toNat ((10:Int)
 -b)/\(69:Int)=69/\(1:Int)=1/\a.1.1=a.1.1/\(1:Int)=1/\IntKind.wrap .i64 (kA a)=IntKind.wrap .i64 (kA a)/\(2:Int)=2/\a.1.2.1=a.1.2.1/\(2:Int)=2/\(0:Int)=0/\(GB a b d f g)) (FU a c)))):=by
  delta Eo GB FU kA xF yO C3 Dq
  rintro d ⟨⟨hw,-⟩,-⟩ hl
  obtain⟨-,-,-,-,-,s0,d0⟩:=hw
  have s0:0<=d.1.2.2.2.2.2.1/\d.1.2.2.2.2.2.1<=4294967295:=s0
  have d0:0<=d.1.2.2.2.2.2.2/\d.1.2.2.2.2.2.2<=4294967295:=d0
  refine ae (fun hc=>?_) (fun hc=>?_)
  ·have hn:¬ iZ d.1:=fun k=>by rw[jl,if_pos k] at hc;cases hc
   have he:c8 d=1:=by rw[c8,if_pos hn]
   rw[cN,he,jl,if_neg hn];exact⟨rfl,rfl⟩
  have hok:iZ d.1:=Classical.byContradiction fun k=>by rw[jl,if_neg k] at hc;cases hc
  refine ae (fun h5=>?_) (fun h5=>?_)
  ·have h5:=of_decide_eq_true h5
   have he:c8 d=5:=by rw[c8,if_neg (fun k=>k hok),if_pos h5]
   rw[cN,he];exact⟨rfl,rfl⟩
  have h5:=of_decide_eq_false h5
  have he:c8 d=0:=by rw[c8,if_neg (fun k=>k hok),if_neg h5]
  have e20:IntKind.wrap .i64 (20+(d.2.length:Int))=20+d.2.length:=af (by omega) (by omega)
  have es:IntKind.wrap .i64 d.1.2.2.2.2.2.1=d.1.2.2.2.2.2.1:=af (by have:=s0.1;omega) (by have:=s0.2;omega)
  have ed:IntKind.wrap .i64 d.1.2.2.2.2.2.2=d.1.2.2.2.2.2.2:=af (by have:=d0.1;omega) (by have:=d0.2;omega)
  have hc:=mQ (yW (n:=20+d.2.length) hok)
  have hbl:=Vo d.1 (20+d.2.length)
  have step:=fun f hf k=>Sz (h:=d.1) (n:=20+d.2.length) (f:=f) (k:=k) hok (by omega) (by omega) s0 d0 hf
  have fin:∀ ys,ys=fb d.1 (20+d.2.length)->(List.set (List.set ys (Int.toNat 10) (IntKind.wrap .u8 (cP .i64 (65535-oc (aZ true ys)) 8))) (Int.toNat 11) (IntKind.wrap .u8 (65535-oc (aZ true ys)))++d.2=cN d/\(0:Int)=c8 d):=by
   rintro ys rfl
   have hc:0<=65535-oc (aZ true (fb d.1 (20+d.2.length))):=hc.1
   rw[Es hc,IntKind.wrap_u8',IntKind.wrap_u8',cN,he,if_pos rfl]
   exact⟨rfl,rfl⟩
  rw[e20,es,ed]
  refine ae (fun hk=>?_) (fun hk=>?_)
  ·refine⟨⟨0,[],⟨by omega,by omega,rfl⟩,(by repeat' first|exact trivial|refine⟨trivial,?_⟩|refine⟨(by with_reducible rfl),?_⟩|refine⟨af (by omega) (by omega),?_⟩|refine⟨rfl,?_⟩)⟩,?_⟩
   rintro k ys ⟨k0,k1,rfl⟩
   refine ae (fun h=>?_) (fun h=>?_)
   ·have h:=of_decide_eq_true h
    have st:=step 16384 (by rw[hk];rfl) k k0 h
    refine⟨k0,h,by rw[List.length_take];omega,?_⟩
    rintro y _ ⟨rfl,-⟩
    exact⟨k+1,_,⟨by omega,by omega,st⟩,by omega,(by repeat' first|exact trivial|refine⟨trivial,?_⟩|refine⟨(by with_reducible rfl),?_⟩|refine⟨af (by omega) (by omega),?_⟩|refine⟨rfl,?_⟩)⟩
   ·have h:=of_decide_eq_false h
    have e10:k=10:=by omega
    subst e10
    have et:(fb d.1 (20+d.2.length)).take (oU (Int.toNat 10))=fb d.1 (20+d.2.length):=List.take_of_length_le (by rw[hbl];decide)
    rw[et]
    refine⟨by omega,?_⟩
    rintro c rfl
    refine⟨by omega,by omega,by omega,by omega,by rw[List.length_set];omega,by rw[List.length_set,List.length_set];omega,fin _ rfl⟩
  ·refine⟨⟨0,[],⟨by omega,by omega,rfl⟩,(by repeat' first|exact trivial|refine⟨trivial,?_⟩|refine⟨(by with_reducible rfl),?_⟩|refine⟨af (by omega) (by omega),?_⟩|refine⟨rfl,?_⟩)⟩,?_⟩
   rintro k ys ⟨k0,k1,rfl⟩
   refine ae (fun h=>?_) (fun h=>?_)
   ·have h:=of_decide_eq_true h
    have st:=step 0 (by rw[hk];rfl) k k0 h
    refine⟨k0,h,by rw[List.length_take];omega,?_⟩
    rintro y _ ⟨rfl,-⟩
    exact⟨k+1,_,⟨by omega,by omega,st⟩,by omega,(by repeat' first|exact trivial|refine⟨trivial,?_⟩|refine⟨(by with_reducible rfl),?_⟩|refine⟨af (by omega) (by omega),?_⟩|refine⟨rfl,?_⟩)⟩
   ·have h:=of_decide_eq_false h
    have e10:k=10:=by omega
    subst e10
    have et:(fb d.1 (20+d.2.length)).take (oU (Int.toNat 10))=fb d.1 (20+d.2.length):=List.take_of_length_le (by rw[hbl];decide)
    rw[et]
    refine⟨by omega,?_⟩
    rintro c rfl
    refine⟨by omega,by omega,by omega,by omega,by rw[List.length_set];omega,by rw[List.length_set,List.length_set];omega,fin _ rfl⟩
theorem Ns:av Tryz.prog GL 279 Jx.spec:=Ct.okH _ Tryz.func279 (by kernel_rfl) (ai (ai (ai aC Qf) (Ct.named O2)) (Ct.named uU)) ar VJ (aD (by kernel_rfl) ab1)
def LG:Ct:=⟨[.val cI,.box 22 (.row 5 bj),.box 3 cI],[.val cI],fun d=>[(d.2.1.length:Int)<=100000,0<=d.1,d.1<=8,0<=d.2.2.1,d.2.2.1<=100000],fun d=>((dL d.2.1 d.2.2.1 d.1,()),(d.2.1,d.2.2.1+d.1,()))⟩
def Z5:ao LG.ps->az:=(fun _=>{})
theorem X3 :
 ∀(a:Int)(b:List Int)(c:Int),ab a/\(b.length<=maxLen/\ ∀(d:Int),d∈b->0<=d/\d<=255)/\ab c/\True->(b.length:Int)<=100000/\0<=a/\a<=8/\0<=c/\c<=100000->(b.length:Int)<=1099511627776/\dL b c a=dL b c a/\b=b/\IntKind.wrap .i64 (c+a)=c+a:=by
  rintro w b a-⟨h1,h2,h3,h4,h5⟩
  exact⟨by omega,rfl,rfl,af (by omega) (by omega)⟩
theorem WB:av Tryz.prog GL 207 LG.spec:=Ct.okH _ Tryz.func207 (by kernel_rfl) (ai aC Fz) ar Z5 (aD (by kernel_rfl) X3)
def Kf:Ct:=⟨[.val (.sl bj)],[.agg jX,.val cI,.val cI],fun d=>[(d.1.length:Int)<=1099511627776],fun d=>((oQ d.1,m6 d.1,fC d.1,()),())⟩
def U1:ao Kf.ps->az:=(fun _=>{})
def sJ :=
 ((0:Int),(0:Int),(0:Int),(0:Int),false,(0:Int),(0:Int))
def zM(a:List Int) :=
 bW a (Int.toNat (0:Int)) (Int.toNat (20:Int))
theorem VV :
 ∀(a:List Int),(a.length<=maxLen/\ ∀(b:Int),b∈a->0<=b/\b<=255)/\True->(a.length:Int)<=1099511627776->ad (decide ((a.length:Int)<20)) ((sJ)=oQ a/\(0:Int)=m6 a/\(3:Int)=fC a) ((0:Int)<=0/\(0:Int)<=20/\20<=(a.length:Int)/\((List.length (zM a)):Int)<=1099511627776/\((List.length (zM a)):Int)<=100000/\(0:Int)<=1/\(1:Int)<=8/\(0:Int)<=0/\(0:Int)<=100000/\ ∀(b:Int)(c:List Int)(d:Int),b=dL (zM a) (0:Int) (1:Int)/\c=bW a (Int.toNat (0:Int)) (Int.toNat (20:Int))/\d=0+(1:Int)->(c.length:Int)<=100000/\(0:Int)<=1/\(1:Int)<=8/\0<=d/\d<=100000/\ ∀(e:Int)(f:List Int)(g:Int),e=dL c d (1:Int)/\f=c/\g=d+(1:Int)->(f.length:Int)<=100000/\(0:Int)<=2/\(2:Int)<=8/\0<=g/\g<=100000/\ ∀(h:Int)(i:List Int)(j:Int),h=dL f g (2:Int)/\i=f/\j=g+(2:Int)->(i.length:Int)<=100000/\(0:Int)<=2/\(2:Int)<=8/\0<=j/\j<=100000/\ ∀(k:Int)(l:List Int)(m:Int),k=dL i j
 (2:Int)/\l=i/\m=j+(2:Int)->(l.length:Int)<=100000/\(0:Int)<=2/\(2:Int)<=8/\0<=m/\m<=100000/\ ∀(n:Int)(o:List Int)(p:Int),n=dL l m (2:Int)/\o=l/\p=m+(2:Int)->(o.length:Int)<=100000/\(0:Int)<=1/\(1:Int)<=8/\0<=p/\p<=100000/\ ∀(q:Int)(r:List Int)(s:Int),q=dL o p (1:Int)/\r=o/\s=p+(1:Int)->(r.length:Int)<=100000/\(0:Int)<=1/\(1:Int)<=8/\0<=s/\s<=100000/\ ∀(t:Int)(u:List Int)(v:Int),t=dL r s (1:Int)/\u=r/\v=s+(1:Int)->(u.length:Int)<=100000/\(0:Int)<=2/\(2:Int)<=8/\0<=v/\v<=100000/\ ∀(w:Int)(x:List Int)(y:Int),w=dL u v (2:Int)/\x=u/\y=v+(2:Int)->(x.length:Int)<=100000/\(0:Int)<=4/\(4:Int)<=8/\0<=y/\y<=100000/\ ∀(z:Int)(A:List Int)(B:Int),z=dL x y (4:Int)/\A=x/\B=y+(4:Int)->(A.length:Int)<=100000/\(0:Int)<=4/\(4:Int)<=8/\0<=B/\B<=100000/\ ∀(C:Int)(D:List Int)(E:Int),C=dL A B (4:Int)/\D=A/\E=B+(4:Int)-> ∀(F:Bool),F= ! decide (b=69)->((! F)->((! F)->(! F))/\True)/\((!
 F)->((! F)->(! F))/\True)/\ ∀(G:Bool),G= ! decide (n=0)->((! F&&G)->((! F&&G)->(! F&&G))/\True)/\((! F&&G)->((! F&&G)->(! F&&G))/\True)/\((! F)->((! F)->(! F))/\(G->(! F&&G))/\True)/\(F=false->(! F))/\ ∀(H:Bool),(H=bif F then true else bif G then ! decide (n=16384) else false)->((! H)->((! H)->(! H))/\True)/\(H=false->(! H))/\ad (bif H then true else decide (h<20)) ((sJ)=oQ a/\(0:Int)=m6 a/\(2:Int)=fC a) ((0:Int)<=10/\10<(D.length:Int)/\(0:Int)<=11/\11<((List.length (List.set D (Int.toNat (10:Int)) (0:Int))):Int)/\((List.length (List.set (List.set D (Int.toNat (10:Int)) (0:Int)) (Int.toNat (11:Int)) (0:Int))):Int)<=1099511627776/\ ∀(I:Int),I=65535 -oc (aZ true (List.set (List.set D (Int.toNat (10:Int)) (0:Int)) (Int.toNat (11:Int)) (0:Int)))->ad (! decide (I=w)) ((sJ)=oQ a/\(0:Int)=m6 a/\(4:Int)=fC a) ((e,k,q,t,decide (n=16384),IntKind.wrap .u32 z,IntKind.wrap
 .u32 C)=oQ a/\h=m6 a/\(0:Int)=fC a))):=by
  delta sJ zM
  rintro b ⟨⟨-,hb⟩,-⟩ hl
  refine ae (fun h=>?_) (fun h=>?_)
  ·have h:=of_decide_eq_true h
   have e:fC b=3:=by rw[fC,if_pos h]
   rw[oQ,m6,e];exact⟨rfl,rfl,rfl⟩
  have h:=of_decide_eq_false h
  have hB:bW b (Int.toNat 0) (Int.toNat 20)=b.take 20:=rfl
  have hBl:(b.take 20).length=20:=by rw[List.length_take];omega
  rw[hB]
  refine⟨by omega,by omega,by omega,by omega,by omega,by omega,by omega,by omega,by omega,?_⟩
  rintro v0 _ a0 ⟨e0,rfl,q0⟩
  rw[AT (by omega) (by omega),rB (by decide)] at e0
  have q0:a0=1:=q0
  subst q0
  refine⟨by omega,by omega,by omega,by omega,by omega,?_⟩
  rintro v1 _ a1 ⟨e1,rfl,q1⟩
  rw[AT (by omega) (by omega),rB (by decide)] at e1
  have q1:a1=2:=q1
  subst q1
  refine⟨by omega,by omega,by omega,by omega,by omega,?_⟩
  rintro v2 _ a2 ⟨e2,rfl,q2⟩
  rw[ub (by omega) (by omega),n9 (by decide)] at e2
  have q2:a2=4:=q2
  subst q2
  refine⟨by omega,by omega,by omega,by omega,by omega,?_⟩
  rintro v3 _ a3 ⟨e3,rfl,q3⟩
  rw[ub (by omega) (by omega),n9 (by decide)] at e3
  have q3:a3=6:=q3
  subst q3
  refine⟨by omega,by omega,by omega,by omega,by omega,?_⟩
  rintro v4 _ a4 ⟨e4,rfl,q4⟩
  rw[ub (by omega) (by omega),n9 (by decide)] at e4
  have q4:a4=8:=q4
  subst q4
  refine⟨by omega,by omega,by omega,by omega,by omega,?_⟩
  rintro v5 _ a5 ⟨e5,rfl,q5⟩
  rw[AT (by omega) (by omega),rB (by decide)] at e5
  have q5:a5=9:=q5
  subst q5
  refine⟨by omega,by omega,by omega,by omega,by omega,?_⟩
  rintro v6 _ a6 ⟨e6,rfl,q6⟩
  rw[AT (by omega) (by omega),rB (by decide)] at e6
  have q6:a6=10:=q6
  subst q6
  refine⟨by omega,by omega,by omega,by omega,by omega,?_⟩
  rintro v7 _ a7 ⟨e7,rfl,q7⟩
  rw[ub (by omega) (by omega),n9 (by decide)] at e7
  have q7:a7=12:=q7
  subst q7
  refine⟨by omega,by omega,by omega,by omega,by omega,?_⟩
  rintro v8 _ a8 ⟨e8,rfl,q8⟩
  rw[Ok (by omega) (by omega),vl (by decide)] at e8
  have q8:a8=16:=q8
  subst q8
  refine⟨by omega,by omega,by omega,by omega,by omega,?_⟩
  rintro v9 _ a9 ⟨e9,rfl,q9⟩
  rw[Ok (by omega) (by omega),vl (by decide)] at e9
  have q9:a9=20:=q9
  subst q9
  subst e0 e1 e2 e3 e4 e5 e6 e7 e8 e9
  have n12:=sF hb 12
  have n16:=sF hb 16
  have hcs:65535-oc (aZ true (((b.take 20).set (Int.toNat 10) 0).set (Int.toNat 11) 0))=bV (bz (b.take 20) 10 0):=rfl
  (repeat (intro (b_:Bool) (hb_:b_=_);(repeat refine⟨(by first|(simp;done)|(rw[hb_];simp;done)|(rw[hb_];simp;omega)|(rw[hb_];simp;intros;omega)|(rw[hb_];simp +contextual;done)),?_⟩);subst hb_))
  refine ae (fun hc=>?_) (fun hc=>?_)
  ·have e:fC b=2:=by
    rw[fC,if_neg h,if_pos]
    rintro⟨h0,hf,h2⟩
    rw[show b.getD (Int.toNat 0) default=69 from h0] at hc
    rcases hf with hf|hf
    ·rw[show aG b (Int.toNat 6)=0 from hf] at hc
     simp at hc
     have h2:20<=aG b (Int.toNat 2):=h2
     simp at h2;omega
    ·rw[show aG b (Int.toNat 6)=16384 from hf] at hc
     simp at hc
     have h2:20<=aG b (Int.toNat 2):=h2
     simp at h2;omega
   rw[oQ,m6,e];exact⟨rfl,rfl,rfl⟩
  have hg:b.getD 0 default=69/\(aG b 6=0∨aG b 6=16384)/\20<=aG b 2:=by
   by_cases h0:b.getD (Int.toNat 0) default=69
   ·by_cases h6:aG b (Int.toNat 6)=0
    ·simp[h0,h6] at hc
     exact⟨h0,.inl h6,by omega⟩
    ·by_cases h7:aG b (Int.toNat 6)=16384
     ·simp[h0,h7] at hc
      exact⟨h0,.inr h7,by omega⟩
     ·exfalso
      rw[h0,decide_eq_false h6,decide_eq_false h7] at hc;simp at hc
   ·exfalso
    rw[decide_eq_false h0] at hc;simp at hc
  refine⟨by omega,by omega,by omega,by rw[List.length_set];omega,by rw[List.length_set,List.length_set];omega,?_⟩
  rw[hcs]
  rintro c rfl
  refine ae (fun hc=>?_) (fun hc=>?_)
  ·have e:fC b=4:=by
    rw[fC,if_neg h,if_neg (fun k=>k hg),if_pos]
    intro k
    rw[show aG b (Int.toNat 10)=aG b 10 from rfl,k] at hc;simp at hc
   rw[oQ,m6,e];exact⟨rfl,rfl,rfl⟩
  ·have e:fC b=0:=by
    rw[fC,if_neg h,if_neg (fun k=>k hg),if_neg]
    intro k
    exact k (by simpa using hc)
   rw[oQ,m6,e,if_pos rfl,if_pos rfl,show Int.toNat 12=12 from rfl,show Int.toNat 16=16 from rfl,qx n12.1 n12.2,qx n16.1 n16.2]
   exact⟨rfl,rfl,rfl⟩
theorem S5:av Tryz.prog GL 161 Kf.spec:=Ct.okH _ Tryz.func161 (by kernel_rfl) (ai (ai (ai aC pE) (Ct.named WB)) (Ct.named uU)) ar U1 (aD (by kernel_rfl) VV)
def HG:Ct:=⟨[.val (.sl bj)],[.agg vY,.val cI],fun d=>[(d.1.length:Int)<=1099511627776],fun d=>((aS d.1,bU d.1,()),())⟩
def S8:ao HG.ps->az:=(fun _=>{})
theorem am4 :
 ∀(a:List Int),(a.length<=maxLen/\ ∀(b:Int),b∈a->0<=b/\b<=255)/\True->(a.length:Int)<=1099511627776->(a.length:Int)<=1099511627776/\ad (! decide (fC a=0)) (((sJ),([]:List Int))=aS a/\fC a=bU a) (ad (! decide (m6 a=(a.length:Int))) (((sJ),([]:List Int))=aS a/\(2:Int)=bU a) (ad (decide (1500<m6 a)) (((sJ),([]:List Int))=aS a/\(5:Int)=bU a) ((0:Int)<=20/\20<=(a.length:Int)/\(a.length:Int)<=(a.length:Int)/\((List.length (bW a (Int.toNat (20:Int)) (Int.toNat (a.length:Int)))):Int)<=1099511627776/\(oQ a,bW a (Int.toNat (20:Int)) (Int.toNat (a.length:Int)))=aS a/\(0:Int)=bU a))):=by
  delta sJ
  rintro b ⟨⟨-,hb⟩,-⟩ hl
  refine⟨hl,ae (fun hc=>?_) (fun hc=>?_)⟩
  ·have hc:¬ fC b=0:=by simpa using hc
   have e:bU b=fC b:=by rw[bU,if_pos hc]
   rw[aS,e,if_neg hc];exact⟨rfl,rfl⟩
  have hc:fC b=0:=by simpa using hc
  have hlen:m6 b=aG b 2:=by rw[m6,if_pos hc]
  rw[hlen]
  refine ae (fun h2=>?_) (fun h2=>?_)
  ·have h2:¬ aG b 2=b.length:=by simpa using h2
   have e:bU b=2:=by rw[bU,if_neg (fun k=>k hc),if_pos h2]
   rw[aS,e];exact⟨rfl,rfl⟩
  have h2:aG b 2=b.length:=by simpa using h2
  refine ae (fun h5=>?_) (fun h5=>?_)
  ·have h5:=of_decide_eq_true h5
   have e:bU b=5:=by rw[bU,if_neg (fun k=>k hc),if_neg (fun k=>k h2),if_pos h5]
   rw[aS,e];exact⟨rfl,rfl⟩
  have h5:=of_decide_eq_false h5
  have e:bU b=0:=by rw[bU,if_neg (fun k=>k hc),if_neg (fun k=>k h2),if_neg h5]
  have h20:=Ah hc
  rw[show Int.toNat 20=20 from rfl,si,aS,e,if_pos rfl,oQ,if_pos hc,List.length_drop]
  exact⟨by omega,by omega,by omega,by omega,rfl,rfl⟩
theorem Bd:av Tryz.prog GL 88 HG.spec:=Ct.okH _ Tryz.func88 (by kernel_rfl) (ai (ai aC S5) pE) ar S8 (aD (by kernel_rfl) am4)
def Nf:Ct:=⟨[.val (.sl bj)],[.own 5 bj,.val cI],fun d=>[(d.1.length:Int)<=1099511627776],fun d=>((gE d.1,fY d.1,()),())⟩
def XX:ao Nf.ps->az:=(fun _=>{})
def ER(a:List Int) :=
 (((aS a).1.1,(aS a).1.2.1,IntKind.wrap .i64 ((aS a).1.2.2.1 -(1:Int)),(aS a).1.2.2.2),(aS a).2)
theorem at1 :
 ∀(a:List Int),(a.length<=maxLen/\ ∀(b:Int),b∈a->0<=b/\b<=255)/\True->(a.length:Int)<=1099511627776->(a.length:Int)<=1099511627776/\ad (! decide (bU a=0)) (([]:List Int)=gE a/\bU a=fY a) (ad (decide ((aS a).1.2.2.1<2)) (([]:List Int)=gE a/\(7:Int)=fY a) (((List.length (aS a).2):Int)<=1073741824/\cN (ER a)=gE a/\c8 (ER a)=fY a)):=by
  delta ER
  rintro b ⟨⟨-,hb⟩,-⟩ hl
  refine⟨hl,ae (fun hc=>?_) (fun hc=>?_)⟩
  ·have hc:¬ bU b=0:=by simpa using hc
   have e:fY b=bU b:=by rw[fY,if_pos hc]
   rw[gE,e,if_neg hc];exact⟨rfl,rfl⟩
  have hc:bU b=0:=by simpa using hc
  have hp:aS b=(bN b,b.drop 20):=by rw[aS,if_pos hc]
  rw[hp]
  have h8:=Bi hb (i:=8) (by have:=Ah (AL hc);omega)
  refine ae (fun h2=>?_) (fun h2=>?_)
  ·have h2:=of_decide_eq_true h2
   have e:fY b=7:=by rw[fY,if_neg (fun k=>k hc),if_pos h2]
   rw[gE,e];exact⟨rfl,rfl⟩
  have h2:=of_decide_eq_false h2
  have e:fY b=0:=by rw[fY,if_neg (fun k=>k hc),if_neg h2]
  have hd:=wn hc
  have h82:¬ b.getD 8 default<2:=h2
  rw[gE,e,if_pos rfl]
  have hok:=ai0 hb hc h2
  refine⟨by rw[List.length_drop];omega,?_⟩
  have ew:IntKind.wrap .i64 ((bN b).2.2.1-1)=(bN b).2.2.1-1:=af (by show _<=b.getD 8 default-1;omega) (by show b.getD 8 default-1<=_;omega)
  rw[ew]
  refine⟨rfl,?_⟩
  rw[c8,if_neg (fun k=>k hok),if_neg]
  simp only[List.length_drop];omega
theorem YP:av Tryz.prog GL 249 Nf.spec:=Ct.okH _ Tryz.func249 (by kernel_rfl) (ai (ai aC Bd) Ns) ar XX (aD (by kernel_rfl) at1)
def Hm:Ct:=⟨[.agg jX],[.val cI],fun d=>[],fun d=>((jl d.1,()),())⟩
def PU:ao Hm.ps->az:=(fun _=>{})
theorem af4 :
 ∀(a:bS),CT.wf jX a/\True->True-> ∀(b:Bool),b=decide (a.1<0)->((! b)->((! b)->(! b))/\True)/\((! b)->((! b)->(! b))/\True)/\(b=false->(! b))/\ ∀(c:Bool),(c=bif b then true else decide (255<a.1))->((! c)->((! c)->(! c))/\True)/\((! c)->((! c)->(! c))/\True)/\(c=false->(! c))/\ ∀(d:Bool),(d=bif c then true else decide (a.2.2.1<0))->((! d)->((! d)->(! d))/\True)/\((! d)->((! d)->(! d))/\True)/\(d=false->(! d))/\ ∀(e:Bool),(e=bif d then true else decide (255<a.2.2.1))->((! e)->((! e)->(! e))/\True)/\((! e)->((! e)->(! e))/\True)/\(e=false->(! e))/\ ∀(f:Bool),(f=bif e then true else decide (a.2.2.2.1<0))->((! f)->((! f)->(! f))/\True)/\((! f)->((! f)->(! f))/\True)/\(f=false->(! f))/\ ∀(g:Bool),(g=bif f then true else decide (255<a.2.2.2.1))->((! g)->((! g)->(! g))/\True)/\((! g)->((! g)->(! g))/\True)/\(g=false->(! g))/\ ∀(h:Bool),(h=bif g then true else decide (a.2.1<0))->((! h)->((!
 h)->(! h))/\True)/\((! h)->((! h)->(! h))/\True)/\(h=false->(! h))/\ad (bif h then true else decide (65535<a.2.1)) ((1:Int)=jl a) ((0:Int)=jl a):=by
  rintro h - -
  (repeat (intro (b_:Bool) (hb_:b_=_);(repeat refine⟨(by first|(simp;done)|(rw[hb_];simp;done)|(rw[hb_];simp;omega)|(rw[hb_];simp;intros;omega)|(rw[hb_];simp +contextual;done)),?_⟩);subst hb_))
  refine ae (fun hc=>?_) (fun hc=>?_)
  ·rw[jl,if_neg]
   intro k;obtain⟨k1,k2,k3,k4,k5⟩:=k
   unfold mK at k1 k2 k3
   simp[Bool.cond_eq_ite] at hc;omega
  ·rw[jl,if_pos]
   unfold iZ mK
   simp[Bool.cond_eq_ite] at hc;omega
theorem WJ:av Tryz.prog GL 140 Hm.spec:=Ct.okH _ Tryz.func140 (by kernel_rfl) aC ar PU (aD (by kernel_rfl) af4)
def HR:Ct:=⟨[.agg jX,.val cI],[.own 5 bj],fun d=>[iZ d.1,0<=d.2.1,d.2.1<=65535],fun d=>((gk d.1 d.2.1,()),())⟩
def SM:ao HR.ps->az:=(fun _=>{})
def Gt(a:bS)(b:Int)(g:List Int) :=
 (g.length:Int)<=1099511627776/\ ∀(h:List Int),h=bu g a.2.2.1 (1:Int)->(h.length:Int)<=1099511627776/\ ∀(i:List Int),i=bu h a.2.2.2.1 (1:Int)->(↑(0:Nat):Int)<=1099511627776/\ ∀(j:List Int),j=bu ([]:List Int) (IntKind.wrap .i64 a.2.2.2.2.2.1) (4:Int)->(j.length:Int)<=1099511627776/\ ∀(k:List Int),k=bu j (IntKind.wrap .i64 a.2.2.2.2.2.2) (4:Int)->i.length*(1:Nat)<=(140737488355328:Nat)/\(List.length [(0:Int),(0:Int)]+k.length)*(1:Nat)<=(140737488355328:Nat)/\(i.length+List.length ([(0:Int),(0:Int)]++k))*(1:Nat)<=(140737488355328:Nat)/\((List.length (i++([(0:Int),(0:Int)]++k))):Int)<=1099511627776/\ ∀(l:Int),l=65535 -oc (aZ true (i++([(0:Int),(0:Int)]++k)))->(i.length:Int)<=1099511627776/\ ∀(m:List Int),m=bu i l (2:Int)->(m.length+k.length)*(1:Nat)<=(140737488355328:Nat)/\m++k=gk a b
theorem Zv :
 ∀(a:bS)(b:Int),CT.wf jX a/\ab b/\True->iZ a/\0<=b/\b<=65535->ad a.2.2.2.2.1 ((↑(0:Nat):Int)<=1099511627776/\ ∀(c:List Int),c=bu ([]:List Int) (69:Int) (1:Int)->(c.length:Int)<=1099511627776/\ ∀(d:List Int),d=bu c a.1 (1:Int)->(d.length:Int)<=1099511627776/\ ∀(e:List Int),e=bu d b (2:Int)->(e.length:Int)<=1099511627776/\ ∀(f:List Int),f=bu e a.2.1 (2:Int)->(f.length:Int)<=1099511627776/\ ∀(g:List Int),g=bu f (16384:Int) (2:Int)->(Gt a b g)) ((↑(0:Nat):Int)<=1099511627776/\ ∀(c:List Int),c=bu ([]:List Int) (69:Int) (1:Int)->(c.length:Int)<=1099511627776/\ ∀(d:List Int),d=bu c a.1 (1:Int)->(d.length:Int)<=1099511627776/\ ∀(e:List Int),e=bu d b (2:Int)->(e.length:Int)<=1099511627776/\ ∀(f:List Int),f=bu e a.2.1 (2:Int)->(f.length:Int)<=1099511627776/\ ∀(g:List Int),g=bu f (0:Int) (2:Int)->(Gt a b g)):=by
  delta Gt
  rintro h n ⟨hw,-⟩⟨hok,n0,n1⟩
  obtain⟨-,-,-,-,-,s0,d0⟩:=hw
  have s0:0<=h.2.2.2.2.2.1/\h.2.2.2.2.2.1<=4294967295:=s0
  have d0:0<=h.2.2.2.2.2.2/\h.2.2.2.2.2.2<=4294967295:=d0
  have es:IntKind.wrap .i64 h.2.2.2.2.2.1=h.2.2.2.2.2.1:=af (by omega) (by omega)
  have ed:IntKind.wrap .i64 h.2.2.2.2.2.2=h.2.2.2.2.2.2:=af (by omega) (by omega)
  rw[es,ed]
  have hc:=mQ (yW (n:=n) hok)
  obtain⟨h1,h2,h3,h4,h5⟩:=hok
  have key:∀ f:Int,(f=if h.2.2.2.2.1 then 16384 else 0)->0<=f->f<=65535->((0:Nat):Int)<=1099511627776∧∀ x1,x1=bu [] 69 1->(x1.length:Int)<=1099511627776∧∀ x2,x2=bu x1 h.1 1->(x2.length:Int)<=1099511627776∧∀ x3,x3=bu x2 n 2->(x3.length:Int)<=1099511627776 ∧
    ∀ x4,x4=bu x3 h.2.1 2->(x4.length:Int)<=1099511627776∧∀ x5,x5=bu x4 f 2->(x5.length:Int)<=1099511627776∧∀ x6,x6=bu x5 h.2.2.1 1->(x6.length:Int)<=1099511627776∧∀ x7,x7=bu x6 h.2.2.2.1 1->((0:Nat):Int)<=1099511627776 ∧
    ∀ x8,x8=bu [] h.2.2.2.2.2.1 4->(x8.length:Int)<=1099511627776∧∀ x9,x9=bu x8 h.2.2.2.2.2.2 4->x7.length*1<=140737488355328/\(List.length [(0:Int),0]+x9.length)*1<=140737488355328/\(x7.length+List.length ([0,0]++x9))*1<=140737488355328 ∧
    ((x7++([0,0]++x9)).length:Int)<=1099511627776∧∀ c,c=65535-oc (aZ true (x7++([0,0]++x9)))->(x7.length:Int)<=1099511627776∧∀ x11,x11=bu x7 c 2->(x11.length+x9.length)*1<=140737488355328/\x11++x9=gk h n:=by
   intro f hf f0 f1
   refine⟨by omega,?_⟩
   rintro x1 e1
   rw[pm (by omega) (by omega)] at e1
   refine⟨by rw[e1];simp,?_⟩
   rintro x2 e2
   rw[pm h1.1 h1.2,e1] at e2
   refine⟨by rw[e2];simp,?_⟩
   rintro x3 e3
   rw[gM n0 n1,e2] at e3
   refine⟨by rw[e3];simp[w2],?_⟩
   rintro x4 e4
   rw[gM h4 h5,e3] at e4
   refine⟨by rw[e4];simp[w2],?_⟩
   rintro x5 e5
   rw[gM f0 f1,e4] at e5
   refine⟨by rw[e5];simp[w2],?_⟩
   rintro x6 e6
   rw[pm h2.1 h2.2,e5] at e6
   refine⟨by rw[e6];simp[w2],?_⟩
   rintro x7 e7
   rw[pm h3.1 h3.2,e6] at e7
   have e7:x7=yM h n:=by rw[e7,hf];simp[yM]
   refine⟨by omega,?_⟩
   rintro x8 e8
   rw[rM s0.1 s0.2] at e8
   refine⟨by rw[e8];simp[w4],?_⟩
   rintro x9 e9
   rw[rM d0.1 d0.2,e8] at e9
   have e9:x9=BS h:=e9
   have l7:x7.length=10:=by rw[e7];rfl
   have l9:x9.length=8:=by rw[e9];rfl
   have eb:x7++([0,0]++x9)=fb h n:=by rw[e7,e9];rfl
   refine⟨by omega,by simp[l9],by simp[l7,l9],by simp[l7,l9],?_⟩
   rw[eb]
   rintro c rfl
   refine⟨by omega,?_⟩
   rintro x11 e11
   rw[show 65535-oc (aZ true (fb h n))=bV (fb h n) from rfl,gM hc.1 hc.2] at e11
   refine⟨by rw[e11,List.length_append,l7,l9];simp[w2],?_⟩
   rw[e11,e7,e9,List.append_assoc];rfl
  refine ae (fun hk=>?_) (fun hk=>?_)
  ·exact key 16384 (by rw[hk];rfl) (by omega) (by omega)
  ·exact key 0 (by rw[hk];rfl) (by omega) (by omega)
theorem an2:av Tryz.prog GL 141 HR.spec:=Ct.okH _ Tryz.func141 (by kernel_rfl) (ai (ai aC (Ct.named uY)) (Ct.named ED)) ar SM (aD (by kernel_rfl) Zv)
def IA:Ct:=⟨[.agg vY],[.own 5 bj,.val cI],fun d=>[(d.1.2.length:Int)<=1073741824],fun d=>((cN d.1,c8 d.1,()),())⟩
def X0:ao IA.ps->az:=(fun _=>{})
theorem VX :
 ∀(a:(Int×Int×Int×Int×Bool×Int×Int)×List Int),CT.wf vY a/\True->(a.2.length:Int)<=1073741824->ad (! decide (jl a.1=0)) (([]:List Int)=cN a/\jl a.1=c8 a) (ad (decide (1500<IntKind.wrap .i64 ((a.2.length:Int)+(20:Int)))) (([]:List Int)=cN a/\(5:Int)=c8 a) (iZ a.1/\0<=IntKind.wrap .i64 ((a.2.length:Int)+(20:Int))/\IntKind.wrap .i64 ((a.2.length:Int)+(20:Int))<=65535/\(List.length (gk a.1 (IntKind.wrap .i64 ((a.2.length:Int)+(20:Int))))+a.2.length)*(1:Nat)<=(140737488355328:Nat)/\gk a.1 (IntKind.wrap .i64 ((a.2.length:Int)+(20:Int)))++a.2=cN a/\(0:Int)=c8 a)):=by
  rintro d ⟨⟨hw,-⟩,-⟩ hl
  refine ae (fun hc=>?_) (fun hc=>?_)
  ·have hn:¬ iZ d.1:=fun k=>by rw[jl,if_pos k] at hc;cases hc
   have he:c8 d=1:=by rw[c8,if_pos hn]
   rw[cN,he,jl,if_neg hn];exact⟨rfl,rfl⟩
  have hok:iZ d.1:=Classical.byContradiction fun k=>by rw[jl,if_neg k] at hc;cases hc
  have e20:IntKind.wrap .i64 ((d.2.length:Int)+20)=20+d.2.length:=by rw[af (by omega) (by omega)];omega
  rw[e20]
  refine ae (fun h5=>?_) (fun h5=>?_)
  ·have h5:=of_decide_eq_true h5
   have he:c8 d=5:=by rw[c8,if_neg (fun k=>k hok),if_pos (by omega)]
   rw[cN,he];exact⟨rfl,rfl⟩
  have h5:=of_decide_eq_false h5
  have he:c8 d=0:=by rw[c8,if_neg (fun k=>k hok),if_neg (by omega)]
  refine⟨hok,by omega,by omega,by rw[pc];omega,?_⟩
  rw[cN,he,if_pos rfl]
  exact⟨rfl,rfl⟩
theorem U8:av Tryz.prog GL 77 IA.spec:=Ct.okH _ Tryz.func77 (by kernel_rfl) (ai (ai aC WJ) an2) ar X0 (aD (by kernel_rfl) VX)
end Go.RS

/- Probe: probes, their packets and keys. -/
namespace Go.RS
open Go.SX Go.Proofs
set_option maxRecDepth 100000
set_option linter.unusedVariables false
abbrev xO:CT := .pair ce (.pair ce (.pair cI (.pair cI (.pair cI cI))))
abbrev bL:Type:=Int×Int×Int×Int×Int×Int
def mt(n:Int):Prop:=n=1∨n=6∨n=17
instance (n:Int):Decidable (mt n):=by unfold mt;infer_instance
def iJ(p:bL):Prop:=(0<=p.2.2.2.1/\p.2.2.2.1<=1023)/\(0<=p.2.2.2.2.1/\p.2.2.2.2.1<=65534)/\1<=p.2.2.2.2.2/\p.2.2.2.2.2<=255
instance (p:bL):Decidable (iJ p):=by unfold iJ;infer_instance
def dI(p:bL):Int:=if ¬ mt p.2.2.1 then 16 else if ¬ iJ p then 1 else 0
def nV(p:bL):Int:=oc (65535-(16384+p.2.2.2.1)+bV (bG (false,21075,p.2.2.2.2.1,[0,0])))
def rA(p:bL):Int:=oc (65535-(p.2.2.2.2.1+1)+dr p.1 p.2.1 17 (da (20000+p.2.2.2.1,33434,[0,0])))
def qC(p:bL):Int:=if rA p=0 then 65535 else rA p
def jm(p:bL):kP:=(false,21075,p.2.2.2.2.1,w2 (nV p))
def oF(p:bL):nP:=(20000+p.2.2.2.1,33434,w2 (qC p))
def kG(p:bL):jC:=(20000+p.2.2.2.1,80,p.2.2.2.2.1,0,2,1024,[])
def dA(p:bL):List Int:=if p.2.2.1=1 then dh (jm p) else if p.2.2.1=17 then jN p.1 p.2.1 (oF p) else de p.1 p.2.1 (kG p)
def qm(p:bL):bS:=(0,p.2.2.2.2.1,p.2.2.2.2.2,p.2.2.1,true,p.1,p.2.1)
def build(p:bL):List Int:=if dI p=0 then cN (qm p,dA p) else []
def Rl:mO:=(0,0,0,0,0)
def wz:bL:=(0,0,0,0,0,0)
def uK(x:nF):mO:=(x.1.2.2.2.2.2.1,x.1.2.2.2.2.2.2,x.1.2.2.2.1,if mt x.1.2.2.2.1/\4<=x.2.length then aG x.2 0 else 0,if mt x.1.2.2.2.1/\4<=x.2.length then aG x.2 2 else 0)
def fp(b:List Int):mO:=if bU b=0 then uK (aS b) else Rl
theorem lH{p:bL}:dI p=0↔mt p.2.2.1/\iJ p:=by
 unfold dI
 constructor
 ·intro h
  split at h
  ·cases h
  ·split at h
   ·cases h
   ·rename_i h1 h2;exact⟨Decidable.not_not.1 h1,Decidable.not_not.1 h2⟩
 ·rintro⟨h1,h2⟩
  rw[if_neg (fun k=>k h1),if_neg (fun k=>k h2)]
theorem Bn{b:List Int}{i:Nat}{c:Int}(h:i+2<=b.length)(c0:0<=c)(c1:c<=65535):aG (bz b i c) i=c:=by
 rw[Fu (by rw[jU];exact h)]
 unfold bz
 rw[yz (by omega),K2 (by omega),K2 (by rw[List.length_set];omega)]
 omega
theorem rW{b:List Int}{i j:Nat}{c:Int}(h:j+2<=b.length)(hn:j+2<=i∨i+2<=j):aG (bz b i c) j=aG b j:=by
 rw[Fu (by rw[jU];exact h),Fu h]
 unfold bz
 rw[yz (by omega),yz (by omega),yz (by omega),yz (by omega)]
theorem HT{s d:Int}{p:Int}{X:List Int}(hx:bytes X)(hp:0<p%256):0<=dr s d p X/\dr s d p X<=65534:=by
 have h1:=(wc (a:=s) (b:=d) (p:=p) hx).1
 refine⟨h1,?_⟩
 unfold dr at h1 ⊢
 split
 ·omega
 ·unfold bV
  rw[EN]
  have h2:=Ng s d p X.length
  have h3:=(vH true X hx).1
  unfold oc
  rw[if_neg (by omega)];omega
theorem OY:bytes [0,0]:=j4 (by omega) (by omega) (j4 (by omega) (by omega) kM)
theorem Lz(t:Int):bytes (bG (false,21075,t,[0,0])):=sO OY
theorem DD(f:Int):bytes (da (20000+f,33434,[0,0])):=xd OY
theorem JC{p:bL}(h:iJ p):1<=nV p/\nV p<=65535:=by
 have:=mQ (Lz p.2.2.2.2.1)
 obtain⟨⟨h1,h2⟩,-⟩:=h
 unfold nV oc
 rw[if_neg (by omega)];omega
theorem WN{p:bL}(h:iJ p):0<=rA p/\rA p<=65535:=by
 have:=HT (s:=p.1) (d:=p.2.1) (p:=17) (DD p.2.2.2.1) (by decide)
 obtain⟨-,⟨h1,h2⟩,-⟩:=h
 exact sn (by omega)
theorem J5{p:bL}(h:iJ p):1<=qC p/\qC p<=65535:=by
 have:=WN h
 unfold qC;split <;> omega
theorem uD(n:Int):(w2 n).length=2:=rfl
theorem Gl{p:bL}(h:iJ p):Am (w2 (nV p)) (jm p):=by
 obtain⟨-,⟨h1,h2⟩,-⟩:=h
 exact⟨⟨(gm _).2 ⟨by show (0:Int)<=21075;omega,by show (21075:Int)<=_;omega⟩,(gm _).2 ⟨h1,by show p.2.2.2.2.1<=_;omega⟩⟩,rfl⟩
theorem MW{p:bL}(h:iJ p):Ec (w2 (qC p)) (oF p):=by
 obtain⟨⟨h1,h2⟩,-⟩:=h
 exact⟨⟨(gm _).2 ⟨by show (0:Int)<=20000+p.2.2.2.1;omega,by show 20000+p.2.2.2.1<=_;omega⟩,(gm _).2 ⟨by show (0:Int)<=33434;omega,by show (33434:Int)<=_;omega⟩⟩,rfl⟩
theorem C9{p:bL}(h:iJ p):zq [] (kG p):=by
 obtain⟨⟨h1,h2⟩,⟨h3,h4⟩,-⟩:=h
 refine⟨⟨(gm _).2 ⟨?_,?_⟩,(gm _).2 ⟨?_,?_⟩,⟨?_,?_⟩,⟨?_,?_⟩,⟨?_,?_⟩,(gm _).2 ⟨?_,?_⟩⟩,rfl⟩ <;> simp only[kG] <;> omega
theorem Pg{p:bL}(h:iJ p):hY (jm p)=0:=BH (Gl h) (by rw[uD];omega)
theorem LU{p:bL}(h:iJ p):kK (oF p)=0:=Kn (MW h) (by rw[uD];omega)
theorem KY{p:bL}(h:iJ p):iS (kG p)=0:=Fw (C9 h) (by simp)
theorem ux{p:bL}(h:iJ p)(h1:p.2.2.1=1):dA p=bz (bG (jm p)) 2 (bV (bG (jm p))):=by
 rw[dA,if_pos h1,dh,if_pos (Pg h)]
theorem xX{p:bL}(h:iJ p)(h1:p.2.2.1=17):dA p=bz (da (oF p)) 6 (iO p.1 p.2.1 (da (oF p))):=by
 rw[dA,if_neg (by omega),if_pos h1,jN,if_pos (LU h)]
theorem uJ{p:bL}(h:iJ p)(h1:p.2.2.1=6):dA p=bz (iy (kG p)) 16 (dr p.1 p.2.1 6 (iy (kG p))):=by
 rw[dA,if_neg (by omega),if_neg (by omega),de,if_pos (KY h)]
theorem xW{p:bL}(h:dI p=0):(p.2.2.1≠6/\(dA p).length=10)∨(p.2.2.1=6/\(dA p).length=20):=by
 obtain⟨h1|h1|h1,h2⟩:=lH.1 h
 ·rw[ux h2 h1,jU];exact .inl ⟨by omega,rfl⟩
 ·rw[uJ h2 h1,jU];exact .inr ⟨h1,rfl⟩
 ·rw[xX h2 h1,jU];exact .inl ⟨by omega,rfl⟩
theorem H7{p:bL}(h:dI p=0):bytes (dA p):=by
 obtain⟨h1|h1|h1,h2⟩:=lH.1 h
 ·rw[ux h2 h1];exact qh (sO (jy _))
 ·rw[uJ h2 h1];exact qh (vz (C9 h2).1 kM)
 ·rw[xX h2 h1];exact qh (xd (jy _))
theorem Fg{p:bL}(h:dI p=0):iZ (qm p):=by
 obtain⟨h1,⟨-,⟨h2,h3⟩,h4,h5⟩⟩:=lH.1 h
 refine⟨⟨?_,?_⟩,⟨?_,?_⟩,⟨?_,?_⟩,?_,?_⟩ <;> simp only[qm] <;> unfold mt at h1 <;> omega
theorem LI{p:bL}(h:dI p=0):c8 (qm p,dA p)=0:=by
 rw[c8,if_neg (fun k=>k (Fg h)),if_neg]
 rcases xW h with h|h <;> rw[h.2] <;> simp
theorem zD{p:bL}(h:dI p=0):build p=gk (qm p) (20+(dA p).length)++dA p:=by
 rw[build,if_pos h,cN,if_pos (LI h)]
theorem Cw(p:bL):(build p).length<=40:=by
 by_cases h:dI p=0
 ·rw[zD h,List.length_append,pc]
  rcases xW h with h|h <;> omega
 ·rw[build,if_neg h];simp
theorem DG(p:bL):bytes (build p):=by
 by_cases h:dI p=0
 ·rw[zD h];exact fP (Cl (Fg h)) (H7 h)
 ·rw[build,if_neg h];exact kM
def M9:Ct:=⟨[.agg xO],[.val cI],fun d=>[],fun d=>((dI d.1,()),())⟩
def YS:ao M9.ps->az:=(fun _=>{})
theorem at5 :
 ∀(a b c d e f:Int),((0<=a/\a<=4294967295)/\(0<=b/\b<=4294967295)/\ab c/\ab d/\ab e/\ab f)/\True->True-> ∀(g:Bool),g= ! decide (c=1)->(g->(g->g)/\True)/\(g->(g->g)/\True)/\(g->g)/\ ∀(h:Bool),(h=bif g then ! decide (c=17) else false)->(h->(h->h)/\True)/\(h->(h->h)/\True)/\(h->h)/\ad (bif h then ! decide (c=6) else false) ((16:Int)=dI (a,b,c,d,e,f)) (∀(i:Bool),i=decide (d<0)->((! i)->((! i)->(! i))/\True)/\((! i)->((! i)->(! i))/\True)/\(i=false->(! i))/\ ∀(j:Bool),(j=bif i then true else decide (1023<d))->((! j)->((! j)->(! j))/\True)/\((! j)->((! j)->(! j))/\True)/\(j=false->(! j))/\ ∀(k:Bool),(k=bif j then true else decide (e<0))->((! k)->((! k)->(! k))/\True)/\((! k)->((! k)->(! k))/\True)/\(k=false->(! k))/\ ∀(l:Bool),(l=bif k then true else decide (65534<e))->((! l)->((! l)->(! l))/\True)/\((! l)->((! l)->(! l))/\True)/\(l=false->(! l))/\ ∀(m:Bool),(m=bif l then true else
 decide (f<1))->((! m)->((! m)->(! m))/\True)/\((! m)->((! m)->(! m))/\True)/\(m=false->(! m))/\ad (bif m then true else decide (255<f)) ((1:Int)=dI (a,b,c,d,e,f)) ((0:Int)=dI (a,b,c,d,e,f))):=by
  rintro s d pr f t l - -
  (repeat (intro (b_:Bool) (hb_:b_=_);(repeat refine⟨(by first|(simp;done)|(rw[hb_];simp;done)|(rw[hb_];simp;omega)|(rw[hb_];simp;intros;omega)|(rw[hb_];simp +contextual;done)),?_⟩);subst hb_))
  refine ae (fun hc=>?_) (fun hc=>?_)
  ·rw[dI,if_pos]
   simp only[mt]
   intro k
   rcases k with rfl|rfl|rfl <;> simp at hc
  have hp:mt pr:=by
   unfold mt
   by_cases h1:pr=1
   ·exact .inl h1
   ·by_cases h6:pr=17
    ·exact .inr (.inr h6)
    ·simp[h1,h6] at hc;exact .inr (.inl hc)
  have key:∀(v:Int),(v=if iJ (s,d,pr,f,t,l) then 0 else 1)->v=dI (s,d,pr,f,t,l):=by
   intro v hv
   rw[dI,if_neg (fun k=>k hp),hv]
   by_cases k:iJ (s,d,pr,f,t,l)
   ·rw[if_pos k,if_neg (fun q=>q k)]
   ·rw[if_neg k,if_pos k]
  (repeat (intro (b_:Bool) (hb_:b_=_);(repeat refine⟨(by first|(simp;done)|(rw[hb_];simp;done)|(rw[hb_];simp;omega)|(rw[hb_];simp;intros;omega)|(rw[hb_];simp +contextual;done)),?_⟩);subst hb_))
  refine ae (fun h1=>?_) (fun h1=>?_)
  ·have hn:¬ iJ (s,d,pr,f,t,l):=by
    rintro⟨⟨a,b⟩,⟨a2,b2⟩,a3,b3⟩
    simp only at a b a2 b2 a3 b3
    simp[Bool.cond_eq_ite] at h1;omega
   exact key 1 (by rw[if_neg hn])
  ·have hn:iJ (s,d,pr,f,t,l):=by
    simp[Bool.cond_eq_ite] at h1
    refine⟨⟨?_,?_⟩,⟨?_,?_⟩,?_,?_⟩ <;> simp only <;> omega
   exact key 0 (by rw[if_pos hn])
theorem Le:av Tryz.prog GL 75 M9.spec:=Ct.okH _ Tryz.func75 (by kernel_rfl) aC ar YS (aD (by kernel_rfl) at5)
def On:Ct:=⟨[.val (.sl bj)],[.agg Ej,.val cI],fun d=>[(d.1.length:Int)<=1099511627776],fun d=>((fp d.1,bU d.1,()),())⟩
def al7:ao On.ps->az:=(fun _=>{})
def xr(a:List Int)(b:(Int×Int×Int×Int×Bool×Int×Int)×List Int) :=
 (b.1.2.2.2.2.2.1,b.1.2.2.2.2.2.2,b.1.2.2.2.1,(0:Int),(0:Int))=fp a/\(0:Int)=bU a
def Bm(a:List Int)(b:(Int×Int×Int×Int×Bool×Int×Int)×List Int) :=
 ad (decide (4<=(b.2.length:Int))) ((b.2.length:Int)<=1099511627776/\(b.2.length:Int)<=1099511627776/\(b.1.2.2.2.2.2.1,b.1.2.2.2.2.2.2,b.1.2.2.2.1,dL b.2 (0:Int) (2:Int),dL b.2 (2:Int) (2:Int))=fp a/\(0:Int)=bU a) (xr a b)
theorem R7 :
 ∀(a:List Int),(a.length<=maxLen/\ ∀(b:Int),b∈a->0<=b/\b<=255)/\True->(a.length:Int)<=1099511627776->(a.length:Int)<=1099511627776/\ ∀(b:(Int×Int×Int×Int×Bool×Int×Int)×List Int)(c:Int),b=aS a/\c=bU a->ad (! decide (c=0)) (((0:Int),(0:Int),(0:Int),(0:Int),(0:Int))=fp a/\c=bU a) (ad (decide (b.1.2.2.2.1=1)) (ad (decide (b.1.2.2.2.1=1)) (Bm a b) (xr a b)) (ad (decide (b.1.2.2.2.1=6)) (ad (decide (b.1.2.2.2.1=6)) (Bm a b) (xr a b)) (ad (decide (b.1.2.2.2.1=17)) (Bm a b) (xr a b)))):=by
  delta Bm xr
  rintro b ⟨⟨-,hb⟩,-⟩ hl
  refine⟨hl,?_⟩
  rintro d e ⟨rfl,rfl⟩
  refine ae (fun h=>?_) (fun h=>?_)
  ·have h:¬ bU b=0:=by simpa using h
   rw[fp,if_neg h];exact⟨rfl,rfl⟩
  have h:bU b=0:=by simpa using h
  have hdl:=wn h
  have hk:fp b=uK (aS b):=by rw[fp,if_pos h]
  rw[hk,h]
  have hpl:((aS b).2.length:Int)<=1500:=by rw[aS,if_pos h];simp only[List.length_drop];omega
  generalize aS b=x at *
  have yes:mt x.1.2.2.2.1->(4:Int)<=x.2.length->((x.2.length:Int)<=1099511627776/\(x.2.length:Int)<=1099511627776/\(x.1.2.2.2.2.2.1,x.1.2.2.2.2.2.2,x.1.2.2.2.1,dL x.2 0 2,dL x.2 2 2)=uK x/\(0:Int)=0):=by
   intro h1 h2
   refine⟨by omega,by omega,?_,rfl⟩
   rw[ub (by omega) (by omega),ub (by omega) (by omega),uK,if_pos ⟨h1,by omega⟩,if_pos ⟨h1,by omega⟩];rfl
  have no:¬ (mt x.1.2.2.2.1/\(4:Int)<=x.2.length)->((x.1.2.2.2.2.2.1,x.1.2.2.2.2.2.2,x.1.2.2.2.1,(0:Int),(0:Int))=uK x/\(0:Int)=0):=by
   intro h1
   rw[uK,if_neg (fun k=>h1 ⟨k.1,by omega⟩),if_neg (fun k=>h1 ⟨k.1,by omega⟩)];exact⟨rfl,rfl⟩
  refine ae (fun h1=>?_) (fun h1=>?_)
  ·refine ae (fun _=>?_) (fun k=>by rw[h1] at k;cases k)
   have h1:=of_decide_eq_true h1
   exact ae (fun h4=>yes (.inl h1) (of_decide_eq_true h4)) (fun h4=>no (fun k=>(of_decide_eq_false h4) k.2))
  refine ae (fun h6=>?_) (fun h6=>?_)
  ·refine ae (fun _=>?_) (fun k=>by rw[h6] at k;cases k)
   have h6:=of_decide_eq_true h6
   exact ae (fun h4=>yes (.inr (.inl h6)) (of_decide_eq_true h4)) (fun h4=>no (fun k=>(of_decide_eq_false h4) k.2))
  refine ae (fun h17=>?_) (fun h17=>?_)
  ·have h17:=of_decide_eq_true h17
   exact ae (fun h4=>yes (.inr (.inr h17)) (of_decide_eq_true h4)) (fun h4=>no (fun k=>(of_decide_eq_false h4) k.2))
  ·have h1:=of_decide_eq_false h1
   have h6:=of_decide_eq_false h6
   have h17:=of_decide_eq_false h17
   exact no (fun k=>by rcases k.1 with k|k|k <;> contradiction)
theorem aa1:av Tryz.prog GL 278 On.spec:=Ct.okH _ Tryz.func278 (by kernel_rfl) (ai (ai aC (Ct.named Bd)) Fz) ar al7 (aD (by kernel_rfl) R7)
def Il:Ct:=⟨[.val cI,.val cI],[.val cI],fun d=>[0<=d.1,d.1<=65535,0<=d.2.1,d.2.1<=65535],fun d=>((if oc (65535-d.2.1+d.1)=0 then 65535 else oc (65535-d.2.1+d.1),()),())⟩
def Zy:ao Il.ps->az:=(fun _=>{})
def C5(a b:Int) :=
 if (bQ (IntKind.wrap .i64 ((65535:Int) -b))&&bQ a)=true then oc (IntKind.wrap .i64 ((65535:Int) -b)+a) else (0:Int)
theorem WT :
 ∀(a b:Int),ab a/\ab b/\True->0<=a/\a<=65535/\0<=b/\b<=65535->ad (decide ((C5 a b)=0)) ((65535:Int)=if oc ((65535:Int) -b+a)=0 then (65535:Int) else oc ((65535:Int) -b+a)) ((C5 a b)=if oc ((65535:Int) -b+a)=0 then (65535:Int) else oc ((65535:Int) -b+a)):=by
  delta C5
  rintro a b-⟨a0,a1,b0,b1⟩
  rw[af (n:=65535-b) (by omega) (by omega),if_pos (by simp only[Bool.and_eq_true,gm];omega)]
  refine ae (fun h=>?_) (fun h=>?_)
  ·rw[if_pos (of_decide_eq_true h)]
  ·rw[if_neg (of_decide_eq_false h)]
theorem QG:av Tryz.prog GL 144 Il.spec:=Ct.okH _ Tryz.func144 (by kernel_rfl) (ai aC JD) ar Zy (aD (by kernel_rfl) WT)
def Lt:Ct:=⟨[.agg xO],[.own 5 bj],fun d=>[dI d.1=0],fun d=>((dA d.1,()),())⟩
def RX:ao Lt.ps->az:=(fun _=>{})
theorem at3 :
 ∀(a b c d e f:Int),((0<=a/\a<=4294967295)/\(0<=b/\b<=4294967295)/\ab c/\ab d/\ab e/\ab f)/\True->dI (a,b,c,d,e,f)=0->ad (decide (c=1)) (((List.length [(0:Int),(0:Int)]):Int)<=1073741824/\ ∀(g:List Int)(h:Int),g=dh (false,(21075:Int),e,[(0:Int),(0:Int)])/\h=hY (false,(21075:Int),e,[(0:Int),(0:Int)])->(g.length:Int)<=1099511627776/\ ∀(i:Int),i=dL g (2:Int) (2:Int)->0<=i/\i<=65535/\0<=IntKind.wrap .i64 ((16384:Int)+d)/\IntKind.wrap .i64 ((16384:Int)+d)<=65535/\ ∀(j:Int),(j=if oc ((65535:Int) -IntKind.wrap .i64 ((16384:Int)+d)+i)=0 then (65535:Int) else oc ((65535:Int) -IntKind.wrap .i64 ((16384:Int)+d)+i))->(↑(0:Nat):Int)<=1099511627776/\ ∀(k:List Int),k=bu ([]:List Int) j (2:Int)->(k.length:Int)<=1073741824/\ ∀(l:List Int)(m:Int),l=dh (false,(21075:Int),e,k)/\m=hY (false,(21075:Int),e,k)->l=dA (a,b,c,d,e,f)) (ad (decide (c=17))
 ((↑(0:Nat):Int)<=1099511627776/\ ∀(g:List Int),g=bu ([]:List Int) (IntKind.wrap .i64 ((20000:Int)+d)) (2:Int)->(g.length:Int)<=1099511627776/\ ∀(h:List Int),h=bu g (33434:Int) (2:Int)->(h.length+List.length [(0:Int),(10:Int),(0:Int),(0:Int),(0:Int),(0:Int)])*(1:Nat)<=(140737488355328:Nat)/\((List.length (h++[(0:Int),(10:Int),(0:Int),(0:Int),(0:Int),(0:Int)])):Int)<=1073741824/\ ∀(i:Int),i=dr a b (17:Int) (h++[(0:Int),(10:Int),(0:Int),(0:Int),(0:Int),(0:Int)])->0<=i/\i<=65535/\0<=IntKind.wrap .i64 (e+(1:Int))/\IntKind.wrap .i64 (e+(1:Int))<=65535/\ ∀(j:Int),(j=if oc ((65535:Int) -IntKind.wrap .i64 (e+(1:Int))+i)=0 then (65535:Int) else oc ((65535:Int) -IntKind.wrap .i64 (e+(1:Int))+i))->(↑(0:Nat):Int)<=1099511627776/\ ∀(k:List Int),k=bu ([]:List Int) j (2:Int)->(k.length:Int)<=1073741824/\jN a b (IntKind.wrap .i64 ((20000:Int)+d),(33434:Int),k)=dA (a,b,c,d,e,f))
 ((↑(0:Nat):Int)<=1000000/\de a b (IntKind.wrap .i64 ((20000:Int)+d),(80:Int),e,(0:Int),(2:Int),(1024:Int),([]:List Int))=dA (a,b,c,d,e,f))):=by
  rintro s d pr f t l-he
  obtain⟨hp,hr⟩:=lH.1 he
  have hr':=hr
  obtain⟨⟨f0,f1⟩,⟨t0,t1⟩,l0,l1⟩:=hr'
  simp only at f0 f1 t0 t1 l0 l1
  rw[af (n:=16384+f) (by omega) (by omega),af (n:=20000+f) (by omega) (by omega),af (n:=t+1) (by omega) (by omega)]
  refine ae (fun h1=>?_) (fun h1=>ae (fun h17=>?_) (fun h17=>?_))
  ·have h1:=of_decide_eq_true h1
   have e0:hY (false,21075,t,[0,0])=0:=BH (data:=[0,0]) ⟨⟨(gm _).2 ⟨by show (0:Int)<=21075;omega,by show (21075:Int)<=_;omega⟩,(gm _).2 ⟨t0,by show t<=_;omega⟩⟩,rfl⟩ (by simp)
   have hc:=mQ (Lz t)
   refine⟨by simp,?_⟩
   rintro b _ ⟨rfl,-⟩
   rw[dh,if_pos e0]
   have hl:(bz (bG (false,21075,t,[0,0])) 2 (bV (bG (false,21075,t,[0,0])))).length=10:=by rw[jU];rfl
   refine⟨by omega,?_⟩
   rw[ub (by omega) (by omega),show Int.toNat 2=2 from rfl,Bn (by show 2+2<=10;omega) hc.1 hc.2]
   rintro _ rfl
   refine⟨hc.1,hc.2,by omega,by omega,?_⟩
   have hi:=JC hr
   have ei:oc (65535-(16384+f)+bV (bG (false,21075,t,[0,0])))=nV (s,d,pr,f,t,l):=rfl
   rw[ei,if_neg (by omega)]
   rintro _ rfl
   refine⟨by omega,?_⟩
   rw[gM (by omega) (by omega)]
   rintro _ rfl
   refine⟨by simp[w2],?_⟩
   rintro _ _ ⟨rfl,-⟩
   rw[dA,if_pos h1];rfl
  ·have h17:=of_decide_eq_true h17
   refine⟨by omega,?_⟩
   rw[gM (by omega) (by omega)]
   rintro _ rfl
   refine⟨by simp[w2],?_⟩
   rw[gM (by omega) (by omega)]
   rintro _ rfl
   have eb:[]++w2 (20000+f)++w2 33434++[0,10,0,0,0,0]=da (20000+f,33434,[0,0]):=by simp[da,w2]
   rw[eb]
   refine⟨by simp[w2],by show ((10:Nat):Int)<=_;omega,?_⟩
   have hq:=HT (s:=s) (d:=d) (p:=17) (DD f) (by decide)
   rintro _ rfl
   refine⟨hq.1,by omega,by omega,by omega,?_⟩
   have hu:=J5 hr
   have eu:(if oc (65535-(t+1)+dr s d 17 (da (20000+f,33434,[0,0])))=0 then 65535 else oc (65535-(t+1)+dr s d 17 (da (20000+f,33434,[0,0]))))=qC (s,d,pr,f,t,l):=rfl
   rw[eu]
   rintro _ rfl
   refine⟨by omega,?_⟩
   rw[gM (by omega) (by omega)]
   rintro _ rfl
   refine⟨by simp[w2],?_⟩
   rw[dA,if_neg (by simp only;omega),if_pos h17];rfl
  ·have h1:=of_decide_eq_false h1
   have h17:=of_decide_eq_false h17
   rw[dA,if_neg h1,if_neg h17]
   exact⟨by omega,rfl⟩
theorem aj6:av Tryz.prog GL 78 Lt.spec:=Ct.okH _ Tryz.func78 (by kernel_rfl) (ai (ai (ai (ai (ai (ai (ai aC (Ct.named ZE)) (Ct.named TV)) (Ct.named QG)) (Ct.named uY)) (Ct.named ES)) XW) ah6) ar RX (aD (by kernel_rfl) at3)
end Go.RS

/- Pback: probes read back from their packets. -/
namespace Go.RS
open Go.SX Go.Proofs
set_option maxRecDepth 100000
set_option linter.unusedVariables false
def u32(n:Int):Prop:=0<=n/\n<=4294967295
theorem RP(h:bS)(n:Int)(X:List Int):gk h n++X=69::h.1::n/256%256::n%256::h.2.1/256%256::h.2.1%256::(if h.2.2.2.2.1 then (16384:Int) else 0)/256%256::(if h.2.2.2.2.1 then (16384:Int) else 0)%256::h.2.2.1::h.2.2.2.1 ::
  bV (fb h n)/256%256::bV (fb h n)%256::h.2.2.2.2.2.1/16777216%256::h.2.2.2.2.2.1/65536%256::h.2.2.2.2.2.1/256%256::h.2.2.2.2.2.1%256::h.2.2.2.2.2.2/16777216%256::h.2.2.2.2.2.2/65536%256::h.2.2.2.2.2.2/256%256::h.2.2.2.2.2.2%256::X:=rfl
theorem F0{n:Int}(h:u32 n):((n/16777216%256*256+n/65536%256)*256+n/256%256)*256+n%256=n:=by
 obtain⟨h0,h1⟩:=h;omega
theorem Cg{h:bS}{X:List Int}(hk:iZ h)(hs:u32 h.2.2.2.2.2.1)(hd:u32 h.2.2.2.2.2.2)(hl:(X.length:Int)<=1480)(hX:bytes X) :
  bN (gk h (20+X.length)++X)=h/\bU (gk h (20+X.length)++X)=0/\(gk h (20+X.length)++X).drop 20=X:=by
 have hbb:bytes (gk h (20+X.length)++X):=fP (Cl hk) hX
 have hlen:(gk h (20+X.length)++X).length=20+X.length:=by rw[List.length_append,pc]
 have hc:=mQ (yW (n:=20+X.length) hk)
 obtain⟨tos,id,ttl,pr,kp,s,d⟩:=h
 obtain⟨h1,h2,h3,h4,h5⟩:=hk
 simp only at h1 h2 h3 h4 h5 hs hd
 have E:=RP (tos,id,ttl,pr,kp,s,d) (20+X.length) X
 simp only at E
 have w2e:aG (gk (tos,id,ttl,pr,kp,s,d) (20+X.length)++X) 2=20+X.length:=by
  rw[E];show aG (_::_::_) 0=_;rw[fB];exact jw (by omega) (by omega)
 have w4e:aG (gk (tos,id,ttl,pr,kp,s,d) (20+X.length)++X) 4=id:=by
  rw[E];show aG (_::_::_) 0=_;rw[fB];exact jw h4 h5
 have w6e:aG (gk (tos,id,ttl,pr,kp,s,d) (20+X.length)++X) 6=if kp then 16384 else 0:=by
  rw[E];show aG (_::_::_) 0=_;rw[fB];cases kp <;> rfl
 have w10e:aG (gk (tos,id,ttl,pr,kp,s,d) (20+X.length)++X) 10=bV (fb (tos,id,ttl,pr,kp,s,d) (20+X.length)):=by
  rw[E];show aG (_::_::_) 0=_;rw[fB];exact jw hc.1 hc.2
 have hF:bN (gk (tos,id,ttl,pr,kp,s,d) (20+X.length)++X)=(tos,id,ttl,pr,kp,s,d):=by
  unfold bN
  rw[w4e,w6e,E]
  have e1:decide ((if kp=true then (16384:Int) else 0)=16384)=kp:=by cases kp <;> rfl
  rw[e1]
  have e2:=F0 hs
  have e3:=F0 hd
  show (tos,id,ttl,pr,kp,dG [_,_,_,_],dG [_,_,_,_])=_
  rw[yw,yw,e2,e3]
 refine⟨hF,?_,?_⟩
 ·have hb:=Uc hbb (by omega) (by rw[E];rfl) (by rw[w6e];cases kp <;> simp)
  rw[hF,w2e,w10e] at hb
  have ht:(gk (tos,id,ttl,pr,kp,s,d) (20+X.length)++X).take 20=gk (tos,id,ttl,pr,kp,s,d) (20+X.length):=by
   rw[List.take_append_of_le_length (by rw[pc];omega),List.take_of_length_le (by rw[pc];omega)]
  have hp:fC (gk (tos,id,ttl,pr,kp,s,d) (20+X.length)++X)=0:=by
   rw[fC,if_neg (by omega),if_neg,if_neg]
   ·rw[Decidable.not_not,w10e,← hb.1]
   ·rw[Decidable.not_not]
    refine⟨by rw[E];rfl,by rw[w6e];cases kp <;> simp,by rw[w2e];omega⟩
  rw[bU,if_neg (fun k=>k hp),if_neg (by rw[w2e,hlen];omega),if_neg (by rw[w2e];omega)]
 ·rw[List.drop_append,pc,List.drop_of_length_le (by rw[pc];omega)];simp
theorem OL{p:bL}(h:dI p=0)(hs:u32 p.1)(hd:u32 p.2.1):bN (build p)=qm p/\bU (build p)=0/\(build p).drop 20=dA p:=by
 rw[zD h]
 refine Cg (Fg h) hs hd ?_ (H7 h)
 rcases xW h with h|h <;> omega
theorem UU(t n:Int):aZ true (bG (false,21075,t,w2 n))=aZ true (bG (false,21075,t,[0,0]))+(n/256%256*256+n%256):=by
 simp[bG,w2,aZ];omega
theorem Uv(f n:Int):aZ true (da (20000+f,33434,w2 n))=aZ true (da (20000+f,33434,[0,0]))+(n/256%256*256+n%256):=by
 simp[da,w2,aZ];omega
theorem Tn(t:Int):2048<=aZ true (bG (false,21075,t,[0,0])):=by
 simp[bG,w2,aZ];omega
theorem MY{p:bL}(h:iJ p):bV (bG (jm p))=16384+p.2.2.2.1:=by
 have hn:=JC h
 obtain⟨⟨f0,f1⟩,-⟩:=h
 have e:nV p=oc (65535-(16384+p.2.2.2.1)+bV (bG (false,21075,p.2.2.2.2.1,[0,0]))):=rfl
 have hp:=Tn p.2.2.2.2.1
 unfold jm bV
 rw[UU,jw (by omega) hn.2,e]
 unfold bV
 generalize aZ true (bG (false,21075,p.2.2.2.2.1,[0,0]))=S at hp ⊢
 unfold oc
 rw[if_neg (by omega:¬ S=0)]
 rw[if_neg (by omega),if_neg (by omega)]
 omega
theorem YW{p:bL}(h:iJ p):iO p.1 p.2.1 (da (oF p))=p.2.2.2.2.1+1:=by
 have hn:=J5 h
 obtain⟨-,⟨t0,t1⟩,-⟩:=h
 have l0:(da (20000+p.2.2.2.1,33434,[0,0])).length=10:=rfl
 have l1:(da (oF p)).length=10:=rfl
 have eX:rA p=oc (65535-(p.2.2.2.2.1+1)+dr p.1 p.2.1 17 (da (20000+p.2.2.2.1,33434,[0,0]))):=rfl
 have eN:qC p=if rA p=0 then 65535 else rA p:=rfl
 have hp:=Ng p.1 p.2.1 17 10
 have h2:=(vH true (da (20000+p.2.2.2.1,33434,[0,0])) (DD _)).1
 have eP:dr p.1 p.2.1 17 (da (20000+p.2.2.2.1,33434,[0,0]))=65535-oc (aZ true (oZ p.1 p.2.1 17 10)+aZ true (da (20000+p.2.2.2.1,33434,[0,0]))):=by
  rw[dr,if_neg (by rw[l0];omega),bV,EN,l0];rfl
 have eQ:dr p.1 p.2.1 17 (da (oF p))=65535-oc (aZ true (oZ p.1 p.2.1 17 10)+(aZ true (da (20000+p.2.2.2.1,33434,[0,0]))+qC p)):=by
  rw[dr,if_neg (by rw[l1];omega),bV,EN,l1]
  unfold oF
  rw[Uv,jw (by omega) hn.2];rfl
 rw[iO,eQ]
 rw[eP] at eX
 generalize aZ true (oZ p.1 p.2.1 17 10)=H at *
 generalize aZ true (da (20000+p.2.2.2.1,33434,[0,0]))=S at *
 generalize qC p=N at *
 generalize rA p=X at *
 generalize p.2.2.2.2.1=t at *
 have hH:(17:Int)%256=17:=rfl
 rw[hH] at hp
 clear eP eQ l0 l1 hH
 have hN:(N-(65535-(t+1)+(65535-(H+S))))%65535=0:=by
  unfold oc at eX
  rw[if_neg (by omega:¬ H+S=0)] at eX
  split at eX <;> split at eN <;> omega
 unfold oc
 rw[if_neg (by omega:¬ H+(S+N)=0)]
 split <;> omega
def wy(p:bL):Int:=if p.2.2.1=1 then 2048 else 20000+p.2.2.2.1
def td(p:bL):Int:=if p.2.2.1=1 then 16384+p.2.2.2.1 else if p.2.2.1=17 then 33434 else 80
theorem QM{p:bL}(h:dI p=0):aG (dA p) 0=wy p/\aG (dA p) 2=td p:=by
 obtain⟨h1|h1|h1,h2⟩:=lH.1 h
 ·have hs:=MY h2
  have hf:=h2.1
  rw[ux h2 h1,wy,td,if_pos h1,if_pos h1,rW (by show 0+2<=10;omega) (by omega),Bn (by show 2+2<=10;omega) (by omega) (by omega),hs]
  exact⟨rfl,rfl⟩
 ·have hf:=h2.1
  rw[uJ h2 h1,wy,td,if_neg (by omega),if_neg (by omega),if_neg (by omega),rW (by show 0+2<=20;omega) (by omega),rW (by show 2+2<=20;omega) (by omega)]
  constructor
  ·show aG (_::_::_) 0=_;rw[fB];exact jw (n:=20000+p.2.2.2.1) (by omega) (by omega)
  ·rfl
 ·have hf:=h2.1
  rw[xX h2 h1,wy,td,if_neg (by omega),if_neg (by omega),if_pos h1,rW (by show 0+2<=10;omega) (by omega),rW (by show 2+2<=10;omega) (by omega)]
  constructor
  ·show aG (_::_::_) 0=_;rw[fB];exact jw (n:=20000+p.2.2.2.1) (by omega) (by omega)
  ·rfl
def O5:Cn:=⟨[.box 109 fT],[.agg xO],fun d=>[ay d.1],fun d y=>ay y.2.1/\u32 y.1.1.1/\u32 y.1.1.2.1,fun d h=>⟨((wz,()),(d.1,())),h.1,by simp[u32,wz],by simp[u32,wz]⟩⟩
def Ws:ao O5.ps->az:=(fun _=>{})
theorem P2 :
 ∀(a:List Int)(b:Int),((a.length<=maxLen/\ ∀(c:Int),c∈a->0<=c/\c<=255)/\ab b)/\True->0<=b/\b<=(a.length:Int)->ay (a,b)/\ ∀(c:Int)(d:List Int)(e:Int),ay (d,e)/\0<=c/\c<=4294967295->ay (d,e)/\ ∀(f:Int)(g:List Int)(h:Int),ay (g,h)/\0<=f/\f<=4294967295->ay (g,h)/\ ∀(i:Int)(j:List Int)(k:Int),ay (j,k)/\(i=17∨i=1∨i=6)->ay (j,k)/\ ∀(l:Int)(m:List Int)(n:Int),0<=l/\(l<6∨l=0)/\ay (m,n)->ay (m,n)/\ ∀(o:Int)(p:List Int)(q:Int),0<=o/\(o<2000∨o=0)/\ay (p,q)->ay (p,q)/\ ∀(r:Int)(s:List Int)(t:Int),0<=r/\(r<6∨r=0)/\ay (s,t)->ay (s,t)/\ ∀(u:Int)(v:List Int)(w:Int),0<=u/\(u<12∨u=0)/\ay (v,w)->ad (decide (u=8)) (ay (v,w)/\u32 c/\u32 f) (ad (decide (u=9)) (ay (v,w)/\ ∀(x:Int)(y:List Int)(z:Int),ay (y,z)/\ab x->ay (y,z)/\ ∀(A:Int)(B:List Int)(C:Int),ay (B,C)/\ab A->ay (B,C)/\u32 c/\u32 f) (ad (decide (u=10)) (ay (v,w)/\ ∀(x:Int)(y:List Int)(z:Int),ay (y,z)/\ab
 x->ay (y,z)/\u32 c/\u32 f) (ad (decide (u=11)) (ay (v,w)/\ ∀(x:Int)(y:List Int)(z:Int),ay (y,z)/\ab x->ay (y,z)/\u32 c/\u32 f) (ay (v,w)/\u32 c/\u32 f)))):=by
  rintro l p-h
  refine⟨h,?_⟩
  rintro s _ _ ⟨hc,s0,s1⟩
  refine⟨hc,?_⟩
  rintro d _ _ ⟨hc,d0,d1⟩
  refine⟨hc,?_⟩
  rintro _ _ _ ⟨hc,-⟩
  refine⟨hc,?_⟩
  rintro _ _ _ ⟨-,-,hc⟩
  refine⟨hc,?_⟩
  rintro _ _ _ ⟨-,-,hc⟩
  refine⟨hc,?_⟩
  rintro _ _ _ ⟨-,-,hc⟩
  refine⟨hc,?_⟩
  rintro _ _ _ ⟨-,-,hc⟩
  have fin:∀ q,ay q->ay q/\u32 s/\u32 d:=fun q hq=>⟨hq,⟨s0,s1⟩,d0,d1⟩
  refine ae (fun _=>fin _ hc) (fun _=>ae (fun _=>⟨hc,?_⟩) (fun _=>ae (fun _=>⟨hc,?_⟩) (fun _=>ae (fun _=>⟨hc,?_⟩) (fun _=>fin _ hc))))
  ·rintro _ _ _ ⟨hc,-⟩
   refine⟨hc,?_⟩
   rintro _ _ _ ⟨hc,-⟩
   exact fin _ hc
  ·rintro _ _ _ ⟨hc,-⟩
   exact fin _ hc
  ·rintro _ _ _ ⟨hc,-⟩
   exact fin _ hc
theorem XH:av Tryz.prog GL 74 O5.spec:=Cn.okH _ Tryz.func74 (by kernel_rfl) (ai (ai (ai (ai aC O9) H8) qO) WZ) ar Ws (aD (by kernel_rfl) P2)
def Po:Cn:=⟨[.box 109 fT],[.agg xO],fun d=>[ay d.1],fun d y=>ay y.2.1/\u32 y.1.1.1/\u32 y.1.1.2.1/\dI y.1.1=0,fun d h=>⟨(((0,0,1,0,0,1),()),(d.1,())),h.1,by simp[u32],by simp[u32],rfl⟩⟩
def ap2:ao Po.ps->az:=(fun _=>{})
theorem aj0 :
 ∀(a:List Int)(b:Int),((a.length<=maxLen/\ ∀(c:Int),c∈a->0<=c/\c<=255)/\ab b)/\True->0<=b/\b<=(a.length:Int)->ay (a,b)/\ ∀(c d e f g h:Int)(i:List Int)(j:Int),ay (i,j)/\u32 c/\u32 d->ad (! decide (dI (c,d,e,f,g,h)=0)) (ay (i,j)/\ ∀(k:Int)(l:List Int)(m:Int),ay (l,m)/\(k=17∨k=1∨k=6)->ay (l,m)/\ ∀(n:Int)(o:List Int)(p:Int),0<=n/\(n<4∨n=0)/\ay (o,p)->ay (o,p)/\ ∀(q:Int)(r:List Int)(s:Int),0<=q/\(q<100∨q=0)/\ay (r,s)->ay (r,s)/\ ∀(t:Int)(u:List Int)(v:Int),0<=t/\(t<5∨t=0)/\ay (u,v)->ay (u,v)/\u32 c/\u32 d/\dI (c,d,k,n,q,IntKind.wrap .i64 ((1:Int)+t))=0) (ay (i,j)/\u32 c/\u32 d/\dI (c,d,e,f,g,h)=0):=by
  rintro l p-h
  refine⟨h,?_⟩
  rintro s d pr f t l _ _ ⟨hc,hs,hd⟩
  refine ae (fun _=>⟨hc,?_⟩) (fun hn=>⟨hc,hs,hd,by simpa using hn⟩)
  rintro pr _ _ ⟨hc,hp⟩
  refine⟨hc,?_⟩
  rintro f _ _ ⟨f0,f1,hc⟩
  refine⟨hc,?_⟩
  rintro t _ _ ⟨t0,t1,hc⟩
  refine⟨hc,?_⟩
  rintro l _ _ ⟨l0,l1,hc⟩
  rw[af (n:=1+l) (by omega) (by omega)]
  refine⟨hc,hs,hd,lH.2 ⟨?_,⟨?_,?_⟩,⟨?_,?_⟩,?_,?_⟩⟩ <;> simp only[mt] <;> omega
theorem Xt:av Tryz.prog GL 31 Po.spec:=Cn.okH _ Tryz.func31 (by kernel_rfl) (ai (ai (ai (ai aC XH) Le) H8) qO) ar ap2 (aD (by kernel_rfl) aj0)
end Go.RS

/- Addr: prefixes, and functions of Go's library over numbers. -/
namespace Go.RS
open Go.SX Go.Proofs
set_option maxRecDepth 100000
set_option linter.unusedVariables false
abbrev kq:CT := .pair ce cI
def eG(a b:Int):Int:=if a<b then -1 else if b<a then 1 else 0
abbrev cJ:Type:=Int×Int
def fa(p q:cJ):Int:=if eG p.1 q.1≠0 then eG p.1 q.1 else eG p.2 q.2
def j7:List Int->Int
 | []=>0
 | x::xs=>if x≠0 then x else j7 xs
theorem ae7{l:List Int}{j:Int}(h0:0<=j)(h1:j<l.length):l.drop j.toNat=l.getD j.toNat default::l.drop (j+1).toNat:=by
 have hj:j.toNat<l.length:=by omega
 rw[List.drop_eq_getElem_cons hj,List.getD_eq_getElem?_getD,List.getElem?_eq_getElem hj,Option.getD_some]
 congr 2;omega
theorem Hw{α:Type} [Inhabited α] {l:List α} {j:Int} (h0:0<=j) (h1:j<l.length) {y:α} (hy:y∈l.take (j+1).toNat):y∈l.take j.toNat∨y=l.getD j.toNat default:=by
 have hj:j.toNat<l.length:=by omega
 have e:(j+1).toNat=j.toNat+1:=by omega
 rw[e,List.take_succ_eq_append_getElem hj] at hy
 rcases List.mem_append.1 hy with hy|hy
 ·exact .inl hy
 ·right
  simp at hy
  rw[List.getD_eq_getElem?_getD,List.getElem?_eq_getElem hj,Option.getD_some];exact hy
theorem Sb{l:List Int}{v j:Int}(h0:0<=j)(h1:j<l.length)(hv:l.getD j.toNat default=v)(h2:∀ y∈l.take j.toNat,y≠v):l.idxOf v=j.toNat:=by
 have hj:j.toNat<l.length:=by omega
 rw[List.getD_eq_getElem?_getD,List.getElem?_eq_getElem hj,Option.getD_some] at hv
 have e:l=l.take j.toNat++l[j.toNat]::l.drop (j.toNat+1):=by
  rw[← List.drop_eq_getElem_cons hj,List.take_append_drop]
 rw[e,List.idxOf_append,if_neg (fun hm=>h2 v hm rfl),hv,List.idxOf_cons_self]
 simp;omega
def Mo:Ct:=⟨[.val cI],[.val .bool],fun _=>[],fun _=>((false,()),())⟩
def Si:ao Mo.ps->az:=(fun _=>{})
theorem QY :
 ∀(a:Int),ab a/\True->True->(! decide (a=a))=false:=by
  rintro x - -
  simp
theorem ao9:av Tryz.prog GL 170 Mo.spec:=Ct.okH _ Tryz.func170 (by kernel_rfl) aC ar Si (aD (by kernel_rfl) QY)
def Ii:Ct:=⟨[.val ce],[.val .bool],fun _=>[],fun _=>((false,()),())⟩
def XL:ao Ii.ps->az:=(fun _=>{})
theorem ae8 :
 ∀(a:Int),(0<=a/\a<=4294967295)/\True->True->(! decide (a=a))=false:=by
  rintro x - -
  simp
theorem ak5:av Tryz.prog GL 260 Ii.spec:=Ct.okH _ Tryz.func260 (by kernel_rfl) aC ar XL (aD (by kernel_rfl) ae8)
def LW:Ct:=⟨[.val cI,.val cI],[.val cI],fun _=>[],fun d=>((eG d.1 d.2.1,()),())⟩
def Qd:ao LW.ps->az:=(fun _=>{})
def vB(a b:Int) :=
 ad (decide (a<b)) ((-1:Int)=eG a b) (ad (decide (b<a)) ((1:Int)=eG a b) ((0:Int)=eG a b))
theorem Qk :
 ∀(a b:Int),ab a/\ab b/\True->True->(vB a b):=by
  delta vB
  rintro x y - -
  unfold eG
  refine ae (fun h=>?_) (fun h=>ae (fun h2=>?_) (fun h2=>?_))
  ·rw[if_pos (of_decide_eq_true h)]
  ·rw[if_neg (of_decide_eq_false h),if_pos (of_decide_eq_true h2)]
  ·rw[if_neg (of_decide_eq_false h),if_neg (of_decide_eq_false h2)]
theorem G9:av Tryz.prog GL 107 LW.spec:=Ct.okH _ Tryz.func107 (by kernel_rfl) (ai aC ao9) ar Qd (aD (by kernel_rfl) Qk)
def Jq:Ct:=⟨[.val ce,.val ce],[.val cI],fun _=>[],fun d=>((eG d.1 d.2.1,()),())⟩
def Ri:ao Jq.ps->az:=(fun _=>{})
theorem aq7 :
 ∀(a b:Int),(0<=a/\a<=4294967295)/\(0<=b/\b<=4294967295)/\True->True->(vB a b):=by
  delta vB
  rintro x y - -
  unfold eG
  refine ae (fun h=>?_) (fun h=>ae (fun h2=>?_) (fun h2=>?_))
  ·rw[if_pos (of_decide_eq_true h)]
  ·rw[if_neg (of_decide_eq_false h),if_pos (of_decide_eq_true h2)]
  ·rw[if_neg (of_decide_eq_false h),if_neg (of_decide_eq_false h2)]
theorem SK:av Tryz.prog GL 238 Jq.spec:=Ct.okH _ Tryz.func238 (by kernel_rfl) (ai aC ak5) ar Ri (aD (by kernel_rfl) aq7)
def Oa:Ct:=⟨[.val (.sl cI)],[.val cI],fun _=>[],fun d=>((j7 d.1,()),())⟩
def Sx:ao Oa.ps->az:=(fun d=>{loops:=(fun n=>match n with|3=>some (fun S=>{ι:=Int,μ:=fun i=>(d.1.length-i).toNat,inv:=fun i=>0<=i/\i<=d.1.length/\j7 d.1=j7 (d.1.drop i.toNat),keep:=[3,6,7],slots:=fun i=>[(8,.int .i64 i)],names:=fun i=>[]})|_=>none)})
def gT(a:List Int) :=
 (a.length:Int)
theorem Qy :
 ∀(a:List Int),(a.length<=maxLen/\ ∀(b:Int),b∈a->ab b)/\True->True->(∃(b:Int),(0<=b/\b<=(gT a)/\j7 a=j7 (List.drop b.toNat a))/\(0:Int)=0/\a=a/\(gT a)=(gT a)/\(0:Int)=b/\True)/\ ∀(b:Int),0<=b/\b<=(gT a)/\j7 a=j7 (List.drop b.toNat a)->ad (decide (b<(gT a))) (0<=b/\b<(gT a)/\ad (! decide (a.getD b.toNat default=0)) (a.getD b.toNat default=j7 a) (∃(c:Int),(0<=c/\c<=(gT a)/\j7 a=j7 (List.drop c.toNat a))/\Int.toNat ((gT a) -c)<Int.toNat ((gT a) -b)/\(0:Int)=0/\a=a/\(gT a)=(gT a)/\IntKind.wrap .i64 (b+(1:Int))=c/\True)) ((0:Int)=j7 a):=by
  delta gT
  rintro x ⟨⟨hl,-⟩,-⟩ -
  simp only[maxLen] at hl
  refine⟨⟨0,⟨by omega,by omega,rfl⟩,(by repeat' first|exact trivial|refine⟨trivial,?_⟩|refine⟨(by with_reducible rfl),?_⟩|refine⟨af (by omega) (by omega),?_⟩|refine⟨rfl,?_⟩)⟩,?_⟩
  rintro j ⟨h0,h1,h2⟩
  refine ae (fun hj=>?_) (fun hj=>?_)
  ·have hj:=of_decide_eq_true hj
   have e:=ae7 (l:=x) h0 hj
   rw[e] at h2
   refine⟨h0,hj,ae (fun hz=>?_) (fun hz=>?_)⟩
   ·have hz:x.getD j.toNat default≠0:=by simpa only[Bool.not_eq_true',decide_eq_false_iff_not] using hz
    rw[h2,j7,if_pos hz]
   ·have hz:¬ x.getD j.toNat default≠0:=by simpa only[Bool.not_eq_false',decide_eq_true_eq,ne_eq,Decidable.not_not] using hz
    rw[j7,if_neg hz] at h2
    exact⟨j+1,⟨by omega,by omega,h2⟩,by omega,(by repeat' first|exact trivial|refine⟨trivial,?_⟩|refine⟨(by with_reducible rfl),?_⟩|refine⟨af (by omega) (by omega),?_⟩|refine⟨rfl,?_⟩)⟩
  ·have hj:=of_decide_eq_false hj
   rw[h2,List.drop_eq_nil_of_le (by omega)];rfl
theorem O4:av Tryz.prog GL 106 Oa.spec:=Ct.okH _ Tryz.func106 (by kernel_rfl) aC ar Sx (aD (by kernel_rfl) Qy)
def Hv:Ct:=⟨[.agg kq,.agg kq],[.val cI],fun _=>[],fun d=>((fa d.1 d.2.1,()),())⟩
def af2:ao Hv.ps->az:=(fun _=>{})
theorem RF :
 ∀(a b c d:Int),((0<=a/\a<=4294967295)/\ab b)/\((0<=c/\c<=4294967295)/\ab d)/\True->True->j7 [eG a c,eG b d]=fa (a,b) (c,d):=by
  rintro x y z u - -
  simp only[j7,fa]
  split
  ·rfl
  ·split
   ·rfl
   ·rename_i h;simp at h;exact h.symm
theorem IE:av Tryz.prog GL 203 Hv.spec:=Ct.okH _ Tryz.func203 (by kernel_rfl) (ai (ai (ai aC SK) G9) O4) ar af2 (aD (by kernel_rfl) RF)
def LN:Ct:=⟨[.val cI,.val cI],[.val cI],fun _=>[],fun d=>((eG d.1 d.2.1,()),())⟩
def Xg:ao LN.ps->az:=(fun _=>{})
theorem Zb :
 ∀(a b:Int),ab a/\ab b/\True->True->(vB a b):=by
  delta vB
  rintro x y - -
  unfold eG
  refine ae (fun h=>?_) (fun h=>ae (fun h2=>?_) (fun h2=>?_))
  ·rw[if_pos (of_decide_eq_true h)]
  ·rw[if_neg (of_decide_eq_false h),if_pos (of_decide_eq_true h2)]
  ·rw[if_neg (of_decide_eq_false h),if_neg (of_decide_eq_false h2)]
theorem Qz:av Tryz.prog GL 224 LN.spec:=Ct.okH _ Tryz.func224 (by kernel_rfl) aC ar Xg (aD (by kernel_rfl) Zb)
def NL:Ct:=⟨[.agg kq,.agg kq],[.val cI],fun _=>[],fun d=>((fa d.1 d.2.1,()),())⟩
def XE:ao NL.ps->az:=(fun _=>{})
theorem Z8 :
 ∀(a b c d:Int),((0<=a/\a<=4294967295)/\ab b)/\((0<=c/\c<=4294967295)/\ab d)/\True->True->ad (! decide (a=c)) (eG (IntKind.wrap .i64 a) (IntKind.wrap .i64 c)=fa (a,b) (c,d)) (eG b d=fa (a,b) (c,d)):=by
  rintro x y z u ⟨⟨⟨h0,h1⟩,-⟩,⟨⟨h2,h3⟩,-⟩,-⟩ -
  unfold fa
  refine ae (fun h=>?_) (fun h=>?_)
  ·simp at h
   rw[af (by omega) (by omega),af (by omega) (by omega),if_pos (by simp only[eG];split <;> first|omega|(split <;> omega))]
  ·simp at h
   subst h
   rw[if_neg (by simp[eG])]
theorem X7:av Tryz.prog GL 182 NL.spec:=Ct.okH _ Tryz.func182 (by kernel_rfl) (ai aC Qz) ar XE (aD (by kernel_rfl) Z8)
def sz(n:Int):Int:=2^(32-n).toNat
def jb(p:cJ):Bool:=decide (0<=p.2/\p.2<=32/\p.1%sz p.2=0)
def cS(p:cJ)(a:Int):Bool:=jb p&&decide (p.1<=a/\a<p.1+sz p.2)
theorem Wf(n:Int):sz n=((2^(32-n).toNat:Nat):Int):=by unfold sz;rw[Int.natCast_pow];rfl
theorem FQ{n:Int}(h0:0<=n)(h1:n<=32):∃ k:Nat,k<=32/\n=32-k/\sz n=((2^k:Nat):Int):=⟨(32-n).toNat,by omega,by omega,Wf n⟩
theorem Zx{n:Int}(h0:0<=n)(h1:n<=32):db .u32 4294967295 (32-n)=4294967296-sz n:=by
 obtain⟨k,hk,rfl,e⟩:=FQ h0 h1
 rw[e]
 have:(32:Int)-(32-(k:Int))=(k:Int):=by omega
 rw[this]
 unfold db
 rw[IntKind.wrap_u32]
 have hm:min ((k:Int)).toNat IntKind.u32.bits=k:=by simp only[IntKind.bits,Int.toNat_natCast];omega
 rw[hm]
 have hd:∀ k:Nat,k<=32->(4294967295*2^k:Int)%4294967296=4294967296-((2^k:Nat):Int):=by decide
 exact hd k hk
theorem an4{x n:Int}(h0:0<=x)(h1:x<=4294967295)(h2:0<=n)(h3:n<=32):bits .andNot .u32 x (4294967296-sz n)=x%sz n:=by
 obtain⟨k,hk,rfl,e⟩:=FQ h2 h3
 have hp:(2:Nat)^k<=2^32:=Nat.pow_le_pow_right (by decide) hk
 have hp0:0<(2:Nat)^k:=Nat.two_pow_pos k
 rw[e,u32_andNot _ _ h0 (by omega) (by omega) (by omega)]
 have e1:4294967295-((4294967296:Int)-((2^k:Nat):Int)).toNat=2^k-1:=by omega
 rw[e1,Nat.and_two_pow_sub_one_eq_mod]
 obtain⟨m,rfl⟩:=Int.eq_ofNat_of_zero_le h0
 rw[Int.toNat_natCast,Int.natCast_emod]
theorem PF{a k:Nat}(hk:k<=32)(ha:a<4294967296):a &&& (4294967296-2^k)=a/2^k*2^k:=by
 have e:4294967296-2^k=(2^(32-k)-1) <<< k:=by
  rw[Nat.shiftLeft_eq,Nat.sub_mul,← Nat.pow_add,Nat.one_mul]
  congr 1
  rw[show 32-k+k=32 from by omega]
 rw[e,← Nat.shiftRight_eq_div_pow,← Nat.shiftLeft_eq]
 apply Nat.eq_of_testBit_eq
 intro i
 simp only[Nat.testBit_and,Nat.testBit_shiftLeft,Nat.testBit_two_pow_sub_one,Nat.testBit_shiftRight]
 by_cases hi:k<=i
 ·have e2:k+(i-k)=i:=by omega
  simp only[hi,decide_true,Bool.true_and,e2]
  by_cases h32:i<32
  ·have:i-k<32-k:=by omega
   simp[this]
  ·have:a.testBit i=false:=Nat.testBit_lt_two_pow (Nat.lt_of_lt_of_le ha (Nat.pow_le_pow_right (show 0<2 by decide) (by omega:32<=i)))
   simp[this]
 ·simp[hi]
theorem an7{a n x:Int}(h0:0<=a)(h1:a<=4294967295)(h2:0<=n)(h3:n<=32)(hx:0<=x)(hm:x%sz n=0) :
  (bits .and .u32 a (4294967296-sz n)=x)↔(x<=a/\a<x+sz n):=by
 obtain⟨k,hk,rfl,e⟩:=FQ h2 h3
 have hp:(2:Nat)^k<=2^32:=Nat.pow_le_pow_right (by decide) hk
 have hp0:0<(2:Nat)^k:=Nat.two_pow_pos k
 rw[e] at hm ⊢
 rw[u32_and _ _ h0 (by omega) (by omega) (by omega)]
 have e1:((4294967296:Int)-((2^k:Nat):Int)).toNat=4294967296-2^k:=by omega
 rw[e1,PF hk (by omega)]
 obtain⟨m,rfl⟩:=Int.eq_ofNat_of_zero_le h0
 obtain⟨y,rfl⟩:=Int.eq_ofNat_of_zero_le hx
 rw[Int.toNat_natCast]
 have hm:y%2^k=0:=by
  have:((y%2^k:Nat):Int)=0:=by rw[Int.natCast_emod];exact hm
  omega
 generalize 2^k=s at *
 have d:=Nat.div_add_mod m s
 have dl:=Nat.mod_lt m hp0
 have dy:=Nat.div_add_mod y s
 rw[hm] at dy
 rw[Nat.mul_comm] at d
 constructor
 ·intro h;omega
 ·rintro⟨h,h'⟩
  have hq:m/s=y/s:=by
   apply Nat.le_antisymm
   ·have:m<(y/s+1)*s:=by rw[Nat.add_mul,Nat.one_mul,Nat.mul_comm (y/s)];omega
    have:=Nat.div_lt_of_lt_mul (Nat.mul_comm _ _▸this:m<s*(y/s+1))
    omega
   ·exact Nat.div_le_div_right (by omega)
  rw[hq,Nat.mul_comm];omega
def K8:Ct:=⟨[.val cI],[.val ce],fun d=>[0<=d.1/\d.1<=32],fun d=>((4294967296-sz d.1,()),())⟩
def am5:ao K8.ps->az:=(fun _=>{})
theorem Su :
 ∀(a:Int),ab a/\True->0<=a/\a<=32->0<=IntKind.wrap .i64 ((32:Int) -a)/\db IntKind.u32 (4294967295:Int) (IntKind.wrap .i64 ((32:Int) -a))=4294967296 -sz a:=by
  rintro x-⟨h0,h1⟩
  rw[af (by omega) (by omega)]
  exact⟨by omega,Zx h0 h1⟩
theorem IM:av Tryz.prog GL 205 K8.spec:=Ct.okH _ Tryz.func205 (by kernel_rfl) aC ar am5 (aD (by kernel_rfl) Su)
def Ha:Ct:=⟨[.agg kq],[.val .bool],fun _=>[],fun d=>((jb d.1,()),())⟩
def WA:ao Ha.ps->az:=(fun _=>{})
theorem Xd :
 ∀(a b:Int),((0<=a/\a<=4294967295)/\ab b)/\True->True-> ∀(c:Bool),c=decide (0<=b)->(c->(c->c)/\True)/\(c->(c->c)/\True)/\(c->c)/\ ∀(d:Bool),(d=bif c then decide (b<=32) else false)->(d->(d->d)/\True)/\(d->(d->d)/\True)/\(d->(d->d)/\(0<=b/\b<=32)/\True)/\(d->(d->d)/\(d->d)/\True)/\(d->(d->d)/\True)/\(d->d)/\(bif d then decide (bits BinOp.andNot IntKind.u32 a ((4294967296:Int) -sz b)=0) else false)=jb (a,b):=by
  rintro x n ⟨⟨⟨h0,h1⟩,-⟩,-⟩ -
  (repeat (intro (b_:Bool) (hb_:b_=_);(repeat refine⟨(by first|(simp;done)|(rw[hb_];simp;done)|(rw[hb_];simp;omega)|(rw[hb_];simp;intros;omega)|(rw[hb_];simp +contextual;done)),?_⟩);subst hb_))
  by_cases hn:0<=n/\n<=32
  ·have:=an4 (n:=n) h0 h1 hn.1 hn.2
   simp[jb,hn,this]
  ·simp only[jb]
   by_cases h2:0<=n
   ·have:¬ n<=32:=fun h=>hn ⟨h2,h⟩
    simp[this]
   ·simp[h2]
theorem Jm:av Tryz.prog GL 204 Ha.spec:=Ct.okH _ Tryz.func204 (by kernel_rfl) (ai aC IM) ar WA (aD (by kernel_rfl) Xd)
def MX:Ct:=⟨[.agg kq,.val ce],[.val .bool],fun _=>[],fun d=>((cS d.1 d.2.1,()),())⟩
def Qw:ao MX.ps->az:=(fun _=>{})
theorem Q1 :
 ∀(a b c:Int),((0<=a/\a<=4294967295)/\ab b)/\(0<=c/\c<=4294967295)/\True->True-> ∀(d:Bool),d=jb (a,b)->(d->(d->d)/\True)/\(d->(d->d)/\(0<=b/\b<=32)/\True)/\(d->(d->d)/\(d->d)/\True)/\(d->(d->d)/\True)/\(d->(d->d)/\(d->d)/\True)/\(d->d)/\(bif d then decide (bits BinOp.and IntKind.u32 c ((4294967296:Int) -sz b)=a) else false)=cS (a,b) c:=by
  rintro x n a ⟨⟨⟨h0,h1⟩,-⟩,⟨h2,h3⟩,-⟩ -
  have hv:∀ b:Bool,b=jb (x,n)->b=true->0<=n/\n<=32/\x%sz n=0:=by
   rintro b rfl h;simpa[jb] using h
  rintro b hb
  have hr:=hv b hb
  refine⟨by simp,fun h=>⟨fun _=>h,⟨(hr h).1,(hr h).2.1⟩,trivial⟩,by simp,by simp,by simp,by simp,?_⟩
  unfold cS
  rw[← hb]
  cases b with
  | false=>rfl
  | true =>
   obtain⟨r1,r2,r3⟩:=hr rfl
   have:=an7 (n:=n) (x:=x) h2 h3 r1 r2 h0 r3
   rw[Bool.eq_iff_iff];simpa using this
theorem HM:av Tryz.prog GL 152 MX.spec:=Ct.okH _ Tryz.func152 (by kernel_rfl) (ai (ai aC IM) Jm) ar Qw (aD (by kernel_rfl) Q1)
def GF:Ct:=⟨[.val (.sl cI),.val cI],[.val cI],fun _=>[],fun d=>((if d.2.1∈d.1 then (d.1.idxOf d.2.1:Int) else -1,()),())⟩
def ad8:ao GF.ps->az:=(fun d=>{loops:=(fun n=>match n with|2=>some (fun S=>{ι:=Int,μ:=fun i=>(d.1.length-i).toNat,inv:=fun i=>0<=i/\i<=d.1.length∧∀ y∈d.1.take i.toNat,y≠d.2.1,keep:=[0,1,6,7],slots:=fun i=>[(8,.int .i64 i)],names:=fun i=>[]})|_=>none)})
theorem ae5 :
 ∀(a:List Int)(b:Int),(a.length<=maxLen/\ ∀(c:Int),c∈a->ab c)/\ab b/\True->True->(∃(c:Int),(0<=c/\c<=(gT a)/\ ∀(d:Int),d∈List.take c.toNat a->d≠b)/\a=a/\b=b/\a=a/\(gT a)=(gT a)/\(0:Int)=c/\True)/\ ∀(c:Int),(0<=c/\c<=(gT a)/\ ∀(d:Int),d∈List.take c.toNat a->d≠b)->ad (decide (c<(gT a))) (0<=c/\c<(gT a)/\ad (decide (b=a.getD c.toNat default)) (c=if b∈a then (↑(List.idxOf b a):Int) else (-1:Int)) (∃(d:Int),(0<=d/\d<=(gT a)/\ ∀(e:Int),e∈List.take d.toNat a->e≠b)/\Int.toNat ((gT a) -d)<Int.toNat ((gT a) -c)/\a=a/\b=b/\a=a/\(gT a)=(gT a)/\IntKind.wrap .i64 (c+(1:Int))=d/\True)) ((-1:Int)=if b∈a then (↑(List.idxOf b a):Int) else (-1:Int)):=by
  delta gT
  rintro x v ⟨⟨hl,-⟩,-⟩ -
  simp only[maxLen] at hl
  refine⟨⟨0,⟨by omega,by omega,by simp⟩,(by repeat' first|exact trivial|refine⟨trivial,?_⟩|refine⟨(by with_reducible rfl),?_⟩|refine⟨af (by omega) (by omega),?_⟩|refine⟨rfl,?_⟩)⟩,?_⟩
  rintro j ⟨h0,h1,h2⟩
  refine ae (fun hj=>?_) (fun hj=>?_)
  ·have hj:=of_decide_eq_true hj
   refine⟨h0,hj,ae (fun hz=>?_) (fun hz=>?_)⟩
   ·have hz:=of_decide_eq_true hz
    have hm:v∈x:=by rw[hz];exact bH h0 hj
    rw[if_pos hm]
    have:=Sb (l:=x) (v:=v) h0 hj hz.symm h2
    omega
   ·have hz:=of_decide_eq_false hz
    refine⟨j+1,⟨by omega,by omega,fun y hy=>?_⟩,by omega,(by repeat' first|exact trivial|refine⟨trivial,?_⟩|refine⟨(by with_reducible rfl),?_⟩|refine⟨af (by omega) (by omega),?_⟩|refine⟨rfl,?_⟩)⟩
    rcases Hw h0 hj hy with hy|rfl
    ·exact h2 y hy
    ·exact fun e=>hz e.symm
  ·have hj:=of_decide_eq_false hj
   rw[List.take_of_length_le (by omega)] at h2
   rw[if_neg (fun hm=>h2 v hm rfl)]
theorem Yz:av Tryz.prog GL 280 GF.spec:=Ct.okH _ Tryz.func280 (by kernel_rfl) aC ar ad8 (aD (by kernel_rfl) ae5)
def N1:Ct:=⟨[.val (.sl cI),.val cI],[.val .bool],fun _=>[],fun d=>((decide (d.2.1∈d.1),()),())⟩
def P5:ao N1.ps->az:=(fun _=>{})
theorem YE :
 ∀(a:List Int)(b:Int),(a.length<=maxLen/\ ∀(c:Int),c∈a->ab c)/\ab b/\True->True->decide (0<=if b∈a then (↑(List.idxOf b a):Int) else (-1:Int))=decide (b∈a):=by
  rintro x v - -
  by_cases h:v∈x
  ·rw[if_pos h];simp[h];
  ·rw[if_neg h];simp[h]
theorem RL:av Tryz.prog GL 254 N1.spec:=Ct.okH _ Tryz.func254 (by kernel_rfl) (ai aC Yz) ar P5 (aD (by kernel_rfl) YE)
end Go.RS

/- Reply: answers. -/
namespace Go.RS
open Go.SX Go.Proofs
set_option maxRecDepth 100000
set_option linter.unusedVariables false
abbrev rN:Type:=Int×Int×Int×Int×Int×Int
def Kz:rN:=(0,0,0,0,0,0)
def fJ(a:Int):Int :=
 if a/16777216=0 then 1 else if a/16777216=127 then 2
 else if a/16777216=10∨(a/16777216=172/\16<=a/65536%256/\a/65536%256<32)∨(a/16777216=192/\a/65536%256=168) then 3
 else if a/16777216=169/\a/65536%256=254 then 4
 else if 224<=a/16777216/\a/16777216<240 then 5 else if 240<=a/16777216 then 6 else 0
def fg(a:Int):Prop:=fJ a=0∨fJ a=3
instance (a:Int):Decidable (fg a):=by unfold fg;infer_instance
def vq(x:nF):Int:=x.1.2.2.2.1
def Gh(x:nF):Prop:=8<=x.2.length/\(x.1.2.2.2.1=1->x.2.getD 0 default=8)/\(x.1.2.2.2.1=6->14<=x.2.length->bits .and .u8 (x.2.getD 13 default) 4=0)/\fg x.1.2.2.2.2.2.1
instance (x:nF):Decidable (Gh x):=by unfold Gh;infer_instance
def cf(b:List Int):Prop:=bU b=0/\Gh (aS b)
instance (b:List Int):Decidable (cf b):=by unfold cf;infer_instance
def uv(b:List Int):Prop:=bU b=0/\8<=(aS b).2.length/\(vq (aS b)=1->(aS b).2.getD 0 default=8)/\(vq (aS b)=6->14<=(aS b).2.length->bits .and .u8 ((aS b).2.getD 13 default) 4=0)
instance (b:List Int):Decidable (uv b):=by unfold uv;infer_instance
def na(b:List Int):nF:=if uv b then aS b else (mI,[])
def f5(id ttl:Int):Prop:=(0<=id/\id<=65535)/\0<=ttl/\ttl<=255
instance (i t:Int):Decidable (f5 i t):=by unfold f5;infer_instance
def fS(src dst proto id ttl:Int)(data:List Int):nF:=((0,id,ttl,proto,false,src,dst),data)
def bO(b:List Int):Int:=(bN b).2.2.2.2.2.1
def eV(b:List Int):Int:=(bN b).2.2.2.2.2.2
def cR(b:List Int):Int:=(bN b).2.2.2.1
def oT(kind code id ttl:Int):Prop:=(kind=11∨kind=3)/\(0<=code/\code<=255)/\f5 id ttl
instance (k c i t:Int):Decidable (oT k c i t):=by unfold oT;infer_instance
def fh(b:List Int)(kind code id ttl:Int):Int:=if ¬ oT kind code id ttl then 1 else if cf b then 0 else 17
def gv(b:List Int)(src kind code id ttl:Int):List Int:=if fh b kind code id ttl=0 then cN (fS src (bO b) 1 id ttl (fL (kind,code,b.take 28))) else []
def jn(s:jC):jC:=(s.2.1,s.1,0,(s.2.2.1+1)%4294967296,20,0,[])
def pf(b:List Int):Prop:=cf b/\((cR b=1/\ix (b.drop 20)=0)∨(cR b=17/\gW (bO b) (eV b) (b.drop 20)=0) ∨
 (cR b=6/\gI (bO b) (eV b) (b.drop 20)=0/\bits .and .i64 (dE (bO b) (eV b) (b.drop 20)).2.2.2.2.1 2≠0/\bits .and .i64 (dE (bO b) (eV b) (b.drop 20)).2.2.2.2.1 4=0))
instance (b:List Int):Decidable (pf b):=by unfold pf;infer_instance
def eT(b:List Int)(id ttl:Int):Int:=if ¬ f5 id ttl then 1 else if pf b then 0 else 17
def f7(b:List Int)(src id ttl:Int):List Int :=
 if eT b id ttl=0 then
  if cR b=1 then cN (fS src (bO b) 1 id ttl (dh (true,(dO (b.drop 20)).2)))
  else if cR b=17 then gv b src 3 3 id ttl
  else cN (fS src (bO b) 6 id ttl (de src (bO b) (jn (dE (bO b) (eV b) (b.drop 20)))))
 else []
def yS(b:List Int):Prop:=fC b=0/\b.length=28/\(bN b).1=0/\(bN b).2.2.2.2.1=true
instance (b:List Int):Decidable (yS b):=by unfold yS;infer_instance
def Ef(b:List Int):Int:=if cR b=1 then aG b 22-16384 else if cR b=17∨cR b=6 then aG b 20-20000 else 0
def A4(b:List Int):bL:=(bO b,eV b,cR b,Ef b,(bN b).2.1,(bN b).2.2.1)
def xp(b:List Int):Prop :=
 (cR b=1/\aG b 2=30/\aG b 20=2048/\aG b 24=21075/\aG b 26=(bN b).2.1) ∨
 (cR b=17/\aG b 2=30/\aG b 22=33434/\aG b 24=aG b 2-20/\aG b 26=(bN b).2.1+1) ∨
 (cR b=6/\aG b 2=40/\aG b 22=80/\dG ((b.drop 24).take 4)=(bN b).2.1)
instance (b:List Int):Decidable (xp b):=by unfold xp;infer_instance
def vO(b:List Int):bL×Bool:=if yS b then (A4 b,decide (xp b/\dI (A4 b)=0)) else (wz,false)
def rC(p:bL)(t:Int):bL:=(p.1,p.2.1,p.2.2.1,p.2.2.2.1,p.2.2.2.2.1,t)
def tV(ty code:Int):Int:=if ty=11 then 1 else if code=3 then 3 else 5
abbrev yi:Type:=bL×rN×Bool
def Ay:yi:=(wz,Kz,false)
def HB(dst:Int)(b:List Int):yi :=
 if wZ b=0 then (rC (vO (qJ b).2.2).1 0,(0,tV (qJ b).1 (qJ b).2.1,(qJ b).2.1,0,0,(vO (qJ b).2.2).1.2.2.2.2.2),(vO (qJ b).2.2).2&&decide ((vO (qJ b).2.2).1.1=dst)) else Ay
def A9(b:List Int):Prop:=ix b=0/\(dO b).1=true/\(dO b).2.1=21075/\(dO b).2.2.2.length=2
instance (b:List Int):Decidable (A9 b):=by unfold A9;infer_instance
def Hy(src dst:Int)(b:List Int):yi:=if A9 b then ((dst,src,1,aG b 2-18432,(dO b).2.2.1,0),(0,2,0,0,0,0),true) else Ay
def zo(src dst:Int)(b:List Int):Prop:=gI src dst b=0/\(dE src dst b).1=80/\(dE src dst b).2.2.1=0/\(dE src dst b).2.2.2.2.1=20/\(dE src dst b).2.2.2.2.2.1=0/\(dE src dst b).2.2.2.2.2.2=[]
instance (s d:Int) (b:List Int):Decidable (zo s d b):=by unfold zo;infer_instance
def MT(src dst:Int)(b:List Int):yi:=if zo src dst b then ((dst,src,6,(dE src dst b).2.1-20000,(dE src dst b).2.2.2.1-1,0),(0,4,0,0,0,0),true) else Ay
def pB(b:List Int):yi :=
 if cR b=1/\0<(b.drop 20).length/\(b.drop 20).getD 0 default=0 then Hy (bO b) (eV b) (b.drop 20)
 else if cR b=1 then HB (eV b) (b.drop 20) else if cR b=6 then MT (bO b) (eV b) (b.drop 20) else Ay
def xM(b:List Int):Prop:=bU b=0/\(pB b).2.2=true/\dI (rC (pB b).1 1)=0
instance (b:List Int):Decidable (xM b):=by unfold xM;infer_instance
def I6(b:List Int):bL×rN:=if xM b then ((pB b).1,(bO b,(pB b).2.1.2.1,(pB b).2.1.2.2.1,(bN b).2.2.1,(bN b).2.1,(pB b).2.1.2.2.2.2.2)) else (wz,Kz)
def LD(b:List Int):Int:=if xM b then 0 else 17
theorem PH(n:Int):bits .and .i64 n 4294967295=n%4294967296:=by
 have h127:(BitVec.ofInt 64 4294967295).toNat=2^32-1:=by decide
 have key:(BitVec.ofInt 64 n &&& BitVec.ofInt 64 4294967295).toNat=(n%((2^64:Nat):Int)).toNat%2^32:=by
  rw[BitVec.toNat_and,BitVec.toNat_ofInt,h127,Nat.and_two_pow_sub_one_eq_mod]
 show IntKind.i64.wrap ((BitVec.ofInt 64 n &&& BitVec.ofInt 64 4294967295).toNat:Nat)=n%4294967296
 rw[key,IntKind.wrap_i64]
 omega
theorem rY{p n a s:Int}(hs:sz n=s)(hn:0<=n/\n<=32)(hp:p%s=0):cS (p,n) a=decide (p<=a/\a<p+s):=by
 unfold cS jb
 simp only
 rw[hs,decide_eq_true ⟨hn.1,hn.2,hp⟩,Bool.true_and]
theorem DF{b:List Int}:cf b↔uv b/\fg (aS b).1.2.2.2.2.2.1:=⟨fun h=>⟨⟨h.1,h.2.1,h.2.2.1,h.2.2.2.1⟩,h.2.2.2.2⟩,fun h=>⟨h.1.1,h.1.2.1,h.1.2.2.1,h.1.2.2.2,h.2⟩⟩
theorem JW{b:List Int}(h:cf b):na b=(bN b,b.drop 20):=by rw[na,if_pos (DF.1 h).1,aS,if_pos h.1]
theorem m7{b:List Int}(h:cf b):bU b=0/\28<=b.length/\(cR b=1->(b.drop 20).getD 0 default=8)/\(cR b=6->14<=(b.drop 20).length->bits .and .u8 ((b.drop 20).getD 13 default) 4=0)/\fg (bO b):=by
 obtain⟨h1,h2⟩:=h
 rw[aS,if_pos h1] at h2
 obtain⟨k1,k2,k3,k4⟩:=h2
 simp only[List.length_drop] at k1
 exact⟨h1,by omega,k2,k3,k4⟩
theorem XV{b:List Int}(h1:bU b=0)(h2:28<=b.length)(h3:cR b=1->(b.drop 20).getD 0 default=8)(h4:cR b=6->14<=(b.drop 20).length->bits .and .u8 ((b.drop 20).getD 13 default) 4=0)(h5:fg (bO b)):cf b:=by
 refine⟨h1,?_⟩
 rw[aS,if_pos h1]
 exact⟨by simp only[List.length_drop];omega,h3,h4,h5⟩
theorem vy{src dst proto id ttl:Int}{data:List Int}(hn:f5 id ttl)(hp:0<=proto/\proto<=255)(hl:(data.length:Int)<=1480):c8 (fS src dst proto id ttl data)=0:=by
 obtain⟨⟨a,b⟩,c,d⟩:=hn
 rw[c8,if_neg,if_neg (by simp only[fS];omega)]
 rw[Decidable.not_not]
 exact⟨⟨Int.le_refl _,by simp only[fS];omega⟩,⟨c,d⟩,hp,a,b⟩
theorem z5{b:List Int}{src kind code id ttl:Int}(hg:oT kind code id ttl)(ha:cf b) :
  fh b kind code id ttl=0/\gv b src kind code id ttl=cN (fS src (bO b) 1 id ttl (fL (kind,code,b.take 28)))/\gw (kind,code,b.take 28)=0/\c8 (fS src (bO b) 1 id ttl (fL (kind,code,b.take 28)))=0:=by
 have he:fh b kind code id ttl=0:=by rw[fh,if_neg (fun k=>k hg),if_pos ha]
 obtain⟨-,hl,-⟩:=m7 ha
 obtain⟨h1,h2,h3⟩:=hg
 refine⟨he,by rw[gv,if_pos he],?_,vy h3 (by omega) (Gj _)⟩
 have ht:(b.take 28).length=28:=by rw[List.length_take];omega
 rw[gw,if_neg,if_neg,if_neg]
 ·simp only;rw[ht];omega
 ·simp only;rw[ht];omega
 ·rw[Decidable.not_not];exact⟨h1.symm,h2⟩
theorem WI{b:List Int}{src kind code id ttl:Int}(hg:¬ oT kind code id ttl):([]:List Int)=gv b src kind code id ttl/\1=fh b kind code id ttl:=by
 have he:fh b kind code id ttl=1:=by rw[fh,if_pos hg]
 rw[gv,he];exact⟨rfl,rfl⟩
theorem Wl{b:List Int}{src kind code id ttl:Int}(hg:oT kind code id ttl)(ha:¬ cf b):([]:List Int)=gv b src kind code id ttl/\17=fh b kind code id ttl:=by
 have he:fh b kind code id ttl=17:=by rw[fh,if_neg (fun k=>k hg),if_neg ha]
 rw[gv,he];exact⟨rfl,rfl⟩
theorem ae0(b:List Int):bW b (Int.toNat 0) (Int.toNat 28)=b.take 28:=by
 show bW b 0 28=_
 simp[bW]
theorem Ug{b:List Int}{src id ttl:Int}(hn:¬ f5 id ttl):([]:List Int)=f7 b src id ttl/\1=eT b id ttl:=by
 have he:eT b id ttl=1:=by rw[eT,if_pos hn]
 rw[f7,he];exact⟨rfl,rfl⟩
theorem vQ{b:List Int}{src id ttl:Int}(hn:f5 id ttl)(ha:¬ pf b):([]:List Int)=f7 b src id ttl/\17=eT b id ttl:=by
 have he:eT b id ttl=17:=by rw[eT,if_neg (fun k=>k hn),if_neg ha]
 rw[f7,he];exact⟨rfl,rfl⟩
theorem wW{b:List Int}{id ttl:Int}(hn:f5 id ttl)(ha:pf b):eT b id ttl=0:=by rw[eT,if_neg (fun k=>k hn),if_pos ha]
theorem zK{b:List Int}{src id ttl:Int}(hn:f5 id ttl)(ha:cf b)(h:cR b=1)(he:ix (b.drop 20)=0) :
  f7 b src id ttl=cN (fS src (bO b) 1 id ttl (dh (true,(dO (b.drop 20)).2)))/\eT b id ttl=0:=by
 have h0:=wW hn (b:=b) ⟨ha,.inl ⟨h,he⟩⟩
 rw[f7,if_pos h0,if_pos h];exact⟨rfl,h0⟩
theorem zi{b:List Int}{src id ttl:Int}(hn:f5 id ttl)(ha:cf b)(h:cR b=17)(he:gW (bO b) (eV b) (b.drop 20)=0) :
  f7 b src id ttl=gv b src 3 3 id ttl/\eT b id ttl=0:=by
 have h0:=wW hn (b:=b) ⟨ha,.inr (.inl ⟨h,he⟩)⟩
 rw[f7,if_pos h0,if_neg (by omega),if_pos h];exact⟨rfl,h0⟩
theorem zT{b:List Int}{src id ttl:Int}(hn:f5 id ttl)(ha:cf b)(h:cR b=6)(he:gI (bO b) (eV b) (b.drop 20)=0)
  (h2:bits .and .i64 (dE (bO b) (eV b) (b.drop 20)).2.2.2.2.1 2≠0) (h4:bits .and .i64 (dE (bO b) (eV b) (b.drop 20)).2.2.2.2.1 4=0) :
  f7 b src id ttl=cN (fS src (bO b) 6 id ttl (de src (bO b) (jn (dE (bO b) (eV b) (b.drop 20)))))/\eT b id ttl=0:=by
 have h0:=wW hn (b:=b) ⟨ha,.inr (.inr ⟨h,he,h2,h4⟩)⟩
 rw[f7,if_pos h0,if_neg (by omega),if_neg (by omega)];exact⟨rfl,h0⟩
theorem Gb{b:List Int}{id ttl:Int}(hn:f5 id ttl)(ha:cf b):fh b 3 3 id ttl=0:=by
 rw[fh,if_neg (fun k=>k ⟨.inr rfl,⟨by omega,by omega⟩,hn⟩),if_pos ha]
theorem Lh(b:List Int):(dO b).2.2.2.length<=b.length:=by
 unfold dO;split
 ·simp only[List.length_drop];omega
 ·simp
theorem ak8{s d:Int}{b:List Int}(hb:bytes b):(0<=(dE s d b).2.1/\(dE s d b).2.1<=65535)/\(0<=(dE s d b).2.2.1/\(dE s d b).2.2.1<=4294967295)/\0<=(dE s d b).2.2.2.1/\(dE s d b).2.2.2.1<=4294967295:=by
 unfold dE;split
 ·have h1:=qM hb (Int.toNat 2)
  have h2:=qM hb (Int.toNat 4)
  have h3:=qM hb (Int.toNat 6)
  have h4:=qM hb (Int.toNat 8)
  have h5:=qM hb (Int.toNat 10)
  simp only
  omega
 ·simp
def lU(k:Int):cJ:=([(0,8),(2130706432,8),(167772160,8),(2886729728,12),(3232235520,16),(2851995648,16),(3758096384,4),(4026531840,4)]:List cJ).getD k.toNat (0,0)
def N5:Ct:=⟨[.val ce],[.val cI],fun d=>[],fun d=>((fJ d.1,()),())⟩
def Z4:ao N5.ps->az:=(fun d=>{cuts:=(fun n=>match n with|6=>some (fun S=>{ι:=Unit,inv:=fun i=>cS (lU (S.i 6)) d.1=false,keep:=[0,5,6],slots:=fun i=>[],names:=fun i=>[]})|_=>none),unr:=fun n=>match n with|2=>9|_=>0})
def ji :=
 (2:Int)^IntKind.bits IntKind.i64
def xR :=
 (nat_lit 0+nat_lit 1)%Int.natAbs (ji)+nat_lit 1
def xy :=
 ((xR)%Int.natAbs (ji)+nat_lit 1)%Int.natAbs (ji)+nat_lit 1
def vn :=
 IntKind.wrap .i64 ((0:Int)+(1:Int))+(1:Int)
def u7 :=
 IntKind.wrap .i64 (IntKind.wrap .i64 (vn)+(1:Int))+(1:Int)
def Ad :=
 ((xy)%Int.natAbs (ji)+nat_lit 1)%Int.natAbs (ji)+nat_lit 1
def xm :=
 IntKind.wrap .i64 (IntKind.wrap .i64 (u7)+(1:Int))+(1:Int)
def pi :=
 (2130706432:Int)
def pj :=
 (2886729728:Int)
def qr :=
 (3232235520:Int)
def pP :=
 (2851995648:Int)
def pV :=
 (3758096384:Int)
def pt :=
 (4026531840:Int)
def FP :=
 lU (Int.ofNat (((xR)%Int.natAbs (ji)+nat_lit 1)%Int.natAbs (ji)))
def Gx :=
 lU (Int.ofNat (((xy)%Int.natAbs (ji)+nat_lit 1)%Int.natAbs (ji)))
def CG :=
 lU (Int.ofNat (((Ad)%Int.natAbs (ji)+nat_lit 1)%Int.natAbs (ji)))
def pN :=
 (167772160:Int)
theorem Vl :
 ∀(a:Int),(0<=a/\a<=4294967295)/\True->True->ad (cS ((0:Int),(8:Int)) a) ((1:Int)=fJ a) (∃(b:Unit),cS (lU (0:Int)) a=false/\a=a/\(0:Int)=0/\(8:Int)=8/\(1:Int)=1/\(pi)=2130706432/\(8:Int)=8/\(2:Int)=2/\(pN)=167772160/\(8:Int)=8/\(3:Int)=3/\(pj)=2886729728/\(12:Int)=12/\(3:Int)=3/\(qr)=3232235520/\(16:Int)=16/\(3:Int)=3/\(pP)=2851995648/\(16:Int)=16/\(4:Int)=4/\(pV)=3758096384/\(4:Int)=4/\(5:Int)=5/\(pt)=4026531840/\(4:Int)=4/\(6:Int)=6/\(0:Int)=0/\True)/\ ∀(b:Unit),cS (lU (0:Int)) a=false->ad (cS ((pi),(8:Int)) a) ((2:Int)=fJ a) (∃(c:Unit),cS (lU (Int.ofNat ((nat_lit 0+nat_lit 1)%Int.natAbs (ji))))
 a=false/\a=a/\(0:Int)=0/\(8:Int)=8/\(1:Int)=1/\(pi)=2130706432/\(8:Int)=8/\(2:Int)=2/\(pN)=167772160/\(8:Int)=8/\(3:Int)=3/\(pj)=2886729728/\(12:Int)=12/\(3:Int)=3/\(qr)=3232235520/\(16:Int)=16/\(3:Int)=3/\(pP)=2851995648/\(16:Int)=16/\(4:Int)=4/\(pV)=3758096384/\(4:Int)=4/\(5:Int)=5/\(pt)=4026531840/\(4:Int)=4/\(6:Int)=6/\IntKind.wrap .i64 ((0:Int)+(1:Int))=IntKind.wrap .i64 ((0:Int)+(1:Int))/\True)/\ ∀(c:Unit),cS (lU (Int.ofNat ((nat_lit 0+nat_lit 1)%Int.natAbs (ji)))) a=false->ad (cS ((pN),(8:Int)) a) ((3:Int)=fJ a) (∃(d:Unit),cS (lU (Int.ofNat ((xR)%Int.natAbs (ji))))
 a=false/\a=a/\(0:Int)=0/\(8:Int)=8/\(1:Int)=1/\(pi)=2130706432/\(8:Int)=8/\(2:Int)=2/\(pN)=167772160/\(8:Int)=8/\(3:Int)=3/\(pj)=2886729728/\(12:Int)=12/\(3:Int)=3/\(qr)=3232235520/\(16:Int)=16/\(3:Int)=3/\(pP)=2851995648/\(16:Int)=16/\(4:Int)=4/\(pV)=3758096384/\(4:Int)=4/\(5:Int)=5/\(pt)=4026531840/\(4:Int)=4/\(6:Int)=6/\IntKind.wrap .i64 (vn)=IntKind.wrap .i64 (vn)/\True)/\ ∀(d:Unit),cS (lU (Int.ofNat ((xR)%Int.natAbs (ji)))) a=false->ad (cS ((pj),(12:Int)) a) ((3:Int)=fJ a) (∃(e:Unit),cS (FP)
 a=false/\a=a/\(0:Int)=0/\(8:Int)=8/\(1:Int)=1/\(pi)=2130706432/\(8:Int)=8/\(2:Int)=2/\(pN)=167772160/\(8:Int)=8/\(3:Int)=3/\(pj)=2886729728/\(12:Int)=12/\(3:Int)=3/\(qr)=3232235520/\(16:Int)=16/\(3:Int)=3/\(pP)=2851995648/\(16:Int)=16/\(4:Int)=4/\(pV)=3758096384/\(4:Int)=4/\(5:Int)=5/\(pt)=4026531840/\(4:Int)=4/\(6:Int)=6/\IntKind.wrap .i64 (IntKind.wrap .i64 (vn)+(1:Int))=IntKind.wrap .i64 (IntKind.wrap .i64 (vn)+(1:Int))/\True)/\ ∀(e:Unit),cS (FP) a=false->ad (cS ((qr),(16:Int)) a) ((3:Int)=fJ a) (∃(f:Unit),cS (lU (Int.ofNat ((xy)%Int.natAbs (ji))))
 a=false/\a=a/\(0:Int)=0/\(8:Int)=8/\(1:Int)=1/\(pi)=2130706432/\(8:Int)=8/\(2:Int)=2/\(pN)=167772160/\(8:Int)=8/\(3:Int)=3/\(pj)=2886729728/\(12:Int)=12/\(3:Int)=3/\(qr)=3232235520/\(16:Int)=16/\(3:Int)=3/\(pP)=2851995648/\(16:Int)=16/\(4:Int)=4/\(pV)=3758096384/\(4:Int)=4/\(5:Int)=5/\(pt)=4026531840/\(4:Int)=4/\(6:Int)=6/\IntKind.wrap .i64 (u7)=IntKind.wrap .i64 (u7)/\True)/\ ∀(f:Unit),cS (lU (Int.ofNat ((xy)%Int.natAbs (ji)))) a=false->ad (cS ((pP),(16:Int)) a) ((4:Int)=fJ a) (∃(g:Unit),cS (Gx)
 a=false/\a=a/\(0:Int)=0/\(8:Int)=8/\(1:Int)=1/\(pi)=2130706432/\(8:Int)=8/\(2:Int)=2/\(pN)=167772160/\(8:Int)=8/\(3:Int)=3/\(pj)=2886729728/\(12:Int)=12/\(3:Int)=3/\(qr)=3232235520/\(16:Int)=16/\(3:Int)=3/\(pP)=2851995648/\(16:Int)=16/\(4:Int)=4/\(pV)=3758096384/\(4:Int)=4/\(5:Int)=5/\(pt)=4026531840/\(4:Int)=4/\(6:Int)=6/\IntKind.wrap .i64 (IntKind.wrap .i64 (u7)+(1:Int))=IntKind.wrap .i64 (IntKind.wrap .i64 (u7)+(1:Int))/\True)/\ ∀(g:Unit),cS (Gx) a=false->ad (cS ((pV),(4:Int)) a) ((5:Int)=fJ a) (∃(h:Unit),cS (lU (Int.ofNat ((Ad)%Int.natAbs (ji))))
 a=false/\a=a/\(0:Int)=0/\(8:Int)=8/\(1:Int)=1/\(pi)=2130706432/\(8:Int)=8/\(2:Int)=2/\(pN)=167772160/\(8:Int)=8/\(3:Int)=3/\(pj)=2886729728/\(12:Int)=12/\(3:Int)=3/\(qr)=3232235520/\(16:Int)=16/\(3:Int)=3/\(pP)=2851995648/\(16:Int)=16/\(4:Int)=4/\(pV)=3758096384/\(4:Int)=4/\(5:Int)=5/\(pt)=4026531840/\(4:Int)=4/\(6:Int)=6/\IntKind.wrap .i64 (xm)=IntKind.wrap .i64 (xm)/\True)/\ ∀(h:Unit),cS (lU (Int.ofNat ((Ad)%Int.natAbs (ji)))) a=false->ad (cS ((pt),(4:Int)) a) ((6:Int)=fJ a) (∃(i:Unit),cS (CG)
 a=false/\a=a/\(0:Int)=0/\(8:Int)=8/\(1:Int)=1/\(pi)=2130706432/\(8:Int)=8/\(2:Int)=2/\(pN)=167772160/\(8:Int)=8/\(3:Int)=3/\(pj)=2886729728/\(12:Int)=12/\(3:Int)=3/\(qr)=3232235520/\(16:Int)=16/\(3:Int)=3/\(pP)=2851995648/\(16:Int)=16/\(4:Int)=4/\(pV)=3758096384/\(4:Int)=4/\(5:Int)=5/\(pt)=4026531840/\(4:Int)=4/\(6:Int)=6/\IntKind.wrap .i64 (IntKind.wrap .i64 (xm)+(1:Int))=IntKind.wrap .i64 (IntKind.wrap .i64 (xm)+(1:Int))/\True)/\ ∀(i:Unit),cS (CG) a=false->(0:Int)=fJ a:=by
  delta ji xy u7 Ad xR xm vn pi pj qr pP pV pt FP Gx CG pN
  rintro a ⟨⟨a0,a1⟩,-⟩ -
  have q0:=rY (p:=0) (n:=8) (a:=a) (s:=16777216) rfl (by omega) (by omega)
  have q1:=rY (p:=2130706432) (n:=8) (a:=a) (s:=16777216) rfl (by omega) (by omega)
  have q2:=rY (p:=167772160) (n:=8) (a:=a) (s:=16777216) rfl (by omega) (by omega)
  have q3:=rY (p:=2886729728) (n:=12) (a:=a) (s:=1048576) rfl (by omega) (by omega)
  have q4:=rY (p:=3232235520) (n:=16) (a:=a) (s:=65536) rfl (by omega) (by omega)
  have q5:=rY (p:=2851995648) (n:=16) (a:=a) (s:=65536) rfl (by omega) (by omega)
  have q6:=rY (p:=3758096384) (n:=4) (a:=a) (s:=268435456) rfl (by omega) (by omega)
  have q7:=rY (p:=4026531840) (n:=4) (a:=a) (s:=268435456) rfl (by omega) (by omega)
  refine⟨ae (fun h=>?_) (fun h=>⟨(),h,(by repeat' first|exact trivial|refine⟨trivial,?_⟩|refine⟨(by with_reducible rfl),?_⟩|refine⟨af (by omega) (by omega),?_⟩|refine⟨rfl,?_⟩)⟩),?_⟩
  ·rw[q0] at h
   have h:=of_decide_eq_true h
   unfold fJ;rw[if_pos (by omega)]
  rintro-h
  have h:cS (0,8) a=false:=h
  rw[q0] at h
  have h0:=of_decide_eq_false h
  refine⟨ae (fun h=>?_) (fun h=>⟨(),h,(by repeat' first|exact trivial|refine⟨trivial,?_⟩|refine⟨(by with_reducible rfl),?_⟩|refine⟨af (by omega) (by omega),?_⟩|refine⟨rfl,?_⟩)⟩),?_⟩
  ·rw[q1] at h
   have h:=of_decide_eq_true h
   unfold fJ;rw[if_neg (by omega),if_pos (by omega)]
  rintro-h
  have h:cS (2130706432,8) a=false:=h
  rw[q1] at h
  have h1:=of_decide_eq_false h
  refine⟨ae (fun h=>?_) (fun h=>⟨(),h,(by repeat' first|exact trivial|refine⟨trivial,?_⟩|refine⟨(by with_reducible rfl),?_⟩|refine⟨af (by omega) (by omega),?_⟩|refine⟨rfl,?_⟩)⟩),?_⟩
  ·rw[q2] at h
   have h:=of_decide_eq_true h
   unfold fJ;rw[if_neg (by omega),if_neg (by omega),if_pos (by omega)]
  rintro-h
  have h:cS (167772160,8) a=false:=h
  rw[q2] at h
  have h2:=of_decide_eq_false h
  refine⟨ae (fun h=>?_) (fun h=>⟨(),h,(by repeat' first|exact trivial|refine⟨trivial,?_⟩|refine⟨(by with_reducible rfl),?_⟩|refine⟨af (by omega) (by omega),?_⟩|refine⟨rfl,?_⟩)⟩),?_⟩
  ·rw[q3] at h
   have h:=of_decide_eq_true h
   unfold fJ;rw[if_neg (by omega),if_neg (by omega),if_pos (by omega)]
  rintro-h
  have h:cS (2886729728,12) a=false:=h
  rw[q3] at h
  have h3:=of_decide_eq_false h
  refine⟨ae (fun h=>?_) (fun h=>⟨(),h,(by repeat' first|exact trivial|refine⟨trivial,?_⟩|refine⟨(by with_reducible rfl),?_⟩|refine⟨af (by omega) (by omega),?_⟩|refine⟨rfl,?_⟩)⟩),?_⟩
  ·rw[q4] at h
   have h:=of_decide_eq_true h
   unfold fJ;rw[if_neg (by omega),if_neg (by omega),if_pos (by omega)]
  rintro-h
  have h:cS (3232235520,16) a=false:=h
  rw[q4] at h
  have h4:=of_decide_eq_false h
  refine⟨ae (fun h=>?_) (fun h=>⟨(),h,(by repeat' first|exact trivial|refine⟨trivial,?_⟩|refine⟨(by with_reducible rfl),?_⟩|refine⟨af (by omega) (by omega),?_⟩|refine⟨rfl,?_⟩)⟩),?_⟩
  ·rw[q5] at h
   have h:=of_decide_eq_true h
   unfold fJ;rw[if_neg (by omega),if_neg (by omega),if_neg (by omega),if_pos (by omega)]
  rintro-h
  have h:cS (2851995648,16) a=false:=h
  rw[q5] at h
  have h5:=of_decide_eq_false h
  refine⟨ae (fun h=>?_) (fun h=>⟨(),h,(by repeat' first|exact trivial|refine⟨trivial,?_⟩|refine⟨(by with_reducible rfl),?_⟩|refine⟨af (by omega) (by omega),?_⟩|refine⟨rfl,?_⟩)⟩),?_⟩
  ·rw[q6] at h
   have h:=of_decide_eq_true h
   unfold fJ;rw[if_neg (by omega),if_neg (by omega),if_neg (by omega),if_neg (by omega),if_pos (by omega)]
  rintro-h
  have h:cS (3758096384,4) a=false:=h
  rw[q6] at h
  have h6:=of_decide_eq_false h
  refine⟨ae (fun h=>?_) (fun h=>⟨(),h,(by repeat' first|exact trivial|refine⟨trivial,?_⟩|refine⟨(by with_reducible rfl),?_⟩|refine⟨af (by omega) (by omega),?_⟩|refine⟨rfl,?_⟩)⟩),?_⟩
  ·rw[q7] at h
   have h:=of_decide_eq_true h
   unfold fJ;rw[if_neg (by omega),if_neg (by omega),if_neg (by omega),if_neg (by omega),if_neg (by omega),if_pos (by omega)]
  rintro-h
  have h:cS (4026531840,4) a=false:=h
  rw[q7] at h
  have h7:=of_decide_eq_false h
  unfold fJ;rw[if_neg (by omega),if_neg (by omega),if_neg (by omega),if_neg (by omega),if_neg (by omega),if_neg (by omega)]
theorem JM:av Tryz.prog GL 252 N5.spec:=Ct.okH _ Tryz.func252 (by kernel_rfl) (ab3 (ai aC HM) (d:=8)) ar Z4 (aD (by kernel_rfl) Vl)
def H3:Ct:=⟨[.val (.sl bj)],[.agg vY,.val .bool],fun d=>[(d.1.length:Int)<=1099511627776],fun d=>((na d.1,decide (cf d.1),()),())⟩
def ZB:ao H3.ps->az:=(fun _=>{})
def zF(a:List Int) :=
 (((0:Int),(0:Int),(0:Int),(0:Int),false,(0:Int),(0:Int)),([]:List Int))=na a/\false=decide (cf a)
def Fm(a:List Int)(b:(Int×Int×Int×Int×Bool×Int×Int)×List Int) :=
 ∀(e:Bool),e=decide (fJ b.1.2.2.2.2.2.1=0)->((! e)->((! e)->(! e))/\True)/\(e=false->(! e))/\b=na a/\(bif e then true else decide (fJ b.1.2.2.2.2.2.1=3))=decide (cf a)
theorem aj2 :
 ∀(a:List Int),(a.length<=maxLen/\ ∀(b:Int),b∈a->0<=b/\b<=255)/\True->(a.length:Int)<=1099511627776->(a.length:Int)<=1099511627776/\ ∀(b:(Int×Int×Int×Int×Bool×Int×Int)×List Int)(c:Int),b=aS a/\c=bU a-> ∀(d:Bool),d= ! decide (c=0)->((! d)->((! d)->(! d))/\True)/\((! d)->((! d)->(! d))/\True)/\((! d)->((! d)->(! d))/\True)/\(d=false->(! d))/\ad (bif d then true else decide ((b.2.length:Int)<8)) (zF a) (ad (decide (b.1.2.2.2.1=1)) ((0:Int)<=0/\0<(b.2.length:Int)/\ad (! decide (List.getD b.2 (Int.toNat (0:Int)) default=8)) (zF a) (Fm a b)) (ad (decide (b.1.2.2.2.1=6)) (∀(e:Bool),e=decide (13<(b.2.length:Int))->(e->(e->e)/\True)/\(e->(e->e)/\(0:Int)<=13/\13<(b.2.length:Int)/\True)/\(e->(e->e)/\True)/\(e->(e->e)/\True)/\(e->(e->e)/\True)/\(e->e)/\ad (bif e then ! decide (bits BinOp.and IntKind.u8 (List.getD b.2 (Int.toNat (13:Int)) default) (4:Int)=0) else false) (zF a)
 (∀(f:Bool),f=decide (fJ b.1.2.2.2.2.2.1=0)->((! f)->((! f)->(! f))/\True)/\(f=false->(! f))/\b=na a/\(bif f then true else decide (fJ b.1.2.2.2.2.2.1=3))=decide (cf a))) (Fm a b))):=by
  delta zF Fm
  rintro b ⟨⟨-,hb⟩,-⟩ hl
  refine⟨hl,?_⟩
  rintro d e ⟨rfl,rfl⟩
  have bad:¬ uv b->(((0,0,0,0,false,0,0),[]):nF)=na b/\false=decide (cf b):=fun h=>by rw[na,if_neg h,decide_eq_false (fun k=>h (DF.1 k).1)];exact⟨rfl,rfl⟩
  have good:uv b->aS b=na b/\(bif decide (fJ (aS b).1.2.2.2.2.2.1=0) then true else decide (fJ (aS b).1.2.2.2.2.2.1=3))=decide (cf b):=by
   intro h
   refine⟨by rw[na,if_pos h],?_⟩
   rw[Bool.eq_iff_iff,decide_eq_true_iff,DF]
   simp[h,fg,Bool.cond_eq_ite]
  (repeat (intro (b_:Bool) (hb_:b_=_);(repeat refine⟨(by first|(simp;done)|(rw[hb_];simp;done)|(rw[hb_];simp;omega)|(rw[hb_];simp;intros;omega)|(rw[hb_];simp +contextual;done)),?_⟩);subst hb_))
  refine ae (fun h=>?_) (fun h=>?_)
  ·refine bad (fun k=>?_)
   obtain⟨k1,k2,-⟩:=k
   rw[k1] at h;simp at h;omega
  have h1:bU b=0:=by
   refine Classical.byContradiction fun k=>?_
   simp[k] at h
  have h2:8<=(aS b).2.length:=by
   rw[h1] at h;simp at h;omega
  refine ae (fun hp=>?_) (fun hp=>?_)
  ·have hp:vq (aS b)=1:=of_decide_eq_true hp
   refine⟨by omega,by omega,ae (fun h8=>?_) (fun h8=>?_)⟩
   ·refine bad (fun k=>?_)
    have:=k.2.2.1 hp
    simp only[show Int.toNat 0=0 from rfl,this] at h8
    simp at h8
   ·(repeat (intro (b_:Bool) (hb_:b_=_);(repeat refine⟨(by first|(simp;done)|(rw[hb_];simp;done)|(rw[hb_];simp;omega)|(rw[hb_];simp;intros;omega)|(rw[hb_];simp +contextual;done)),?_⟩);subst hb_))
    exact good ⟨h1,h2,fun _=>by simpa using h8,fun k=>by omega⟩
  have hp:¬ vq (aS b)=1:=of_decide_eq_false hp
  refine ae (fun hq=>?_) (fun hq=>?_)
  ·have hq:vq (aS b)=6:=of_decide_eq_true hq
   (repeat (intro (b_:Bool) (hb_:b_=_);(repeat refine⟨(by first|(simp;done)|(rw[hb_];simp;done)|(rw[hb_];simp;omega)|(rw[hb_];simp;intros;omega)|(rw[hb_];simp +contextual;done)),?_⟩);subst hb_))
   refine ae (fun h8=>?_) (fun h8=>?_)
   ·refine bad (fun k=>?_)
    have:=k.2.2.2 hq
    simp[Bool.cond_eq_ite] at h8
    exact h8.2 (this (by omega))
   ·(repeat (intro (b_:Bool) (hb_:b_=_);(repeat refine⟨(by first|(simp;done)|(rw[hb_];simp;done)|(rw[hb_];simp;omega)|(rw[hb_];simp;intros;omega)|(rw[hb_];simp +contextual;done)),?_⟩);subst hb_))
    refine good ⟨h1,h2,fun k=>absurd k hp,fun _ hk=>?_⟩
    refine Classical.byContradiction fun k=>?_
    have k:¬ bits .and .u8 ((aS b).2.getD (Int.toNat 13) default) 4=0:=k
    rw[decide_eq_true (show (13:Int)<((aS b).2.length:Int) by omega),decide_eq_false k] at h8
    cases h8
  ·have hq:¬ vq (aS b)=6:=of_decide_eq_false hq
   (repeat (intro (b_:Bool) (hb_:b_=_);(repeat refine⟨(by first|(simp;done)|(rw[hb_];simp;done)|(rw[hb_];simp;omega)|(rw[hb_];simp;intros;omega)|(rw[hb_];simp +contextual;done)),?_⟩);subst hb_))
   exact good ⟨h1,h2,fun k=>absurd k hp,fun k=>absurd k hq⟩
theorem Mj:av Tryz.prog GL 266 H3.spec:=Ct.okH _ Tryz.func266 (by kernel_rfl) (ai (ai aC (Ct.named Bd)) JM) ar ZB (aD (by kernel_rfl) aj2)
def Pb:Ct:=⟨[.val cI,.val cI],[.val .bool],fun d=>[],fun d=>((decide (f5 d.1 d.2.1),()),())⟩
def ap8:ao Pb.ps->az:=(fun _=>{})
theorem ai7 :
 ∀(a b:Int),ab a/\ab b/\True->True-> ∀(c:Bool),c=decide (0<=a)->(c->(c->c)/\True)/\(c->c)/\ ∀(d:Bool),(d=bif c then decide (a<=65535) else false)->(d->(d->d)/\True)/\(d->d)/\ ∀(e:Bool),(e=bif d then decide (0<=b) else false)->(e->(e->e)/\True)/\(e->e)/\(bif e then decide (b<=255) else false)=decide (f5 a b):=by
  rintro id ttl - -
  (repeat (intro (b_:Bool) (hb_:b_=_);(repeat refine⟨(by first|(simp;done)|(rw[hb_];simp;done)|(rw[hb_];simp;omega)|(rw[hb_];simp;intros;omega)|(rw[hb_];simp +contextual;done)),?_⟩);subst hb_))
  rw[Bool.eq_iff_iff];simp[f5,Bool.cond_eq_ite,and_assoc]
theorem NT:av Tryz.prog GL 265 Pb.spec:=Ct.okH _ Tryz.func265 (by kernel_rfl) aC ar ap8 (aD (by kernel_rfl) ai7)
def K0:Ct:=⟨[.val ce,.val ce,.val cI,.val cI,.val cI,.val (.sl bj)],[.own 5 bj,.val cI],fun d=>[(d.2.2.2.2.2.1.length:Int)<=1073741824],fun d=>((cN (fS d.1 d.2.1 d.2.2.1 d.2.2.2.1 d.2.2.2.2.1 d.2.2.2.2.2.1),c8 (fS d.1 d.2.1 d.2.2.1 d.2.2.2.1 d.2.2.2.2.1 d.2.2.2.2.2.1),()),())⟩
def TP:ao K0.ps->az:=(fun _=>{})
theorem WM :
 ∀(a b c d e:Int)(f:List Int),(0<=a/\a<=4294967295)/\(0<=b/\b<=4294967295)/\ab c/\ab d/\ab e/\(f.length<=maxLen/\ ∀(g:Int),g∈f->0<=g/\g<=255)/\True->(f.length:Int)<=1073741824->(f.length:Int)<=1073741824/\cN (((0:Int),d,e,c,false,a,b),f)=cN (fS a b c d e f)/\c8 (((0:Int),d,e,c,false,a,b),f)=c8 (fS a b c d e f):=by
  rintro s d p i t data-hl
  exact⟨hl,rfl,rfl⟩
theorem GG:av Tryz.prog GL 268 K0.spec:=Ct.okH _ Tryz.func268 (by kernel_rfl) (ai aC Ns) ar TP (aD (by kernel_rfl) WM)
def Ka:Ct:=⟨[.val (.sl bj),.val ce,.val cI,.val cI,.val cI,.val cI],[.own 5 bj,.val cI],fun d=>[(d.1.length:Int)<=1099511627776],fun d=>((gv d.1 d.2.1 d.2.2.1 d.2.2.2.1 d.2.2.2.2.1 d.2.2.2.2.2.1,fh d.1 d.2.2.1 d.2.2.2.1 d.2.2.2.2.1 d.2.2.2.2.2.1,()),())⟩
def Ql:ao Ka.ps->az:=(fun _=>{})
theorem Zj :
 ∀(a:List Int)(b c d e f:Int),(a.length<=maxLen/\ ∀(g:Int),g∈a->0<=g/\g<=255)/\(0<=b/\b<=4294967295)/\ab c/\ab d/\ab e/\ab f/\True->(a.length:Int)<=1099511627776-> ∀(g:Bool),g= ! decide (c=11)->(g->(g->g)/\True)/\(g->g)/\ ∀(h:Bool),(h=bif g then ! decide (c=3) else false)->((! h)->((! h)->(! h))/\True)/\(h=false->(! h))/\ ∀(i:Bool),(i=bif h then true else decide (d<0))->((! i)->((! i)->(! i))/\True)/\(i=false->(! i))/\ ∀(j:Bool),(j=bif i then true else decide (255<d))->((! j)->((! j)->(! j))/\((! j)->(! j))/\True)/\((! j)->((! j)->(! j))/\True)/\(j=false->(! j))/\ad (bif j then true else ! decide (f5 e f)) (([]:List Int)=gv a b c d e f/\(1:Int)=fh a c d e f) ((a.length:Int)<=1099511627776/\ ∀(k:(Int×Int×Int×Int×Bool×Int×Int)×List Int)(l:Bool),k=na a/\l=decide (cf a)->ad (! l) (([]:List Int)=gv a b c d e f/\(17:Int)=fh a c d e f)
 ((0:Int)<=0/\(0:Int)<=28/\28<=(a.length:Int)/\((List.length (bW a (Int.toNat (0:Int)) (Int.toNat (28:Int)))):Int)<=1073741824/\ ∀(m:List Int)(n:Int),m=fL (c,d,bW a (Int.toNat (0:Int)) (Int.toNat (28:Int)))/\n=gw (c,d,bW a (Int.toNat (0:Int)) (Int.toNat (28:Int)))->ad (! decide (n=0)) (([]:List Int)=gv a b c d e f/\n=fh a c d e f) ((m.length:Int)<=1073741824/\cN (fS b k.1.2.2.2.2.2.1 (1:Int) e f m)=gv a b c d e f/\c8 (fS b k.1.2.2.2.2.2.1 (1:Int) e f m)=fh a c d e f))):=by
  rintro b src kind code id ttl ⟨⟨-,hb⟩,-⟩ hl
  (repeat (intro (b_:Bool) (hb_:b_=_);(repeat refine⟨(by first|(simp;done)|(rw[hb_];simp;done)|(rw[hb_];simp;omega)|(rw[hb_];simp;intros;omega)|(rw[hb_];simp +contextual;done)),?_⟩);subst hb_))
  by_cases hg:oT kind code id ttl
  rotate_left
  ·refine ae (fun _=>WI hg) (fun h=>absurd ?_ hg)
   by_cases hn:f5 id ttl
   ·rw[decide_eq_true hn] at h
    refine⟨?_,?_,hn⟩ <;> simp[Bool.cond_eq_ite] at h <;> omega
   ·rw[decide_eq_false hn] at h
    simp at h
  have hg':=hg
  obtain⟨g1,g2,g3⟩:=hg'
  refine ae (fun h=>?_) (fun _=>⟨hl,?_⟩)
  ·exfalso
   rw[decide_eq_true g3] at h
   simp[Bool.cond_eq_ite] at h;omega
  rintro d e ⟨rfl,rfl⟩
  refine ae (fun h=>Wl hg (by simpa using h)) (fun h=>?_)
  have ha:cf b:=by simpa using h
  have hgd:=z5 (src:=src) hg ha
  obtain⟨-,h28,-⟩:=m7 ha
  rw[JW ha,ae0]
  refine⟨by omega,by omega,by omega,by rw[List.length_take];omega,?_⟩
  rintro n e ⟨rfl,rfl⟩
  rw[hgd.2.2.1]
  refine ae (fun h=>by simp at h) (fun _=>?_)
  have:=Gj (kind,code,b.take 28)
  refine⟨by omega,hgd.2.1.symm,?_⟩
  rw[hgd.1];exact hgd.2.2.2
theorem Kb:av Tryz.prog GL 270 Ka.spec:=Ct.okH _ Tryz.func270 (by kernel_rfl) (ai (ai (ai (ai aC NT) (Ct.named Mj)) (Ct.named ac2)) GG) ar Ql (aD (by kernel_rfl) Zj)
def I9:Ct:=⟨[.val (.sl bj),.val ce,.val cI,.val cI],[.own 5 bj,.val cI],fun d=>[(d.1.length:Int)<=1099511627776],fun d=>((f7 d.1 d.2.1 d.2.2.1 d.2.2.2.1,eT d.1 d.2.2.1 d.2.2.2.1,()),())⟩
def YN:ao I9.ps->az:=(fun _=>{})
def vI(a:List Int)(b c d:Int) :=
 ([]:List Int)=f7 a b c d/\(17:Int)=eT a c d
def En(g:Int×Int×Int×Int×Int×Int×List Int) :=
 (g.2.1,g.1,(0:Int),bits BinOp.and IntKind.i64 (IntKind.wrap .i64 (g.2.2.1+(1:Int))) (4294967295:Int),(20:Int),(0:Int),([]:List Int))
theorem YI :
 ∀(a:List Int)(b c d:Int),(a.length<=maxLen/\ ∀(e:Int),e∈a->0<=e/\e<=255)/\(0<=b/\b<=4294967295)/\ab c/\ab d/\True->(a.length:Int)<=1099511627776->ad (! decide (f5 c d)) (([]:List Int)=f7 a b c d/\(1:Int)=eT a c d) ((a.length:Int)<=1099511627776/\ ∀(e:(Int×Int×Int×Int×Bool×Int×Int)×List Int)(f:Bool),e=na a/\f=decide (cf a)->ad (! f) (vI a b c d) (ad (decide (e.1.2.2.2.1=1)) ((e.2.length:Int)<=1000000/\ ∀(g:Bool)(h i:Int)(j:List Int)(k:Int),(g,h,i,j)=dO e.2/\k=ix e.2->ad (! decide (k=0)) (vI a b c d) ((j.length:Int)<=1073741824/\ ∀(l:List Int)(m:Int),l=dh (true,h,i,j)/\m=hY (true,h,i,j)->(l.length:Int)<=1073741824/\cN (fS b e.1.2.2.2.2.2.1 e.1.2.2.2.1 c d l)=f7 a b c d/\c8 (fS b e.1.2.2.2.2.2.1 e.1.2.2.2.1 c d l)=eT a c d)) (ad (decide (e.1.2.2.2.1=17)) ((e.2.length:Int)<=1000000/\ ∀(g h:Int)(i:List Int)
 (j:Int),(g,h,i)=nI e.1.2.2.2.2.2.1 e.1.2.2.2.2.2.2 e.2/\j=gW e.1.2.2.2.2.2.1 e.1.2.2.2.2.2.2 e.2->ad (! decide (j=0)) (vI a b c d) ((a.length:Int)<=1099511627776/\gv a b (3:Int) (3:Int) c d=f7 a b c d/\fh a (3:Int) (3:Int) c d=eT a c d)) (ad (decide (e.1.2.2.2.1=6)) ((e.2.length:Int)<=1000000/\ ∀(g:Int×Int×Int×Int×Int×Int×List Int)(h:Int),g=dE e.1.2.2.2.2.2.1 e.1.2.2.2.2.2.2 e.2/\h=gI e.1.2.2.2.2.2.1 e.1.2.2.2.2.2.2 e.2-> ∀(i:Bool),i= ! decide (h=0)->((! i)->((! i)->(! i))/\True)/\((! i)->((! i)->(! i))/\True)/\((! i)->((! i)->(! i))/\True)/\(i=false->(! i))/\ ∀(j:Bool),(j=bif i then true else decide (bits BinOp.and IntKind.i64 g.2.2.2.2.1 (2:Int)=0))->((! j)->((! j)->(! j))/\True)/\((! j)->((! j)->(! j))/\True)/\((! j)->((! j)->(! j))/\True)/\(j=false->(! j))/\ad (bif j then true else ! decide (bits BinOp.and IntKind.i64 g.2.2.2.2.1 (4:Int)=0)) (vI a
 b c d) ((↑(0:Nat):Int)<=1000000/\ ∀(k:List Int)(l:Int),k=de b e.1.2.2.2.2.2.1 (En g)/\l=iS (En g)->(k.length:Int)<=1073741824/\cN (fS b e.1.2.2.2.2.2.1 e.1.2.2.2.1 c d k)=f7 a b c d/\c8 (fS b e.1.2.2.2.2.2.1 e.1.2.2.2.1 c d k)=eT a c d)) (vI a b c d))))):=by
  delta vI En
  rintro b src id ttl ⟨⟨-,hb⟩,-⟩ hl
  by_cases hn:f5 id ttl
  rotate_left
  ·exact ae (fun _=>Ug hn) (fun h=>absurd (by simpa using h) hn)
  refine ae (fun h=>by simp[hn] at h) (fun _=>⟨hl,?_⟩)
  rintro _ _ ⟨rfl,rfl⟩
  refine ae (fun h=>vQ hn (fun k=>?_)) (fun h=>?_)
  ·have:=k.1;simp[this] at h
  have ha:cf b:=by simpa using h
  obtain⟨hd0,h28,hp1,hp6,-⟩:=m7 ha
  have hdl:=wn hd0
  rw[JW ha]
  have hdb:bytes (b.drop 20):=rF hb
  have hdr:(b.drop 20).length<=1480:=by rw[List.length_drop];omega
  have nofit:∀ k:Prop,(k->pf b->False)->k->([]:List Int)=f7 b src id ttl/\(17:Int)=eT b id ttl:=fun k hk h=>vQ hn (hk h)
  refine ae (fun h1=>?_) (fun h1=>ae (fun h17=>?_) (fun h17=>ae (fun h6=>?_) (fun h6=>?_)))
  ·have h1:cR b=1:=of_decide_eq_true h1
   refine⟨by show ((b.drop 20).length:Int)<=_;omega,?_⟩
   rintro r i q dt e ⟨hu,rfl⟩
   refine ae (fun h=>?_) (fun h=>?_)
   ·refine vQ hn (fun k=>?_)
    obtain⟨-,⟨-,k⟩|⟨k,-⟩|⟨k,-⟩⟩:=k
    ·simp[k] at h
    ·omega
    ·omega
   have h:ix (b.drop 20)=0:=by simpa using h
   have hh:=zK (src:=src) hn ha h1 h
   have hlen:=Lh (b.drop 20)
   have e2:(i,q,dt)=(dO (b.drop 20)).2:=congrArg Prod.snd hu
   have e3:dt=(dO (b.drop 20)).2.2.2:=by rw[← e2]
   refine⟨by rw[e3];omega,?_⟩
   rintro o e ⟨rfl,rfl⟩
   rw[show ((true,i,q,dt):kP)=(true,(i,q,dt)) from rfl,e2]
   have hle:=T3 (true,(dO (b.drop 20)).2)
   refine⟨by omega,?_,?_⟩
   ·rw[hh.1,← h1];rfl
   ·rw[hh.2];exact vy hn (by have:=h1;unfold cR at this;simp only;omega) hle
  ·have h1:=of_decide_eq_false h1
   have h17:cR b=17:=of_decide_eq_true h17
   refine⟨by show ((b.drop 20).length:Int)<=_;omega,?_⟩
   rintro sp dp dt e ⟨hu,rfl⟩
   refine ae (fun h=>?_) (fun h=>?_)
   ·refine vQ hn (fun k=>?_)
    obtain⟨-,⟨k,-⟩|⟨-,k⟩|⟨k,-⟩⟩:=k
    ·omega
    ·have k:gW (bN b).2.2.2.2.2.1 (bN b).2.2.2.2.2.2 (b.drop 20)=0:=k
     simp[k] at h
    ·omega
   have h:gW (bO b) (eV b) (b.drop 20)=0:=by
    have:gW (bN b).2.2.2.2.2.1 (bN b).2.2.2.2.2.2 (b.drop 20)=0:=by simpa using h
    exact this
   have hh:=zi (src:=src) hn ha h17 h
   exact⟨hl,hh.1.symm,by rw[hh.2,Gb hn ha]⟩
  ·have h1:=of_decide_eq_false h1
   have h17:=of_decide_eq_false h17
   have h6:cR b=6:=of_decide_eq_true h6
   refine⟨by show ((b.drop 20).length:Int)<=_;omega,?_⟩
   rintro t e ⟨ht,rfl⟩
   have ht:t=dE (bO b) (eV b) (b.drop 20):=ht
   have hr:=ak8 (s:=bO b) (d:=eV b) hdb
   rw[← ht] at hr
   have ee:gI (bN b).2.2.2.2.2.1 (bN b).2.2.2.2.2.2 (b.drop 20)=gI (bO b) (eV b) (b.drop 20):=rfl
   rw[ee]
   (repeat (intro (b_:Bool) (hb_:b_=_);(repeat refine⟨(by first|(simp;done)|(rw[hb_];simp;done)|(rw[hb_];simp;omega)|(rw[hb_];simp;intros;omega)|(rw[hb_];simp +contextual;done)),?_⟩);subst hb_))
   refine ae (fun h=>?_) (fun h=>?_)
   ·refine vQ hn (fun k=>?_)
    obtain⟨-,⟨k,-⟩|⟨k,-⟩|⟨-,k1,k2,k3⟩⟩:=k
    ·omega
    ·omega
    ·rw[← ht] at k2 k3
     simp[k1,k2,k3] at h
   have k1:gI (bO b) (eV b) (b.drop 20)=0:=Classical.byContradiction fun k=>by simp[k] at h
   have k2:bits .and .i64 t.2.2.2.2.1 2≠0:=fun k=>by simp[k1,k] at h
   have k3:bits .and .i64 t.2.2.2.2.1 4=0:=Classical.byContradiction fun k=>by simp[k1,k2,k] at h
   have hh:=zT (src:=src) hn ha h6 k1 (by rw[← ht];exact k2) (by rw[← ht];exact k3)
   refine⟨by simp,?_⟩
   rintro o e ⟨rfl,rfl⟩
   rw[af (n:=t.2.2.1+1) (by omega) (by omega),PH]
   have hle:=Ur src (bO b) (jn t)
   have er:((t.2.1,t.1,0,(t.2.2.1+1)%4294967296,20,0,[]):jC)=jn t:=rfl
   rw[er]
   refine⟨by show ((de src (bO b) (jn t)).length:Int)<=_;omega,?_,?_⟩
   ·rw[hh.1,← ht,← h6];rfl
   ·rw[hh.2];exact vy hn (by have:=h6;unfold cR at this;simp only;omega) hle
  ·have h1:=of_decide_eq_false h1
   have h17:=of_decide_eq_false h17
   have h6:=of_decide_eq_false h6
   refine vQ hn (fun k=>?_)
   obtain⟨-,⟨k,-⟩|⟨k,-⟩|⟨k,-⟩⟩:=k
   ·exact h1 k
   ·exact h17 k
   ·exact h6 k
theorem RB:av Tryz.prog GL 244 I9.spec:=Ct.okH _ Tryz.func244 (by kernel_rfl) (ai (ai (ai (ai (ai (ai (ai (ai (ai aC NT) (Ct.named Mj)) (Ct.named af1)) (Ct.named ar9)) (Ct.named X9)) (Ct.named Yi)) (Ct.named al1)) Kb) GG) ar YN (aD (by kernel_rfl) YI)
end Go.RS
