/- Ipv4: packets without options. -/
import Derived.Test.YthmcfealplfaaaaGreatDoorTrback
import Derived.Test.YthmcfealplfaaaaGreatDoorIdent
import Derived.Laws.BitsAllLaws
namespace Go.RS
open Go.SX Go.Proofs
set_option maxRecDepth 100000
set_option linter.unusedVariables false
abbrev j8:CT := .pair cI (.pair cI (.pair cI (.pair cI (.pair .bool (.pair ck ck)))))
abbrev vD:CT := .pair j8 (.sl bm)
abbrev bY:Type:=Int×Int×Int×Int×Bool×Int×Int
abbrev nX:Type:=bY×List Int
def ni(n:Int):Prop:=0<=n/\n<=255
instance (n:Int):Decidable (ni n):=by unfold ni;infer_instance
def iX(h:bY):Prop:=ni h.1/\ni h.2.2.1/\ni h.2.2.2.1/\0<=h.2.1/\h.2.1<=65535
instance (h:bY):Decidable (iX h):=by unfold iX;infer_instance
def jp(h:bY):Int:=if iX h then 0 else 1
def zm(h:bY)(n:Int):List Int:=[69,h.1]++(w2 n++(w2 h.2.1++(w2 (if h.2.2.2.2.1 then 16384 else 0)++[h.2.2.1,h.2.2.2.1])))
def Da(h:bY):List Int:=w4 h.2.2.2.2.2.1++w4 h.2.2.2.2.2.2
def fi(h:bY)(n:Int):List Int:=zm h n++([0,0]++Da h)
def gn(h:bY)(n:Int):List Int:=bI (fi h n) 10 (cf (fi h n))
def de(p:nX):Int:=if ¬ iX p.1 then 1 else if (1480:Int)<p.2.length then 5 else 0
def cS(p:nX):List Int:=if de p=0 then gn p.1 (20+p.2.length)++p.2 else []
def fE(b:List Int):Int :=
 if (b.length:Int)<20 then 3 else if ¬ (b.getD 0 default=69/\(aG b 6=0∨aG b 6=16384)/\20<=aG b 2) then 2
 else if cf (bI (b.take 20) 10 0)≠aG b 10 then 4 else 0
def nh:bY:=(0,0,0,0,false,0,0)
def bP(b:List Int):bY:=(b.getD 1 default,aG b 4,b.getD 8 default,b.getD 9 default,decide (aG b 6=16384),dL ((b.drop 12).take 4),dL ((b.drop 16).take 4))
def pg(b:List Int):bY:=if fE b=0 then bP b else nh
def m6(b:List Int):Int:=if fE b=0 then aG b 2 else 0
def bV(b:List Int):Int:=if fE b≠0 then fE b else if aG b 2≠b.length then 2 else if 1500<aG b 2 then 5 else 0
def aW(b:List Int):nX:=if bV b=0 then (bP b,b.drop 20) else (nh,[])
def wb(h:bY):bY:=(h.1,h.2.1,h.2.2.1-1,h.2.2.2)
def gg(b:List Int):Int:=if bV b≠0 then bV b else if (bP b).2.2.1<2 then 7 else 0
def gQ(b:List Int):List Int:=if gg b=0 then cS (wb (bP b),b.drop 20) else []
theorem Zj(h:bY)(n:Int):(fi h n).length=20:=rfl
theorem oR(h:bY)(n:Int):(gn h n).length=20:=by unfold gn;rw[j6];rfl
theorem zn{h:bY}{n:Int}(hk:iX h):bytes (fi h n):=by
 obtain⟨h1,h2,h3,-⟩:=hk
 exact fP (fP (j4 (by omega) (by omega) (j4 h1.1 h1.2 kP)) (fP (jR _) (fP (jR _) (fP (jR _) (j4 h2.1 h2.2 (j4 h3.1 h3.2 kP))))))
  (fP (j4 (by omega) (by omega) (j4 (by omega) (by omega) kP)) (fP (vN _) (vN _)))
theorem Dw{h:bY}{n:Int}(hk:iX h):bytes (gn h n):=qo (zn hk)
theorem jt{n:Nat}{b:List Int}(h:n+1<=b.length):∃ x r,b=x::r/\n<=r.length:=by
 cases b with
 | nil=>simp at h
 | cons x r=>exact⟨x,r,rfl,by simpa using h⟩
theorem U5{b:List Int}(h:20<=b.length):∃ x0 x1 x2 x3 x4 x5 x6 x7 x8 x9 x10 x11 x12 x13 x14 x15 x16 x17 x18 x19 r,b=x0::x1::x2::x3::x4::x5::x6::x7::x8::x9::x10::x11::x12::x13::x14::x15::x16::x17::x18::x19::r:=by
 obtain⟨x0,b1,rfl,h1⟩:=jt (n:=19) h
 obtain⟨x1,b2,rfl,h2⟩:=jt (n:=18) h1
 obtain⟨x2,b3,rfl,h3⟩:=jt (n:=17) h2
 obtain⟨x3,b4,rfl,h4⟩:=jt (n:=16) h3
 obtain⟨x4,b5,rfl,h5⟩:=jt (n:=15) h4
 obtain⟨x5,b6,rfl,h6⟩:=jt (n:=14) h5
 obtain⟨x6,b7,rfl,h7⟩:=jt (n:=13) h6
 obtain⟨x7,b8,rfl,h8⟩:=jt (n:=12) h7
 obtain⟨x8,b9,rfl,h9⟩:=jt (n:=11) h8
 obtain⟨x9,b10,rfl,h10⟩:=jt (n:=10) h9
 obtain⟨x10,b11,rfl,h11⟩:=jt (n:=9) h10
 obtain⟨x11,b12,rfl,h12⟩:=jt (n:=8) h11
 obtain⟨x12,b13,rfl,h13⟩:=jt (n:=7) h12
 obtain⟨x13,b14,rfl,h14⟩:=jt (n:=6) h13
 obtain⟨x14,b15,rfl,h15⟩:=jt (n:=5) h14
 obtain⟨x15,b16,rfl,h16⟩:=jt (n:=4) h15
 obtain⟨x16,b17,rfl,h17⟩:=jt (n:=3) h16
 obtain⟨x17,b18,rfl,h18⟩:=jt (n:=2) h17
 obtain⟨x18,b19,rfl,h19⟩:=jt (n:=1) h18
 obtain⟨x19,b20,rfl,h20⟩:=jt (n:=0) h19
 exact⟨x0,x1,x2,x3,x4,x5,x6,x7,x8,x9,x10,x11,x12,x13,x14,x15,x16,x17,x18,x19,b20,rfl⟩
theorem Tt(a:Int):dL [a]=a:=by simp[dL]
theorem xy(a b c d:Int):dL [a,b,c,d]=((a*256+b)*256+c)*256+d:=by simp[dL]
theorem Gs{b:List Int}{a w:Int}(h1:1<=w)(h2:w<=7)(h3:0<=a)(h4:a+w<=b.length):dQ b a w=dL ((b.drop a.toNat).take w.toNat):=by
 rw[dQ,if_neg (by omega)]
theorem Ty{b:List Int}{i:Nat}(h:i<b.length):(b.drop i).take 1=[b.getD i default]:=by
 rw[List.drop_eq_getElem_cons h,List.getD_eq_getElem?_getD,List.getElem?_eq_getElem h];rfl
theorem AH{b:List Int}{a:Int}(h3:0<=a)(h4:a+1<=b.length):dQ b a 1=b.getD a.toNat default:=by
 rw[Gs (by omega) (by omega) h3 h4,show (1:Int).toNat=1 from rfl,Ty (by omega),Tt]
theorem tG{b:List Int}{a:Int}(h3:0<=a)(h4:a+2<=b.length):dQ b a 2=aG b a.toNat:=by
 rw[Gs (by omega) (by omega) h3 h4];rfl
theorem J7{b:List Int}{a:Int}(h3:0<=a)(h4:a+4<=b.length):dQ b a 4=dL ((b.drop a.toNat).take 4):=by
 rw[Gs (by omega) (by omega) h3 h4];rfl
theorem sc{b:List Int}{n i:Nat}(h:i<n):(b.take n).getD i default=b.getD i default:=by
 rw[List.getD_eq_getElem?_getD,List.getElem?_take,if_pos h,← List.getD_eq_getElem?_getD]
theorem vz{b:List Int}{n i k:Nat}(h:i+k<=n):((b.take n).drop i).take k=(b.drop i).take k:=by
 rw[List.drop_take,List.take_take,Nat.min_eq_left (by omega)]
theorem ot{b:List Int}{n i:Nat}(h:i+2<=n):aG (b.take n) i=aG b i:=by
 unfold aG;rw[vz h]
theorem zi{b:List Int}{n:Nat}(h:bytes b):bytes (b.take n):=fun x hx=>h x (List.mem_of_mem_take hx)
theorem rQ{b:List Int}{n:Nat}(h:bytes b):bytes (b.drop n):=fun x hx=>h x (List.mem_of_mem_drop hx)
theorem AQ{b:List Int}(h:bytes b){i:Nat}(hi:i<b.length):0<=b.getD i default/\b.getD i default<=255:=by
 have:=bL (xs:=b) (i:=(i:Int)) (by omega) (by omega)
 exact h _ this
theorem rk{b:List Int}(h:bytes b)(i:Nat):0<=aG b i/\aG b i<=65535:=by
 have:=Au 2 ((b.drop i).take 2) (by rw[List.length_take];omega) (fun x hx=>h x (List.mem_of_mem_drop (List.mem_of_mem_take hx)))
 have e:(256:Int)^2=65536:=rfl
 unfold aG;omega
theorem rT{b:List Int}(h:bytes b)(i:Nat):0<=dL ((b.drop i).take 4)/\dL ((b.drop i).take 4)<=4294967295:=by
 have:=Au 4 ((b.drop i).take 4) (by rw[List.length_take];omega) (fun x hx=>h x (List.mem_of_mem_drop (List.mem_of_mem_take hx)))
 have e:(256:Int)^4=4294967296:=rfl
 omega
theorem ju{a:Int}{l:List Int}(h:bytes (a::l)):(0<=a/\a<=255)/\bytes l:=⟨h a List.mem_cons_self,fun x hx=>h x (List.mem_cons_of_mem _ hx)⟩
theorem OM{a b c d:Int}(ha:0<=a/\a<=255)(hb:0<=b/\b<=255)(hc:0<=c/\c<=255)(hd:0<=d/\d<=255):w4 (((a*256+b)*256+c)*256+d)=[a,b,c,d]:=by
 unfold w4
 have e1:(((a*256+b)*256+c)*256+d)/16777216%256=a:=by omega
 have e2:(((a*256+b)*256+c)*256+d)/65536%256=b:=by omega
 have e3:(((a*256+b)*256+c)*256+d)/256%256=c:=by omega
 have e4:(((a*256+b)*256+c)*256+d)%256=d:=by omega
 rw[e1,e2,e3,e4]
theorem Zs{b:List Int}(hb:bytes b)(hl:20<=b.length)(h0:b.getD 0 default=69)(hf:aG b 6=0∨aG b 6=16384) :
  fi (bP b) (aG b 2)=bI (b.take 20) 10 0/\(gn (bP b) (aG b 2)=b.take 20↔cf (bI (b.take 20) 10 0)=aG b 10):=by
 obtain⟨x0,x1,x2,x3,x4,x5,x6,x7,x8,x9,x10,x11,x12,x13,x14,x15,x16,x17,x18,x19,r,rfl⟩:=U5 hl
 have hb0:=hb
 obtain⟨k0,hb⟩:=ju hb
 obtain⟨k1,hb⟩:=ju hb
 obtain⟨k2,hb⟩:=ju hb
 obtain⟨k3,hb⟩:=ju hb
 obtain⟨k4,hb⟩:=ju hb
 obtain⟨k5,hb⟩:=ju hb
 obtain⟨k6,hb⟩:=ju hb
 obtain⟨k7,hb⟩:=ju hb
 obtain⟨k8,hb⟩:=ju hb
 obtain⟨k9,hb⟩:=ju hb
 obtain⟨k10,hb⟩:=ju hb
 obtain⟨k11,hb⟩:=ju hb
 obtain⟨k12,hb⟩:=ju hb
 obtain⟨k13,hb⟩:=ju hb
 obtain⟨k14,hb⟩:=ju hb
 obtain⟨k15,hb⟩:=ju hb
 obtain⟨k16,hb⟩:=ju hb
 obtain⟨k17,hb⟩:=ju hb
 obtain⟨k18,hb⟩:=ju hb
 obtain⟨k19,hb⟩:=ju hb
 have e2:aG (x0::x1::x2::x3::x4::x5::x6::x7::x8::x9::x10::x11::x12::x13::x14::x15::x16::x17::x18::x19::r) 2=x2*256+x3:=fD _ _ _
 have e4:aG (x0::x1::x2::x3::x4::x5::x6::x7::x8::x9::x10::x11::x12::x13::x14::x15::x16::x17::x18::x19::r) 4=x4*256+x5:=fD _ _ _
 have e6:aG (x0::x1::x2::x3::x4::x5::x6::x7::x8::x9::x10::x11::x12::x13::x14::x15::x16::x17::x18::x19::r) 6=x6*256+x7:=fD _ _ _
 have e10:aG (x0::x1::x2::x3::x4::x5::x6::x7::x8::x9::x10::x11::x12::x13::x14::x15::x16::x17::x18::x19::r) 10=x10*256+x11:=fD _ _ _
 have n12:dL (((x0::x1::x2::x3::x4::x5::x6::x7::x8::x9::x10::x11::x12::x13::x14::x15::x16::x17::x18::x19::r).drop 12).take 4)=((x12*256+x13)*256+x14)*256+x15:=xy _ _ _ _
 have n16:dL (((x0::x1::x2::x3::x4::x5::x6::x7::x8::x9::x10::x11::x12::x13::x14::x15::x16::x17::x18::x19::r).drop 16).take 4)=((x16*256+x17)*256+x18)*256+x19:=xy _ _ _ _
 have h0:x0=69:=h0
 subst h0
 rw[e6] at hf
 have hk:w2 (if decide (x6*256+x7=16384) then 16384 else 0)=[x6,x7]:=by
  rcases hf with hf|hf
  ·rw[hf]
   have:x6=0/\x7=0:=by omega
   rw[this.1,this.2];rfl
  ·rw[hf]
   have:x6=64/\x7=0:=by omega
   rw[this.1,this.2];rfl
 have hbody:fi (bP (69::x1::x2::x3::x4::x5::x6::x7::x8::x9::x10::x11::x12::x13::x14::x15::x16::x17::x18::x19::r)) (aG (69::x1::x2::x3::x4::x5::x6::x7::x8::x9::x10::x11::x12::x13::x14::x15::x16::x17::x18::x19::r) 2)=bI ((69::x1::x2::x3::x4::x5::x6::x7::x8::x9::x10::x11::x12::x13::x14::x15::x16::x17::x18::x19::r).take 20) 10 0:=by
  unfold fi zm Da bP
  simp only
  rw[e2,e4,e6,n12,n16,hk,zu k2.1 k2.2 k3.1 k3.2,zu k4.1 k4.2 k5.1 k5.2,OM k12 k13 k14 k15,OM k16 k17 k18 k19]
  rfl
 refine⟨hbody,?_⟩
 rw[gn,hbody,e10]
 have hc:=mV (b:=bI ((69::x1::x2::x3::x4::x5::x6::x7::x8::x9::x10::x11::x12::x13::x14::x15::x16::x17::x18::x19::r).take 20) 10 0) (qo (fun x hx=>hb0 x (List.mem_of_mem_take hx)))
 generalize cf (bI ((69::x1::x2::x3::x4::x5::x6::x7::x8::x9::x10::x11::x12::x13::x14::x15::x16::x17::x18::x19::r).take 20) 10 0)=c at hc ⊢
 have e:bI (bI ((69::x1::x2::x3::x4::x5::x6::x7::x8::x9::x10::x11::x12::x13::x14::x15::x16::x17::x18::x19::r).take 20) 10 0) 10 c=[69,x1,x2,x3,x4,x5,x6,x7,x8,x9,c/256%256,c%256,x12,x13,x14,x15,x16,x17,x18,x19]:=rfl
 rw[e]
 have e':(69::x1::x2::x3::x4::x5::x6::x7::x8::x9::x10::x11::x12::x13::x14::x15::x16::x17::x18::x19::r).take 20=[69,x1,x2,x3,x4,x5,x6,x7,x8,x9,x10,x11,x12,x13,x14,x15,x16,x17,x18,x19]:=rfl
 rw[e']
 constructor
 ·intro h
  simp only[List.cons.injEq,and_true,true_and] at h
  omega
 ·intro h
  have:c/256%256=x10/\c%256=x11:=by omega
  rw[this.1,this.2]
def oB(k:Nat):Nat:=[0,1,2,4,6,8,9,10,12,16,20].getD k 20
theorem QJ{h:bY}{n f k:Int}(hok:iX h)(n0:0<=n)(n1:n<=65535)(s0:0<=h.2.2.2.2.2.1/\h.2.2.2.2.2.1<=4294967295)(d0:0<=h.2.2.2.2.2.2/\h.2.2.2.2.2.2<=4294967295)(hf:f=if h.2.2.2.2.1 then 16384 else 0)(k0:0<=k)(k1:k<10) :
  bG ((fi h n).take (oB k.toNat)) (jU [69,h.1,n,h.2.1,f,h.2.2.1,h.2.2.2.1,0,h.2.2.2.2.2.1,h.2.2.2.2.2.2] k.toNat) (jU [1,1,2,2,2,1,1,2,4,4] k.toNat)=(fi h n).take (oB (k+1).toNat):=by
 obtain⟨h1,h2,h3,h4,h5⟩:=hok
 have hf0:0<=f/\f<=65535:=by rw[hf];split <;> omega
 have:k=0∨k=1∨k=2∨k=3∨k=4∨k=5∨k=6∨k=7∨k=8∨k=9:=by omega
 rcases this with rfl|rfl|rfl|rfl|rfl|rfl|rfl|rfl|rfl|rfl
 ·exact pX (b:=[]) (n:=69) (by omega) (by omega)
 ·exact pX (b:=[69]) h1.1 h1.2
 ·exact gR (b:=[69,h.1]) n0 n1
 ·exact gR (b:=[69,h.1]++w2 n) h4 h5
 ·have:=gR (b:=[69,h.1]++(w2 n++w2 h.2.1)) hf0.1 hf0.2
  rw[hf] at this ⊢;exact this
 ·exact pX (b:=(fi h n).take 8) h2.1 h2.2
 ·exact pX (b:=(fi h n).take 9) h3.1 h3.2
 ·exact gR (b:=(fi h n).take 10) (n:=0) (by omega) (by omega)
 ·exact sM (b:=(fi h n).take 12) s0.1 s0.2
 ·exact sM (b:=(fi h n).take 16) d0.1 d0.2
theorem Ap{b:List Int}(h:fE b=0):20<=b.length:=by
 unfold fE at h
 split at h
 ·cases h
 ·omega
theorem zY{b:List Int}(h:bV b=0):fE b=0:=by
 unfold bV at h
 split at h
 ·rename_i k;exact absurd h k
 ·rename_i k;exact Decidable.not_not.1 k
theorem vQ{b:List Int}(h:bV b=0):(b.length:Int)<=1500/\aG b 2=b.length:=by
 unfold bV at h
 split at h
 ·rename_i k;exact absurd h k
 ·split at h
  ·cases h
  ·split at h
   ·cases h
   ·omega
theorem Y5{b:List Int}(hb:bytes b)(h:fE b=0):iX (bP b):=by
 have hl:=Ap h
 exact⟨AQ hb (by omega),AQ hb (by omega),AQ hb (by omega),rk hb 4⟩
theorem Zt{b:List Int}(hb:bytes b)(h:bV b=0)(h2:¬ (bP b).2.2.1<2):iX (wb (bP b)):=by
 obtain⟨k1,k2,k3,k4⟩:=Y5 hb (zY h)
 refine⟨k1,?_,k3,k4⟩
 obtain⟨k5,k6⟩:=k2
 show 0<=(bP b).2.2.1-1/\(bP b).2.2.1-1<=255
 omega
def PH:Ct:=⟨[.val cI],[.val .bool],fun d=>[],fun d=>((decide (ni d.1),()),())⟩
def RM:ar PH.ps->ay:=(fun _=>{})
theorem at8 :
 ∀(a:Int),ab a/\True->True-> ∀(b:Bool),b=decide (0<=a)->(b->(b->b)/\True)/\(b->b)/\(bif b then decide (a<256) else false)=decide (ni a):=by
  rintro n - -
  (repeat (intro (b_:Bool) (hb_:b_=_);(repeat refine⟨(by first|(simp;done)|(rw[hb_];simp;done)|(rw[hb_];simp;omega)|(rw[hb_];simp;intros;omega)|(rw[hb_];simp +contextual;done)),?_⟩);subst hb_))
  unfold ni
  by_cases h:0<=n <;> simp[h] <;> omega
theorem Rs:av Tryz.prog GL 290 PH.spec:=Ct.okH _ Tryz.func290 (by kernel_rfl) aA au RM (aB (by kernel_rfl) at8)
def JP:Ct:=⟨[.agg j8],[.val cI],fun d=>[],fun d=>((jp d.1,()),())⟩
def Vp:ar JP.ps->ay:=(fun _=>{})
theorem ax1 :
 ∀(a:bY),CT.wf j8 a/\True->True-> ∀(b:Bool),b= ! decide (ni a.1)->((! b)->((! b)->(! b))/\True)/\((! b)->((! b)->(! b))/\((! b)->(! b))/\True)/\((! b)->((! b)->(! b))/\True)/\(b=false->(! b))/\ ∀(c:Bool),(c=bif b then true else ! decide (ni a.2.2.1))->((! c)->((! c)->(! c))/\True)/\((! c)->((! c)->(! c))/\((! c)->(! c))/\True)/\((! c)->((! c)->(! c))/\True)/\(c=false->(! c))/\ ∀(d:Bool),(d=bif c then true else ! decide (ni a.2.2.2.1))->((! d)->((! d)->(! d))/\True)/\((! d)->((! d)->(! d))/\True)/\(d=false->(! d))/\ ∀(e:Bool),(e=bif d then true else decide (a.2.1<0))->((! e)->((! e)->(! e))/\True)/\((! e)->((! e)->(! e))/\True)/\(e=false->(! e))/\ad (bif e then true else decide (65536<=a.2.1)) ((1:Int)=jp a) ((0:Int)=jp a):=by
  rintro h - -
  (repeat (intro (b_:Bool) (hb_:b_=_);(repeat refine⟨(by first|(simp;done)|(rw[hb_];simp;done)|(rw[hb_];simp;omega)|(rw[hb_];simp;intros;omega)|(rw[hb_];simp +contextual;done)),?_⟩);subst hb_))
  refine ae (fun hc=>?_) (fun hc=>?_)
  ·rw[jp,if_neg]
   intro k;obtain⟨k1,k2,k3,k4,k5⟩:=k
   simp[k1,k2,k3,Bool.cond_eq_ite] at hc;omega
  ·rw[jp,if_pos]
   simp[Bool.cond_eq_ite] at hc
   exact⟨hc.1.1.1.1,hc.1.1.1.2,hc.1.1.2,by omega,by omega⟩
theorem aw9:av Tryz.prog GL 289 JP.spec:=Ct.okH _ Tryz.func289 (by kernel_rfl) (ah aA Rs) au Vp (aB (by kernel_rfl) ax1)
def I3:Ct:=⟨[.agg vD],[.own 5 bm,.val cI],fun d=>[(d.1.2.length:Int)<=1073741824],fun d=>((cS d.1,de d.1,()),())⟩
def ao8:ar I3.ps->ay:=(fun d=>{loops:=(fun n=>match n with|12=>some (fun S=>{ι:=Int×(List Int),qn:=⟨fun k_=>∀(k:Int)(ys:(List Int)),k_ (k,ys),fun k_ h_ i=>h_ i.1 i.2,fun k_=>∃ (k:Int) (ys:(List Int)),k_ (k,ys),fun k_ ⟨k,ys,h_⟩=>⟨_,h_⟩⟩,μ:=fun i=>(10-i.1).toNat,inv:=fun i=>0<=i.1/\i.1<=10/\i.2=(fi d.1.1 (20+d.1.2.length)).take (oB i.1.toNat),keep:=[1,4,53],slots:=fun i=>[(7,.own 524288 1),(54,.int .i64 i.1)],keepN:=[32,80],names:=fun i=>[(524288,.live (.row 5 bm i.2))]})|_=>none)})
def FR(a:(Int×Int×Int×Int×Bool×Int×Int)×List Int)(b:Int)(c:List Int) :=
 (2:Int)=2/\a.1.2.2.1=a.1.2.2.1/\(1:Int)=1/\a.1.2.2.2.1=a.1.2.2.2.1/\(1:Int)=1/\(0:Int)=0/\(2:Int)=2/\IntKind.wrap .i64 a.1.2.2.2.2.2.1=IntKind.wrap .i64 a.1.2.2.2.2.2.1/\(4:Int)=4/\IntKind.wrap .i64 a.1.2.2.2.2.2.2=IntKind.wrap .i64 a.1.2.2.2.2.2.2/\(4:Int)=4/\(0:Int)=b/\a.1.1=a.1.1/\a.1.2.1=a.1.2.1/\a.1.2.2.1=a.1.2.2.1/\a.1.2.2.2.1=a.1.2.2.2.1/\a.1.2.2.2.2.1=a.1.2.2.2.2.1/\a.1.2.2.2.2.2.1=a.1.2.2.2.2.2.1/\a.1.2.2.2.2.2.2=a.1.2.2.2.2.2.2/\a.2=a.2/\a.1.1=a.1.1/\a.1.2.1=a.1.2.1/\a.1.2.2.1=a.1.2.2.1/\a.1.2.2.2.1=a.1.2.2.2.1/\a.1.2.2.2.2.1=a.1.2.2.2.2.1/\a.1.2.2.2.2.2.1=a.1.2.2.2.2.2.1/\a.1.2.2.2.2.2.2=a.1.2.2.2.2.2.2/\c=([]:List Int)/\True
def F9(a:(Int×Int×Int×Int×Bool×Int×Int)×List Int)(b:Int)(d:List Int)(f:Int)(g:List Int) :=
 (2:Int)=2/\a.1.2.2.1=a.1.2.2.1/\(1:Int)=1/\a.1.2.2.2.1=a.1.2.2.2.1/\(1:Int)=1/\(0:Int)=0/\(2:Int)=2/\IntKind.wrap .i64 a.1.2.2.2.2.2.1=IntKind.wrap .i64 a.1.2.2.2.2.2.1/\(4:Int)=4/\IntKind.wrap .i64 a.1.2.2.2.2.2.2=IntKind.wrap .i64 a.1.2.2.2.2.2.2/\(4:Int)=4/\IntKind.wrap .i64 (b+(1:Int))=f/\a.1.1=a.1.1/\a.1.2.1=a.1.2.1/\a.1.2.2.1=a.1.2.2.1/\a.1.2.2.2.1=a.1.2.2.2.1/\a.1.2.2.2.2.1=a.1.2.2.2.2.1/\a.1.2.2.2.2.2.1=a.1.2.2.2.2.2.1/\a.1.2.2.2.2.2.2=a.1.2.2.2.2.2.2/\a.2=a.2/\a.1.1=a.1.1/\a.1.2.1=a.1.2.1/\a.1.2.2.1=a.1.2.2.1/\a.1.2.2.2.1=a.1.2.2.2.1/\a.1.2.2.2.2.1=a.1.2.2.2.2.1/\a.1.2.2.2.2.2.1=a.1.2.2.2.2.2.1/\a.1.2.2.2.2.2.2=a.1.2.2.2.2.2.2/\d=g/\True
def AI(c:List Int)(d:Int) :=
 List.set c (Int.toNat (10:Int)) (IntKind.wrap .u8 (cU IntKind.i64 d (8:Int)))
def C9(a:(Int×Int×Int×Int×Bool×Int×Int)×List Int)(c:List Int) :=
 (c.length:Int)<=1099511627776/\ ∀(d:Int),d=65535 -oc (bf true c)->(0:Int)<=8/\(0:Int)<=10/\10<(c.length:Int)/\(0:Int)<=11/\11<((List.length (AI c d)):Int)/\(List.length (List.set (AI c d) (Int.toNat (11:Int)) (IntKind.wrap .u8 d))+a.2.length)*(1:Nat)<=(140737488355328:Nat)/\List.set (AI c d) (Int.toNat (11:Int)) (IntKind.wrap .u8 d)++a.2=cS a/\(0:Int)=de a
def kz(a:(Int×Int×Int×Int×Bool×Int×Int)×List Int) :=
 (20:Int)+(a.2.length:Int)
def yz(b:Int) :=
 jU [(1:Int),(1:Int),(2:Int),(2:Int),(2:Int),(1:Int),(1:Int),(2:Int),(4:Int),(4:Int)] b.toNat
def B3(a:(Int×Int×Int×Int×Bool×Int×Int)×List Int)(b:Int) :=
 jU [(69:Int),a.1.1,IntKind.wrap .i64 (kz a),a.1.2.1,(16384:Int),a.1.2.2.1,a.1.2.2.2.1,(0:Int),IntKind.wrap .i64 a.1.2.2.2.2.2.1,IntKind.wrap .i64 a.1.2.2.2.2.2.2] b.toNat
def EI(a:(Int×Int×Int×Int×Bool×Int×Int)×List Int)(b:Int) :=
 jU [(69:Int),a.1.1,IntKind.wrap .i64 (kz a),a.1.2.1,(0:Int),a.1.2.2.1,a.1.2.2.2.1,(0:Int),IntKind.wrap .i64 a.1.2.2.2.2.2.1,IntKind.wrap .i64 a.1.2.2.2.2.2.2] b.toNat
theorem Xi :
 ∀(a:(Int×Int×Int×Int×Bool×Int×Int)×List Int),CT.wf vD a/\True->(a.2.length:Int)<=1073741824->ad (! decide (jp a.1=0)) (([]:List Int)=cS a/\jp a.1=de a) (ad (decide (1480<(a.2.length:Int))) (([]:List Int)=cS a/\(5:Int)=de a) (ad a.1.2.2.2.2.1 ((∃(b:Int) (c:List Int),(0<=b/\b<=10/\c=List.take (oB b.toNat) (fi a.1 (kz a)))/\(69:Int)=69/\(1:Int)=1/\a.1.1=a.1.1/\(1:Int)=1/\IntKind.wrap .i64 (kz a)=IntKind.wrap .i64 (kz a)/\(2:Int)=2/\a.1.2.1=a.1.2.1/\(2:Int)=2/\(16384:Int)=16384/\(FR a b c))/\ ∀(b:Int)(c:List Int),0<=b/\b<=10/\c=List.take (oB b.toNat) (fi a.1 (kz a))->ad (decide (b<10)) (0<=b/\b<(↑(10:Nat):Int)/\(c.length:Int)<=1099511627776/\ ∀(d:List Int)(e:Int),d=bG c (B3 a b) (yz b)/\e=nJ (B3 a b) (yz b)-> ∃(f:Int) (g:List Int),(0<=f/\f<=10/\g=List.take (oB f.toNat) (fi a.1 (kz a)))/\Int.toNat ((10:Int)
 -f)<Int.toNat ((10:Int) -b)/\(69:Int)=69/\(1:Int)=1/\a.1.1=a.1.1/\(1:Int)=1/\IntKind.wrap .i64 (kz a)=IntKind.wrap .i64 (kz a)/\(2:Int)=2/\a.1.2.1=a.1.2.1/\(2:Int)=2/\(16384:Int)=16384/\(F9 a b d f g)) (C9 a c)) ((∃(b:Int) (c:List Int),(0<=b/\b<=10/\c=List.take (oB b.toNat) (fi a.1 (kz a)))/\(69:Int)=69/\(1:Int)=1/\a.1.1=a.1.1/\(1:Int)=1/\IntKind.wrap .i64 (kz a)=IntKind.wrap .i64 (kz a)/\(2:Int)=2/\a.1.2.1=a.1.2.1/\(2:Int)=2/\(0:Int)=0/\(FR a b c))/\ ∀(b:Int)(c:List Int),0<=b/\b<=10/\c=List.take (oB b.toNat) (fi a.1 (kz a))->ad (decide (b<10)) (0<=b/\b<(↑(10:Nat):Int)/\(c.length:Int)<=1099511627776/\ ∀(d:List Int)(e:Int),d=bG c (EI a b) (yz b)/\e=nJ (EI a b) (yz b)-> ∃(f:Int) (g:List Int),(0<=f/\f<=10/\g=List.take (oB f.toNat) (fi a.1 (kz a)))/\Int.toNat ((10:Int) -f)<Int.toNat ((10:Int)
 -b)/\(69:Int)=69/\(1:Int)=1/\a.1.1=a.1.1/\(1:Int)=1/\IntKind.wrap .i64 (kz a)=IntKind.wrap .i64 (kz a)/\(2:Int)=2/\a.1.2.1=a.1.2.1/\(2:Int)=2/\(0:Int)=0/\(F9 a b d f g)) (C9 a c)))):=by
  delta FR F9 C9 kz yz AI B3 EI
  rintro d ⟨⟨hw,-⟩,-⟩ hl
  obtain⟨-,-,-,-,-,s0,d0⟩:=hw
  have s0:0<=d.1.2.2.2.2.2.1/\d.1.2.2.2.2.2.1<=4294967295:=s0
  have d0:0<=d.1.2.2.2.2.2.2/\d.1.2.2.2.2.2.2<=4294967295:=d0
  refine ae (fun hc=>?_) (fun hc=>?_)
  ·have hn:¬ iX d.1:=fun k=>by rw[jp,if_pos k] at hc;cases hc
   have he:de d=1:=by rw[de,if_pos hn]
   rw[cS,he,jp,if_neg hn];exact⟨rfl,rfl⟩
  have hok:iX d.1:=Classical.byContradiction fun k=>by rw[jp,if_neg k] at hc;cases hc
  refine ae (fun h5=>?_) (fun h5=>?_)
  ·have h5:=of_decide_eq_true h5
   have he:de d=5:=by rw[de,if_neg (fun k=>k hok),if_pos h5]
   rw[cS,he];exact⟨rfl,rfl⟩
  have h5:=of_decide_eq_false h5
  have he:de d=0:=by rw[de,if_neg (fun k=>k hok),if_neg h5]
  have e20:IntKind.wrap .i64 (20+(d.2.length:Int))=20+d.2.length:=af (by omega) (by omega)
  have es:IntKind.wrap .i64 d.1.2.2.2.2.2.1=d.1.2.2.2.2.2.1:=af (by have:=s0.1;omega) (by have:=s0.2;omega)
  have ed:IntKind.wrap .i64 d.1.2.2.2.2.2.2=d.1.2.2.2.2.2.2:=af (by have:=d0.1;omega) (by have:=d0.2;omega)
  have hc:=mV (zn (n:=20+d.2.length) hok)
  have hbl:=Zj d.1 (20+d.2.length)
  have step:=fun f hf k=>QJ (h:=d.1) (n:=20+d.2.length) (f:=f) (k:=k) hok (by omega) (by omega) s0 d0 hf
  have fin:∀ ys,ys=fi d.1 (20+d.2.length)->(List.set (List.set ys (Int.toNat 10) (IntKind.wrap .u8 (cU .i64 (65535-oc (bf true ys)) 8))) (Int.toNat 11) (IntKind.wrap .u8 (65535-oc (bf true ys)))++d.2=cS d/\(0:Int)=de d):=by
   rintro ys rfl
   have hc:0<=65535-oc (bf true (fi d.1 (20+d.2.length))):=hc.1
   rw[FC hc,IntKind.wrap_u8',IntKind.wrap_u8',cS,he,if_pos rfl]
   exact⟨rfl,rfl⟩
  rw[e20,es,ed]
  refine ae (fun hk=>?_) (fun hk=>?_)
  ·refine⟨⟨0,[],⟨by omega,by omega,rfl⟩,(by repeat' first|exact trivial|refine⟨trivial,?_⟩|refine⟨(by with_reducible rfl),?_⟩|refine⟨af (by omega) (by omega),?_⟩|refine⟨rfl,?_⟩)⟩,?_⟩
   rintro k ys ⟨k0,k1,rfl⟩
   refine ae (fun h=>?_) (fun h=>?_)
   ·have h:=of_decide_eq_true h
    have st:=step 16384 (by rw[hk];rfl) k k0 h
    refine⟨k0,h,by rw[List.length_take];omega,?_⟩
    rintro y _ ⟨rfl,-⟩
    exact⟨k+1,_,⟨by omega,by omega,st⟩,by omega,(by repeat' first|exact trivial|refine⟨trivial,?_⟩|refine⟨(by with_reducible rfl),?_⟩|refine⟨af (by omega) (by omega),?_⟩|refine⟨rfl,?_⟩)⟩
   ·have h:=of_decide_eq_false h
    have e10:k=10:=by omega
    subst e10
    have et:(fi d.1 (20+d.2.length)).take (oB (Int.toNat 10))=fi d.1 (20+d.2.length):=List.take_of_length_le (by rw[hbl];decide)
    rw[et]
    refine⟨by omega,?_⟩
    rintro c rfl
    refine⟨by omega,by omega,by omega,by omega,by rw[List.length_set];omega,by rw[List.length_set,List.length_set];omega,fin _ rfl⟩
  ·refine⟨⟨0,[],⟨by omega,by omega,rfl⟩,(by repeat' first|exact trivial|refine⟨trivial,?_⟩|refine⟨(by with_reducible rfl),?_⟩|refine⟨af (by omega) (by omega),?_⟩|refine⟨rfl,?_⟩)⟩,?_⟩
   rintro k ys ⟨k0,k1,rfl⟩
   refine ae (fun h=>?_) (fun h=>?_)
   ·have h:=of_decide_eq_true h
    have st:=step 0 (by rw[hk];rfl) k k0 h
    refine⟨k0,h,by rw[List.length_take];omega,?_⟩
    rintro y _ ⟨rfl,-⟩
    exact⟨k+1,_,⟨by omega,by omega,st⟩,by omega,(by repeat' first|exact trivial|refine⟨trivial,?_⟩|refine⟨(by with_reducible rfl),?_⟩|refine⟨af (by omega) (by omega),?_⟩|refine⟨rfl,?_⟩)⟩
   ·have h:=of_decide_eq_false h
    have e10:k=10:=by omega
    subst e10
    have et:(fi d.1 (20+d.2.length)).take (oB (Int.toNat 10))=fi d.1 (20+d.2.length):=List.take_of_length_le (by rw[hbl];decide)
    rw[et]
    refine⟨by omega,?_⟩
    rintro c rfl
    refine⟨by omega,by omega,by omega,by omega,by rw[List.length_set];omega,by rw[List.length_set,List.length_set];omega,fin _ rfl⟩
theorem MU:av Tryz.prog GL 279 I3.spec:=Ct.okH _ Tryz.func279 (by kernel_rfl) (ah (ah (ah aA aw9) (Ct.named NC)) (Ct.named uC)) au ao8 (aB (by kernel_rfl) Xi)
def LR:Ct:=⟨[.val cI,.box 22 (.row 5 bm),.box 3 cI],[.val cI],fun d=>[(d.2.1.length:Int)<=100000,0<=d.1,d.1<=8,0<=d.2.2.1,d.2.2.1<=100000],fun d=>((dQ d.2.1 d.2.2.1 d.1,()),(d.2.1,d.2.2.1+d.1,()))⟩
def VF:ar LR.ps->ay:=(fun _=>{})
theorem Up :
 ∀(a:Int)(b:List Int)(c:Int),ab a/\(b.length<=maxLen/\ ∀(d:Int),d∈b->0<=d/\d<=255)/\ab c/\True->(b.length:Int)<=100000/\0<=a/\a<=8/\0<=c/\c<=100000->(b.length:Int)<=1099511627776/\dQ b c a=dQ b c a/\b=b/\IntKind.wrap .i64 (c+a)=c+a:=by
  rintro w b a-⟨h1,h2,h3,h4,h5⟩
  exact⟨by omega,rfl,rfl,af (by omega) (by omega)⟩
theorem Rq:av Tryz.prog GL 207 LR.spec:=Ct.okH _ Tryz.func207 (by kernel_rfl) (ah aA Dm) au VF (aB (by kernel_rfl) Up)
def PU:Ct:=⟨[.val (.sl bm)],[.agg j8,.val cI,.val cI],fun d=>[(d.1.length:Int)<=1099511627776],fun d=>((pg d.1,m6 d.1,fE d.1,()),())⟩
def XO:ar PU.ps->ay:=(fun _=>{})
def sF :=
 ((0:Int),(0:Int),(0:Int),(0:Int),false,(0:Int),(0:Int))
def BE(a:List Int) :=
 ce a (Int.toNat (0:Int)) (Int.toNat (20:Int))
theorem ay6 :
 ∀(a:List Int),(a.length<=maxLen/\ ∀(b:Int),b∈a->0<=b/\b<=255)/\True->(a.length:Int)<=1099511627776->ad (decide ((a.length:Int)<20)) ((sF)=pg a/\(0:Int)=m6 a/\(3:Int)=fE a) ((0:Int)<=0/\(0:Int)<=20/\20<=(a.length:Int)/\((List.length (BE a)):Int)<=1099511627776/\((List.length (BE a)):Int)<=100000/\(0:Int)<=1/\(1:Int)<=8/\(0:Int)<=0/\(0:Int)<=100000/\ ∀(b:Int)(c:List Int)(d:Int),b=dQ (BE a) (0:Int) (1:Int)/\c=ce a (Int.toNat (0:Int)) (Int.toNat (20:Int))/\d=0+(1:Int)->(c.length:Int)<=100000/\(0:Int)<=1/\(1:Int)<=8/\0<=d/\d<=100000/\ ∀(e:Int)(f:List Int)(g:Int),e=dQ c d (1:Int)/\f=c/\g=d+(1:Int)->(f.length:Int)<=100000/\(0:Int)<=2/\(2:Int)<=8/\0<=g/\g<=100000/\ ∀(h:Int)(i:List Int)(j:Int),h=dQ f g (2:Int)/\i=f/\j=g+(2:Int)->(i.length:Int)<=100000/\(0:Int)<=2/\(2:Int)<=8/\0<=j/\j<=100000/\ ∀(k:Int)(l:List Int)(m:Int),k=dQ i j
 (2:Int)/\l=i/\m=j+(2:Int)->(l.length:Int)<=100000/\(0:Int)<=2/\(2:Int)<=8/\0<=m/\m<=100000/\ ∀(n:Int)(o:List Int)(p:Int),n=dQ l m (2:Int)/\o=l/\p=m+(2:Int)->(o.length:Int)<=100000/\(0:Int)<=1/\(1:Int)<=8/\0<=p/\p<=100000/\ ∀(q:Int)(r:List Int)(s:Int),q=dQ o p (1:Int)/\r=o/\s=p+(1:Int)->(r.length:Int)<=100000/\(0:Int)<=1/\(1:Int)<=8/\0<=s/\s<=100000/\ ∀(t:Int)(u:List Int)(v:Int),t=dQ r s (1:Int)/\u=r/\v=s+(1:Int)->(u.length:Int)<=100000/\(0:Int)<=2/\(2:Int)<=8/\0<=v/\v<=100000/\ ∀(w:Int)(x:List Int)(y:Int),w=dQ u v (2:Int)/\x=u/\y=v+(2:Int)->(x.length:Int)<=100000/\(0:Int)<=4/\(4:Int)<=8/\0<=y/\y<=100000/\ ∀(z:Int)(A:List Int)(B:Int),z=dQ x y (4:Int)/\A=x/\B=y+(4:Int)->(A.length:Int)<=100000/\(0:Int)<=4/\(4:Int)<=8/\0<=B/\B<=100000/\ ∀(C:Int)(D:List Int)(E:Int),C=dQ A B (4:Int)/\D=A/\E=B+(4:Int)-> ∀(F:Bool),F= ! decide (b=69)->((! F)->((! F)->(! F))/\True)/\((!
 F)->((! F)->(! F))/\True)/\ ∀(G:Bool),G= ! decide (n=0)->((! F&&G)->((! F&&G)->(! F&&G))/\True)/\((! F&&G)->((! F&&G)->(! F&&G))/\True)/\((! F)->((! F)->(! F))/\(G->(! F&&G))/\True)/\(F=false->(! F))/\ ∀(H:Bool),(H=bif F then true else bif G then ! decide (n=16384) else false)->((! H)->((! H)->(! H))/\True)/\(H=false->(! H))/\ad (bif H then true else decide (h<20)) ((sF)=pg a/\(0:Int)=m6 a/\(2:Int)=fE a) ((0:Int)<=10/\10<(D.length:Int)/\(0:Int)<=11/\11<((List.length (List.set D (Int.toNat (10:Int)) (0:Int))):Int)/\((List.length (List.set (List.set D (Int.toNat (10:Int)) (0:Int)) (Int.toNat (11:Int)) (0:Int))):Int)<=1099511627776/\ ∀(I:Int),I=65535 -oc (bf true (List.set (List.set D (Int.toNat (10:Int)) (0:Int)) (Int.toNat (11:Int)) (0:Int)))->ad (! decide (I=w)) ((sF)=pg a/\(0:Int)=m6 a/\(4:Int)=fE a) ((e,k,q,t,decide (n=16384),IntKind.wrap .u32 z,IntKind.wrap
 .u32 C)=pg a/\h=m6 a/\(0:Int)=fE a))):=by
  delta sF BE
  rintro b ⟨⟨-,hb⟩,-⟩ hl
  refine ae (fun h=>?_) (fun h=>?_)
  ·have h:=of_decide_eq_true h
   have e:fE b=3:=by rw[fE,if_pos h]
   rw[pg,m6,e];exact⟨rfl,rfl,rfl⟩
  have h:=of_decide_eq_false h
  have hB:ce b (Int.toNat 0) (Int.toNat 20)=b.take 20:=rfl
  have hBl:(b.take 20).length=20:=by rw[List.length_take];omega
  rw[hB]
  refine⟨by omega,by omega,by omega,by omega,by omega,by omega,by omega,by omega,by omega,?_⟩
  rintro v0 _ a0 ⟨e0,rfl,q0⟩
  rw[AH (by omega) (by omega),sc (by decide)] at e0
  have q0:a0=1:=q0
  subst q0
  refine⟨by omega,by omega,by omega,by omega,by omega,?_⟩
  rintro v1 _ a1 ⟨e1,rfl,q1⟩
  rw[AH (by omega) (by omega),sc (by decide)] at e1
  have q1:a1=2:=q1
  subst q1
  refine⟨by omega,by omega,by omega,by omega,by omega,?_⟩
  rintro v2 _ a2 ⟨e2,rfl,q2⟩
  rw[tG (by omega) (by omega),ot (by decide)] at e2
  have q2:a2=4:=q2
  subst q2
  refine⟨by omega,by omega,by omega,by omega,by omega,?_⟩
  rintro v3 _ a3 ⟨e3,rfl,q3⟩
  rw[tG (by omega) (by omega),ot (by decide)] at e3
  have q3:a3=6:=q3
  subst q3
  refine⟨by omega,by omega,by omega,by omega,by omega,?_⟩
  rintro v4 _ a4 ⟨e4,rfl,q4⟩
  rw[tG (by omega) (by omega),ot (by decide)] at e4
  have q4:a4=8:=q4
  subst q4
  refine⟨by omega,by omega,by omega,by omega,by omega,?_⟩
  rintro v5 _ a5 ⟨e5,rfl,q5⟩
  rw[AH (by omega) (by omega),sc (by decide)] at e5
  have q5:a5=9:=q5
  subst q5
  refine⟨by omega,by omega,by omega,by omega,by omega,?_⟩
  rintro v6 _ a6 ⟨e6,rfl,q6⟩
  rw[AH (by omega) (by omega),sc (by decide)] at e6
  have q6:a6=10:=q6
  subst q6
  refine⟨by omega,by omega,by omega,by omega,by omega,?_⟩
  rintro v7 _ a7 ⟨e7,rfl,q7⟩
  rw[tG (by omega) (by omega),ot (by decide)] at e7
  have q7:a7=12:=q7
  subst q7
  refine⟨by omega,by omega,by omega,by omega,by omega,?_⟩
  rintro v8 _ a8 ⟨e8,rfl,q8⟩
  rw[J7 (by omega) (by omega),vz (by decide)] at e8
  have q8:a8=16:=q8
  subst q8
  refine⟨by omega,by omega,by omega,by omega,by omega,?_⟩
  rintro v9 _ a9 ⟨e9,rfl,q9⟩
  rw[J7 (by omega) (by omega),vz (by decide)] at e9
  have q9:a9=20:=q9
  subst q9
  subst e0 e1 e2 e3 e4 e5 e6 e7 e8 e9
  have n12:=rT hb 12
  have n16:=rT hb 16
  have hcs:65535-oc (bf true (((b.take 20).set (Int.toNat 10) 0).set (Int.toNat 11) 0))=cf (bI (b.take 20) 10 0):=rfl
  (repeat (intro (b_:Bool) (hb_:b_=_);(repeat refine⟨(by first|(simp;done)|(rw[hb_];simp;done)|(rw[hb_];simp;omega)|(rw[hb_];simp;intros;omega)|(rw[hb_];simp +contextual;done)),?_⟩);subst hb_))
  refine ae (fun hc=>?_) (fun hc=>?_)
  ·have e:fE b=2:=by
    rw[fE,if_neg h,if_pos]
    rintro⟨h0,hf,h2⟩
    rw[show b.getD (Int.toNat 0) default=69 from h0] at hc
    rcases hf with hf|hf
    ·rw[show aG b (Int.toNat 6)=0 from hf] at hc
     simp at hc
     have h2:20<=aG b (Int.toNat 2):=h2
     simp at h2;omega
    ·rw[show aG b (Int.toNat 6)=16384 from hf] at hc
     simp at hc
     have h2:20<=aG b (Int.toNat 2):=h2
     simp at h2;omega
   rw[pg,m6,e];exact⟨rfl,rfl,rfl⟩
  have hg:b.getD 0 default=69/\(aG b 6=0∨aG b 6=16384)/\20<=aG b 2:=by
   by_cases h0:b.getD (Int.toNat 0) default=69
   ·by_cases h6:aG b (Int.toNat 6)=0
    ·simp[h0,h6] at hc
     exact⟨h0,.inl h6,by omega⟩
    ·by_cases h7:aG b (Int.toNat 6)=16384
     ·simp[h0,h7] at hc
      exact⟨h0,.inr h7,by omega⟩
     ·exfalso
      rw[h0,decide_eq_false h6,decide_eq_false h7] at hc;simp at hc
   ·exfalso
    rw[decide_eq_false h0] at hc;simp at hc
  refine⟨by omega,by omega,by omega,by rw[List.length_set];omega,by rw[List.length_set,List.length_set];omega,?_⟩
  rw[hcs]
  rintro c rfl
  refine ae (fun hc=>?_) (fun hc=>?_)
  ·have e:fE b=4:=by
    rw[fE,if_neg h,if_neg (fun k=>k hg),if_pos]
    intro k
    rw[show aG b (Int.toNat 10)=aG b 10 from rfl,k] at hc;simp at hc
   rw[pg,m6,e];exact⟨rfl,rfl,rfl⟩
  ·have e:fE b=0:=by
    rw[fE,if_neg h,if_neg (fun k=>k hg),if_neg]
    intro k
    exact k (by simpa using hc)
   rw[pg,m6,e,if_pos rfl,if_pos rfl,show Int.toNat 12=12 from rfl,show Int.toNat 16=16 from rfl,pR n12.1 n12.2,pR n16.1 n16.2]
   exact⟨rfl,rfl,rfl⟩
theorem ai9:av Tryz.prog GL 161 PU.spec:=Ct.okH _ Tryz.func161 (by kernel_rfl) (ah (ah (ah aA pU) (Ct.named Rq)) (Ct.named uC)) au XO (aB (by kernel_rfl) ay6)
def IE:Ct:=⟨[.val (.sl bm)],[.agg vD,.val cI],fun d=>[(d.1.length:Int)<=1099511627776],fun d=>((aW d.1,bV d.1,()),())⟩
def Z6:ar IE.ps->ay:=(fun _=>{})
theorem Su :
 ∀(a:List Int),(a.length<=maxLen/\ ∀(b:Int),b∈a->0<=b/\b<=255)/\True->(a.length:Int)<=1099511627776->(a.length:Int)<=1099511627776/\ad (! decide (fE a=0)) (((sF),([]:List Int))=aW a/\fE a=bV a) (ad (! decide (m6 a=(a.length:Int))) (((sF),([]:List Int))=aW a/\(2:Int)=bV a) (ad (decide (1500<m6 a)) (((sF),([]:List Int))=aW a/\(5:Int)=bV a) ((0:Int)<=20/\20<=(a.length:Int)/\(a.length:Int)<=(a.length:Int)/\((List.length (ce a (Int.toNat (20:Int)) (Int.toNat (a.length:Int)))):Int)<=1099511627776/\(pg a,ce a (Int.toNat (20:Int)) (Int.toNat (a.length:Int)))=aW a/\(0:Int)=bV a))):=by
  delta sF
  rintro b ⟨⟨-,hb⟩,-⟩ hl
  refine⟨hl,ae (fun hc=>?_) (fun hc=>?_)⟩
  ·have hc:¬ fE b=0:=by simpa using hc
   have e:bV b=fE b:=by rw[bV,if_pos hc]
   rw[aW,e,if_neg hc];exact⟨rfl,rfl⟩
  have hc:fE b=0:=by simpa using hc
  have hlen:m6 b=aG b 2:=by rw[m6,if_pos hc]
  rw[hlen]
  refine ae (fun h2=>?_) (fun h2=>?_)
  ·have h2:¬ aG b 2=b.length:=by simpa using h2
   have e:bV b=2:=by rw[bV,if_neg (fun k=>k hc),if_pos h2]
   rw[aW,e];exact⟨rfl,rfl⟩
  have h2:aG b 2=b.length:=by simpa using h2
  refine ae (fun h5=>?_) (fun h5=>?_)
  ·have h5:=of_decide_eq_true h5
   have e:bV b=5:=by rw[bV,if_neg (fun k=>k hc),if_neg (fun k=>k h2),if_pos h5]
   rw[aW,e];exact⟨rfl,rfl⟩
  have h5:=of_decide_eq_false h5
  have e:bV b=0:=by rw[bV,if_neg (fun k=>k hc),if_neg (fun k=>k h2),if_neg h5]
  have h20:=Ap hc
  rw[show Int.toNat 20=20 from rfl,sr,aW,e,if_pos rfl,pg,if_pos hc,List.length_drop]
  exact⟨by omega,by omega,by omega,by omega,rfl,rfl⟩
theorem zt:av Tryz.prog GL 88 IE.spec:=Ct.okH _ Tryz.func88 (by kernel_rfl) (ah (ah aA ai9) pU) au Z6 (aB (by kernel_rfl) Su)
def NJ:Ct:=⟨[.val (.sl bm)],[.own 5 bm,.val cI],fun d=>[(d.1.length:Int)<=1099511627776],fun d=>((gQ d.1,gg d.1,()),())⟩
def Q3:ar NJ.ps->ay:=(fun _=>{})
def Ei(a:List Int) :=
 (((aW a).1.1,(aW a).1.2.1,IntKind.wrap .i64 ((aW a).1.2.2.1 -(1:Int)),(aW a).1.2.2.2),(aW a).2)
theorem P8 :
 ∀(a:List Int),(a.length<=maxLen/\ ∀(b:Int),b∈a->0<=b/\b<=255)/\True->(a.length:Int)<=1099511627776->(a.length:Int)<=1099511627776/\ad (! decide (bV a=0)) (([]:List Int)=gQ a/\bV a=gg a) (ad (decide ((aW a).1.2.2.1<2)) (([]:List Int)=gQ a/\(7:Int)=gg a) (((List.length (aW a).2):Int)<=1073741824/\cS (Ei a)=gQ a/\de (Ei a)=gg a)):=by
  delta Ei
  rintro b ⟨⟨-,hb⟩,-⟩ hl
  refine⟨hl,ae (fun hc=>?_) (fun hc=>?_)⟩
  ·have hc:¬ bV b=0:=by simpa using hc
   have e:gg b=bV b:=by rw[gg,if_pos hc]
   rw[gQ,e,if_neg hc];exact⟨rfl,rfl⟩
  have hc:bV b=0:=by simpa using hc
  have hp:aW b=(bP b,b.drop 20):=by rw[aW,if_pos hc]
  rw[hp]
  have h8:=AQ hb (i:=8) (by have:=Ap (zY hc);omega)
  refine ae (fun h2=>?_) (fun h2=>?_)
  ·have h2:=of_decide_eq_true h2
   have e:gg b=7:=by rw[gg,if_neg (fun k=>k hc),if_pos h2]
   rw[gQ,e];exact⟨rfl,rfl⟩
  have h2:=of_decide_eq_false h2
  have e:gg b=0:=by rw[gg,if_neg (fun k=>k hc),if_neg h2]
  have hd:=vQ hc
  have h82:¬ b.getD 8 default<2:=h2
  rw[gQ,e,if_pos rfl]
  have hok:=Zt hb hc h2
  refine⟨by rw[List.length_drop];omega,?_⟩
  have ew:IntKind.wrap .i64 ((bP b).2.2.1-1)=(bP b).2.2.1-1:=af (by show _<=b.getD 8 default-1;omega) (by show b.getD 8 default-1<=_;omega)
  rw[ew]
  refine⟨rfl,?_⟩
  rw[de,if_neg (fun k=>k hok),if_neg]
  simp only[List.length_drop];omega
theorem UC:av Tryz.prog GL 249 NJ.spec:=Ct.okH _ Tryz.func249 (by kernel_rfl) (ah (ah aA zt) MU) au Q3 (aB (by kernel_rfl) P8)
def Mh:Ct:=⟨[.agg j8],[.val cI],fun d=>[],fun d=>((jp d.1,()),())⟩
def am0:ar Mh.ps->ay:=(fun _=>{})
theorem ar0 :
 ∀(a:bY),CT.wf j8 a/\True->True-> ∀(b:Bool),b=decide (a.1<0)->((! b)->((! b)->(! b))/\True)/\((! b)->((! b)->(! b))/\True)/\(b=false->(! b))/\ ∀(c:Bool),(c=bif b then true else decide (255<a.1))->((! c)->((! c)->(! c))/\True)/\((! c)->((! c)->(! c))/\True)/\(c=false->(! c))/\ ∀(d:Bool),(d=bif c then true else decide (a.2.2.1<0))->((! d)->((! d)->(! d))/\True)/\((! d)->((! d)->(! d))/\True)/\(d=false->(! d))/\ ∀(e:Bool),(e=bif d then true else decide (255<a.2.2.1))->((! e)->((! e)->(! e))/\True)/\((! e)->((! e)->(! e))/\True)/\(e=false->(! e))/\ ∀(f:Bool),(f=bif e then true else decide (a.2.2.2.1<0))->((! f)->((! f)->(! f))/\True)/\((! f)->((! f)->(! f))/\True)/\(f=false->(! f))/\ ∀(g:Bool),(g=bif f then true else decide (255<a.2.2.2.1))->((! g)->((! g)->(! g))/\True)/\((! g)->((! g)->(! g))/\True)/\(g=false->(! g))/\ ∀(h:Bool),(h=bif g then true else decide (a.2.1<0))->((! h)->((!
 h)->(! h))/\True)/\((! h)->((! h)->(! h))/\True)/\(h=false->(! h))/\ad (bif h then true else decide (65535<a.2.1)) ((1:Int)=jp a) ((0:Int)=jp a):=by
  rintro h - -
  (repeat (intro (b_:Bool) (hb_:b_=_);(repeat refine⟨(by first|(simp;done)|(rw[hb_];simp;done)|(rw[hb_];simp;omega)|(rw[hb_];simp;intros;omega)|(rw[hb_];simp +contextual;done)),?_⟩);subst hb_))
  refine ae (fun hc=>?_) (fun hc=>?_)
  ·rw[jp,if_neg]
   intro k;obtain⟨k1,k2,k3,k4,k5⟩:=k
   unfold ni at k1 k2 k3
   simp[Bool.cond_eq_ite] at hc;omega
  ·rw[jp,if_pos]
   unfold iX ni
   simp[Bool.cond_eq_ite] at hc;omega
theorem RB:av Tryz.prog GL 140 Mh.spec:=Ct.okH _ Tryz.func140 (by kernel_rfl) aA au am0 (aB (by kernel_rfl) ar0)
def HO:Ct:=⟨[.agg j8,.val cI],[.own 5 bm],fun d=>[iX d.1,0<=d.2.1,d.2.1<=65535],fun d=>((gn d.1 d.2.1,()),())⟩
def W3:ar HO.ps->ay:=(fun _=>{})
def Fp(a:bY)(b:Int)(g:List Int) :=
 (g.length:Int)<=1099511627776/\ ∀(h:List Int),h=bG g a.2.2.1 (1:Int)->(h.length:Int)<=1099511627776/\ ∀(i:List Int),i=bG h a.2.2.2.1 (1:Int)->(↑(0:Nat):Int)<=1099511627776/\ ∀(j:List Int),j=bG ([]:List Int) (IntKind.wrap .i64 a.2.2.2.2.2.1) (4:Int)->(j.length:Int)<=1099511627776/\ ∀(k:List Int),k=bG j (IntKind.wrap .i64 a.2.2.2.2.2.2) (4:Int)->i.length*(1:Nat)<=(140737488355328:Nat)/\(List.length [(0:Int),(0:Int)]+k.length)*(1:Nat)<=(140737488355328:Nat)/\(i.length+List.length ([(0:Int),(0:Int)]++k))*(1:Nat)<=(140737488355328:Nat)/\((List.length (i++([(0:Int),(0:Int)]++k))):Int)<=1099511627776/\ ∀(l:Int),l=65535 -oc (bf true (i++([(0:Int),(0:Int)]++k)))->(i.length:Int)<=1099511627776/\ ∀(m:List Int),m=bG i l (2:Int)->(m.length+k.length)*(1:Nat)<=(140737488355328:Nat)/\m++k=gn a b
theorem ae1 :
 ∀(a:bY)(b:Int),CT.wf j8 a/\ab b/\True->iX a/\0<=b/\b<=65535->ad a.2.2.2.2.1 ((↑(0:Nat):Int)<=1099511627776/\ ∀(c:List Int),c=bG ([]:List Int) (69:Int) (1:Int)->(c.length:Int)<=1099511627776/\ ∀(d:List Int),d=bG c a.1 (1:Int)->(d.length:Int)<=1099511627776/\ ∀(e:List Int),e=bG d b (2:Int)->(e.length:Int)<=1099511627776/\ ∀(f:List Int),f=bG e a.2.1 (2:Int)->(f.length:Int)<=1099511627776/\ ∀(g:List Int),g=bG f (16384:Int) (2:Int)->(Fp a b g)) ((↑(0:Nat):Int)<=1099511627776/\ ∀(c:List Int),c=bG ([]:List Int) (69:Int) (1:Int)->(c.length:Int)<=1099511627776/\ ∀(d:List Int),d=bG c a.1 (1:Int)->(d.length:Int)<=1099511627776/\ ∀(e:List Int),e=bG d b (2:Int)->(e.length:Int)<=1099511627776/\ ∀(f:List Int),f=bG e a.2.1 (2:Int)->(f.length:Int)<=1099511627776/\ ∀(g:List Int),g=bG f (0:Int) (2:Int)->(Fp a b g)):=by
  delta Fp
  rintro h n ⟨hw,-⟩⟨hok,n0,n1⟩
  obtain⟨-,-,-,-,-,s0,d0⟩:=hw
  have s0:0<=h.2.2.2.2.2.1/\h.2.2.2.2.2.1<=4294967295:=s0
  have d0:0<=h.2.2.2.2.2.2/\h.2.2.2.2.2.2<=4294967295:=d0
  have es:IntKind.wrap .i64 h.2.2.2.2.2.1=h.2.2.2.2.2.1:=af (by omega) (by omega)
  have ed:IntKind.wrap .i64 h.2.2.2.2.2.2=h.2.2.2.2.2.2:=af (by omega) (by omega)
  rw[es,ed]
  have hc:=mV (zn (n:=n) hok)
  obtain⟨h1,h2,h3,h4,h5⟩:=hok
  have key:∀ f:Int,(f=if h.2.2.2.2.1 then 16384 else 0)->0<=f->f<=65535->((0:Nat):Int)<=1099511627776∧∀ x1,x1=bG [] 69 1->(x1.length:Int)<=1099511627776∧∀ x2,x2=bG x1 h.1 1->(x2.length:Int)<=1099511627776∧∀ x3,x3=bG x2 n 2->(x3.length:Int)<=1099511627776 ∧
    ∀ x4,x4=bG x3 h.2.1 2->(x4.length:Int)<=1099511627776∧∀ x5,x5=bG x4 f 2->(x5.length:Int)<=1099511627776∧∀ x6,x6=bG x5 h.2.2.1 1->(x6.length:Int)<=1099511627776∧∀ x7,x7=bG x6 h.2.2.2.1 1->((0:Nat):Int)<=1099511627776 ∧
    ∀ x8,x8=bG [] h.2.2.2.2.2.1 4->(x8.length:Int)<=1099511627776∧∀ x9,x9=bG x8 h.2.2.2.2.2.2 4->x7.length*1<=140737488355328/\(List.length [(0:Int),0]+x9.length)*1<=140737488355328/\(x7.length+List.length ([0,0]++x9))*1<=140737488355328 ∧
    ((x7++([0,0]++x9)).length:Int)<=1099511627776∧∀ c,c=65535-oc (bf true (x7++([0,0]++x9)))->(x7.length:Int)<=1099511627776∧∀ x11,x11=bG x7 c 2->(x11.length+x9.length)*1<=140737488355328/\x11++x9=gn h n:=by
   intro f hf f0 f1
   refine⟨by omega,?_⟩
   rintro x1 e1
   rw[pX (by omega) (by omega)] at e1
   refine⟨by rw[e1];simp,?_⟩
   rintro x2 e2
   rw[pX h1.1 h1.2,e1] at e2
   refine⟨by rw[e2];simp,?_⟩
   rintro x3 e3
   rw[gR n0 n1,e2] at e3
   refine⟨by rw[e3];simp[w2],?_⟩
   rintro x4 e4
   rw[gR h4 h5,e3] at e4
   refine⟨by rw[e4];simp[w2],?_⟩
   rintro x5 e5
   rw[gR f0 f1,e4] at e5
   refine⟨by rw[e5];simp[w2],?_⟩
   rintro x6 e6
   rw[pX h2.1 h2.2,e5] at e6
   refine⟨by rw[e6];simp[w2],?_⟩
   rintro x7 e7
   rw[pX h3.1 h3.2,e6] at e7
   have e7:x7=zm h n:=by rw[e7,hf];simp[zm]
   refine⟨by omega,?_⟩
   rintro x8 e8
   rw[sM s0.1 s0.2] at e8
   refine⟨by rw[e8];simp[w4],?_⟩
   rintro x9 e9
   rw[sM d0.1 d0.2,e8] at e9
   have e9:x9=Da h:=e9
   have l7:x7.length=10:=by rw[e7];rfl
   have l9:x9.length=8:=by rw[e9];rfl
   have eb:x7++([0,0]++x9)=fi h n:=by rw[e7,e9];rfl
   refine⟨by omega,by simp[l9],by simp[l7,l9],by simp[l7,l9],?_⟩
   rw[eb]
   rintro c rfl
   refine⟨by omega,?_⟩
   rintro x11 e11
   rw[show 65535-oc (bf true (fi h n))=cf (fi h n) from rfl,gR hc.1 hc.2] at e11
   refine⟨by rw[e11,List.length_append,l7,l9];simp[w2],?_⟩
   rw[e11,e7,e9,List.append_assoc];rfl
  refine ae (fun hk=>?_) (fun hk=>?_)
  ·exact key 16384 (by rw[hk];rfl) (by omega) (by omega)
  ·exact key 0 (by rw[hk];rfl) (by omega) (by omega)
theorem aj1:av Tryz.prog GL 141 HO.spec:=Ct.okH _ Tryz.func141 (by kernel_rfl) (ah (ah aA (Ct.named vp)) (Ct.named FL)) au W3 (aB (by kernel_rfl) ae1)
def Oo:Ct:=⟨[.agg vD],[.own 5 bm,.val cI],fun d=>[(d.1.2.length:Int)<=1073741824],fun d=>((cS d.1,de d.1,()),())⟩
def RD:ar Oo.ps->ay:=(fun _=>{})
theorem Qp :
 ∀(a:(Int×Int×Int×Int×Bool×Int×Int)×List Int),CT.wf vD a/\True->(a.2.length:Int)<=1073741824->ad (! decide (jp a.1=0)) (([]:List Int)=cS a/\jp a.1=de a) (ad (decide (1500<IntKind.wrap .i64 ((a.2.length:Int)+(20:Int)))) (([]:List Int)=cS a/\(5:Int)=de a) (iX a.1/\0<=IntKind.wrap .i64 ((a.2.length:Int)+(20:Int))/\IntKind.wrap .i64 ((a.2.length:Int)+(20:Int))<=65535/\(List.length (gn a.1 (IntKind.wrap .i64 ((a.2.length:Int)+(20:Int))))+a.2.length)*(1:Nat)<=(140737488355328:Nat)/\gn a.1 (IntKind.wrap .i64 ((a.2.length:Int)+(20:Int)))++a.2=cS a/\(0:Int)=de a)):=by
  rintro d ⟨⟨hw,-⟩,-⟩ hl
  refine ae (fun hc=>?_) (fun hc=>?_)
  ·have hn:¬ iX d.1:=fun k=>by rw[jp,if_pos k] at hc;cases hc
   have he:de d=1:=by rw[de,if_pos hn]
   rw[cS,he,jp,if_neg hn];exact⟨rfl,rfl⟩
  have hok:iX d.1:=Classical.byContradiction fun k=>by rw[jp,if_neg k] at hc;cases hc
  have e20:IntKind.wrap .i64 ((d.2.length:Int)+20)=20+d.2.length:=by rw[af (by omega) (by omega)];omega
  rw[e20]
  refine ae (fun h5=>?_) (fun h5=>?_)
  ·have h5:=of_decide_eq_true h5
   have he:de d=5:=by rw[de,if_neg (fun k=>k hok),if_pos (by omega)]
   rw[cS,he];exact⟨rfl,rfl⟩
  have h5:=of_decide_eq_false h5
  have he:de d=0:=by rw[de,if_neg (fun k=>k hok),if_neg (by omega)]
  refine⟨hok,by omega,by omega,by rw[oR];omega,?_⟩
  rw[cS,he,if_pos rfl]
  exact⟨rfl,rfl⟩
theorem YH:av Tryz.prog GL 77 Oo.spec:=Ct.okH _ Tryz.func77 (by kernel_rfl) (ah (ah aA RB) aj1) au RD (aB (by kernel_rfl) Qp)
end Go.RS

/- Probe: probes, their packets and keys. -/
namespace Go.RS
open Go.SX Go.Proofs
set_option maxRecDepth 100000
set_option linter.unusedVariables false
abbrev xi:CT := .pair ck (.pair ck (.pair cI (.pair cI (.pair cI cI))))
abbrev bO:Type:=Int×Int×Int×Int×Int×Int
def mF(n:Int):Prop:=n=1∨n=6∨n=17
instance (n:Int):Decidable (mF n):=by unfold mF;infer_instance
def iV(p:bO):Prop:=(0<=p.2.2.2.1/\p.2.2.2.1<=1023)/\(0<=p.2.2.2.2.1/\p.2.2.2.2.1<=65534)/\1<=p.2.2.2.2.2/\p.2.2.2.2.2<=255
instance (p:bO):Decidable (iV p):=by unfold iV;infer_instance
def dN(p:bO):Int:=if ¬ mF p.2.2.1 then 16 else if ¬ iV p then 1 else 0
def nK(p:bO):Int:=oc (65535-(16384+p.2.2.2.1)+cf (bK (false,21075,p.2.2.2.2.1,[0,0])))
def sm(p:bO):Int:=oc (65535-(p.2.2.2.2.1+1)+dA p.1 p.2.1 17 (dw (20000+p.2.2.2.1,33434,[0,0])))
def qM(p:bO):Int:=if sm p=0 then 65535 else sm p
def jk(p:bO):kZ:=(false,21075,p.2.2.2.2.1,w2 (nK p))
def oU(p:bO):nz:=(20000+p.2.2.2.1,33434,w2 (qM p))
def kx(p:bO):jO:=(20000+p.2.2.2.1,80,p.2.2.2.2.1,0,2,1024,[])
def dD(p:bO):List Int:=if p.2.2.1=1 then dj (jk p) else if p.2.2.1=17 then jF p.1 p.2.1 (oU p) else dq p.1 p.2.1 (kx p)
def qC(p:bO):bY:=(0,p.2.2.2.2.1,p.2.2.2.2.2,p.2.2.1,true,p.1,p.2.1)
def build(p:bO):List Int:=if dN p=0 then cS (qC p,dD p) else []
def Vt:mL:=(0,0,0,0,0)
def vy:bO:=(0,0,0,0,0,0)
def wC(x:nX):mL:=(x.1.2.2.2.2.2.1,x.1.2.2.2.2.2.2,x.1.2.2.2.1,if mF x.1.2.2.2.1/\4<=x.2.length then aG x.2 0 else 0,if mF x.1.2.2.2.1/\4<=x.2.length then aG x.2 2 else 0)
def fw(b:List Int):mL:=if bV b=0 then wC (aW b) else Vt
theorem lx{p:bO}:dN p=0↔mF p.2.2.1/\iV p:=by
 unfold dN
 constructor
 ·intro h
  split at h
  ·cases h
  ·split at h
   ·cases h
   ·rename_i h1 h2;exact⟨Decidable.not_not.1 h1,Decidable.not_not.1 h2⟩
 ·rintro⟨h1,h2⟩
  rw[if_neg (fun k=>k h1),if_neg (fun k=>k h2)]
theorem AX{b:List Int}{i:Nat}{c:Int}(h:i+2<=b.length)(c0:0<=c)(c1:c<=65535):aG (bI b i c) i=c:=by
 rw[D1 (by rw[j6];exact h)]
 unfold bI
 rw[yy (by omega),O1 (by omega),O1 (by rw[List.length_set];omega)]
 omega
theorem rH{b:List Int}{i j:Nat}{c:Int}(h:j+2<=b.length)(hn:j+2<=i∨i+2<=j):aG (bI b i c) j=aG b j:=by
 rw[D1 (by rw[j6];exact h),D1 h]
 unfold bI
 rw[yy (by omega),yy (by omega),yy (by omega),yy (by omega)]
theorem HS{s d:Int}{p:Int}{X:List Int}(hx:bytes X)(hp:0<p%256):0<=dA s d p X/\dA s d p X<=65534:=by
 have h1:=(va (a:=s) (b:=d) (p:=p) hx).1
 refine⟨h1,?_⟩
 unfold dA at h1 ⊢
 split
 ·omega
 ·unfold cf
  rw[DO]
  have h2:=I6 s d p X.length
  have h3:=(wv true X hx).1
  unfold oc
  rw[if_neg (by omega)];omega
theorem Px:bytes [0,0]:=j4 (by omega) (by omega) (j4 (by omega) (by omega) kP)
theorem Lk(t:Int):bytes (bK (false,21075,t,[0,0])):=tf Px
theorem GS(f:Int):bytes (dw (20000+f,33434,[0,0])):=xW Px
theorem OP{p:bO}(h:iV p):1<=nK p/\nK p<=65535:=by
 have:=mV (Lk p.2.2.2.2.1)
 obtain⟨⟨h1,h2⟩,-⟩:=h
 unfold nK oc
 rw[if_neg (by omega)];omega
theorem ZT{p:bO}(h:iV p):0<=sm p/\sm p<=65535:=by
 have:=HS (s:=p.1) (d:=p.2.1) (p:=17) (GS p.2.2.2.1) (by decide)
 obtain⟨-,⟨h1,h2⟩,-⟩:=h
 exact r8 (by omega)
theorem LU{p:bO}(h:iV p):1<=qM p/\qM p<=65535:=by
 have:=ZT h
 unfold qM;split <;> omega
theorem vu(n:Int):(w2 n).length=2:=rfl
theorem F8{p:bO}(h:iV p):AR (w2 (nK p)) (jk p):=by
 obtain⟨-,⟨h1,h2⟩,-⟩:=h
 exact⟨⟨(gH _).2 ⟨by show (0:Int)<=21075;omega,by show (21075:Int)<=_;omega⟩,(gH _).2 ⟨h1,by show p.2.2.2.2.1<=_;omega⟩⟩,rfl⟩
theorem PR{p:bO}(h:iV p):Ey (w2 (qM p)) (oU p):=by
 obtain⟨⟨h1,h2⟩,-⟩:=h
 exact⟨⟨(gH _).2 ⟨by show (0:Int)<=20000+p.2.2.2.1;omega,by show 20000+p.2.2.2.1<=_;omega⟩,(gH _).2 ⟨by show (0:Int)<=33434;omega,by show (33434:Int)<=_;omega⟩⟩,rfl⟩
theorem EN{p:bO}(h:iV p):AE [] (kx p):=by
 obtain⟨⟨h1,h2⟩,⟨h3,h4⟩,-⟩:=h
 refine⟨⟨(gH _).2 ⟨?_,?_⟩,(gH _).2 ⟨?_,?_⟩,⟨?_,?_⟩,⟨?_,?_⟩,⟨?_,?_⟩,(gH _).2 ⟨?_,?_⟩⟩,rfl⟩ <;> simp only[kx] <;> omega
theorem Mi{p:bO}(h:iV p):iq (jk p)=0:=BQ (F8 h) (by rw[vu];omega)
theorem IU{p:bO}(h:iV p):lf (oU p)=0:=JS (PR h) (by rw[vu];omega)
theorem ML{p:bO}(h:iV p):iZ (kx p)=0:=Eh (EN h) (by simp)
theorem wH{p:bO}(h:iV p)(h1:p.2.2.1=1):dD p=bI (bK (jk p)) 2 (cf (bK (jk p))):=by
 rw[dD,if_pos h1,dj,if_pos (Mi h)]
theorem xe{p:bO}(h:iV p)(h1:p.2.2.1=17):dD p=bI (dw (oU p)) 6 (iT p.1 p.2.1 (dw (oU p))):=by
 rw[dD,if_neg (by omega),if_pos h1,jF,if_pos (IU h)]
theorem vY{p:bO}(h:iV p)(h1:p.2.2.1=6):dD p=bI (ix (kx p)) 16 (dA p.1 p.2.1 6 (ix (kx p))):=by
 rw[dD,if_neg (by omega),if_neg (by omega),dq,if_pos (ML h)]
theorem yB{p:bO}(h:dN p=0):(p.2.2.1≠6/\(dD p).length=10)∨(p.2.2.1=6/\(dD p).length=20):=by
 obtain⟨h1|h1|h1,h2⟩:=lx.1 h
 ·rw[wH h2 h1,j6];exact .inl ⟨by omega,rfl⟩
 ·rw[vY h2 h1,j6];exact .inr ⟨h1,rfl⟩
 ·rw[xe h2 h1,j6];exact .inl ⟨by omega,rfl⟩
theorem MI{p:bO}(h:dN p=0):bytes (dD p):=by
 obtain⟨h1|h1|h1,h2⟩:=lx.1 h
 ·rw[wH h2 h1];exact qo (tf (jR _))
 ·rw[vY h2 h1];exact qo (uu (EN h2).1 kP)
 ·rw[xe h2 h1];exact qo (xW (jR _))
theorem Gb{p:bO}(h:dN p=0):iX (qC p):=by
 obtain⟨h1,⟨-,⟨h2,h3⟩,h4,h5⟩⟩:=lx.1 h
 refine⟨⟨?_,?_⟩,⟨?_,?_⟩,⟨?_,?_⟩,?_,?_⟩ <;> simp only[qC] <;> unfold mF at h1 <;> omega
theorem J2{p:bO}(h:dN p=0):de (qC p,dD p)=0:=by
 rw[de,if_neg (fun k=>k (Gb h)),if_neg]
 rcases yB h with h|h <;> rw[h.2] <;> simp
theorem Al{p:bO}(h:dN p=0):build p=gn (qC p) (20+(dD p).length)++dD p:=by
 rw[build,if_pos h,cS,if_pos (J2 h)]
theorem Ft(p:bO):(build p).length<=40:=by
 by_cases h:dN p=0
 ·rw[Al h,List.length_append,oR]
  rcases yB h with h|h <;> omega
 ·rw[build,if_neg h];simp
theorem Gv(p:bO):bytes (build p):=by
 by_cases h:dN p=0
 ·rw[Al h];exact fP (Dw (Gb h)) (MI h)
 ·rw[build,if_neg h];exact kP
def IM:Ct:=⟨[.agg xi],[.val cI],fun d=>[],fun d=>((dN d.1,()),())⟩
def XQ:ar IM.ps->ay:=(fun _=>{})
theorem Ue :
 ∀(a b c d e f:Int),((0<=a/\a<=4294967295)/\(0<=b/\b<=4294967295)/\ab c/\ab d/\ab e/\ab f)/\True->True-> ∀(g:Bool),g= ! decide (c=1)->(g->(g->g)/\True)/\(g->(g->g)/\True)/\(g->g)/\ ∀(h:Bool),(h=bif g then ! decide (c=17) else false)->(h->(h->h)/\True)/\(h->(h->h)/\True)/\(h->h)/\ad (bif h then ! decide (c=6) else false) ((16:Int)=dN (a,b,c,d,e,f)) (∀(i:Bool),i=decide (d<0)->((! i)->((! i)->(! i))/\True)/\((! i)->((! i)->(! i))/\True)/\(i=false->(! i))/\ ∀(j:Bool),(j=bif i then true else decide (1023<d))->((! j)->((! j)->(! j))/\True)/\((! j)->((! j)->(! j))/\True)/\(j=false->(! j))/\ ∀(k:Bool),(k=bif j then true else decide (e<0))->((! k)->((! k)->(! k))/\True)/\((! k)->((! k)->(! k))/\True)/\(k=false->(! k))/\ ∀(l:Bool),(l=bif k then true else decide (65534<e))->((! l)->((! l)->(! l))/\True)/\((! l)->((! l)->(! l))/\True)/\(l=false->(! l))/\ ∀(m:Bool),(m=bif l then true else
 decide (f<1))->((! m)->((! m)->(! m))/\True)/\((! m)->((! m)->(! m))/\True)/\(m=false->(! m))/\ad (bif m then true else decide (255<f)) ((1:Int)=dN (a,b,c,d,e,f)) ((0:Int)=dN (a,b,c,d,e,f))):=by
  rintro s d pr f t l - -
  (repeat (intro (b_:Bool) (hb_:b_=_);(repeat refine⟨(by first|(simp;done)|(rw[hb_];simp;done)|(rw[hb_];simp;omega)|(rw[hb_];simp;intros;omega)|(rw[hb_];simp +contextual;done)),?_⟩);subst hb_))
  refine ae (fun hc=>?_) (fun hc=>?_)
  ·rw[dN,if_pos]
   simp only[mF]
   intro k
   rcases k with rfl|rfl|rfl <;> simp at hc
  have hp:mF pr:=by
   unfold mF
   by_cases h1:pr=1
   ·exact .inl h1
   ·by_cases h6:pr=17
    ·exact .inr (.inr h6)
    ·simp[h1,h6] at hc;exact .inr (.inl hc)
  have key:∀(v:Int),(v=if iV (s,d,pr,f,t,l) then 0 else 1)->v=dN (s,d,pr,f,t,l):=by
   intro v hv
   rw[dN,if_neg (fun k=>k hp),hv]
   by_cases k:iV (s,d,pr,f,t,l)
   ·rw[if_pos k,if_neg (fun q=>q k)]
   ·rw[if_neg k,if_pos k]
  (repeat (intro (b_:Bool) (hb_:b_=_);(repeat refine⟨(by first|(simp;done)|(rw[hb_];simp;done)|(rw[hb_];simp;omega)|(rw[hb_];simp;intros;omega)|(rw[hb_];simp +contextual;done)),?_⟩);subst hb_))
  refine ae (fun h1=>?_) (fun h1=>?_)
  ·have hn:¬ iV (s,d,pr,f,t,l):=by
    rintro⟨⟨a,b⟩,⟨a2,b2⟩,a3,b3⟩
    simp only at a b a2 b2 a3 b3
    simp[Bool.cond_eq_ite] at h1;omega
   exact key 1 (by rw[if_neg hn])
  ·have hn:iV (s,d,pr,f,t,l):=by
    simp[Bool.cond_eq_ite] at h1
    refine⟨⟨?_,?_⟩,⟨?_,?_⟩,?_,?_⟩ <;> simp only <;> omega
   exact key 0 (by rw[if_pos hn])
theorem Jm:av Tryz.prog GL 75 IM.spec:=Ct.okH _ Tryz.func75 (by kernel_rfl) aA au XQ (aB (by kernel_rfl) Ue)
def Pl:Ct:=⟨[.val (.sl bm)],[.agg Gg,.val cI],fun d=>[(d.1.length:Int)<=1099511627776],fun d=>((fw d.1,bV d.1,()),())⟩
def Uy:ar Pl.ps->ay:=(fun _=>{})
def yg(a:List Int)(b:(Int×Int×Int×Int×Bool×Int×Int)×List Int) :=
 (b.1.2.2.2.2.2.1,b.1.2.2.2.2.2.2,b.1.2.2.2.1,(0:Int),(0:Int))=fw a/\(0:Int)=bV a
def BR(a:List Int)(b:(Int×Int×Int×Int×Bool×Int×Int)×List Int) :=
 ad (decide (4<=(b.2.length:Int))) ((b.2.length:Int)<=1099511627776/\(b.2.length:Int)<=1099511627776/\(b.1.2.2.2.2.2.1,b.1.2.2.2.2.2.2,b.1.2.2.2.1,dQ b.2 (0:Int) (2:Int),dQ b.2 (2:Int) (2:Int))=fw a/\(0:Int)=bV a) (yg a b)
theorem ab6 :
 ∀(a:List Int),(a.length<=maxLen/\ ∀(b:Int),b∈a->0<=b/\b<=255)/\True->(a.length:Int)<=1099511627776->(a.length:Int)<=1099511627776/\ ∀(b:(Int×Int×Int×Int×Bool×Int×Int)×List Int)(c:Int),b=aW a/\c=bV a->ad (! decide (c=0)) (((0:Int),(0:Int),(0:Int),(0:Int),(0:Int))=fw a/\c=bV a) (ad (decide (b.1.2.2.2.1=1)) (ad (decide (b.1.2.2.2.1=1)) (BR a b) (yg a b)) (ad (decide (b.1.2.2.2.1=6)) (ad (decide (b.1.2.2.2.1=6)) (BR a b) (yg a b)) (ad (decide (b.1.2.2.2.1=17)) (BR a b) (yg a b)))):=by
  delta BR yg
  rintro b ⟨⟨-,hb⟩,-⟩ hl
  refine⟨hl,?_⟩
  rintro d e ⟨rfl,rfl⟩
  refine ae (fun h=>?_) (fun h=>?_)
  ·have h:¬ bV b=0:=by simpa using h
   rw[fw,if_neg h];exact⟨rfl,rfl⟩
  have h:bV b=0:=by simpa using h
  have hdl:=vQ h
  have hk:fw b=wC (aW b):=by rw[fw,if_pos h]
  rw[hk,h]
  have hpl:((aW b).2.length:Int)<=1500:=by rw[aW,if_pos h];simp only[List.length_drop];omega
  generalize aW b=x at *
  have yes:mF x.1.2.2.2.1->(4:Int)<=x.2.length->((x.2.length:Int)<=1099511627776/\(x.2.length:Int)<=1099511627776/\(x.1.2.2.2.2.2.1,x.1.2.2.2.2.2.2,x.1.2.2.2.1,dQ x.2 0 2,dQ x.2 2 2)=wC x/\(0:Int)=0):=by
   intro h1 h2
   refine⟨by omega,by omega,?_,rfl⟩
   rw[tG (by omega) (by omega),tG (by omega) (by omega),wC,if_pos ⟨h1,by omega⟩,if_pos ⟨h1,by omega⟩];rfl
  have no:¬ (mF x.1.2.2.2.1/\(4:Int)<=x.2.length)->((x.1.2.2.2.2.2.1,x.1.2.2.2.2.2.2,x.1.2.2.2.1,(0:Int),(0:Int))=wC x/\(0:Int)=0):=by
   intro h1
   rw[wC,if_neg (fun k=>h1 ⟨k.1,by omega⟩),if_neg (fun k=>h1 ⟨k.1,by omega⟩)];exact⟨rfl,rfl⟩
  refine ae (fun h1=>?_) (fun h1=>?_)
  ·refine ae (fun _=>?_) (fun k=>by rw[h1] at k;cases k)
   have h1:=of_decide_eq_true h1
   exact ae (fun h4=>yes (.inl h1) (of_decide_eq_true h4)) (fun h4=>no (fun k=>(of_decide_eq_false h4) k.2))
  refine ae (fun h6=>?_) (fun h6=>?_)
  ·refine ae (fun _=>?_) (fun k=>by rw[h6] at k;cases k)
   have h6:=of_decide_eq_true h6
   exact ae (fun h4=>yes (.inr (.inl h6)) (of_decide_eq_true h4)) (fun h4=>no (fun k=>(of_decide_eq_false h4) k.2))
  refine ae (fun h17=>?_) (fun h17=>?_)
  ·have h17:=of_decide_eq_true h17
   exact ae (fun h4=>yes (.inr (.inr h17)) (of_decide_eq_true h4)) (fun h4=>no (fun k=>(of_decide_eq_false h4) k.2))
  ·have h1:=of_decide_eq_false h1
   have h6:=of_decide_eq_false h6
   have h17:=of_decide_eq_false h17
   exact no (fun k=>by rcases k.1 with k|k|k <;> contradiction)
theorem Rx:av Tryz.prog GL 278 Pl.spec:=Ct.okH _ Tryz.func278 (by kernel_rfl) (ah (ah aA (Ct.named zt)) Dm) au Uy (aB (by kernel_rfl) ab6)
def KK:Ct:=⟨[.val cI,.val cI],[.val cI],fun d=>[0<=d.1,d.1<=65535,0<=d.2.1,d.2.1<=65535],fun d=>((if oc (65535-d.2.1+d.1)=0 then 65535 else oc (65535-d.2.1+d.1),()),())⟩
def Xn:ar KK.ps->ay:=(fun _=>{})
def Dk(a b:Int) :=
 if (bU (IntKind.wrap .i64 ((65535:Int) -b))&&bU a)=true then oc (IntKind.wrap .i64 ((65535:Int) -b)+a) else (0:Int)
theorem ak8 :
 ∀(a b:Int),ab a/\ab b/\True->0<=a/\a<=65535/\0<=b/\b<=65535->ad (decide ((Dk a b)=0)) ((65535:Int)=if oc ((65535:Int) -b+a)=0 then (65535:Int) else oc ((65535:Int) -b+a)) ((Dk a b)=if oc ((65535:Int) -b+a)=0 then (65535:Int) else oc ((65535:Int) -b+a)):=by
  delta Dk
  rintro a b-⟨a0,a1,b0,b1⟩
  rw[af (n:=65535-b) (by omega) (by omega),if_pos (by simp only[Bool.and_eq_true,gH];omega)]
  refine ae (fun h=>?_) (fun h=>?_)
  ·rw[if_pos (of_decide_eq_true h)]
  ·rw[if_neg (of_decide_eq_false h)]
theorem ZO:av Tryz.prog GL 144 KK.spec:=Ct.okH _ Tryz.func144 (by kernel_rfl) (ah aA NZ) au Xn (aB (by kernel_rfl) ak8)
def L8:Ct:=⟨[.agg xi],[.own 5 bm],fun d=>[dN d.1=0],fun d=>((dD d.1,()),())⟩
def Qo:ar L8.ps->ay:=(fun _=>{})
theorem ap9 :
 ∀(a b c d e f:Int),((0<=a/\a<=4294967295)/\(0<=b/\b<=4294967295)/\ab c/\ab d/\ab e/\ab f)/\True->dN (a,b,c,d,e,f)=0->ad (decide (c=1)) (((List.length [(0:Int),(0:Int)]):Int)<=1073741824/\ ∀(g:List Int)(h:Int),g=dj (false,(21075:Int),e,[(0:Int),(0:Int)])/\h=iq (false,(21075:Int),e,[(0:Int),(0:Int)])->(g.length:Int)<=1099511627776/\ ∀(i:Int),i=dQ g (2:Int) (2:Int)->0<=i/\i<=65535/\0<=IntKind.wrap .i64 ((16384:Int)+d)/\IntKind.wrap .i64 ((16384:Int)+d)<=65535/\ ∀(j:Int),(j=if oc ((65535:Int) -IntKind.wrap .i64 ((16384:Int)+d)+i)=0 then (65535:Int) else oc ((65535:Int) -IntKind.wrap .i64 ((16384:Int)+d)+i))->(↑(0:Nat):Int)<=1099511627776/\ ∀(k:List Int),k=bG ([]:List Int) j (2:Int)->(k.length:Int)<=1073741824/\ ∀(l:List Int)(m:Int),l=dj (false,(21075:Int),e,k)/\m=iq (false,(21075:Int),e,k)->l=dD (a,b,c,d,e,f)) (ad (decide (c=17))
 ((↑(0:Nat):Int)<=1099511627776/\ ∀(g:List Int),g=bG ([]:List Int) (IntKind.wrap .i64 ((20000:Int)+d)) (2:Int)->(g.length:Int)<=1099511627776/\ ∀(h:List Int),h=bG g (33434:Int) (2:Int)->(h.length+List.length [(0:Int),(10:Int),(0:Int),(0:Int),(0:Int),(0:Int)])*(1:Nat)<=(140737488355328:Nat)/\((List.length (h++[(0:Int),(10:Int),(0:Int),(0:Int),(0:Int),(0:Int)])):Int)<=1073741824/\ ∀(i:Int),i=dA a b (17:Int) (h++[(0:Int),(10:Int),(0:Int),(0:Int),(0:Int),(0:Int)])->0<=i/\i<=65535/\0<=IntKind.wrap .i64 (e+(1:Int))/\IntKind.wrap .i64 (e+(1:Int))<=65535/\ ∀(j:Int),(j=if oc ((65535:Int) -IntKind.wrap .i64 (e+(1:Int))+i)=0 then (65535:Int) else oc ((65535:Int) -IntKind.wrap .i64 (e+(1:Int))+i))->(↑(0:Nat):Int)<=1099511627776/\ ∀(k:List Int),k=bG ([]:List Int) j (2:Int)->(k.length:Int)<=1073741824/\jF a b (IntKind.wrap .i64 ((20000:Int)+d),(33434:Int),k)=dD (a,b,c,d,e,f))
 ((↑(0:Nat):Int)<=1000000/\dq a b (IntKind.wrap .i64 ((20000:Int)+d),(80:Int),e,(0:Int),(2:Int),(1024:Int),([]:List Int))=dD (a,b,c,d,e,f))):=by
  rintro s d pr f t l-he
  obtain⟨hp,hr⟩:=lx.1 he
  have hr':=hr
  obtain⟨⟨f0,f1⟩,⟨t0,t1⟩,l0,l1⟩:=hr'
  simp only at f0 f1 t0 t1 l0 l1
  rw[af (n:=16384+f) (by omega) (by omega),af (n:=20000+f) (by omega) (by omega),af (n:=t+1) (by omega) (by omega)]
  refine ae (fun h1=>?_) (fun h1=>ae (fun h17=>?_) (fun h17=>?_))
  ·have h1:=of_decide_eq_true h1
   have e0:iq (false,21075,t,[0,0])=0:=BQ (data:=[0,0]) ⟨⟨(gH _).2 ⟨by show (0:Int)<=21075;omega,by show (21075:Int)<=_;omega⟩,(gH _).2 ⟨t0,by show t<=_;omega⟩⟩,rfl⟩ (by simp)
   have hc:=mV (Lk t)
   refine⟨by simp,?_⟩
   rintro b _ ⟨rfl,-⟩
   rw[dj,if_pos e0]
   have hl:(bI (bK (false,21075,t,[0,0])) 2 (cf (bK (false,21075,t,[0,0])))).length=10:=by rw[j6];rfl
   refine⟨by omega,?_⟩
   rw[tG (by omega) (by omega),show Int.toNat 2=2 from rfl,AX (by show 2+2<=10;omega) hc.1 hc.2]
   rintro _ rfl
   refine⟨hc.1,hc.2,by omega,by omega,?_⟩
   have hi:=OP hr
   have ei:oc (65535-(16384+f)+cf (bK (false,21075,t,[0,0])))=nK (s,d,pr,f,t,l):=rfl
   rw[ei,if_neg (by omega)]
   rintro _ rfl
   refine⟨by omega,?_⟩
   rw[gR (by omega) (by omega)]
   rintro _ rfl
   refine⟨by simp[w2],?_⟩
   rintro _ _ ⟨rfl,-⟩
   rw[dD,if_pos h1];rfl
  ·have h17:=of_decide_eq_true h17
   refine⟨by omega,?_⟩
   rw[gR (by omega) (by omega)]
   rintro _ rfl
   refine⟨by simp[w2],?_⟩
   rw[gR (by omega) (by omega)]
   rintro _ rfl
   have eb:[]++w2 (20000+f)++w2 33434++[0,10,0,0,0,0]=dw (20000+f,33434,[0,0]):=by simp[dw,w2]
   rw[eb]
   refine⟨by simp[w2],by show ((10:Nat):Int)<=_;omega,?_⟩
   have hq:=HS (s:=s) (d:=d) (p:=17) (GS f) (by decide)
   rintro _ rfl
   refine⟨hq.1,by omega,by omega,by omega,?_⟩
   have hu:=LU hr
   have eu:(if oc (65535-(t+1)+dA s d 17 (dw (20000+f,33434,[0,0])))=0 then 65535 else oc (65535-(t+1)+dA s d 17 (dw (20000+f,33434,[0,0]))))=qM (s,d,pr,f,t,l):=rfl
   rw[eu]
   rintro _ rfl
   refine⟨by omega,?_⟩
   rw[gR (by omega) (by omega)]
   rintro _ rfl
   refine⟨by simp[w2],?_⟩
   rw[dD,if_neg (by simp only;omega),if_pos h17];rfl
  ·have h1:=of_decide_eq_false h1
   have h17:=of_decide_eq_false h17
   rw[dD,if_neg h1,if_neg h17]
   exact⟨by omega,rfl⟩
theorem Yd:av Tryz.prog GL 78 L8.spec:=Ct.okH _ Tryz.func78 (by kernel_rfl) (ah (ah (ah (ah (ah (ah (ah aA (Ct.named Xc)) (Ct.named TX)) (Ct.named ZO)) (Ct.named vp)) (Ct.named EE)) WS) as2) au Qo (aB (by kernel_rfl) ap9)
end Go.RS

/- Pback: probes read back from their packets. -/
namespace Go.RS
open Go.SX Go.Proofs
set_option maxRecDepth 100000
set_option linter.unusedVariables false
def u32(n:Int):Prop:=0<=n/\n<=4294967295
theorem TE(h:bY)(n:Int)(X:List Int):gn h n++X=69::h.1::n/256%256::n%256::h.2.1/256%256::h.2.1%256::(if h.2.2.2.2.1 then (16384:Int) else 0)/256%256::(if h.2.2.2.2.1 then (16384:Int) else 0)%256::h.2.2.1::h.2.2.2.1 ::
  cf (fi h n)/256%256::cf (fi h n)%256::h.2.2.2.2.2.1/16777216%256::h.2.2.2.2.2.1/65536%256::h.2.2.2.2.2.1/256%256::h.2.2.2.2.2.1%256::h.2.2.2.2.2.2/16777216%256::h.2.2.2.2.2.2/65536%256::h.2.2.2.2.2.2/256%256::h.2.2.2.2.2.2%256::X:=rfl
theorem DX{n:Int}(h:u32 n):((n/16777216%256*256+n/65536%256)*256+n/256%256)*256+n%256=n:=by
 obtain⟨h0,h1⟩:=h;omega
theorem CS{h:bY}{X:List Int}(hk:iX h)(hs:u32 h.2.2.2.2.2.1)(hd:u32 h.2.2.2.2.2.2)(hl:(X.length:Int)<=1480)(hX:bytes X) :
  bP (gn h (20+X.length)++X)=h/\bV (gn h (20+X.length)++X)=0/\(gn h (20+X.length)++X).drop 20=X:=by
 have hbb:bytes (gn h (20+X.length)++X):=fP (Dw hk) hX
 have hlen:(gn h (20+X.length)++X).length=20+X.length:=by rw[List.length_append,oR]
 have hc:=mV (zn (n:=20+X.length) hk)
 obtain⟨tos,id,ttl,pr,kp,s,d⟩:=h
 obtain⟨h1,h2,h3,h4,h5⟩:=hk
 simp only at h1 h2 h3 h4 h5 hs hd
 have E:=TE (tos,id,ttl,pr,kp,s,d) (20+X.length) X
 simp only at E
 have w2e:aG (gn (tos,id,ttl,pr,kp,s,d) (20+X.length)++X) 2=20+X.length:=by
  rw[E];show aG (_::_::_) 0=_;rw[fD];exact jD (by omega) (by omega)
 have w4e:aG (gn (tos,id,ttl,pr,kp,s,d) (20+X.length)++X) 4=id:=by
  rw[E];show aG (_::_::_) 0=_;rw[fD];exact jD h4 h5
 have w6e:aG (gn (tos,id,ttl,pr,kp,s,d) (20+X.length)++X) 6=if kp then 16384 else 0:=by
  rw[E];show aG (_::_::_) 0=_;rw[fD];cases kp <;> rfl
 have w10e:aG (gn (tos,id,ttl,pr,kp,s,d) (20+X.length)++X) 10=cf (fi (tos,id,ttl,pr,kp,s,d) (20+X.length)):=by
  rw[E];show aG (_::_::_) 0=_;rw[fD];exact jD hc.1 hc.2
 have hF:bP (gn (tos,id,ttl,pr,kp,s,d) (20+X.length)++X)=(tos,id,ttl,pr,kp,s,d):=by
  unfold bP
  rw[w4e,w6e,E]
  have e1:decide ((if kp=true then (16384:Int) else 0)=16384)=kp:=by cases kp <;> rfl
  rw[e1]
  have e2:=DX hs
  have e3:=DX hd
  show (tos,id,ttl,pr,kp,dL [_,_,_,_],dL [_,_,_,_])=_
  rw[xy,xy,e2,e3]
 refine⟨hF,?_,?_⟩
 ·have hb:=Zs hbb (by omega) (by rw[E];rfl) (by rw[w6e];cases kp <;> simp)
  rw[hF,w2e,w10e] at hb
  have ht:(gn (tos,id,ttl,pr,kp,s,d) (20+X.length)++X).take 20=gn (tos,id,ttl,pr,kp,s,d) (20+X.length):=by
   rw[List.take_append_of_le_length (by rw[oR];omega),List.take_of_length_le (by rw[oR];omega)]
  have hp:fE (gn (tos,id,ttl,pr,kp,s,d) (20+X.length)++X)=0:=by
   rw[fE,if_neg (by omega),if_neg,if_neg]
   ·rw[Decidable.not_not,w10e,← hb.1]
   ·rw[Decidable.not_not]
    refine⟨by rw[E];rfl,by rw[w6e];cases kp <;> simp,by rw[w2e];omega⟩
  rw[bV,if_neg (fun k=>k hp),if_neg (by rw[w2e,hlen];omega),if_neg (by rw[w2e];omega)]
 ·rw[List.drop_append,oR,List.drop_of_length_le (by rw[oR];omega)];simp
theorem HP{p:bO}(h:dN p=0)(hs:u32 p.1)(hd:u32 p.2.1):bP (build p)=qC p/\bV (build p)=0/\(build p).drop 20=dD p:=by
 rw[Al h]
 refine CS (Gb h) hs hd ?_ (MI h)
 rcases yB h with h|h <;> omega
theorem Q8(t n:Int):bf true (bK (false,21075,t,w2 n))=bf true (bK (false,21075,t,[0,0]))+(n/256%256*256+n%256):=by
 simp[bK,w2,bf];omega
theorem ak7(f n:Int):bf true (dw (20000+f,33434,w2 n))=bf true (dw (20000+f,33434,[0,0]))+(n/256%256*256+n%256):=by
 simp[dw,w2,bf];omega
theorem Xo(t:Int):2048<=bf true (bK (false,21075,t,[0,0])):=by
 simp[bK,w2,bf];omega
theorem IQ{p:bO}(h:iV p):cf (bK (jk p))=16384+p.2.2.2.1:=by
 have hn:=OP h
 obtain⟨⟨f0,f1⟩,-⟩:=h
 have e:nK p=oc (65535-(16384+p.2.2.2.1)+cf (bK (false,21075,p.2.2.2.2.1,[0,0]))):=rfl
 have hp:=Xo p.2.2.2.2.1
 unfold jk cf
 rw[Q8,jD (by omega) hn.2,e]
 unfold cf
 generalize bf true (bK (false,21075,p.2.2.2.2.1,[0,0]))=S at hp ⊢
 unfold oc
 rw[if_neg (by omega:¬ S=0)]
 rw[if_neg (by omega),if_neg (by omega)]
 omega
theorem am3{p:bO}(h:iV p):iT p.1 p.2.1 (dw (oU p))=p.2.2.2.2.1+1:=by
 have hn:=LU h
 obtain⟨-,⟨t0,t1⟩,-⟩:=h
 have l0:(dw (20000+p.2.2.2.1,33434,[0,0])).length=10:=rfl
 have l1:(dw (oU p)).length=10:=rfl
 have eX:sm p=oc (65535-(p.2.2.2.2.1+1)+dA p.1 p.2.1 17 (dw (20000+p.2.2.2.1,33434,[0,0]))):=rfl
 have eN:qM p=if sm p=0 then 65535 else sm p:=rfl
 have hp:=I6 p.1 p.2.1 17 10
 have h2:=(wv true (dw (20000+p.2.2.2.1,33434,[0,0])) (GS _)).1
 have eP:dA p.1 p.2.1 17 (dw (20000+p.2.2.2.1,33434,[0,0]))=65535-oc (bf true (pc p.1 p.2.1 17 10)+bf true (dw (20000+p.2.2.2.1,33434,[0,0]))):=by
  rw[dA,if_neg (by rw[l0];omega),cf,DO,l0];rfl
 have eQ:dA p.1 p.2.1 17 (dw (oU p))=65535-oc (bf true (pc p.1 p.2.1 17 10)+(bf true (dw (20000+p.2.2.2.1,33434,[0,0]))+qM p)):=by
  rw[dA,if_neg (by rw[l1];omega),cf,DO,l1]
  unfold oU
  rw[ak7,jD (by omega) hn.2];rfl
 rw[iT,eQ]
 rw[eP] at eX
 generalize bf true (pc p.1 p.2.1 17 10)=H at *
 generalize bf true (dw (20000+p.2.2.2.1,33434,[0,0]))=S at *
 generalize qM p=N at *
 generalize sm p=X at *
 generalize p.2.2.2.2.1=t at *
 have hH:(17:Int)%256=17:=rfl
 rw[hH] at hp
 clear eP eQ l0 l1 hH
 have hN:(N-(65535-(t+1)+(65535-(H+S))))%65535=0:=by
  unfold oc at eX
  rw[if_neg (by omega:¬ H+S=0)] at eX
  split at eX <;> split at eN <;> omega
 unfold oc
 rw[if_neg (by omega:¬ H+(S+N)=0)]
 split <;> omega
def vO(p:bO):Int:=if p.2.2.1=1 then 2048 else 20000+p.2.2.2.1
def uh(p:bO):Int:=if p.2.2.1=1 then 16384+p.2.2.2.1 else if p.2.2.1=17 then 33434 else 80
theorem Ro{p:bO}(h:dN p=0):aG (dD p) 0=vO p/\aG (dD p) 2=uh p:=by
 obtain⟨h1|h1|h1,h2⟩:=lx.1 h
 ·have hs:=IQ h2
  have hf:=h2.1
  rw[wH h2 h1,vO,uh,if_pos h1,if_pos h1,rH (by show 0+2<=10;omega) (by omega),AX (by show 2+2<=10;omega) (by omega) (by omega),hs]
  exact⟨rfl,rfl⟩
 ·have hf:=h2.1
  rw[vY h2 h1,vO,uh,if_neg (by omega),if_neg (by omega),if_neg (by omega),rH (by show 0+2<=20;omega) (by omega),rH (by show 2+2<=20;omega) (by omega)]
  constructor
  ·show aG (_::_::_) 0=_;rw[fD];exact jD (n:=20000+p.2.2.2.1) (by omega) (by omega)
  ·rfl
 ·have hf:=h2.1
  rw[xe h2 h1,vO,uh,if_neg (by omega),if_neg (by omega),if_pos h1,rH (by show 0+2<=10;omega) (by omega),rH (by show 2+2<=10;omega) (by omega)]
  constructor
  ·show aG (_::_::_) 0=_;rw[fD];exact jD (n:=20000+p.2.2.2.1) (by omega) (by omega)
  ·rfl
def K9:Cn:=⟨[.box 109 f6],[.agg xi],fun d=>[az d.1],fun d y=>az y.2.1/\u32 y.1.1.1/\u32 y.1.1.2.1,fun d h=>⟨((vy,()),(d.1,())),h.1,by simp[u32,vy],by simp[u32,vy]⟩⟩
def Tg:ar K9.ps->ay:=(fun _=>{})
theorem Vn :
 ∀(a:List Int)(b:Int),((a.length<=maxLen/\ ∀(c:Int),c∈a->0<=c/\c<=255)/\ab b)/\True->0<=b/\b<=(a.length:Int)->az (a,b)/\ ∀(c:Int)(d:List Int)(e:Int),az (d,e)/\0<=c/\c<=4294967295->az (d,e)/\ ∀(f:Int)(g:List Int)(h:Int),az (g,h)/\0<=f/\f<=4294967295->az (g,h)/\ ∀(i:Int)(j:List Int)(k:Int),az (j,k)/\(i=17∨i=1∨i=6)->az (j,k)/\ ∀(l:Int)(m:List Int)(n:Int),0<=l/\(l<6∨l=0)/\az (m,n)->az (m,n)/\ ∀(o:Int)(p:List Int)(q:Int),0<=o/\(o<2000∨o=0)/\az (p,q)->az (p,q)/\ ∀(r:Int)(s:List Int)(t:Int),0<=r/\(r<6∨r=0)/\az (s,t)->az (s,t)/\ ∀(u:Int)(v:List Int)(w:Int),0<=u/\(u<12∨u=0)/\az (v,w)->ad (decide (u=8)) (az (v,w)/\u32 c/\u32 f) (ad (decide (u=9)) (az (v,w)/\ ∀(x:Int)(y:List Int)(z:Int),az (y,z)/\ab x->az (y,z)/\ ∀(A:Int)(B:List Int)(C:Int),az (B,C)/\ab A->az (B,C)/\u32 c/\u32 f) (ad (decide (u=10)) (az (v,w)/\ ∀(x:Int)(y:List Int)(z:Int),az (y,z)/\ab
 x->az (y,z)/\u32 c/\u32 f) (ad (decide (u=11)) (az (v,w)/\ ∀(x:Int)(y:List Int)(z:Int),az (y,z)/\ab x->az (y,z)/\u32 c/\u32 f) (az (v,w)/\u32 c/\u32 f)))):=by
  rintro l p-h
  refine⟨h,?_⟩
  rintro s _ _ ⟨hc,s0,s1⟩
  refine⟨hc,?_⟩
  rintro d _ _ ⟨hc,d0,d1⟩
  refine⟨hc,?_⟩
  rintro _ _ _ ⟨hc,-⟩
  refine⟨hc,?_⟩
  rintro _ _ _ ⟨-,-,hc⟩
  refine⟨hc,?_⟩
  rintro _ _ _ ⟨-,-,hc⟩
  refine⟨hc,?_⟩
  rintro _ _ _ ⟨-,-,hc⟩
  refine⟨hc,?_⟩
  rintro _ _ _ ⟨-,-,hc⟩
  have fin:∀ q,az q->az q/\u32 s/\u32 d:=fun q hq=>⟨hq,⟨s0,s1⟩,d0,d1⟩
  refine ae (fun _=>fin _ hc) (fun _=>ae (fun _=>⟨hc,?_⟩) (fun _=>ae (fun _=>⟨hc,?_⟩) (fun _=>ae (fun _=>⟨hc,?_⟩) (fun _=>fin _ hc))))
  ·rintro _ _ _ ⟨hc,-⟩
   refine⟨hc,?_⟩
   rintro _ _ _ ⟨hc,-⟩
   exact fin _ hc
  ·rintro _ _ _ ⟨hc,-⟩
   exact fin _ hc
  ·rintro _ _ _ ⟨hc,-⟩
   exact fin _ hc
theorem Rz:av Tryz.prog GL 74 K9.spec:=Cn.okH _ Tryz.func74 (by kernel_rfl) (ah (ah (ah (ah aA LH) JD) qU) TM) au Tg (aB (by kernel_rfl) Vn)
def M0:Cn:=⟨[.box 109 f6],[.agg xi],fun d=>[az d.1],fun d y=>az y.2.1/\u32 y.1.1.1/\u32 y.1.1.2.1/\dN y.1.1=0,fun d h=>⟨(((0,0,1,0,0,1),()),(d.1,())),h.1,by simp[u32],by simp[u32],rfl⟩⟩
def R5:ar M0.ps->ay:=(fun _=>{})
theorem SH :
 ∀(a:List Int)(b:Int),((a.length<=maxLen/\ ∀(c:Int),c∈a->0<=c/\c<=255)/\ab b)/\True->0<=b/\b<=(a.length:Int)->az (a,b)/\ ∀(c d e f g h:Int)(i:List Int)(j:Int),az (i,j)/\u32 c/\u32 d->ad (! decide (dN (c,d,e,f,g,h)=0)) (az (i,j)/\ ∀(k:Int)(l:List Int)(m:Int),az (l,m)/\(k=17∨k=1∨k=6)->az (l,m)/\ ∀(n:Int)(o:List Int)(p:Int),0<=n/\(n<4∨n=0)/\az (o,p)->az (o,p)/\ ∀(q:Int)(r:List Int)(s:Int),0<=q/\(q<100∨q=0)/\az (r,s)->az (r,s)/\ ∀(t:Int)(u:List Int)(v:Int),0<=t/\(t<5∨t=0)/\az (u,v)->az (u,v)/\u32 c/\u32 d/\dN (c,d,k,n,q,IntKind.wrap .i64 ((1:Int)+t))=0) (az (i,j)/\u32 c/\u32 d/\dN (c,d,e,f,g,h)=0):=by
  rintro l p-h
  refine⟨h,?_⟩
  rintro s d pr f t l _ _ ⟨hc,hs,hd⟩
  refine ae (fun _=>⟨hc,?_⟩) (fun hn=>⟨hc,hs,hd,by simpa using hn⟩)
  rintro pr _ _ ⟨hc,hp⟩
  refine⟨hc,?_⟩
  rintro f _ _ ⟨f0,f1,hc⟩
  refine⟨hc,?_⟩
  rintro t _ _ ⟨t0,t1,hc⟩
  refine⟨hc,?_⟩
  rintro l _ _ ⟨l0,l1,hc⟩
  rw[af (n:=1+l) (by omega) (by omega)]
  refine⟨hc,hs,hd,lx.2 ⟨?_,⟨?_,?_⟩,⟨?_,?_⟩,?_,?_⟩⟩ <;> simp only[mF] <;> omega
theorem R7:av Tryz.prog GL 31 M0.spec:=Cn.okH _ Tryz.func31 (by kernel_rfl) (ah (ah (ah (ah aA Rz) Jm) JD) qU) au R5 (aB (by kernel_rfl) SH)
end Go.RS

/- Addr: prefixes, and functions of Go's library over numbers. -/
namespace Go.RS
open Go.SX Go.Proofs
set_option maxRecDepth 100000
set_option linter.unusedVariables false
abbrev kD:CT := .pair ck cI
def eJ(a b:Int):Int:=if a<b then -1 else if b<a then 1 else 0
abbrev cM:Type:=Int×Int
def fj(p q:cM):Int:=if eJ p.1 q.1≠0 then eJ p.1 q.1 else eJ p.2 q.2
def jY:List Int->Int
 | []=>0
 | x::xs=>if x≠0 then x else jY xs
theorem Qc{l:List Int}{j:Int}(h0:0<=j)(h1:j<l.length):l.drop j.toNat=l.getD j.toNat default::l.drop (j+1).toNat:=by
 have hj:j.toNat<l.length:=by omega
 rw[List.drop_eq_getElem_cons hj,List.getD_eq_getElem?_getD,List.getElem?_eq_getElem hj,Option.getD_some]
 congr 2;omega
theorem KV{α:Type} [Inhabited α] {l:List α} {j:Int} (h0:0<=j) (h1:j<l.length) {y:α} (hy:y∈l.take (j+1).toNat):y∈l.take j.toNat∨y=l.getD j.toNat default:=by
 have hj:j.toNat<l.length:=by omega
 have e:(j+1).toNat=j.toNat+1:=by omega
 rw[e,List.take_succ_eq_append_getElem hj] at hy
 rcases List.mem_append.1 hy with hy|hy
 ·exact .inl hy
 ·right
  simp at hy
  rw[List.getD_eq_getElem?_getD,List.getElem?_eq_getElem hj,Option.getD_some];exact hy
theorem Ve{l:List Int}{v j:Int}(h0:0<=j)(h1:j<l.length)(hv:l.getD j.toNat default=v)(h2:∀ y∈l.take j.toNat,y≠v):l.idxOf v=j.toNat:=by
 have hj:j.toNat<l.length:=by omega
 rw[List.getD_eq_getElem?_getD,List.getElem?_eq_getElem hj,Option.getD_some] at hv
 have e:l=l.take j.toNat++l[j.toNat]::l.drop (j.toNat+1):=by
  rw[← List.drop_eq_getElem_cons hj,List.take_append_drop]
 rw[e,List.idxOf_append,if_neg (fun hm=>h2 v hm rfl),hv,List.idxOf_cons_self]
 simp;omega
def Ix:Ct:=⟨[.val cI],[.val .bool],fun _=>[],fun _=>((false,()),())⟩
def R4:ar Ix.ps->ay:=(fun _=>{})
theorem Xs :
 ∀(a:Int),ab a/\True->True->(! decide (a=a))=false:=by
  rintro x - -
  simp
theorem am5:av Tryz.prog GL 170 Ix.spec:=Ct.okH _ Tryz.func170 (by kernel_rfl) aA au R4 (aB (by kernel_rfl) Xs)
def Ox:Ct:=⟨[.val ck],[.val .bool],fun _=>[],fun _=>((false,()),())⟩
def ah9:ar Ox.ps->ay:=(fun _=>{})
theorem QS :
 ∀(a:Int),(0<=a/\a<=4294967295)/\True->True->(! decide (a=a))=false:=by
  rintro x - -
  simp
theorem YY:av Tryz.prog GL 260 Ox.spec:=Ct.okH _ Tryz.func260 (by kernel_rfl) aA au ah9 (aB (by kernel_rfl) QS)
def Ja:Ct:=⟨[.val cI,.val cI],[.val cI],fun _=>[],fun d=>((eJ d.1 d.2.1,()),())⟩
def VU:ar Ja.ps->ay:=(fun _=>{})
def wm(a b:Int) :=
 ad (decide (a<b)) ((-1:Int)=eJ a b) (ad (decide (b<a)) ((1:Int)=eJ a b) ((0:Int)=eJ a b))
theorem Uq :
 ∀(a b:Int),ab a/\ab b/\True->True->(wm a b):=by
  delta wm
  rintro x y - -
  unfold eJ
  refine ae (fun h=>?_) (fun h=>ae (fun h2=>?_) (fun h2=>?_))
  ·rw[if_pos (of_decide_eq_true h)]
  ·rw[if_neg (of_decide_eq_false h),if_pos (of_decide_eq_true h2)]
  ·rw[if_neg (of_decide_eq_false h),if_neg (of_decide_eq_false h2)]
theorem PG:av Tryz.prog GL 107 Ja.spec:=Ct.okH _ Tryz.func107 (by kernel_rfl) (ah aA am5) au VU (aB (by kernel_rfl) Uq)
def PC:Ct:=⟨[.val ck,.val ck],[.val cI],fun _=>[],fun d=>((eJ d.1 d.2.1,()),())⟩
def av8:ar PC.ps->ay:=(fun _=>{})
theorem Uw :
 ∀(a b:Int),(0<=a/\a<=4294967295)/\(0<=b/\b<=4294967295)/\True->True->(wm a b):=by
  delta wm
  rintro x y - -
  unfold eJ
  refine ae (fun h=>?_) (fun h=>ae (fun h2=>?_) (fun h2=>?_))
  ·rw[if_pos (of_decide_eq_true h)]
  ·rw[if_neg (of_decide_eq_false h),if_pos (of_decide_eq_true h2)]
  ·rw[if_neg (of_decide_eq_false h),if_neg (of_decide_eq_false h2)]
theorem ag5:av Tryz.prog GL 238 PC.spec:=Ct.okH _ Tryz.func238 (by kernel_rfl) (ah aA YY) au av8 (aB (by kernel_rfl) Uw)
def G8:Ct:=⟨[.val (.sl cI)],[.val cI],fun _=>[],fun d=>((jY d.1,()),())⟩
def ah5:ar G8.ps->ay:=(fun d=>{loops:=(fun n=>match n with|3=>some (fun S=>{ι:=Int,μ:=fun i=>(d.1.length-i).toNat,inv:=fun i=>0<=i/\i<=d.1.length/\jY d.1=jY (d.1.drop i.toNat),keep:=[3,6,7],slots:=fun i=>[(8,.int .i64 i)],names:=fun i=>[]})|_=>none)})
def hY(a:List Int) :=
 (a.length:Int)
theorem YB :
 ∀(a:List Int),(a.length<=maxLen/\ ∀(b:Int),b∈a->ab b)/\True->True->(∃(b:Int),(0<=b/\b<=(hY a)/\jY a=jY (List.drop b.toNat a))/\(0:Int)=0/\a=a/\(hY a)=(hY a)/\(0:Int)=b/\True)/\ ∀(b:Int),0<=b/\b<=(hY a)/\jY a=jY (List.drop b.toNat a)->ad (decide (b<(hY a))) (0<=b/\b<(hY a)/\ad (! decide (a.getD b.toNat default=0)) (a.getD b.toNat default=jY a) (∃(c:Int),(0<=c/\c<=(hY a)/\jY a=jY (List.drop c.toNat a))/\Int.toNat ((hY a) -c)<Int.toNat ((hY a) -b)/\(0:Int)=0/\a=a/\(hY a)=(hY a)/\IntKind.wrap .i64 (b+(1:Int))=c/\True)) ((0:Int)=jY a):=by
  delta hY
  rintro x ⟨⟨hl,-⟩,-⟩ -
  simp only[maxLen] at hl
  refine⟨⟨0,⟨by omega,by omega,rfl⟩,(by repeat' first|exact trivial|refine⟨trivial,?_⟩|refine⟨(by with_reducible rfl),?_⟩|refine⟨af (by omega) (by omega),?_⟩|refine⟨rfl,?_⟩)⟩,?_⟩
  rintro j ⟨h0,h1,h2⟩
  refine ae (fun hj=>?_) (fun hj=>?_)
  ·have hj:=of_decide_eq_true hj
   have e:=Qc (l:=x) h0 hj
   rw[e] at h2
   refine⟨h0,hj,ae (fun hz=>?_) (fun hz=>?_)⟩
   ·have hz:x.getD j.toNat default≠0:=by simpa only[Bool.not_eq_true',decide_eq_false_iff_not] using hz
    rw[h2,jY,if_pos hz]
   ·have hz:¬ x.getD j.toNat default≠0:=by simpa only[Bool.not_eq_false',decide_eq_true_eq,ne_eq,Decidable.not_not] using hz
    rw[jY,if_neg hz] at h2
    exact⟨j+1,⟨by omega,by omega,h2⟩,by omega,(by repeat' first|exact trivial|refine⟨trivial,?_⟩|refine⟨(by with_reducible rfl),?_⟩|refine⟨af (by omega) (by omega),?_⟩|refine⟨rfl,?_⟩)⟩
  ·have hj:=of_decide_eq_false hj
   rw[h2,List.drop_eq_nil_of_le (by omega)];rfl
theorem MS:av Tryz.prog GL 106 G8.spec:=Ct.okH _ Tryz.func106 (by kernel_rfl) aA au ah5 (aB (by kernel_rfl) YB)
def Io:Ct:=⟨[.agg kD,.agg kD],[.val cI],fun _=>[],fun d=>((fj d.1 d.2.1,()),())⟩
def Yn:ar Io.ps->ay:=(fun _=>{})
theorem T2 :
 ∀(a b c d:Int),((0<=a/\a<=4294967295)/\ab b)/\((0<=c/\c<=4294967295)/\ab d)/\True->True->jY [eJ a c,eJ b d]=fj (a,b) (c,d):=by
  rintro x y z u - -
  simp only[jY,fj]
  split
  ·rfl
  ·split
   ·rfl
   ·rename_i h;simp at h;exact h.symm
theorem Pv:av Tryz.prog GL 203 Io.spec:=Ct.okH _ Tryz.func203 (by kernel_rfl) (ah (ah (ah aA ag5) PG) MS) au Yn (aB (by kernel_rfl) T2)
def Pz:Ct:=⟨[.val cI,.val cI],[.val cI],fun _=>[],fun d=>((eJ d.1 d.2.1,()),())⟩
def T4:ar Pz.ps->ay:=(fun _=>{})
theorem ai6 :
 ∀(a b:Int),ab a/\ab b/\True->True->(wm a b):=by
  delta wm
  rintro x y - -
  unfold eJ
  refine ae (fun h=>?_) (fun h=>ae (fun h2=>?_) (fun h2=>?_))
  ·rw[if_pos (of_decide_eq_true h)]
  ·rw[if_neg (of_decide_eq_false h),if_pos (of_decide_eq_true h2)]
  ·rw[if_neg (of_decide_eq_false h),if_neg (of_decide_eq_false h2)]
theorem Uz:av Tryz.prog GL 224 Pz.spec:=Ct.okH _ Tryz.func224 (by kernel_rfl) aA au T4 (aB (by kernel_rfl) ai6)
def Hx:Ct:=⟨[.agg kD,.agg kD],[.val cI],fun _=>[],fun d=>((fj d.1 d.2.1,()),())⟩
def aq1:ar Hx.ps->ay:=(fun _=>{})
theorem S9 :
 ∀(a b c d:Int),((0<=a/\a<=4294967295)/\ab b)/\((0<=c/\c<=4294967295)/\ab d)/\True->True->ad (! decide (a=c)) (eJ (IntKind.wrap .i64 a) (IntKind.wrap .i64 c)=fj (a,b) (c,d)) (eJ b d=fj (a,b) (c,d)):=by
  rintro x y z u ⟨⟨⟨h0,h1⟩,-⟩,⟨⟨h2,h3⟩,-⟩,-⟩ -
  unfold fj
  refine ae (fun h=>?_) (fun h=>?_)
  ·simp at h
   rw[af (by omega) (by omega),af (by omega) (by omega),if_pos (by simp only[eJ];split <;> first|omega|(split <;> omega))]
  ·simp at h
   subst h
   rw[if_neg (by simp[eJ])]
theorem QB:av Tryz.prog GL 182 Hx.spec:=Ct.okH _ Tryz.func182 (by kernel_rfl) (ah aA Uz) au aq1 (aB (by kernel_rfl) S9)
def sz(n:Int):Int:=2^(32-n).toNat
def jg(p:cM):Bool:=decide (0<=p.2/\p.2<=32/\p.1%sz p.2=0)
def cX(p:cM)(a:Int):Bool:=jg p&&decide (p.1<=a/\a<p.1+sz p.2)
theorem XS(n:Int):sz n=((2^(32-n).toNat:Nat):Int):=by unfold sz;rw[Int.natCast_pow];rfl
theorem G1{n:Int}(h0:0<=n)(h1:n<=32):∃ k:Nat,k<=32/\n=32-k/\sz n=((2^k:Nat):Int):=⟨(32-n).toNat,by omega,by omega,XS n⟩
theorem TL{n:Int}(h0:0<=n)(h1:n<=32):dm .u32 4294967295 (32-n)=4294967296-sz n:=by
 obtain⟨k,hk,rfl,e⟩:=G1 h0 h1
 rw[e]
 have:(32:Int)-(32-(k:Int))=(k:Int):=by omega
 rw[this]
 unfold dm
 rw[IntKind.wrap_u32]
 have hm:min ((k:Int)).toNat IntKind.u32.bits=k:=by simp only[IntKind.bits,Int.toNat_natCast];omega
 rw[hm]
 have hd:∀ k:Nat,k<=32->(4294967295*2^k:Int)%4294967296=4294967296-((2^k:Nat):Int):=by decide
 exact hd k hk
theorem Tx{x n:Int}(h0:0<=x)(h1:x<=4294967295)(h2:0<=n)(h3:n<=32):bits .andNot .u32 x (4294967296-sz n)=x%sz n:=by
 obtain⟨k,hk,rfl,e⟩:=G1 h2 h3
 have hp:(2:Nat)^k<=2^32:=Nat.pow_le_pow_right (by decide) hk
 have hp0:0<(2:Nat)^k:=Nat.two_pow_pos k
 rw[e,u32_andNot _ _ h0 (by omega) (by omega) (by omega)]
 have e1:4294967295-((4294967296:Int)-((2^k:Nat):Int)).toNat=2^k-1:=by omega
 rw[e1,Nat.and_two_pow_sub_one_eq_mod]
 obtain⟨m,rfl⟩:=Int.eq_ofNat_of_zero_le h0
 rw[Int.toNat_natCast,Int.natCast_emod]
theorem SZ{a k:Nat}(hk:k<=32)(ha:a<4294967296):a &&& (4294967296-2^k)=a/2^k*2^k:=by
 have e:4294967296-2^k=(2^(32-k)-1) <<< k:=by
  rw[Nat.shiftLeft_eq,Nat.sub_mul,← Nat.pow_add,Nat.one_mul]
  congr 1
  rw[show 32-k+k=32 from by omega]
 rw[e,← Nat.shiftRight_eq_div_pow,← Nat.shiftLeft_eq]
 apply Nat.eq_of_testBit_eq
 intro i
 simp only[Nat.testBit_and,Nat.testBit_shiftLeft,Nat.testBit_two_pow_sub_one,Nat.testBit_shiftRight]
 by_cases hi:k<=i
 ·have e2:k+(i-k)=i:=by omega
  simp only[hi,decide_true,Bool.true_and,e2]
  by_cases h32:i<32
  ·have:i-k<32-k:=by omega
   simp[this]
  ·have:a.testBit i=false:=Nat.testBit_lt_two_pow (Nat.lt_of_lt_of_le ha (Nat.pow_le_pow_right (show 0<2 by decide) (by omega:32<=i)))
   simp[this]
 ·simp[hi]
theorem WQ{a n x:Int}(h0:0<=a)(h1:a<=4294967295)(h2:0<=n)(h3:n<=32)(hx:0<=x)(hm:x%sz n=0) :
  (bits .and .u32 a (4294967296-sz n)=x)↔(x<=a/\a<x+sz n):=by
 obtain⟨k,hk,rfl,e⟩:=G1 h2 h3
 have hp:(2:Nat)^k<=2^32:=Nat.pow_le_pow_right (by decide) hk
 have hp0:0<(2:Nat)^k:=Nat.two_pow_pos k
 rw[e] at hm ⊢
 rw[u32_and _ _ h0 (by omega) (by omega) (by omega)]
 have e1:((4294967296:Int)-((2^k:Nat):Int)).toNat=4294967296-2^k:=by omega
 rw[e1,SZ hk (by omega)]
 obtain⟨m,rfl⟩:=Int.eq_ofNat_of_zero_le h0
 obtain⟨y,rfl⟩:=Int.eq_ofNat_of_zero_le hx
 rw[Int.toNat_natCast]
 have hm:y%2^k=0:=by
  have:((y%2^k:Nat):Int)=0:=by rw[Int.natCast_emod];exact hm
  omega
 generalize 2^k=s at *
 have d:=Nat.div_add_mod m s
 have dl:=Nat.mod_lt m hp0
 have dy:=Nat.div_add_mod y s
 rw[hm] at dy
 rw[Nat.mul_comm] at d
 constructor
 ·intro h;omega
 ·rintro⟨h,h'⟩
  have hq:m/s=y/s:=by
   apply Nat.le_antisymm
   ·have:m<(y/s+1)*s:=by rw[Nat.add_mul,Nat.one_mul,Nat.mul_comm (y/s)];omega
    have:=Nat.div_lt_of_lt_mul (Nat.mul_comm _ _▸this:m<s*(y/s+1))
    omega
   ·exact Nat.div_le_div_right (by omega)
  rw[hq,Nat.mul_comm];omega
def NB:Ct:=⟨[.val cI],[.val ck],fun d=>[0<=d.1/\d.1<=32],fun d=>((4294967296-sz d.1,()),())⟩
def UL:ar NB.ps->ay:=(fun _=>{})
theorem T1 :
 ∀(a:Int),ab a/\True->0<=a/\a<=32->0<=IntKind.wrap .i64 ((32:Int) -a)/\dm IntKind.u32 (4294967295:Int) (IntKind.wrap .i64 ((32:Int) -a))=4294967296 -sz a:=by
  rintro x-⟨h0,h1⟩
  rw[af (by omega) (by omega)]
  exact⟨by omega,TL h0 h1⟩
theorem ID:av Tryz.prog GL 205 NB.spec:=Ct.okH _ Tryz.func205 (by kernel_rfl) aA au UL (aB (by kernel_rfl) T1)
def MW:Ct:=⟨[.agg kD],[.val .bool],fun _=>[],fun d=>((jg d.1,()),())⟩
def Qz:ar MW.ps->ay:=(fun _=>{})
theorem QF :
 ∀(a b:Int),((0<=a/\a<=4294967295)/\ab b)/\True->True-> ∀(c:Bool),c=decide (0<=b)->(c->(c->c)/\True)/\(c->(c->c)/\True)/\(c->c)/\ ∀(d:Bool),(d=bif c then decide (b<=32) else false)->(d->(d->d)/\True)/\(d->(d->d)/\True)/\(d->(d->d)/\(0<=b/\b<=32)/\True)/\(d->(d->d)/\(d->d)/\True)/\(d->(d->d)/\True)/\(d->d)/\(bif d then decide (bits BinOp.andNot IntKind.u32 a ((4294967296:Int) -sz b)=0) else false)=jg (a,b):=by
  rintro x n ⟨⟨⟨h0,h1⟩,-⟩,-⟩ -
  (repeat (intro (b_:Bool) (hb_:b_=_);(repeat refine⟨(by first|(simp;done)|(rw[hb_];simp;done)|(rw[hb_];simp;omega)|(rw[hb_];simp;intros;omega)|(rw[hb_];simp +contextual;done)),?_⟩);subst hb_))
  by_cases hn:0<=n/\n<=32
  ·have:=Tx (n:=n) h0 h1 hn.1 hn.2
   simp[jg,hn,this]
  ·simp only[jg]
   by_cases h2:0<=n
   ·have:¬ n<=32:=fun h=>hn ⟨h2,h⟩
    simp[this]
   ·simp[h2]
theorem NL:av Tryz.prog GL 204 MW.spec:=Ct.okH _ Tryz.func204 (by kernel_rfl) (ah aA ID) au Qz (aB (by kernel_rfl) QF)
def N6:Ct:=⟨[.agg kD,.val ck],[.val .bool],fun _=>[],fun d=>((cX d.1 d.2.1,()),())⟩
def ag3:ar N6.ps->ay:=(fun _=>{})
theorem Vx :
 ∀(a b c:Int),((0<=a/\a<=4294967295)/\ab b)/\(0<=c/\c<=4294967295)/\True->True-> ∀(d:Bool),d=jg (a,b)->(d->(d->d)/\True)/\(d->(d->d)/\(0<=b/\b<=32)/\True)/\(d->(d->d)/\(d->d)/\True)/\(d->(d->d)/\True)/\(d->(d->d)/\(d->d)/\True)/\(d->d)/\(bif d then decide (bits BinOp.and IntKind.u32 c ((4294967296:Int) -sz b)=a) else false)=cX (a,b) c:=by
  rintro x n a ⟨⟨⟨h0,h1⟩,-⟩,⟨h2,h3⟩,-⟩ -
  have hv:∀ b:Bool,b=jg (x,n)->b=true->0<=n/\n<=32/\x%sz n=0:=by
   rintro b rfl h;simpa[jg] using h
  rintro b hb
  have hr:=hv b hb
  refine⟨by simp,fun h=>⟨fun _=>h,⟨(hr h).1,(hr h).2.1⟩,trivial⟩,by simp,by simp,by simp,by simp,?_⟩
  unfold cX
  rw[← hb]
  cases b with
  | false=>rfl
  | true =>
   obtain⟨r1,r2,r3⟩:=hr rfl
   have:=WQ (n:=n) (x:=x) h2 h3 r1 r2 h0 r3
   rw[Bool.eq_iff_iff];simpa using this
theorem Kl:av Tryz.prog GL 152 N6.spec:=Ct.okH _ Tryz.func152 (by kernel_rfl) (ah (ah aA ID) NL) au ag3 (aB (by kernel_rfl) Vx)
def MG:Ct:=⟨[.val (.sl cI),.val cI],[.val cI],fun _=>[],fun d=>((if d.2.1∈d.1 then (d.1.idxOf d.2.1:Int) else -1,()),())⟩
def Uf:ar MG.ps->ay:=(fun d=>{loops:=(fun n=>match n with|2=>some (fun S=>{ι:=Int,μ:=fun i=>(d.1.length-i).toNat,inv:=fun i=>0<=i/\i<=d.1.length∧∀ y∈d.1.take i.toNat,y≠d.2.1,keep:=[0,1,6,7],slots:=fun i=>[(8,.int .i64 i)],names:=fun i=>[]})|_=>none)})
theorem am9 :
 ∀(a:List Int)(b:Int),(a.length<=maxLen/\ ∀(c:Int),c∈a->ab c)/\ab b/\True->True->(∃(c:Int),(0<=c/\c<=(hY a)/\ ∀(d:Int),d∈List.take c.toNat a->d≠b)/\a=a/\b=b/\a=a/\(hY a)=(hY a)/\(0:Int)=c/\True)/\ ∀(c:Int),(0<=c/\c<=(hY a)/\ ∀(d:Int),d∈List.take c.toNat a->d≠b)->ad (decide (c<(hY a))) (0<=c/\c<(hY a)/\ad (decide (b=a.getD c.toNat default)) (c=if b∈a then (↑(List.idxOf b a):Int) else (-1:Int)) (∃(d:Int),(0<=d/\d<=(hY a)/\ ∀(e:Int),e∈List.take d.toNat a->e≠b)/\Int.toNat ((hY a) -d)<Int.toNat ((hY a) -c)/\a=a/\b=b/\a=a/\(hY a)=(hY a)/\IntKind.wrap .i64 (c+(1:Int))=d/\True)) ((-1:Int)=if b∈a then (↑(List.idxOf b a):Int) else (-1:Int)):=by
  delta hY
  rintro x v ⟨⟨hl,-⟩,-⟩ -
  simp only[maxLen] at hl
  refine⟨⟨0,⟨by omega,by omega,by simp⟩,(by repeat' first|exact trivial|refine⟨trivial,?_⟩|refine⟨(by with_reducible rfl),?_⟩|refine⟨af (by omega) (by omega),?_⟩|refine⟨rfl,?_⟩)⟩,?_⟩
  rintro j ⟨h0,h1,h2⟩
  refine ae (fun hj=>?_) (fun hj=>?_)
  ·have hj:=of_decide_eq_true hj
   refine⟨h0,hj,ae (fun hz=>?_) (fun hz=>?_)⟩
   ·have hz:=of_decide_eq_true hz
    have hm:v∈x:=by rw[hz];exact bL h0 hj
    rw[if_pos hm]
    have:=Ve (l:=x) (v:=v) h0 hj hz.symm h2
    omega
   ·have hz:=of_decide_eq_false hz
    refine⟨j+1,⟨by omega,by omega,fun y hy=>?_⟩,by omega,(by repeat' first|exact trivial|refine⟨trivial,?_⟩|refine⟨(by with_reducible rfl),?_⟩|refine⟨af (by omega) (by omega),?_⟩|refine⟨rfl,?_⟩)⟩
    rcases KV h0 hj hy with hy|rfl
    ·exact h2 y hy
    ·exact fun e=>hz e.symm
  ·have hj:=of_decide_eq_false hj
   rw[List.take_of_length_le (by omega)] at h2
   rw[if_neg (fun hm=>h2 v hm rfl)]
theorem as7:av Tryz.prog GL 280 MG.spec:=Ct.okH _ Tryz.func280 (by kernel_rfl) aA au Uf (aB (by kernel_rfl) am9)
def Ny:Ct:=⟨[.val (.sl cI),.val cI],[.val .bool],fun _=>[],fun d=>((decide (d.2.1∈d.1),()),())⟩
def X1:ar Ny.ps->ay:=(fun _=>{})
theorem Yw :
 ∀(a:List Int)(b:Int),(a.length<=maxLen/\ ∀(c:Int),c∈a->ab c)/\ab b/\True->True->decide (0<=if b∈a then (↑(List.idxOf b a):Int) else (-1:Int))=decide (b∈a):=by
  rintro x v - -
  by_cases h:v∈x
  ·rw[if_pos h];simp[h];
  ·rw[if_neg h];simp[h]
theorem QP:av Tryz.prog GL 254 Ny.spec:=Ct.okH _ Tryz.func254 (by kernel_rfl) (ah aA as7) au X1 (aB (by kernel_rfl) Yw)
end Go.RS

/- Reply: answers. -/
namespace Go.RS
open Go.SX Go.Proofs
set_option maxRecDepth 100000
set_option linter.unusedVariables false
abbrev rU:Type:=Int×Int×Int×Int×Int×Int
def Jk:rU:=(0,0,0,0,0,0)
def fK(a:Int):Int :=
 if a/16777216=0 then 1 else if a/16777216=127 then 2
 else if a/16777216=10∨(a/16777216=172/\16<=a/65536%256/\a/65536%256<32)∨(a/16777216=192/\a/65536%256=168) then 3
 else if a/16777216=169/\a/65536%256=254 then 4
 else if 224<=a/16777216/\a/16777216<240 then 5 else if 240<=a/16777216 then 6 else 0
def fm(a:Int):Prop:=fK a=0∨fK a=3
instance (a:Int):Decidable (fm a):=by unfold fm;infer_instance
def uK(x:nX):Int:=x.1.2.2.2.1
def Cp(x:nX):Prop:=8<=x.2.length/\(x.1.2.2.2.1=1->x.2.getD 0 default=8)/\(x.1.2.2.2.1=6->14<=x.2.length->bits .and .u8 (x.2.getD 13 default) 4=0)/\fm x.1.2.2.2.2.2.1
instance (x:nX):Decidable (Cp x):=by unfold Cp;infer_instance
def cq(b:List Int):Prop:=bV b=0/\Cp (aW b)
instance (b:List Int):Decidable (cq b):=by unfold cq;infer_instance
def vU(b:List Int):Prop:=bV b=0/\8<=(aW b).2.length/\(uK (aW b)=1->(aW b).2.getD 0 default=8)/\(uK (aW b)=6->14<=(aW b).2.length->bits .and .u8 ((aW b).2.getD 13 default) 4=0)
instance (b:List Int):Decidable (vU b):=by unfold vU;infer_instance
def nP(b:List Int):nX:=if vU b then aW b else (nh,[])
def f5(id ttl:Int):Prop:=(0<=id/\id<=65535)/\0<=ttl/\ttl<=255
instance (i t:Int):Decidable (f5 i t):=by unfold f5;infer_instance
def f8(src dst proto id ttl:Int)(data:List Int):nX:=((0,id,ttl,proto,false,src,dst),data)
def bQ(b:List Int):Int:=(bP b).2.2.2.2.2.1
def eV(b:List Int):Int:=(bP b).2.2.2.2.2.2
def cW(b:List Int):Int:=(bP b).2.2.2.1
def oY(kind code id ttl:Int):Prop:=(kind=11∨kind=3)/\(0<=code/\code<=255)/\f5 id ttl
instance (k c i t:Int):Decidable (oY k c i t):=by unfold oY;infer_instance
def fq(b:List Int)(kind code id ttl:Int):Int:=if ¬ oY kind code id ttl then 1 else if cq b then 0 else 17
def gA(b:List Int)(src kind code id ttl:Int):List Int:=if fq b kind code id ttl=0 then cS (f8 src (bQ b) 1 id ttl (fW (kind,code,b.take 28))) else []
def jl(s:jO):jO:=(s.2.1,s.1,0,(s.2.2.1+1)%4294967296,20,0,[])
def pC(b:List Int):Prop:=cq b/\((cW b=1/\iE (b.drop 20)=0)∨(cW b=17/\hV (bQ b) (eV b) (b.drop 20)=0) ∨
 (cW b=6/\gK (bQ b) (eV b) (b.drop 20)=0/\bits .and .i64 (dI (bQ b) (eV b) (b.drop 20)).2.2.2.2.1 2≠0/\bits .and .i64 (dI (bQ b) (eV b) (b.drop 20)).2.2.2.2.1 4=0))
instance (b:List Int):Decidable (pC b):=by unfold pC;infer_instance
def fc(b:List Int)(id ttl:Int):Int:=if ¬ f5 id ttl then 1 else if pC b then 0 else 17
def gk(b:List Int)(src id ttl:Int):List Int :=
 if fc b id ttl=0 then
  if cW b=1 then cS (f8 src (bQ b) 1 id ttl (dj (true,(dW (b.drop 20)).2)))
  else if cW b=17 then gA b src 3 3 id ttl
  else cS (f8 src (bQ b) 6 id ttl (dq src (bQ b) (jl (dI (bQ b) (eV b) (b.drop 20)))))
 else []
def zV(b:List Int):Prop:=fE b=0/\b.length=28/\(bP b).1=0/\(bP b).2.2.2.2.1=true
instance (b:List Int):Decidable (zV b):=by unfold zV;infer_instance
def D0(b:List Int):Int:=if cW b=1 then aG b 22-16384 else if cW b=17∨cW b=6 then aG b 20-20000 else 0
def Ar(b:List Int):bO:=(bQ b,eV b,cW b,D0 b,(bP b).2.1,(bP b).2.2.1)
def xJ(b:List Int):Prop :=
 (cW b=1/\aG b 2=30/\aG b 20=2048/\aG b 24=21075/\aG b 26=(bP b).2.1) ∨
 (cW b=17/\aG b 2=30/\aG b 22=33434/\aG b 24=aG b 2-20/\aG b 26=(bP b).2.1+1) ∨
 (cW b=6/\aG b 2=40/\aG b 22=80/\dL ((b.drop 24).take 4)=(bP b).2.1)
instance (b:List Int):Decidable (xJ b):=by unfold xJ;infer_instance
def vA(b:List Int):bO×Bool:=if zV b then (Ar b,decide (xJ b/\dN (Ar b)=0)) else (vy,false)
def sA(p:bO)(t:Int):bO:=(p.1,p.2.1,p.2.2.1,p.2.2.2.1,p.2.2.2.2.1,t)
def ue(ty code:Int):Int:=if ty=11 then 1 else if code=3 then 3 else 5
abbrev yO:Type:=bO×rU×Bool
def Ay:yO:=(vy,Jk,false)
def JT(dst:Int)(b:List Int):yO :=
 if xB b=0 then (sA (vA (qQ b).2.2).1 0,(0,ue (qQ b).1 (qQ b).2.1,(qQ b).2.1,0,0,(vA (qQ b).2.2).1.2.2.2.2.2),(vA (qQ b).2.2).2&&decide ((vA (qQ b).2.2).1.1=dst)) else Ay
def AA(b:List Int):Prop:=iE b=0/\(dW b).1=true/\(dW b).2.1=21075/\(dW b).2.2.2.length=2
instance (b:List Int):Decidable (AA b):=by unfold AA;infer_instance
def KO(src dst:Int)(b:List Int):yO:=if AA b then ((dst,src,1,aG b 2-18432,(dW b).2.2.1,0),(0,2,0,0,0,0),true) else Ay
def zT(src dst:Int)(b:List Int):Prop:=gK src dst b=0/\(dI src dst b).1=80/\(dI src dst b).2.2.1=0/\(dI src dst b).2.2.2.2.1=20/\(dI src dst b).2.2.2.2.2.1=0/\(dI src dst b).2.2.2.2.2.2=[]
instance (s d:Int) (b:List Int):Decidable (zT s d b):=by unfold zT;infer_instance
def Ko(src dst:Int)(b:List Int):yO:=if zT src dst b then ((dst,src,6,(dI src dst b).2.1-20000,(dI src dst b).2.2.2.1-1,0),(0,4,0,0,0,0),true) else Ay
def pA(b:List Int):yO :=
 if cW b=1/\0<(b.drop 20).length/\(b.drop 20).getD 0 default=0 then KO (bQ b) (eV b) (b.drop 20)
 else if cW b=1 then JT (eV b) (b.drop 20) else if cW b=6 then Ko (bQ b) (eV b) (b.drop 20) else Ay
def yv(b:List Int):Prop:=bV b=0/\(pA b).2.2=true/\dN (sA (pA b).1 1)=0
instance (b:List Int):Decidable (yv b):=by unfold yv;infer_instance
def Mm(b:List Int):bO×rU:=if yv b then ((pA b).1,(bQ b,(pA b).2.1.2.1,(pA b).2.1.2.2.1,(bP b).2.2.1,(bP b).2.1,(pA b).2.1.2.2.2.2.2)) else (vy,Jk)
def KQ(b:List Int):Int:=if yv b then 0 else 17
theorem WY(n:Int):bits .and .i64 n 4294967295=n%4294967296:=by
 have h127:(BitVec.ofInt 64 4294967295).toNat=2^32-1:=by decide
 have key:(BitVec.ofInt 64 n &&& BitVec.ofInt 64 4294967295).toNat=(n%((2^64:Nat):Int)).toNat%2^32:=by
  rw[BitVec.toNat_and,BitVec.toNat_ofInt,h127,Nat.and_two_pow_sub_one_eq_mod]
 show IntKind.i64.wrap ((BitVec.ofInt 64 n &&& BitVec.ofInt 64 4294967295).toNat:Nat)=n%4294967296
 rw[key,IntKind.wrap_i64]
 omega
theorem rX{p n a s:Int}(hs:sz n=s)(hn:0<=n/\n<=32)(hp:p%s=0):cX (p,n) a=decide (p<=a/\a<p+s):=by
 unfold cX jg
 simp only
 rw[hs,decide_eq_true ⟨hn.1,hn.2,hp⟩,Bool.true_and]
theorem GW{b:List Int}:cq b↔vU b/\fm (aW b).1.2.2.2.2.2.1:=⟨fun h=>⟨⟨h.1,h.2.1,h.2.2.1,h.2.2.2.1⟩,h.2.2.2.2⟩,fun h=>⟨h.1.1,h.1.2.1,h.1.2.2.1,h.1.2.2.2,h.2⟩⟩
theorem LB{b:List Int}(h:cq b):nP b=(bP b,b.drop 20):=by rw[nP,if_pos (GW.1 h).1,aW,if_pos h.1]
theorem nu{b:List Int}(h:cq b):bV b=0/\28<=b.length/\(cW b=1->(b.drop 20).getD 0 default=8)/\(cW b=6->14<=(b.drop 20).length->bits .and .u8 ((b.drop 20).getD 13 default) 4=0)/\fm (bQ b):=by
 obtain⟨h1,h2⟩:=h
 rw[aW,if_pos h1] at h2
 obtain⟨k1,k2,k3,k4⟩:=h2
 simp only[List.length_drop] at k1
 exact⟨h1,by omega,k2,k3,k4⟩
theorem as1{b:List Int}(h1:bV b=0)(h2:28<=b.length)(h3:cW b=1->(b.drop 20).getD 0 default=8)(h4:cW b=6->14<=(b.drop 20).length->bits .and .u8 ((b.drop 20).getD 13 default) 4=0)(h5:fm (bQ b)):cq b:=by
 refine⟨h1,?_⟩
 rw[aW,if_pos h1]
 exact⟨by simp only[List.length_drop];omega,h3,h4,h5⟩
theorem vd{src dst proto id ttl:Int}{data:List Int}(hn:f5 id ttl)(hp:0<=proto/\proto<=255)(hl:(data.length:Int)<=1480):de (f8 src dst proto id ttl data)=0:=by
 obtain⟨⟨a,b⟩,c,d⟩:=hn
 rw[de,if_neg,if_neg (by simp only[f8];omega)]
 rw[Decidable.not_not]
 exact⟨⟨Int.le_refl _,by simp only[f8];omega⟩,⟨c,d⟩,hp,a,b⟩
theorem Bg{b:List Int}{src kind code id ttl:Int}(hg:oY kind code id ttl)(ha:cq b) :
  fq b kind code id ttl=0/\gA b src kind code id ttl=cS (f8 src (bQ b) 1 id ttl (fW (kind,code,b.take 28)))/\gG (kind,code,b.take 28)=0/\de (f8 src (bQ b) 1 id ttl (fW (kind,code,b.take 28)))=0:=by
 have he:fq b kind code id ttl=0:=by rw[fq,if_neg (fun k=>k hg),if_pos ha]
 obtain⟨-,hl,-⟩:=nu ha
 obtain⟨h1,h2,h3⟩:=hg
 refine⟨he,by rw[gA,if_pos he],?_,vd h3 (by omega) (Dh _)⟩
 have ht:(b.take 28).length=28:=by rw[List.length_take];omega
 rw[gG,if_neg,if_neg,if_neg]
 ·simp only;rw[ht];omega
 ·simp only;rw[ht];omega
 ·rw[Decidable.not_not];exact⟨h1.symm,h2⟩
theorem T6{b:List Int}{src kind code id ttl:Int}(hg:¬ oY kind code id ttl):([]:List Int)=gA b src kind code id ttl/\1=fq b kind code id ttl:=by
 have he:fq b kind code id ttl=1:=by rw[fq,if_pos hg]
 rw[gA,he];exact⟨rfl,rfl⟩
theorem Wp{b:List Int}{src kind code id ttl:Int}(hg:oY kind code id ttl)(ha:¬ cq b):([]:List Int)=gA b src kind code id ttl/\17=fq b kind code id ttl:=by
 have he:fq b kind code id ttl=17:=by rw[fq,if_neg (fun k=>k hg),if_neg ha]
 rw[gA,he];exact⟨rfl,rfl⟩
theorem V0(b:List Int):ce b (Int.toNat 0) (Int.toNat 28)=b.take 28:=by
 show ce b 0 28=_
 simp[ce]
theorem QR{b:List Int}{src id ttl:Int}(hn:¬ f5 id ttl):([]:List Int)=gk b src id ttl/\1=fc b id ttl:=by
 have he:fc b id ttl=1:=by rw[fc,if_pos hn]
 rw[gk,he];exact⟨rfl,rfl⟩
theorem vq{b:List Int}{src id ttl:Int}(hn:f5 id ttl)(ha:¬ pC b):([]:List Int)=gk b src id ttl/\17=fc b id ttl:=by
 have he:fc b id ttl=17:=by rw[fc,if_neg (fun k=>k hn),if_neg ha]
 rw[gk,he];exact⟨rfl,rfl⟩
theorem yC{b:List Int}{id ttl:Int}(hn:f5 id ttl)(ha:pC b):fc b id ttl=0:=by rw[fc,if_neg (fun k=>k hn),if_pos ha]
theorem A6{b:List Int}{src id ttl:Int}(hn:f5 id ttl)(ha:cq b)(h:cW b=1)(he:iE (b.drop 20)=0) :
  gk b src id ttl=cS (f8 src (bQ b) 1 id ttl (dj (true,(dW (b.drop 20)).2)))/\fc b id ttl=0:=by
 have h0:=yC hn (b:=b) ⟨ha,.inl ⟨h,he⟩⟩
 rw[gk,if_pos h0,if_pos h];exact⟨rfl,h0⟩
theorem Bu{b:List Int}{src id ttl:Int}(hn:f5 id ttl)(ha:cq b)(h:cW b=17)(he:hV (bQ b) (eV b) (b.drop 20)=0) :
  gk b src id ttl=gA b src 3 3 id ttl/\fc b id ttl=0:=by
 have h0:=yC hn (b:=b) ⟨ha,.inr (.inl ⟨h,he⟩)⟩
 rw[gk,if_pos h0,if_neg (by omega),if_pos h];exact⟨rfl,h0⟩
theorem Ad{b:List Int}{src id ttl:Int}(hn:f5 id ttl)(ha:cq b)(h:cW b=6)(he:gK (bQ b) (eV b) (b.drop 20)=0)
  (h2:bits .and .i64 (dI (bQ b) (eV b) (b.drop 20)).2.2.2.2.1 2≠0) (h4:bits .and .i64 (dI (bQ b) (eV b) (b.drop 20)).2.2.2.2.1 4=0) :
  gk b src id ttl=cS (f8 src (bQ b) 6 id ttl (dq src (bQ b) (jl (dI (bQ b) (eV b) (b.drop 20)))))/\fc b id ttl=0:=by
 have h0:=yC hn (b:=b) ⟨ha,.inr (.inr ⟨h,he,h2,h4⟩)⟩
 rw[gk,if_pos h0,if_neg (by omega),if_neg (by omega)];exact⟨rfl,h0⟩
theorem ET{b:List Int}{id ttl:Int}(hn:f5 id ttl)(ha:cq b):fq b 3 3 id ttl=0:=by
 rw[fq,if_neg (fun k=>k ⟨.inr rfl,⟨by omega,by omega⟩,hn⟩),if_pos ha]
theorem Il(b:List Int):(dW b).2.2.2.length<=b.length:=by
 unfold dW;split
 ·simp only[List.length_drop];omega
 ·simp
theorem az2{s d:Int}{b:List Int}(hb:bytes b):(0<=(dI s d b).2.1/\(dI s d b).2.1<=65535)/\(0<=(dI s d b).2.2.1/\(dI s d b).2.2.1<=4294967295)/\0<=(dI s d b).2.2.2.1/\(dI s d b).2.2.2.1<=4294967295:=by
 unfold dI;split
 ·have h1:=rk hb (Int.toNat 2)
  have h2:=rk hb (Int.toNat 4)
  have h3:=rk hb (Int.toNat 6)
  have h4:=rk hb (Int.toNat 8)
  have h5:=rk hb (Int.toNat 10)
  simp only
  omega
 ·simp
def lR(k:Int):cM:=([(0,8),(2130706432,8),(167772160,8),(2886729728,12),(3232235520,16),(2851995648,16),(3758096384,4),(4026531840,4)]:List cM).getD k.toNat (0,0)
def Lg:Ct:=⟨[.val ck],[.val cI],fun d=>[],fun d=>((fK d.1,()),())⟩
def RE:ar Lg.ps->ay:=(fun d=>{cuts:=(fun n=>match n with|6=>some (fun S=>{ι:=Unit,inv:=fun i=>cX (lR (S.i 6)) d.1=false,keep:=[0,5,6],slots:=fun i=>[],names:=fun i=>[]})|_=>none),unr:=fun n=>match n with|2=>9|_=>0})
def jz :=
 (2:Int)^IntKind.bits IntKind.i64
def yK :=
 (nat_lit 0+nat_lit 1)%Int.natAbs (jz)+nat_lit 1
def xA :=
 ((yK)%Int.natAbs (jz)+nat_lit 1)%Int.natAbs (jz)+nat_lit 1
def wF :=
 IntKind.wrap .i64 ((0:Int)+(1:Int))+(1:Int)
def vS :=
 IntKind.wrap .i64 (IntKind.wrap .i64 (wF)+(1:Int))+(1:Int)
def BL :=
 ((xA)%Int.natAbs (jz)+nat_lit 1)%Int.natAbs (jz)+nat_lit 1
def ym :=
 IntKind.wrap .i64 (IntKind.wrap .i64 (vS)+(1:Int))+(1:Int)
def qA :=
 (2130706432:Int)
def qx :=
 (2886729728:Int)
def pB :=
 (3232235520:Int)
def p9 :=
 (2851995648:Int)
def qc :=
 (3758096384:Int)
def pW :=
 (4026531840:Int)
def Dx :=
 lR (Int.ofNat (((yK)%Int.natAbs (jz)+nat_lit 1)%Int.natAbs (jz)))
def FN :=
 lR (Int.ofNat (((xA)%Int.natAbs (jz)+nat_lit 1)%Int.natAbs (jz)))
def F7 :=
 lR (Int.ofNat (((BL)%Int.natAbs (jz)+nat_lit 1)%Int.natAbs (jz)))
def pF :=
 (167772160:Int)
theorem TI :
 ∀(a:Int),(0<=a/\a<=4294967295)/\True->True->ad (cX ((0:Int),(8:Int)) a) ((1:Int)=fK a) (∃(b:Unit),cX (lR (0:Int)) a=false/\a=a/\(0:Int)=0/\(8:Int)=8/\(1:Int)=1/\(qA)=2130706432/\(8:Int)=8/\(2:Int)=2/\(pF)=167772160/\(8:Int)=8/\(3:Int)=3/\(qx)=2886729728/\(12:Int)=12/\(3:Int)=3/\(pB)=3232235520/\(16:Int)=16/\(3:Int)=3/\(p9)=2851995648/\(16:Int)=16/\(4:Int)=4/\(qc)=3758096384/\(4:Int)=4/\(5:Int)=5/\(pW)=4026531840/\(4:Int)=4/\(6:Int)=6/\(0:Int)=0/\True)/\ ∀(b:Unit),cX (lR (0:Int)) a=false->ad (cX ((qA),(8:Int)) a) ((2:Int)=fK a) (∃(c:Unit),cX (lR (Int.ofNat ((nat_lit 0+nat_lit 1)%Int.natAbs (jz))))
 a=false/\a=a/\(0:Int)=0/\(8:Int)=8/\(1:Int)=1/\(qA)=2130706432/\(8:Int)=8/\(2:Int)=2/\(pF)=167772160/\(8:Int)=8/\(3:Int)=3/\(qx)=2886729728/\(12:Int)=12/\(3:Int)=3/\(pB)=3232235520/\(16:Int)=16/\(3:Int)=3/\(p9)=2851995648/\(16:Int)=16/\(4:Int)=4/\(qc)=3758096384/\(4:Int)=4/\(5:Int)=5/\(pW)=4026531840/\(4:Int)=4/\(6:Int)=6/\IntKind.wrap .i64 ((0:Int)+(1:Int))=IntKind.wrap .i64 ((0:Int)+(1:Int))/\True)/\ ∀(c:Unit),cX (lR (Int.ofNat ((nat_lit 0+nat_lit 1)%Int.natAbs (jz)))) a=false->ad (cX ((pF),(8:Int)) a) ((3:Int)=fK a) (∃(d:Unit),cX (lR (Int.ofNat ((yK)%Int.natAbs (jz))))
 a=false/\a=a/\(0:Int)=0/\(8:Int)=8/\(1:Int)=1/\(qA)=2130706432/\(8:Int)=8/\(2:Int)=2/\(pF)=167772160/\(8:Int)=8/\(3:Int)=3/\(qx)=2886729728/\(12:Int)=12/\(3:Int)=3/\(pB)=3232235520/\(16:Int)=16/\(3:Int)=3/\(p9)=2851995648/\(16:Int)=16/\(4:Int)=4/\(qc)=3758096384/\(4:Int)=4/\(5:Int)=5/\(pW)=4026531840/\(4:Int)=4/\(6:Int)=6/\IntKind.wrap .i64 (wF)=IntKind.wrap .i64 (wF)/\True)/\ ∀(d:Unit),cX (lR (Int.ofNat ((yK)%Int.natAbs (jz)))) a=false->ad (cX ((qx),(12:Int)) a) ((3:Int)=fK a) (∃(e:Unit),cX (Dx)
 a=false/\a=a/\(0:Int)=0/\(8:Int)=8/\(1:Int)=1/\(qA)=2130706432/\(8:Int)=8/\(2:Int)=2/\(pF)=167772160/\(8:Int)=8/\(3:Int)=3/\(qx)=2886729728/\(12:Int)=12/\(3:Int)=3/\(pB)=3232235520/\(16:Int)=16/\(3:Int)=3/\(p9)=2851995648/\(16:Int)=16/\(4:Int)=4/\(qc)=3758096384/\(4:Int)=4/\(5:Int)=5/\(pW)=4026531840/\(4:Int)=4/\(6:Int)=6/\IntKind.wrap .i64 (IntKind.wrap .i64 (wF)+(1:Int))=IntKind.wrap .i64 (IntKind.wrap .i64 (wF)+(1:Int))/\True)/\ ∀(e:Unit),cX (Dx) a=false->ad (cX ((pB),(16:Int)) a) ((3:Int)=fK a) (∃(f:Unit),cX (lR (Int.ofNat ((xA)%Int.natAbs (jz))))
 a=false/\a=a/\(0:Int)=0/\(8:Int)=8/\(1:Int)=1/\(qA)=2130706432/\(8:Int)=8/\(2:Int)=2/\(pF)=167772160/\(8:Int)=8/\(3:Int)=3/\(qx)=2886729728/\(12:Int)=12/\(3:Int)=3/\(pB)=3232235520/\(16:Int)=16/\(3:Int)=3/\(p9)=2851995648/\(16:Int)=16/\(4:Int)=4/\(qc)=3758096384/\(4:Int)=4/\(5:Int)=5/\(pW)=4026531840/\(4:Int)=4/\(6:Int)=6/\IntKind.wrap .i64 (vS)=IntKind.wrap .i64 (vS)/\True)/\ ∀(f:Unit),cX (lR (Int.ofNat ((xA)%Int.natAbs (jz)))) a=false->ad (cX ((p9),(16:Int)) a) ((4:Int)=fK a) (∃(g:Unit),cX (FN)
 a=false/\a=a/\(0:Int)=0/\(8:Int)=8/\(1:Int)=1/\(qA)=2130706432/\(8:Int)=8/\(2:Int)=2/\(pF)=167772160/\(8:Int)=8/\(3:Int)=3/\(qx)=2886729728/\(12:Int)=12/\(3:Int)=3/\(pB)=3232235520/\(16:Int)=16/\(3:Int)=3/\(p9)=2851995648/\(16:Int)=16/\(4:Int)=4/\(qc)=3758096384/\(4:Int)=4/\(5:Int)=5/\(pW)=4026531840/\(4:Int)=4/\(6:Int)=6/\IntKind.wrap .i64 (IntKind.wrap .i64 (vS)+(1:Int))=IntKind.wrap .i64 (IntKind.wrap .i64 (vS)+(1:Int))/\True)/\ ∀(g:Unit),cX (FN) a=false->ad (cX ((qc),(4:Int)) a) ((5:Int)=fK a) (∃(h:Unit),cX (lR (Int.ofNat ((BL)%Int.natAbs (jz))))
 a=false/\a=a/\(0:Int)=0/\(8:Int)=8/\(1:Int)=1/\(qA)=2130706432/\(8:Int)=8/\(2:Int)=2/\(pF)=167772160/\(8:Int)=8/\(3:Int)=3/\(qx)=2886729728/\(12:Int)=12/\(3:Int)=3/\(pB)=3232235520/\(16:Int)=16/\(3:Int)=3/\(p9)=2851995648/\(16:Int)=16/\(4:Int)=4/\(qc)=3758096384/\(4:Int)=4/\(5:Int)=5/\(pW)=4026531840/\(4:Int)=4/\(6:Int)=6/\IntKind.wrap .i64 (ym)=IntKind.wrap .i64 (ym)/\True)/\ ∀(h:Unit),cX (lR (Int.ofNat ((BL)%Int.natAbs (jz)))) a=false->ad (cX ((pW),(4:Int)) a) ((6:Int)=fK a) (∃(i:Unit),cX (F7)
 a=false/\a=a/\(0:Int)=0/\(8:Int)=8/\(1:Int)=1/\(qA)=2130706432/\(8:Int)=8/\(2:Int)=2/\(pF)=167772160/\(8:Int)=8/\(3:Int)=3/\(qx)=2886729728/\(12:Int)=12/\(3:Int)=3/\(pB)=3232235520/\(16:Int)=16/\(3:Int)=3/\(p9)=2851995648/\(16:Int)=16/\(4:Int)=4/\(qc)=3758096384/\(4:Int)=4/\(5:Int)=5/\(pW)=4026531840/\(4:Int)=4/\(6:Int)=6/\IntKind.wrap .i64 (IntKind.wrap .i64 (ym)+(1:Int))=IntKind.wrap .i64 (IntKind.wrap .i64 (ym)+(1:Int))/\True)/\ ∀(i:Unit),cX (F7) a=false->(0:Int)=fK a:=by
  delta jz xA vS BL yK ym wF qA qx pB p9 qc pW Dx FN F7 pF
  rintro a ⟨⟨a0,a1⟩,-⟩ -
  have q0:=rX (p:=0) (n:=8) (a:=a) (s:=16777216) rfl (by omega) (by omega)
  have q1:=rX (p:=2130706432) (n:=8) (a:=a) (s:=16777216) rfl (by omega) (by omega)
  have q2:=rX (p:=167772160) (n:=8) (a:=a) (s:=16777216) rfl (by omega) (by omega)
  have q3:=rX (p:=2886729728) (n:=12) (a:=a) (s:=1048576) rfl (by omega) (by omega)
  have q4:=rX (p:=3232235520) (n:=16) (a:=a) (s:=65536) rfl (by omega) (by omega)
  have q5:=rX (p:=2851995648) (n:=16) (a:=a) (s:=65536) rfl (by omega) (by omega)
  have q6:=rX (p:=3758096384) (n:=4) (a:=a) (s:=268435456) rfl (by omega) (by omega)
  have q7:=rX (p:=4026531840) (n:=4) (a:=a) (s:=268435456) rfl (by omega) (by omega)
  refine⟨ae (fun h=>?_) (fun h=>⟨(),h,(by repeat' first|exact trivial|refine⟨trivial,?_⟩|refine⟨(by with_reducible rfl),?_⟩|refine⟨af (by omega) (by omega),?_⟩|refine⟨rfl,?_⟩)⟩),?_⟩
  ·rw[q0] at h
   have h:=of_decide_eq_true h
   unfold fK;rw[if_pos (by omega)]
  rintro-h
  have h:cX (0,8) a=false:=h
  rw[q0] at h
  have h0:=of_decide_eq_false h
  refine⟨ae (fun h=>?_) (fun h=>⟨(),h,(by repeat' first|exact trivial|refine⟨trivial,?_⟩|refine⟨(by with_reducible rfl),?_⟩|refine⟨af (by omega) (by omega),?_⟩|refine⟨rfl,?_⟩)⟩),?_⟩
  ·rw[q1] at h
   have h:=of_decide_eq_true h
   unfold fK;rw[if_neg (by omega),if_pos (by omega)]
  rintro-h
  have h:cX (2130706432,8) a=false:=h
  rw[q1] at h
  have h1:=of_decide_eq_false h
  refine⟨ae (fun h=>?_) (fun h=>⟨(),h,(by repeat' first|exact trivial|refine⟨trivial,?_⟩|refine⟨(by with_reducible rfl),?_⟩|refine⟨af (by omega) (by omega),?_⟩|refine⟨rfl,?_⟩)⟩),?_⟩
  ·rw[q2] at h
   have h:=of_decide_eq_true h
   unfold fK;rw[if_neg (by omega),if_neg (by omega),if_pos (by omega)]
  rintro-h
  have h:cX (167772160,8) a=false:=h
  rw[q2] at h
  have h2:=of_decide_eq_false h
  refine⟨ae (fun h=>?_) (fun h=>⟨(),h,(by repeat' first|exact trivial|refine⟨trivial,?_⟩|refine⟨(by with_reducible rfl),?_⟩|refine⟨af (by omega) (by omega),?_⟩|refine⟨rfl,?_⟩)⟩),?_⟩
  ·rw[q3] at h
   have h:=of_decide_eq_true h
   unfold fK;rw[if_neg (by omega),if_neg (by omega),if_pos (by omega)]
  rintro-h
  have h:cX (2886729728,12) a=false:=h
  rw[q3] at h
  have h3:=of_decide_eq_false h
  refine⟨ae (fun h=>?_) (fun h=>⟨(),h,(by repeat' first|exact trivial|refine⟨trivial,?_⟩|refine⟨(by with_reducible rfl),?_⟩|refine⟨af (by omega) (by omega),?_⟩|refine⟨rfl,?_⟩)⟩),?_⟩
  ·rw[q4] at h
   have h:=of_decide_eq_true h
   unfold fK;rw[if_neg (by omega),if_neg (by omega),if_pos (by omega)]
  rintro-h
  have h:cX (3232235520,16) a=false:=h
  rw[q4] at h
  have h4:=of_decide_eq_false h
  refine⟨ae (fun h=>?_) (fun h=>⟨(),h,(by repeat' first|exact trivial|refine⟨trivial,?_⟩|refine⟨(by with_reducible rfl),?_⟩|refine⟨af (by omega) (by omega),?_⟩|refine⟨rfl,?_⟩)⟩),?_⟩
  ·rw[q5] at h
   have h:=of_decide_eq_true h
   unfold fK;rw[if_neg (by omega),if_neg (by omega),if_neg (by omega),if_pos (by omega)]
  rintro-h
  have h:cX (2851995648,16) a=false:=h
  rw[q5] at h
  have h5:=of_decide_eq_false h
  refine⟨ae (fun h=>?_) (fun h=>⟨(),h,(by repeat' first|exact trivial|refine⟨trivial,?_⟩|refine⟨(by with_reducible rfl),?_⟩|refine⟨af (by omega) (by omega),?_⟩|refine⟨rfl,?_⟩)⟩),?_⟩
  ·rw[q6] at h
   have h:=of_decide_eq_true h
   unfold fK;rw[if_neg (by omega),if_neg (by omega),if_neg (by omega),if_neg (by omega),if_pos (by omega)]
  rintro-h
  have h:cX (3758096384,4) a=false:=h
  rw[q6] at h
  have h6:=of_decide_eq_false h
  refine⟨ae (fun h=>?_) (fun h=>⟨(),h,(by repeat' first|exact trivial|refine⟨trivial,?_⟩|refine⟨(by with_reducible rfl),?_⟩|refine⟨af (by omega) (by omega),?_⟩|refine⟨rfl,?_⟩)⟩),?_⟩
  ·rw[q7] at h
   have h:=of_decide_eq_true h
   unfold fK;rw[if_neg (by omega),if_neg (by omega),if_neg (by omega),if_neg (by omega),if_neg (by omega),if_pos (by omega)]
  rintro-h
  have h:cX (4026531840,4) a=false:=h
  rw[q7] at h
  have h7:=of_decide_eq_false h
  unfold fK;rw[if_neg (by omega),if_neg (by omega),if_neg (by omega),if_neg (by omega),if_neg (by omega),if_neg (by omega)]
theorem M3:av Tryz.prog GL 252 Lg.spec:=Ct.okH _ Tryz.func252 (by kernel_rfl) (Td (ah aA Kl) (d:=8)) au RE (aB (by kernel_rfl) TI)
def Id:Ct:=⟨[.val (.sl bm)],[.agg vD,.val .bool],fun d=>[(d.1.length:Int)<=1099511627776],fun d=>((nP d.1,decide (cq d.1),()),())⟩
def To:ar Id.ps->ay:=(fun _=>{})
def zX(a:List Int) :=
 (((0:Int),(0:Int),(0:Int),(0:Int),false,(0:Int),(0:Int)),([]:List Int))=nP a/\false=decide (cq a)
def B1(a:List Int)(b:(Int×Int×Int×Int×Bool×Int×Int)×List Int) :=
 ∀(e:Bool),e=decide (fK b.1.2.2.2.2.2.1=0)->((! e)->((! e)->(! e))/\True)/\(e=false->(! e))/\b=nP a/\(bif e then true else decide (fK b.1.2.2.2.2.2.1=3))=decide (cq a)
theorem XZ :
 ∀(a:List Int),(a.length<=maxLen/\ ∀(b:Int),b∈a->0<=b/\b<=255)/\True->(a.length:Int)<=1099511627776->(a.length:Int)<=1099511627776/\ ∀(b:(Int×Int×Int×Int×Bool×Int×Int)×List Int)(c:Int),b=aW a/\c=bV a-> ∀(d:Bool),d= ! decide (c=0)->((! d)->((! d)->(! d))/\True)/\((! d)->((! d)->(! d))/\True)/\((! d)->((! d)->(! d))/\True)/\(d=false->(! d))/\ad (bif d then true else decide ((b.2.length:Int)<8)) (zX a) (ad (decide (b.1.2.2.2.1=1)) ((0:Int)<=0/\0<(b.2.length:Int)/\ad (! decide (List.getD b.2 (Int.toNat (0:Int)) default=8)) (zX a) (B1 a b)) (ad (decide (b.1.2.2.2.1=6)) (∀(e:Bool),e=decide (13<(b.2.length:Int))->(e->(e->e)/\True)/\(e->(e->e)/\(0:Int)<=13/\13<(b.2.length:Int)/\True)/\(e->(e->e)/\True)/\(e->(e->e)/\True)/\(e->(e->e)/\True)/\(e->e)/\ad (bif e then ! decide (bits BinOp.and IntKind.u8 (List.getD b.2 (Int.toNat (13:Int)) default) (4:Int)=0) else false) (zX a)
 (∀(f:Bool),f=decide (fK b.1.2.2.2.2.2.1=0)->((! f)->((! f)->(! f))/\True)/\(f=false->(! f))/\b=nP a/\(bif f then true else decide (fK b.1.2.2.2.2.2.1=3))=decide (cq a))) (B1 a b))):=by
  delta zX B1
  rintro b ⟨⟨-,hb⟩,-⟩ hl
  refine⟨hl,?_⟩
  rintro d e ⟨rfl,rfl⟩
  have bad:¬ vU b->(((0,0,0,0,false,0,0),[]):nX)=nP b/\false=decide (cq b):=fun h=>by rw[nP,if_neg h,decide_eq_false (fun k=>h (GW.1 k).1)];exact⟨rfl,rfl⟩
  have good:vU b->aW b=nP b/\(bif decide (fK (aW b).1.2.2.2.2.2.1=0) then true else decide (fK (aW b).1.2.2.2.2.2.1=3))=decide (cq b):=by
   intro h
   refine⟨by rw[nP,if_pos h],?_⟩
   rw[Bool.eq_iff_iff,decide_eq_true_iff,GW]
   simp[h,fm,Bool.cond_eq_ite]
  (repeat (intro (b_:Bool) (hb_:b_=_);(repeat refine⟨(by first|(simp;done)|(rw[hb_];simp;done)|(rw[hb_];simp;omega)|(rw[hb_];simp;intros;omega)|(rw[hb_];simp +contextual;done)),?_⟩);subst hb_))
  refine ae (fun h=>?_) (fun h=>?_)
  ·refine bad (fun k=>?_)
   obtain⟨k1,k2,-⟩:=k
   rw[k1] at h;simp at h;omega
  have h1:bV b=0:=by
   refine Classical.byContradiction fun k=>?_
   simp[k] at h
  have h2:8<=(aW b).2.length:=by
   rw[h1] at h;simp at h;omega
  refine ae (fun hp=>?_) (fun hp=>?_)
  ·have hp:uK (aW b)=1:=of_decide_eq_true hp
   refine⟨by omega,by omega,ae (fun h8=>?_) (fun h8=>?_)⟩
   ·refine bad (fun k=>?_)
    have:=k.2.2.1 hp
    simp only[show Int.toNat 0=0 from rfl,this] at h8
    simp at h8
   ·(repeat (intro (b_:Bool) (hb_:b_=_);(repeat refine⟨(by first|(simp;done)|(rw[hb_];simp;done)|(rw[hb_];simp;omega)|(rw[hb_];simp;intros;omega)|(rw[hb_];simp +contextual;done)),?_⟩);subst hb_))
    exact good ⟨h1,h2,fun _=>by simpa using h8,fun k=>by omega⟩
  have hp:¬ uK (aW b)=1:=of_decide_eq_false hp
  refine ae (fun hq=>?_) (fun hq=>?_)
  ·have hq:uK (aW b)=6:=of_decide_eq_true hq
   (repeat (intro (b_:Bool) (hb_:b_=_);(repeat refine⟨(by first|(simp;done)|(rw[hb_];simp;done)|(rw[hb_];simp;omega)|(rw[hb_];simp;intros;omega)|(rw[hb_];simp +contextual;done)),?_⟩);subst hb_))
   refine ae (fun h8=>?_) (fun h8=>?_)
   ·refine bad (fun k=>?_)
    have:=k.2.2.2 hq
    simp[Bool.cond_eq_ite] at h8
    exact h8.2 (this (by omega))
   ·(repeat (intro (b_:Bool) (hb_:b_=_);(repeat refine⟨(by first|(simp;done)|(rw[hb_];simp;done)|(rw[hb_];simp;omega)|(rw[hb_];simp;intros;omega)|(rw[hb_];simp +contextual;done)),?_⟩);subst hb_))
    refine good ⟨h1,h2,fun k=>absurd k hp,fun _ hk=>?_⟩
    refine Classical.byContradiction fun k=>?_
    have k:¬ bits .and .u8 ((aW b).2.getD (Int.toNat 13) default) 4=0:=k
    rw[decide_eq_true (show (13:Int)<((aW b).2.length:Int) by omega),decide_eq_false k] at h8
    cases h8
  ·have hq:¬ uK (aW b)=6:=of_decide_eq_false hq
   (repeat (intro (b_:Bool) (hb_:b_=_);(repeat refine⟨(by first|(simp;done)|(rw[hb_];simp;done)|(rw[hb_];simp;omega)|(rw[hb_];simp;intros;omega)|(rw[hb_];simp +contextual;done)),?_⟩);subst hb_))
   exact good ⟨h1,h2,fun k=>absurd k hp,fun k=>absurd k hq⟩
theorem HF:av Tryz.prog GL 266 Id.spec:=Ct.okH _ Tryz.func266 (by kernel_rfl) (ah (ah aA (Ct.named zt)) M3) au To (aB (by kernel_rfl) XZ)
def HH:Ct:=⟨[.val cI,.val cI],[.val .bool],fun d=>[],fun d=>((decide (f5 d.1 d.2.1),()),())⟩
def QI:ar HH.ps->ay:=(fun _=>{})
theorem U4 :
 ∀(a b:Int),ab a/\ab b/\True->True-> ∀(c:Bool),c=decide (0<=a)->(c->(c->c)/\True)/\(c->c)/\ ∀(d:Bool),(d=bif c then decide (a<=65535) else false)->(d->(d->d)/\True)/\(d->d)/\ ∀(e:Bool),(e=bif d then decide (0<=b) else false)->(e->(e->e)/\True)/\(e->e)/\(bif e then decide (b<=255) else false)=decide (f5 a b):=by
  rintro id ttl - -
  (repeat (intro (b_:Bool) (hb_:b_=_);(repeat refine⟨(by first|(simp;done)|(rw[hb_];simp;done)|(rw[hb_];simp;omega)|(rw[hb_];simp;intros;omega)|(rw[hb_];simp +contextual;done)),?_⟩);subst hb_))
  rw[Bool.eq_iff_iff];simp[f5,Bool.cond_eq_ite,and_assoc]
theorem Mf:av Tryz.prog GL 265 HH.spec:=Ct.okH _ Tryz.func265 (by kernel_rfl) aA au QI (aB (by kernel_rfl) U4)
def HV:Ct:=⟨[.val ck,.val ck,.val cI,.val cI,.val cI,.val (.sl bm)],[.own 5 bm,.val cI],fun d=>[(d.2.2.2.2.2.1.length:Int)<=1073741824],fun d=>((cS (f8 d.1 d.2.1 d.2.2.1 d.2.2.2.1 d.2.2.2.2.1 d.2.2.2.2.2.1),de (f8 d.1 d.2.1 d.2.2.1 d.2.2.2.1 d.2.2.2.2.1 d.2.2.2.2.2.1),()),())⟩
def ZI:ar HV.ps->ay:=(fun _=>{})
theorem QL :
 ∀(a b c d e:Int)(f:List Int),(0<=a/\a<=4294967295)/\(0<=b/\b<=4294967295)/\ab c/\ab d/\ab e/\(f.length<=maxLen/\ ∀(g:Int),g∈f->0<=g/\g<=255)/\True->(f.length:Int)<=1073741824->(f.length:Int)<=1073741824/\cS (((0:Int),d,e,c,false,a,b),f)=cS (f8 a b c d e f)/\de (((0:Int),d,e,c,false,a,b),f)=de (f8 a b c d e f):=by
  rintro s d p i t data-hl
  exact⟨hl,rfl,rfl⟩
theorem KR:av Tryz.prog GL 268 HV.spec:=Ct.okH _ Tryz.func268 (by kernel_rfl) (ah aA MU) au ZI (aB (by kernel_rfl) QL)
def OS:Ct:=⟨[.val (.sl bm),.val ck,.val cI,.val cI,.val cI,.val cI],[.own 5 bm,.val cI],fun d=>[(d.1.length:Int)<=1099511627776],fun d=>((gA d.1 d.2.1 d.2.2.1 d.2.2.2.1 d.2.2.2.2.1 d.2.2.2.2.2.1,fq d.1 d.2.2.1 d.2.2.2.1 d.2.2.2.2.1 d.2.2.2.2.2.1,()),())⟩
def QM:ar OS.ps->ay:=(fun _=>{})
theorem Xx :
 ∀(a:List Int)(b c d e f:Int),(a.length<=maxLen/\ ∀(g:Int),g∈a->0<=g/\g<=255)/\(0<=b/\b<=4294967295)/\ab c/\ab d/\ab e/\ab f/\True->(a.length:Int)<=1099511627776-> ∀(g:Bool),g= ! decide (c=11)->(g->(g->g)/\True)/\(g->g)/\ ∀(h:Bool),(h=bif g then ! decide (c=3) else false)->((! h)->((! h)->(! h))/\True)/\(h=false->(! h))/\ ∀(i:Bool),(i=bif h then true else decide (d<0))->((! i)->((! i)->(! i))/\True)/\(i=false->(! i))/\ ∀(j:Bool),(j=bif i then true else decide (255<d))->((! j)->((! j)->(! j))/\((! j)->(! j))/\True)/\((! j)->((! j)->(! j))/\True)/\(j=false->(! j))/\ad (bif j then true else ! decide (f5 e f)) (([]:List Int)=gA a b c d e f/\(1:Int)=fq a c d e f) ((a.length:Int)<=1099511627776/\ ∀(k:(Int×Int×Int×Int×Bool×Int×Int)×List Int)(l:Bool),k=nP a/\l=decide (cq a)->ad (! l) (([]:List Int)=gA a b c d e f/\(17:Int)=fq a c d e f)
 ((0:Int)<=0/\(0:Int)<=28/\28<=(a.length:Int)/\((List.length (ce a (Int.toNat (0:Int)) (Int.toNat (28:Int)))):Int)<=1073741824/\ ∀(m:List Int)(n:Int),m=fW (c,d,ce a (Int.toNat (0:Int)) (Int.toNat (28:Int)))/\n=gG (c,d,ce a (Int.toNat (0:Int)) (Int.toNat (28:Int)))->ad (! decide (n=0)) (([]:List Int)=gA a b c d e f/\n=fq a c d e f) ((m.length:Int)<=1073741824/\cS (f8 b k.1.2.2.2.2.2.1 (1:Int) e f m)=gA a b c d e f/\de (f8 b k.1.2.2.2.2.2.1 (1:Int) e f m)=fq a c d e f))):=by
  rintro b src kind code id ttl ⟨⟨-,hb⟩,-⟩ hl
  (repeat (intro (b_:Bool) (hb_:b_=_);(repeat refine⟨(by first|(simp;done)|(rw[hb_];simp;done)|(rw[hb_];simp;omega)|(rw[hb_];simp;intros;omega)|(rw[hb_];simp +contextual;done)),?_⟩);subst hb_))
  by_cases hg:oY kind code id ttl
  rotate_left
  ·refine ae (fun _=>T6 hg) (fun h=>absurd ?_ hg)
   by_cases hn:f5 id ttl
   ·rw[decide_eq_true hn] at h
    refine⟨?_,?_,hn⟩ <;> simp[Bool.cond_eq_ite] at h <;> omega
   ·rw[decide_eq_false hn] at h
    simp at h
  have hg':=hg
  obtain⟨g1,g2,g3⟩:=hg'
  refine ae (fun h=>?_) (fun _=>⟨hl,?_⟩)
  ·exfalso
   rw[decide_eq_true g3] at h
   simp[Bool.cond_eq_ite] at h;omega
  rintro d e ⟨rfl,rfl⟩
  refine ae (fun h=>Wp hg (by simpa using h)) (fun h=>?_)
  have ha:cq b:=by simpa using h
  have hgd:=Bg (src:=src) hg ha
  obtain⟨-,h28,-⟩:=nu ha
  rw[LB ha,V0]
  refine⟨by omega,by omega,by omega,by rw[List.length_take];omega,?_⟩
  rintro n e ⟨rfl,rfl⟩
  rw[hgd.2.2.1]
  refine ae (fun h=>by simp at h) (fun _=>?_)
  have:=Dh (kind,code,b.take 28)
  refine⟨by omega,hgd.2.1.symm,?_⟩
  rw[hgd.1];exact hgd.2.2.2
theorem II:av Tryz.prog GL 270 OS.spec:=Ct.okH _ Tryz.func270 (by kernel_rfl) (ah (ah (ah (ah aA Mf) (Ct.named HF)) (Ct.named af3)) KR) au QM (aB (by kernel_rfl) Xx)
def JL:Ct:=⟨[.val (.sl bm),.val ck,.val cI,.val cI],[.own 5 bm,.val cI],fun d=>[(d.1.length:Int)<=1099511627776],fun d=>((gk d.1 d.2.1 d.2.2.1 d.2.2.2.1,fc d.1 d.2.2.1 d.2.2.2.1,()),())⟩
def Z9:ar JL.ps->ay:=(fun _=>{})
def vW(a:List Int)(b c d:Int) :=
 ([]:List Int)=gk a b c d/\(17:Int)=fc a c d
def D3(g:Int×Int×Int×Int×Int×Int×List Int) :=
 (g.2.1,g.1,(0:Int),bits BinOp.and IntKind.i64 (IntKind.wrap .i64 (g.2.2.1+(1:Int))) (4294967295:Int),(20:Int),(0:Int),([]:List Int))
theorem WT :
 ∀(a:List Int)(b c d:Int),(a.length<=maxLen/\ ∀(e:Int),e∈a->0<=e/\e<=255)/\(0<=b/\b<=4294967295)/\ab c/\ab d/\True->(a.length:Int)<=1099511627776->ad (! decide (f5 c d)) (([]:List Int)=gk a b c d/\(1:Int)=fc a c d) ((a.length:Int)<=1099511627776/\ ∀(e:(Int×Int×Int×Int×Bool×Int×Int)×List Int)(f:Bool),e=nP a/\f=decide (cq a)->ad (! f) (vW a b c d) (ad (decide (e.1.2.2.2.1=1)) ((e.2.length:Int)<=1000000/\ ∀(g:Bool)(h i:Int)(j:List Int)(k:Int),(g,h,i,j)=dW e.2/\k=iE e.2->ad (! decide (k=0)) (vW a b c d) ((j.length:Int)<=1073741824/\ ∀(l:List Int)(m:Int),l=dj (true,h,i,j)/\m=iq (true,h,i,j)->(l.length:Int)<=1073741824/\cS (f8 b e.1.2.2.2.2.2.1 e.1.2.2.2.1 c d l)=gk a b c d/\de (f8 b e.1.2.2.2.2.2.1 e.1.2.2.2.1 c d l)=fc a c d)) (ad (decide (e.1.2.2.2.1=17)) ((e.2.length:Int)<=1000000/\ ∀(g h:Int)(i:List Int)
 (j:Int),(g,h,i)=nE e.1.2.2.2.2.2.1 e.1.2.2.2.2.2.2 e.2/\j=hV e.1.2.2.2.2.2.1 e.1.2.2.2.2.2.2 e.2->ad (! decide (j=0)) (vW a b c d) ((a.length:Int)<=1099511627776/\gA a b (3:Int) (3:Int) c d=gk a b c d/\fq a (3:Int) (3:Int) c d=fc a c d)) (ad (decide (e.1.2.2.2.1=6)) ((e.2.length:Int)<=1000000/\ ∀(g:Int×Int×Int×Int×Int×Int×List Int)(h:Int),g=dI e.1.2.2.2.2.2.1 e.1.2.2.2.2.2.2 e.2/\h=gK e.1.2.2.2.2.2.1 e.1.2.2.2.2.2.2 e.2-> ∀(i:Bool),i= ! decide (h=0)->((! i)->((! i)->(! i))/\True)/\((! i)->((! i)->(! i))/\True)/\((! i)->((! i)->(! i))/\True)/\(i=false->(! i))/\ ∀(j:Bool),(j=bif i then true else decide (bits BinOp.and IntKind.i64 g.2.2.2.2.1 (2:Int)=0))->((! j)->((! j)->(! j))/\True)/\((! j)->((! j)->(! j))/\True)/\((! j)->((! j)->(! j))/\True)/\(j=false->(! j))/\ad (bif j then true else ! decide (bits BinOp.and IntKind.i64 g.2.2.2.2.1 (4:Int)=0)) (vW a
 b c d) ((↑(0:Nat):Int)<=1000000/\ ∀(k:List Int)(l:Int),k=dq b e.1.2.2.2.2.2.1 (D3 g)/\l=iZ (D3 g)->(k.length:Int)<=1073741824/\cS (f8 b e.1.2.2.2.2.2.1 e.1.2.2.2.1 c d k)=gk a b c d/\de (f8 b e.1.2.2.2.2.2.1 e.1.2.2.2.1 c d k)=fc a c d)) (vW a b c d))))):=by
  delta vW D3
  rintro b src id ttl ⟨⟨-,hb⟩,-⟩ hl
  by_cases hn:f5 id ttl
  rotate_left
  ·exact ae (fun _=>QR hn) (fun h=>absurd (by simpa using h) hn)
  refine ae (fun h=>by simp[hn] at h) (fun _=>⟨hl,?_⟩)
  rintro _ _ ⟨rfl,rfl⟩
  refine ae (fun h=>vq hn (fun k=>?_)) (fun h=>?_)
  ·have:=k.1;simp[this] at h
  have ha:cq b:=by simpa using h
  obtain⟨hd0,h28,hp1,hp6,-⟩:=nu ha
  have hdl:=vQ hd0
  rw[LB ha]
  have hdb:bytes (b.drop 20):=rQ hb
  have hdr:(b.drop 20).length<=1480:=by rw[List.length_drop];omega
  have nofit:∀ k:Prop,(k->pC b->False)->k->([]:List Int)=gk b src id ttl/\(17:Int)=fc b id ttl:=fun k hk h=>vq hn (hk h)
  refine ae (fun h1=>?_) (fun h1=>ae (fun h17=>?_) (fun h17=>ae (fun h6=>?_) (fun h6=>?_)))
  ·have h1:cW b=1:=of_decide_eq_true h1
   refine⟨by show ((b.drop 20).length:Int)<=_;omega,?_⟩
   rintro r i q dt e ⟨hu,rfl⟩
   refine ae (fun h=>?_) (fun h=>?_)
   ·refine vq hn (fun k=>?_)
    obtain⟨-,⟨-,k⟩|⟨k,-⟩|⟨k,-⟩⟩:=k
    ·simp[k] at h
    ·omega
    ·omega
   have h:iE (b.drop 20)=0:=by simpa using h
   have hh:=A6 (src:=src) hn ha h1 h
   have hlen:=Il (b.drop 20)
   have e2:(i,q,dt)=(dW (b.drop 20)).2:=congrArg Prod.snd hu
   have e3:dt=(dW (b.drop 20)).2.2.2:=by rw[← e2]
   refine⟨by rw[e3];omega,?_⟩
   rintro o e ⟨rfl,rfl⟩
   rw[show ((true,i,q,dt):kZ)=(true,(i,q,dt)) from rfl,e2]
   have hle:=VS (true,(dW (b.drop 20)).2)
   refine⟨by omega,?_,?_⟩
   ·rw[hh.1,← h1];rfl
   ·rw[hh.2];exact vd hn (by have:=h1;unfold cW at this;simp only;omega) hle
  ·have h1:=of_decide_eq_false h1
   have h17:cW b=17:=of_decide_eq_true h17
   refine⟨by show ((b.drop 20).length:Int)<=_;omega,?_⟩
   rintro sp dp dt e ⟨hu,rfl⟩
   refine ae (fun h=>?_) (fun h=>?_)
   ·refine vq hn (fun k=>?_)
    obtain⟨-,⟨k,-⟩|⟨-,k⟩|⟨k,-⟩⟩:=k
    ·omega
    ·have k:hV (bP b).2.2.2.2.2.1 (bP b).2.2.2.2.2.2 (b.drop 20)=0:=k
     simp[k] at h
    ·omega
   have h:hV (bQ b) (eV b) (b.drop 20)=0:=by
    have:hV (bP b).2.2.2.2.2.1 (bP b).2.2.2.2.2.2 (b.drop 20)=0:=by simpa using h
    exact this
   have hh:=Bu (src:=src) hn ha h17 h
   exact⟨hl,hh.1.symm,by rw[hh.2,ET hn ha]⟩
  ·have h1:=of_decide_eq_false h1
   have h17:=of_decide_eq_false h17
   have h6:cW b=6:=of_decide_eq_true h6
   refine⟨by show ((b.drop 20).length:Int)<=_;omega,?_⟩
   rintro t e ⟨ht,rfl⟩
   have ht:t=dI (bQ b) (eV b) (b.drop 20):=ht
   have hr:=az2 (s:=bQ b) (d:=eV b) hdb
   rw[← ht] at hr
   have ee:gK (bP b).2.2.2.2.2.1 (bP b).2.2.2.2.2.2 (b.drop 20)=gK (bQ b) (eV b) (b.drop 20):=rfl
   rw[ee]
   (repeat (intro (b_:Bool) (hb_:b_=_);(repeat refine⟨(by first|(simp;done)|(rw[hb_];simp;done)|(rw[hb_];simp;omega)|(rw[hb_];simp;intros;omega)|(rw[hb_];simp +contextual;done)),?_⟩);subst hb_))
   refine ae (fun h=>?_) (fun h=>?_)
   ·refine vq hn (fun k=>?_)
    obtain⟨-,⟨k,-⟩|⟨k,-⟩|⟨-,k1,k2,k3⟩⟩:=k
    ·omega
    ·omega
    ·rw[← ht] at k2 k3
     simp[k1,k2,k3] at h
   have k1:gK (bQ b) (eV b) (b.drop 20)=0:=Classical.byContradiction fun k=>by simp[k] at h
   have k2:bits .and .i64 t.2.2.2.2.1 2≠0:=fun k=>by simp[k1,k] at h
   have k3:bits .and .i64 t.2.2.2.2.1 4=0:=Classical.byContradiction fun k=>by simp[k1,k2,k] at h
   have hh:=Ad (src:=src) hn ha h6 k1 (by rw[← ht];exact k2) (by rw[← ht];exact k3)
   refine⟨by simp,?_⟩
   rintro o e ⟨rfl,rfl⟩
   rw[af (n:=t.2.2.1+1) (by omega) (by omega),WY]
   have hle:=TK src (bQ b) (jl t)
   have er:((t.2.1,t.1,0,(t.2.2.1+1)%4294967296,20,0,[]):jO)=jl t:=rfl
   rw[er]
   refine⟨by show ((dq src (bQ b) (jl t)).length:Int)<=_;omega,?_,?_⟩
   ·rw[hh.1,← ht,← h6];rfl
   ·rw[hh.2];exact vd hn (by have:=h6;unfold cW at this;simp only;omega) hle
  ·have h1:=of_decide_eq_false h1
   have h17:=of_decide_eq_false h17
   have h6:=of_decide_eq_false h6
   refine vq hn (fun k=>?_)
   obtain⟨-,⟨k,-⟩|⟨k,-⟩|⟨k,-⟩⟩:=k
   ·exact h1 k
   ·exact h17 k
   ·exact h6 k
theorem au5:av Tryz.prog GL 244 JL.spec:=Ct.okH _ Tryz.func244 (by kernel_rfl) (ah (ah (ah (ah (ah (ah (ah (ah (ah aA Mf) (Ct.named HF)) (Ct.named VT)) (Ct.named QV)) (Ct.named RR)) (Ct.named aA1)) (Ct.named aA3)) II) KR) au Z9 (aB (by kernel_rfl) WT)
end Go.RS
