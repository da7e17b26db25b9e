/- Wire: numbers in bytes, the Internet checksum. -/
import Derived.Test.YthmcfealplfaaaaGreatDoorIdent
namespace Go.RS
open Go.SX Go.Proofs
set_option maxRecDepth 100000
set_option linter.unusedVariables false
def iy(n:Int)(w k:Nat):List Int:=(List.range k).map fun j=>n/256^(w-1-j)%256
def lG(n w:Int):Prop:=w<1∨7<w∨n<0∨256^w.toNat<=n
instance (n w:Int):Decidable (lG n w):=by unfold lG;infer_instance
def bG(b:List Int)(n w:Int):List Int:=if lG n w then [] else b++iy n w.toNat w.toNat
def nY(n w:Int):Int:=if lG n w then 1 else 0
def dH(l:List Int):Int:=l.foldl (fun n x=>n*256+x) 0
def dO(b:List Int)(at' w:Int):Int:=if w<1∨7<w∨at'<0∨b.length-w<at' then 0 else dH ((b.drop at'.toNat).take w.toNat)
def pL(b:List Int)(at' w:Int):Int:=if w<1∨7<w∨at'<0 then 1 else if b.length-w<at' then 3 else 0
def oc(n:Int):Int:=if n=0 then 0 else (n-1)%65535+1
def aY:Bool->List Int->Int
 | _,[]=>0
 | hi,x::r=>(if hi then x*256 else x)+aY (!hi) r
def bV(n:Int):Bool:=decide (0<=n/\n<=65535)
theorem J2(a b:Nat)(ha:a<9223372036854775808)(hb:b<9223372036854775808):bits .or .i64 (a:Int) (b:Int)=((a ||| b:Nat):Int):=by
 have h:a ||| b<2^63:=Nat.or_lt_two_pow (by omega) (by omega)
 have key:(BitVec.ofInt 64 (a:Int) ||| BitVec.ofInt 64 (b:Int)).toNat=a ||| b:=by
  rw[BitVec.toNat_or,BitVec.toNat_ofInt,BitVec.toNat_ofInt]
  have e1:((a:Int)%((2^64:Nat):Int)).toNat=a:=by omega
  have e2:((b:Int)%((2^64:Nat):Int)).toNat=b:=by omega
  rw[e1,e2]
 show IntKind.i64.wrap ((BitVec.ofInt 64 (a:Int) ||| BitVec.ofInt 64 (b:Int)).toNat:Nat)=_
 rw[key,ai (by omega) (by omega)]
theorem B3{n:Int}(h0:0<=n)(h1:n<=36028797018963967):de .i64 n 8=n*256:=by
 show IntKind.i64.wrap (n*2^(min 8 64))=_
 rw[ai (by simp;omega) (by simp;omega)];rfl
theorem Dt{n x:Int}(h0:0<=n)(h1:n<=36028797018963966)(h2:0<=x)(h3:x<=255):bits .or .i64 (de .i64 n 8) (IntKind.wrap .i64 x)=n*256+x:=by
 rw[B3 h0 (by omega),ai (n:=x) (by omega) (by omega)]
 obtain⟨m,rfl⟩:=Int.eq_ofNat_of_zero_le h0
 obtain⟨y,rfl⟩:=Int.eq_ofNat_of_zero_le h2
 have:=J2 (m*256) y (by omega) (by omega)
 rw[nat_join 8 (m*256) y (by omega) (by omega)] at this
 push_cast at this
 exact this
theorem vI{n:Int}{k:Nat}(h0:0<=n)(hk:k<8):cT .i64 n (8*k)=n/256^k:=by
 unfold cT
 have hm:min ((8*(k:Int))).toNat IntKind.i64.bits=8*k:=by simp only[IntKind.bits];omega
 rw[hm,Int.fdiv_eq_ediv_of_nonneg _ (Int.le_of_lt (Int.pow_pos (by decide))),Int.pow_mul]
 rfl
theorem Bl{w:Int}(h0:1<=w)(h1:w<=7):de .i64 1 (IntKind.wrap .i64 (8*w))=256^w.toNat:=by
 have:w=1∨w=2∨w=3∨w=4∨w=5∨w=6∨w=7:=by omega
 rcases this with rfl|rfl|rfl|rfl|rfl|rfl|rfl <;> decide
theorem IY(n:Int)(w k:Nat):iy n w (k+1)=iy n w k++[n/256^(w-1-k)%256]:=by
 unfold iy;rw[List.range_succ,List.map_append];rfl
theorem Ix(n:Int)(w k:Nat):(iy n w k).length=k:=by unfold iy;simp
theorem DZ(l:List Int)(x:Int):dH (l++[x])=dH l*256+x:=by unfold dH;rw[List.foldl_append];rfl
theorem z7:∀(k:Nat)(l:List Int),l.length<=k->(∀ x∈l,0<=x/\x<=255)->0<=dH l/\dH l<256^k:=by
 intro k
 induction k with
 | zero =>
  intro l hl _
  have:l=[]:=List.eq_nil_of_length_eq_zero (by omega)
  subst this;exact⟨by decide,by decide⟩
 | succ k ih =>
  intro l hl hx
  rcases List.eq_nil_or_concat l with rfl|⟨m,x,rfl⟩
  ·exact⟨by decide,Int.pow_pos (by decide)⟩
  ·rw[List.concat_eq_append] at hl hx ⊢
   have h1:=ih m (by simp at hl;omega) (fun y hy=>hx y (List.mem_append_left _ hy))
   have h2:=hx x (by simp)
   rw[DZ,Int.pow_succ]
   generalize (256:Int)^k=P at h1 ⊢
   omega
theorem LH{l:List Int}(hl:l.length<=6)(hx:∀ x∈l,0<=x/\x<=255):0<=dH l/\dH l<=281474976710655:=by
 have:=z7 6 l hl hx
 have e:(256:Int)^6=281474976710656:=by decide
 omega
theorem ai9{n:Int}(h:65535<n):oc (n/65536+n%65536)=oc n:=by
 unfold oc
 rw[if_neg (by omega),if_neg (by omega)];omega
theorem ag4{n:Int}(h0:0<=n)(h1:n<=65535):oc n=n:=by
 unfold oc;split
 ·omega
 ·omega
theorem rO{n:Int}(h0:0<=n):0<=oc n/\oc n<=65535:=by unfold oc;split <;> omega
theorem Jx{m x:Int}(h0:0<=m)(h1:0<=x):oc (oc m+x)=oc (m+x):=by
 unfold oc
 by_cases h:m=0
 ·simp[h]
 ·rw[if_neg h,if_neg (by omega),if_neg (by omega)];omega
theorem yE(hi:Bool)(a b:List Int):aY hi (a++b)=aY hi a+aY (if a.length%2=0 then hi else !hi) b:=by
 induction a generalizing hi with
 | nil=>simp[aY]
 | cons x a ih =>
  rw[List.cons_append,aY,aY,ih,Int.add_assoc]
  congr 3
  rw[List.length_cons]
  by_cases h:a.length%2=0
  ·rw[if_pos h,if_neg (by omega)]
  ·rw[if_neg h,if_pos (by omega)];simp
theorem vx(hi:Bool)(l:List Int)(hx:∀ x∈l,0<=x/\x<=255):0<=aY hi l/\aY hi l<=65280*l.length:=by
 induction l generalizing hi with
 | nil=>simp[aY]
 | cons x l ih =>
  have h1:=ih (!hi) (fun y hy=>hx y (List.mem_cons_of_mem _ hy))
  have h2:=hx x List.mem_cons_self
  rw[aY,List.length_cons]
  cases hi
  ·simp at h1 ⊢;omega
  ·simp at h1 ⊢;omega
theorem tu{l:List Int}{j:Int}(h0:0<=j)(h1:j<l.length):l.take (j+1).toNat=l.take j.toNat++[l.getD j.toNat default]:=by
 have hj:j.toNat<l.length:=by omega
 rw[show (j+1).toNat=j.toNat+1 from by omega,List.take_succ_eq_append_getElem hj,List.getD_eq_getElem?_getD,List.getElem?_eq_getElem hj,Option.getD_some]
def KN:Ct:=⟨[.val (.sl bj)],[.own 5 bj],fun d=>[(d.1.length:Int)<=1099511627776],fun d=>((d.1,()),())⟩
def Vt:ar KN.ps->az:=(fun _=>{})
def cC(a:List Int) :=
 (a.length:Int)
def qA(a:List Int) :=
 a.length<=maxLen/\ ∀(b:Int),b∈a->0<=b/\b<=255
theorem QT :
 ∀(a:List Int),(qA a)/\True->(cC a)<=1099511627776-> ∀(b:Bool),(b=true->a.length=(0:Nat))->ad b (([]:List Int)=a) (((0:Nat)+a.length)*(1:Nat)<=(140737488355328:Nat)/\a=a):=by
  delta cC qA
  rintro x ⟨⟨hl,-⟩,-⟩ h b hb
  refine ae (fun h1=>?_) (fun h1=>⟨by omega,rfl⟩)
  have:=hb h1
  exact (List.eq_nil_of_length_eq_zero this).symm
theorem py:ax Tryz.prog GL 47 KN.spec:=Ct.okH _ Tryz.func47 (by kernel_rfl) aD av Vt (aC (by kernel_rfl) QT)
def Ln:Ct:=⟨[.val (.sl bj),.val cI,.val cI],[.own 5 bj,.val cI],fun d=>[(d.1.length:Int)<=1099511627776],fun d=>((bG d.1 d.2.1 d.2.2.1,nY d.2.1 d.2.2.1,()),())⟩
def ah7:ar Ln.ps->az:=(fun d=>{loops:=(fun n=>match n with|5=>some (fun S=>{ι:=Int×(List Int),qn:=⟨fun k_=>∀(k:Int)(ys:(List Int)),k_ (k,ys),fun k_ h_ i=>h_ i.1 i.2,fun k_=>∃ (k:Int) (ys:(List Int)),k_ (k,ys),fun k_ ⟨k,ys,h_⟩=>⟨_,h_⟩⟩,μ:=fun i=>(d.2.2.1-i.1).toNat,inv:=fun i=>0<=i.1/\i.1<=d.2.2.1/\i.2=d.1++iy d.2.1 d.2.2.1.toNat i.1.toNat,keep:=[1,2],slots:=fun i=>[(8,.own 524288 1),(9,.int .i64 (8*(d.2.2.1-1-i.1)))],names:=fun i=>[(524288,.live (.row 5 bj i.2))]})|_=>none)})
def n6(a:List Int) :=
 a.length<=maxLen/\ ∀(d:Int),d∈a->0<=d/\d<=255
def ta(f:Bool) :=
 (! f)->((! f)->(! f))/\((! f)->(! f))/\True
theorem ab9 :
 ∀(a:List Int)(b c:Int),(n6 a)/\ab b/\ab c/\True->(cC a)<=1099511627776-> ∀(d:Bool),d=decide (c<1)->((! d)->((! d)->(! d))/\True)/\(d=false->(! d))/\ ∀(e:Bool),(e=bif d then true else decide (7<c))->((! e)->((! e)->(! e))/\True)/\(e=false->(! e))/\ ∀(f:Bool),(f=bif e then true else decide (b<0))->((! f)->((! f)->(! f))/\True)/\((! f)->((! f)->(! f))/\0<=IntKind.wrap .i64 ((8:Int)*c)/\True)/\(ta f)/\(f=false->(! f))/\ad (bif f then true else decide (de IntKind.i64 (1:Int) (IntKind.wrap .i64 ((8:Int)*c))<=b)) (([]:List Int)=bG a b c/\(1:Int)=nY b c) ((cC a)<=1099511627776/\(∃(g:Int) (h:List Int),(0<=g/\g<=c/\h=a++iy b c.toNat g.toNat)/\b=b/\c=c/\IntKind.wrap .i64 ((8:Int)*IntKind.wrap .i64 (c -(1:Int)))=8*(c -(1:Int) -g)/\a=h/\True)/\ ∀(g:Int)(h:List Int),0<=g/\g<=c/\h=a++iy b c.toNat g.toNat->ad (decide ((0:Int)<=8*(c -(1:Int) -g))) ((0:Int)<=8*(c -(1:Int)
 -g)/\(h.length+List.length [IntKind.wrap .u8 (cT IntKind.i64 b ((8:Int)*(c -(1:Int) -g)))])*(1:Nat)<=(140737488355328:Nat)/\ ∃(i:Int) (j:List Int),(0<=i/\i<=c/\j=a++iy b c.toNat i.toNat)/\Int.toNat (c -i)<Int.toNat (c -g)/\b=b/\c=c/\IntKind.wrap .i64 ((8:Int)*(c -(1:Int) -g) -(8:Int))=8*(c -(1:Int) -i)/\h++[IntKind.wrap .u8 (cT IntKind.i64 b ((8:Int)*(c -(1:Int) -g)))]=j/\True) (h=bG a b c/\(0:Int)=nY b c)):=by
  delta cC n6 ta
  rintro b n w ⟨-,⟨n0,n1⟩,⟨w0,w1⟩,-⟩ hl
  rintro b1 rfl
  refine⟨by simp,by simp,?_⟩
  rintro b1 rfl
  refine⟨by simp,by simp,?_⟩
  rintro b1 rfl
  have hpre:(!(bif (bif decide (w<1) then true else decide (7<w)) then true else decide (n<0)))=true->1<=w/\w<=7/\0<=n:=by
   simp[Bool.cond_eq_ite];omega
  refine⟨by simp,fun h=>⟨fun _=>h,by have:=hpre h;rw[ai (by omega) (by omega)];omega,trivial⟩,fun h=>⟨fun _=>h,fun _=>h,trivial⟩,by simp,?_⟩
  refine ae (fun hc=>?_) (fun hc=>?_)
  ·have hbad:lG n w:=by
    unfold lG
    by_cases h:1<=w/\w<=7
    ·rw[Bl h.1 h.2] at hc
     simp[Bool.cond_eq_ite] at hc;omega
    ·omega
   rw[bG,nY,if_pos hbad,if_pos hbad];exact⟨rfl,rfl⟩
  ·have hw:1<=w/\w<=7/\0<=n:=hpre (by
    cases h:(bif (bif decide (w<1) then true else decide (7<w)) then true else decide (n<0)) with
    | false=>rfl
    | true=>rw[h] at hc;simp at hc)
   obtain⟨h1,h7,hn⟩:=hw
   rw[Bl h1 h7] at hc
   have hgood:¬ lG n w:=by
    unfold lG
    simp[Bool.cond_eq_ite] at hc;omega
   rw[bG,nY,if_neg hgood,if_neg hgood]
   refine⟨hl,⟨0,b,⟨by omega,by omega,by simp[iy]⟩,rfl,rfl,by rw[ai (n:=w-1) (by omega) (by omega),ai (by omega) (by omega)];omega,rfl,trivial⟩,?_⟩
   rintro k ys ⟨k0,k1,rfl⟩
   refine ae (fun hk=>?_) (fun hk=>?_)
   ·have hk:=of_decide_eq_true hk
    obtain⟨j,hj⟩:=Int.eq_ofNat_of_zero_le (show 0<=w-1-k by omega)
    rw[hj,vI hn (by omega),IntKind.wrap_u8']
    have hbl:=Ix n w.toNat k.toNat
    refine⟨by omega,by simp only[List.length_append,List.length_singleton,hbl];omega,k+1,_,⟨by omega,by omega,rfl⟩,by omega,rfl,rfl,by rw[ai (by omega) (by omega)];omega,?_,trivial⟩
    rw[show (k+1).toNat=k.toNat+1 from by omega,IY,List.append_assoc,show w.toNat-1-k.toNat=j from by omega]
   ·have hk:=of_decide_eq_false hk
    rw[show k=w from by omega];exact⟨rfl,rfl⟩
theorem N2:ax Tryz.prog GL 264 Ln.spec:=Ct.okH _ Tryz.func264 (by kernel_rfl) (ah aD py) av ah7 (aC (by kernel_rfl) ab9)
def HR:Ct:=⟨[.val (.sl bj),.val cI,.val cI],[.val cI,.val cI],fun d=>[(d.1.length:Int)<=1099511627776],fun d=>((dO d.1 d.2.1 d.2.2.1,pL d.1 d.2.1 d.2.2.1,()),())⟩
def au5:ar HR.ps->az:=(fun d=>{loops:=(fun n=>match n with|7=>some (fun S=>{ι:=Int×Int,qn:=⟨fun k_=>∀(j:Int)(n:Int),k_ (j,n),fun k_ h_ i=>h_ i.1 i.2,fun k_=>∃ (j:Int) (n:Int),k_ (j,n),fun k_ ⟨j,n,h_⟩=>⟨_,h_⟩⟩,μ:=fun i=>(d.2.2.1-i.1).toNat,inv:=fun i=>0<=i.1/\i.1<=d.2.2.1/\i.2=dH (((d.1.drop d.2.1.toNat).take d.2.2.1.toNat).take i.1.toNat),keep:=[34,35],slots:=fun i=>[(8,.int .i64 i.2),(36,.int .i64 i.1)],names:=fun i=>[]})|_=>none)})
def ub(b c:Int) :=
 Int.toNat (IntKind.wrap .i64 (b+c))
def tf(a:List Int)(b c:Int) :=
 ((List.length (cf a b.toNat (ub b c))):Int)
def rx(a:List Int)(b c:Int) :=
 List.take c.toNat (List.drop b.toNat a)
theorem Q7 :
 ∀(a:List Int)(b c:Int),(n6 a)/\ab b/\ab c/\True->(cC a)<=1099511627776-> ∀(d:Bool),d=decide (c<1)->((! d)->((! d)->(! d))/\True)/\(d=false->(! d))/\ ∀(e:Bool),(e=bif d then true else decide (7<c))->((! e)->((! e)->(! e))/\True)/\(e=false->(! e))/\ad (bif e then true else decide (b<0)) ((0:Int)=dO a b c/\(1:Int)=pL a b c) (ad (decide (IntKind.wrap .i64 ((cC a) -c)<b)) ((0:Int)=dO a b c/\(3:Int)=pL a b c) (0<=b/\b<=IntKind.wrap .i64 (b+c)/\IntKind.wrap .i64 (b+c)<=(cC a)/\(∃(f:Int) (g:Int),(0<=f/\f<=c/\g=dH (List.take f.toNat (rx a b c)))/\(0:Int)=g/\cf a b.toNat (ub b c)=cf a b.toNat (ub b c)/\(tf a b c)=(tf a b c)/\(0:Int)=f/\True)/\ ∀(f g:Int),0<=f/\f<=c/\g=dH (List.take f.toNat (rx a b c))->ad (decide (f<(tf a b c))) (0<=f/\f<(tf a b c)/\(0:Int)<=8/\ ∃(h:Int) (i:Int),(0<=h/\h<=c/\i=dH (List.take h.toNat (rx a b c)))/\Int.toNat (c
 -h)<Int.toNat (c -f)/\bits BinOp.or IntKind.i64 (de IntKind.i64 g (8:Int)) (IntKind.wrap .i64 (List.getD (cf a b.toNat (ub b c)) f.toNat default))=i/\cf a b.toNat (ub b c)=cf a b.toNat (ub b c)/\(tf a b c)=(tf a b c)/\IntKind.wrap .i64 (f+(1:Int))=h/\True) (g=dO a b c/\(0:Int)=pL a b c))):=by
  delta tf cC n6 ub rx
  rintro b a w ⟨⟨hl0,hx⟩,⟨a0,a1⟩,⟨w0,w1⟩,-⟩ hl
  (repeat (intro (b_:Bool) (hb_:b_=_);(repeat refine⟨(by first|(simp;done)|(rw[hb_];simp;done)|(rw[hb_];simp;omega)|(rw[hb_];simp;intros;omega)|(rw[hb_];simp +contextual;done)),?_⟩);subst hb_))
  unfold dO pL
  refine ae (fun hc=>?_) (fun hc=>?_)
  ·have h:w<1∨7<w∨a<0:=by simp[Bool.cond_eq_ite] at hc;omega
   rw[if_pos (by omega),if_pos h];exact⟨rfl,rfl⟩
  have h:¬ (w<1∨7<w∨a<0):=by simp[Bool.cond_eq_ite] at hc;omega
  rw[ai (n:=(b.length:Int)-w) (by omega) (by omega),if_neg h]
  refine ae (fun hd=>?_) (fun hd=>?_)
  ·have hd:=of_decide_eq_true hd
   rw[if_pos (by omega),if_pos hd];exact⟨rfl,rfl⟩
  have hd:=of_decide_eq_false hd
  rw[if_neg (by omega),if_neg hd,ai (n:=a+w) (by omega) (by omega)]
  have hsub:cf b a.toNat (a+w).toNat=(b.drop a.toNat).take w.toNat:=by
   unfold cf;rw[List.drop_take,show (a+w).toNat-a.toNat=w.toNat from by omega]
  rw[hsub]
  have hlen:((b.drop a.toNat).take w.toNat).length=w.toNat:=by rw[List.length_take,List.length_drop];omega
  have hy:∀ y∈(b.drop a.toNat).take w.toNat,0<=y/\y<=255:=fun y hy=>hx y (List.mem_of_mem_drop (List.mem_of_mem_take hy))
  generalize (b.drop a.toNat).take w.toNat=m at *
  rw[hlen]
  refine⟨by omega,by omega,by omega,⟨0,0,⟨by omega,by omega,by simp[dH]⟩,(by repeat' first|exact trivial|refine⟨trivial,?_⟩|refine⟨(by with_reducible rfl),?_⟩|refine⟨ai (by omega) (by omega),?_⟩|refine⟨rfl,?_⟩)⟩,?_⟩
  rintro j n ⟨j0,j1,rfl⟩
  refine ae (fun hj=>?_) (fun hj=>?_)
  ·have hj:=of_decide_eq_true hj
   have ht:=tu (l:=m) j0 (by omega)
   obtain⟨x0,x1⟩:=hy _ (bL (xs:=m) j0 (by omega))
   have hb:=LH (l:=m.take j.toNat) (by rw[List.length_take];omega) (fun y h=>hy y (List.mem_of_mem_take h))
   refine⟨j0,hj,by omega,j+1,_,⟨by omega,by omega,rfl⟩,by omega,?_,rfl,rfl,ai (by omega) (by omega),trivial⟩
   rw[ht,DZ,Dt hb.1 (by omega) x0 x1]
  ·have hj:=of_decide_eq_false hj
   rw[List.take_of_length_le (by omega)];exact⟨rfl,rfl⟩
theorem FQ:ax Tryz.prog GL 208 HR.spec:=Ct.okH _ Tryz.func208 (by kernel_rfl) aD av au5 (aC (by kernel_rfl) Q7)
def Jc:Ct:=⟨[.val cI],[.val cI],fun d=>[0<=d.1],fun d=>((oc d.1,()),())⟩
def Ri:ar Jc.ps->az:=(fun d=>{loops:=(fun n=>match n with|1=>some (fun S=>{ι:=Int,μ:=fun i=>i.toNat,inv:=fun i=>0<=i/\i<=9223372036854775807/\oc i=oc d.1,keep:=[],slots:=fun i=>[(0,.int .i64 i)],names:=fun i=>[]})|_=>none)})
theorem ag8 :
 ∀(a:Int),ab a/\True->0<=a->(∃(b:Int),(0<=b/\b<=9223372036854775807/\oc b=oc a)/\a=b/\True)/\ ∀(b:Int),0<=b/\b<=9223372036854775807/\oc b=oc a->ad (decide (65535<b)) ((0:Int)<=16/\ ∃(c:Int),(0<=c/\c<=9223372036854775807/\oc c=oc a)/\c.toNat<b.toNat/\IntKind.wrap .i64 (cT IntKind.i64 b (16:Int)+bits BinOp.and IntKind.i64 b (65535:Int))=c/\True) (b=oc a):=by
  rintro n ⟨⟨n0,n1⟩,-⟩ h
  refine⟨⟨n,⟨h,n1,rfl⟩,rfl,trivial⟩,?_⟩
  rintro m ⟨m0,m1,m2⟩
  refine ae (fun hm=>?_) (fun hm=>?_)
  ·have hm:=of_decide_eq_true hm
   have e:=vI (n:=m) (k:=2) m0 (by omega)
   have e2:(8:Int)*((2:Nat):Int)=16:=rfl
   rw[e2] at e
   rw[e,w7,ai (by omega) (by omega)]
   have e3:(256:Int)^2=65536:=rfl
   rw[e3]
   exact⟨by omega,_,⟨by omega,by omega,by rw[ai9 hm,m2]⟩,by omega,rfl,trivial⟩
  ·have hm:=of_decide_eq_false hm
   rw[← m2,ag4 m0 (by omega)]
theorem Zw:ax Tryz.prog GL 261 Jc.spec:=Ct.okH _ Tryz.func261 (by kernel_rfl) aD av Ri (aC (by kernel_rfl) ag8)
theorem VA{j:Int}(h0:0<=j)(h1:j<=9223372036854775807):bits .and .i64 j 1=j%2:=by
 obtain⟨m,rfl⟩:=Int.eq_ofNat_of_zero_le h0
 have key:(BitVec.ofInt 64 (m:Int) &&& BitVec.ofInt 64 1).toNat=m%2:=by
  rw[BitVec.toNat_and,BitVec.toNat_ofInt,show (BitVec.ofInt 64 1).toNat=1 from by decide]
  have e1:((m:Int)%((2^64:Nat):Int)).toNat=m:=by omega
  rw[e1,nat_mask1]
 show IntKind.i64.wrap ((BitVec.ofInt 64 (m:Int) &&& BitVec.ofInt 64 1).toNat:Nat)=_
 rw[key,ai (by omega) (by omega)];omega
theorem VI{n:Int}(h0:0<=n)(h1:n<=36028797018963967):de .i64 n (IntKind.wrap .i64 (8*IntKind.wrap .i64 (1-1)))=n:=by
 show IntKind.i64.wrap (n*2^(min 0 64))=_
 rw[ai (by simp;omega) (by simp;omega)];simp
def Py:Ct:=⟨[.val (.sl bj)],[.val cI],fun d=>[(d.1.length:Int)<=1099511627776],fun d=>((oc (aY true d.1),()),())⟩
def Vg:ar Py.ps->az:=(fun d=>{loops:=(fun n=>match n with|3=>some (fun S=>{ι:=Int×Int,qn:=⟨fun k_=>∀(j:Int)(n:Int),k_ (j,n),fun k_ h_ i=>h_ i.1 i.2,fun k_=>∃ (j:Int) (n:Int),k_ (j,n),fun k_ ⟨j,n,h_⟩=>⟨_,h_⟩⟩,μ:=fun i=>(d.1.length-i.1).toNat,inv:=fun i=>0<=i.1/\i.1<=d.1.length/\i.2=aY true (d.1.take i.1.toNat)/\0<=i.2/\i.2<=65280*i.1,keep:=[0,6,7],slots:=fun i=>[(3,.int .i64 i.2),(8,.int .i64 i.1)],names:=fun i=>[]})|_=>none)})
theorem P0 :
 ∀(a:List Int),(qA a)/\True->(cC a)<=1099511627776->(∃(b:Int) (c:Int),(0<=b/\b<=(cC a)/\c=aY true (List.take b.toNat a)/\0<=c/\c<=65280*b)/\a=a/\(0:Int)=c/\a=a/\(cC a)=(cC a)/\(0:Int)=b/\True)/\ ∀(b c:Int),0<=b/\b<=(cC a)/\c=aY true (List.take b.toNat a)/\0<=c/\c<=65280*b->ad (decide (b<(cC a))) (0<=b/\b<(cC a)/\0<=IntKind.wrap .i64 ((8:Int)*IntKind.wrap .i64 ((1:Int) -bits BinOp.and IntKind.i64 b (1:Int)))/\ ∃(d:Int) (e:Int),(0<=d/\d<=(cC a)/\e=aY true (List.take d.toNat a)/\0<=e/\e<=65280*d)/\Int.toNat ((cC a) -d)<Int.toNat ((cC a) -b)/\a=a/\IntKind.wrap .i64 (c+de IntKind.i64 (IntKind.wrap .i64 (a.getD b.toNat default)) (IntKind.wrap .i64 ((8:Int)*IntKind.wrap .i64 ((1:Int) -bits BinOp.and IntKind.i64 b (1:Int)))))=e/\a=a/\(cC a)=(cC a)/\IntKind.wrap .i64 (b+(1:Int))=d/\True) (0<=c/\oc c=oc (aY true a)):=by
  delta cC qA
  rintro l ⟨⟨-,hx⟩,-⟩ hl
  refine⟨⟨0,0,⟨by omega,by omega,by simp[aY],by omega,by omega⟩,(by repeat' first|exact trivial|refine⟨trivial,?_⟩|refine⟨(by with_reducible rfl),?_⟩|refine⟨ai (by omega) (by omega),?_⟩|refine⟨rfl,?_⟩)⟩,?_⟩
  rintro j n ⟨j0,j1,rfl,n0,n1⟩
  refine ae (fun hj=>?_) (fun hj=>?_)
  ·have hj:=of_decide_eq_true hj
   obtain⟨x0,x1⟩:=hx _ (bL j0 hj)
   have ht:=tu j0 hj
   have hs:=yE true (l.take j.toNat) [l.getD j.toNat default]
   rw[← ht] at hs
   generalize l.getD j.toNat default=x at *
   have hb:=VA j0 (by omega)
   rw[hb]
   have hlen:(l.take j.toNat).length=j.toNat:=by rw[List.length_take];omega
   rw[hlen] at hs
   have hv:0<=IntKind.wrap .i64 (8*IntKind.wrap .i64 (1-j%2))/\de .i64 (IntKind.wrap .i64 x) (IntKind.wrap .i64 (8*IntKind.wrap .i64 (1-j%2)))=(if j%2=0 then x*256 else x):=by
    rw[ai (n:=x) (by omega) (by omega)]
    by_cases he:j%2=0
    ·rw[he,if_pos rfl];exact⟨by decide,B3 x0 (by omega)⟩
    ·rw[show j%2=1 from by omega,if_neg (by decide)]
     exact⟨by decide,VI x0 (by omega)⟩
   rw[hv.2]
   refine⟨j0,hj,hv.1,j+1,aY true (l.take (j+1).toNat),⟨by omega,by omega,rfl,?_,?_⟩,by omega,rfl,?_,rfl,rfl,ai (by omega) (by omega),trivial⟩
   all_goals rw[hs]
   all_goals by_cases he:j%2=0
   all_goals first
    | rw[if_pos (show j.toNat%2=0 by omega)]
    | rw[if_neg (show ¬ j.toNat%2=0 by omega)]
   all_goals simp only[aY,he,if_true,if_false,Bool.not_true,Bool.false_eq_true]
   all_goals try omega
   all_goals rw[ai (by omega) (by omega)]
   all_goals omega
  ·have hj:=of_decide_eq_false hj
   rw[List.take_of_length_le (by omega)] at n0 ⊢
   exact⟨n0,rfl⟩
theorem TF:ax Tryz.prog GL 239 Py.spec:=Ct.okH _ Tryz.func239 (by kernel_rfl) (ah aD Zw) av Vg (aC (by kernel_rfl) P0)
def Mh:Ct:=⟨[.val (.sl bj)],[.val cI],fun d=>[(d.1.length:Int)<=1099511627776],fun d=>((65535-oc (aY true d.1),()),())⟩
def af5:ar Mh.ps->az:=(fun _=>{})
def A5(a:List Int) :=
 (qA a)/\True->(cC a)<=1099511627776->(cC a)<=1099511627776/\IntKind.wrap .i64 ((65535:Int) -oc (aY true a))=65535 -oc (aY true a)
theorem Ut :
 ∀(a:List Int),(A5 a):=by
  delta A5 cC qA
  rintro l ⟨⟨-,hx⟩,-⟩ hl
  have:=rO (vx true l hx).1
  exact⟨hl,ai (by omega) (by omega)⟩
theorem uM:ax Tryz.prog GL 209 Mh.spec:=Ct.okH _ Tryz.func209 (by kernel_rfl) (ah aD TF) av af5 (aC (by kernel_rfl) Ut)
def O8:Ct:=⟨[.val (.sl bj),.val cI,.val cI],[.own 5 bj,.val cI],fun d=>[(d.1.length:Int)<=1099511627776],fun d=>((bG d.1 d.2.1 d.2.2.1,nY d.2.1 d.2.2.1,()),())⟩
def QC:ar O8.ps->az:=(fun d=>{loops:=(fun n=>match n with|5=>some (fun S=>{ι:=Int×(List Int),qn:=⟨fun k_=>∀(k:Int)(ys:(List Int)),k_ (k,ys),fun k_ h_ i=>h_ i.1 i.2,fun k_=>∃ (k:Int) (ys:(List Int)),k_ (k,ys),fun k_ ⟨k,ys,h_⟩=>⟨_,h_⟩⟩,μ:=fun i=>(d.2.2.1-i.1).toNat,inv:=fun i=>0<=i.1/\i.1<=d.2.2.1/\i.2=d.1++iy d.2.1 d.2.2.1.toNat i.1.toNat,keep:=[1,2],slots:=fun i=>[(8,.own 524288 1),(9,.int .i64 (d.2.2.1-1-i.1))],names:=fun i=>[(524288,.live (.row 5 bj i.2))]})|_=>none)})
theorem X4 :
 ∀(a:List Int)(b c:Int),(n6 a)/\ab b/\ab c/\True->(cC a)<=1099511627776-> ∀(d:Bool),d=decide (c<1)->((! d)->((! d)->(! d))/\True)/\(d=false->(! d))/\ ∀(e:Bool),(e=bif d then true else decide (7<c))->((! e)->((! e)->(! e))/\True)/\(e=false->(! e))/\ ∀(f:Bool),(f=bif e then true else decide (b<0))->((! f)->((! f)->(! f))/\True)/\((! f)->((! f)->(! f))/\0<=IntKind.wrap .i64 ((8:Int)*c)/\True)/\(ta f)/\(f=false->(! f))/\ad (bif f then true else decide (de IntKind.i64 (1:Int) (IntKind.wrap .i64 ((8:Int)*c))<=b)) (([]:List Int)=bG a b c/\(1:Int)=nY b c) (a.length*(1:Nat)<=(140737488355328:Nat)/\(∃(g:Int) (h:List Int),(0<=g/\g<=c/\h=a++iy b c.toNat g.toNat)/\b=b/\c=c/\IntKind.wrap .i64 (c -(1:Int))=c -(1:Int) -g/\a=h/\True)/\ ∀(g:Int)(h:List Int),0<=g/\g<=c/\h=a++iy b c.toNat g.toNat->ad (decide (0<=c -(1:Int) -g)) (0<=IntKind.wrap .i64 ((8:Int)*(c -(1:Int)
 -g))/\(h.length+List.length [IntKind.wrap .u8 (cT IntKind.i64 b (IntKind.wrap .i64 ((8:Int)*(c -(1:Int) -g))))])*(1:Nat)<=(140737488355328:Nat)/\ ∃(i:Int) (j:List Int),(0<=i/\i<=c/\j=a++iy b c.toNat i.toNat)/\Int.toNat (c -i)<Int.toNat (c -g)/\b=b/\c=c/\IntKind.wrap .i64 (c -(1:Int) -g -(1:Int))=c -(1:Int) -i/\h++[IntKind.wrap .u8 (cT IntKind.i64 b (IntKind.wrap .i64 ((8:Int)*(c -(1:Int) -g))))]=j/\True) (h=bG a b c/\(0:Int)=nY b c)):=by
  delta cC n6 ta
  rintro b n w ⟨-,⟨n0,n1⟩,⟨w0,w1⟩,-⟩ hl
  rintro b1 rfl
  refine⟨by simp,by simp,?_⟩
  rintro b1 rfl
  refine⟨by simp,by simp,?_⟩
  rintro b1 rfl
  have hpre:(!(bif (bif decide (w<1) then true else decide (7<w)) then true else decide (n<0)))=true->1<=w/\w<=7/\0<=n:=by
   simp[Bool.cond_eq_ite];omega
  refine⟨by simp,fun h=>⟨fun _=>h,by have:=hpre h;rw[ai (by omega) (by omega)];omega,trivial⟩,fun h=>⟨fun _=>h,fun _=>h,trivial⟩,by simp,?_⟩
  refine ae (fun hc=>?_) (fun hc=>?_)
  ·have hbad:lG n w:=by
    unfold lG
    by_cases h:1<=w/\w<=7
    ·rw[Bl h.1 h.2] at hc
     simp[Bool.cond_eq_ite] at hc;omega
    ·omega
   rw[bG,nY,if_pos hbad,if_pos hbad];exact⟨rfl,rfl⟩
  ·have hw:1<=w/\w<=7/\0<=n:=hpre (by
    cases h:(bif (bif decide (w<1) then true else decide (7<w)) then true else decide (n<0)) with
    | false=>rfl
    | true=>rw[h] at hc;simp at hc)
   obtain⟨h1,h7,hn⟩:=hw
   rw[Bl h1 h7] at hc
   have hgood:¬ lG n w:=by
    unfold lG
    simp[Bool.cond_eq_ite] at hc;omega
   rw[bG,nY,if_neg hgood,if_neg hgood]
   refine⟨by omega,⟨0,b,⟨by omega,by omega,by simp[iy]⟩,rfl,rfl,by rw[ai (by omega) (by omega)];omega,rfl,trivial⟩,?_⟩
   rintro k ys ⟨k0,k1,rfl⟩
   refine ae (fun hk=>?_) (fun hk=>?_)
   ·have hk:=of_decide_eq_true hk
    rw[ai (n:=8*(w-1-k)) (by omega) (by omega)]
    obtain⟨j,hj⟩:=Int.eq_ofNat_of_zero_le (show 0<=w-1-k by omega)
    rw[hj,vI hn (by omega),IntKind.wrap_u8']
    have hbl:=Ix n w.toNat k.toNat
    refine⟨by omega,by simp only[List.length_append,List.length_singleton,hbl];omega,k+1,_,⟨by omega,by omega,rfl⟩,by omega,rfl,rfl,by rw[ai (by omega) (by omega)];omega,?_,trivial⟩
    rw[show (k+1).toNat=k.toNat+1 from by omega,IY,List.append_assoc,show w.toNat-1-k.toNat=j from by omega]
   ·have hk:=of_decide_eq_false hk
    rw[show k=w from by omega];exact⟨rfl,rfl⟩
theorem UA:ax Tryz.prog GL 195 O8.spec:=Ct.okH _ Tryz.func195 (by kernel_rfl) aD av QC (aC (by kernel_rfl) X4)
def OW:Ct:=⟨[.val (.sl bj),.val cI,.val cI],[.own 5 bj],fun d=>[(d.1.length:Int)<=1099511627776],fun d=>((bG d.1 d.2.1 d.2.2.1,()),())⟩
def X3:ar OW.ps->az:=(fun _=>{})
theorem ae3 :
 ∀(a:List Int)(b c:Int),(n6 a)/\ab b/\ab c/\True->(cC a)<=1099511627776->(cC a)<=1099511627776/\bG a b c=bG a b c:=by
  delta cC n6
  intro b n w _ h
  exact⟨h,rfl⟩
theorem vL:ax Tryz.prog GL 143 OW.spec:=Ct.okH _ Tryz.func143 (by kernel_rfl) (ah aD UA) av X3 (aC (by kernel_rfl) ae3)
def OJ:Ct:=⟨[.val (.sl bj),.val cI,.val cI],[.val cI,.val cI],fun d=>[(d.1.length:Int)<=1099511627776],fun d=>((dO d.1 d.2.1 d.2.2.1,pL d.1 d.2.1 d.2.2.1,()),())⟩
def U4:ar OJ.ps->az:=(fun d=>{loops:=(fun n=>match n with|7=>some (fun S=>{ι:=Int×Int,qn:=⟨fun k_=>∀(j:Int)(n:Int),k_ (j,n),fun k_ h_ i=>h_ i.1 i.2,fun k_=>∃ (j:Int) (n:Int),k_ (j,n),fun k_ ⟨j,n,h_⟩=>⟨_,h_⟩⟩,μ:=fun i=>(d.2.2.1-i.1).toNat,inv:=fun i=>0<=i.1/\i.1<=d.2.2.1/\i.2=dH (((d.1.drop d.2.1.toNat).take d.2.2.1.toNat).take i.1.toNat),keep:=[0,1,2],slots:=fun i=>[(8,.int .i64 i.2),(9,.int .i64 i.1)],names:=fun i=>[]})|_=>none)})
theorem ae4 :
 ∀(a:List Int)(b c:Int),(n6 a)/\ab b/\ab c/\True->(cC a)<=1099511627776-> ∀(d:Bool),d=decide (c<1)->((! d)->((! d)->(! d))/\True)/\(d=false->(! d))/\ ∀(e:Bool),(e=bif d then true else decide (7<c))->((! e)->((! e)->(! e))/\True)/\(e=false->(! e))/\ad (bif e then true else decide (b<0)) ((0:Int)=dO a b c/\(1:Int)=pL a b c) (∀(f:Bool),f=decide ((cC a)<b)->((! f)->((! f)->(! f))/\True)/\(ta f)/\(ta f)/\(f=false->(! f))/\ad (bif f then true else decide (IntKind.wrap .i64 ((cC a) -b)<c)) ((0:Int)=dO a b c/\(3:Int)=pL a b c) ((∃(g:Int) (h:Int),(0<=g/\g<=c/\h=dH (List.take g.toNat (rx a b c)))/\a=a/\b=b/\c=c/\(0:Int)=h/\(0:Int)=g/\True)/\ ∀(g h:Int),0<=g/\g<=c/\h=dH (List.take g.toNat (rx a b c))->ad (decide (g<c)) ((0:Int)<=8/\0<=IntKind.wrap .i64 (b+g)/\IntKind.wrap .i64 (b+g)<(cC a)/\ ∃(i:Int) (j:Int),(0<=i/\i<=c/\j=dH (List.take i.toNat (rx a b
 c)))/\Int.toNat (c -i)<Int.toNat (c -g)/\a=a/\b=b/\c=c/\bits BinOp.or IntKind.i64 (de IntKind.i64 h (8:Int)) (IntKind.wrap .i64 (a.getD (Int.toNat (IntKind.wrap .i64 (b+g))) default))=j/\IntKind.wrap .i64 (g+(1:Int))=i/\True) (h=dO a b c/\(0:Int)=pL a b c))):=by
  delta cC n6 rx ta
  rintro b a w ⟨⟨hl0,hx⟩,⟨a0,a1⟩,⟨w0,w1⟩,-⟩ hl
  rintro b1 rfl
  refine⟨by simp,by simp,?_⟩
  rintro b1 rfl
  refine⟨by simp,by simp,?_⟩
  unfold dO pL
  refine ae (fun hc=>?_) (fun hc=>?_)
  ·have h:w<1∨7<w∨a<0:=by simp[Bool.cond_eq_ite] at hc;omega
   rw[if_pos (by omega),if_pos h];exact⟨rfl,rfl⟩
  have h:¬ (w<1∨7<w∨a<0):=by simp[Bool.cond_eq_ite] at hc;omega
  rintro b1 rfl
  refine⟨by simp,by simp,by simp,by simp,?_⟩
  rw[ai (n:=(b.length:Int)-a) (by omega) (by omega),if_neg h]
  refine ae (fun hd=>?_) (fun hd=>?_)
  ·have hd:b.length<a∨b.length-a<w:=by simp[Bool.cond_eq_ite] at hd;omega
   rw[if_pos (by omega),if_pos (by omega)];exact⟨rfl,rfl⟩
  have hd:¬ (b.length<a∨b.length-a<w):=by simp[Bool.cond_eq_ite] at hd;omega
  rw[if_neg (by omega),if_neg (by omega)]
  have hlen:((b.drop a.toNat).take w.toNat).length=w.toNat:=by rw[List.length_take,List.length_drop];omega
  have hy:∀ y∈(b.drop a.toNat).take w.toNat,0<=y/\y<=255:=fun y hy=>hx y (List.mem_of_mem_drop (List.mem_of_mem_take hy))
  have hget:∀ j:Int,0<=j->j<w->b.getD (a+j).toNat default=((b.drop a.toNat).take w.toNat).getD j.toNat default:=by
   intro j j0 j1
   rw[List.getD_eq_getElem?_getD,List.getD_eq_getElem?_getD,List.getElem?_take,if_pos (by omega),List.getElem?_drop]
   congr 2;omega
  generalize (b.drop a.toNat).take w.toNat=m at *
  refine⟨⟨0,0,⟨by omega,by omega,by simp[dH]⟩,(by repeat' first|exact trivial|refine⟨trivial,?_⟩|refine⟨(by with_reducible rfl),?_⟩|refine⟨ai (by omega) (by omega),?_⟩|refine⟨rfl,?_⟩)⟩,?_⟩
  rintro j n ⟨j0,j1,rfl⟩
  refine ae (fun hj=>?_) (fun hj=>?_)
  ·have hj:=of_decide_eq_true hj
   have ht:=tu (l:=m) j0 (by omega)
   obtain⟨x0,x1⟩:=hy _ (bL (xs:=m) j0 (by omega))
   have hb:=LH (l:=m.take j.toNat) (by rw[List.length_take];omega) (fun y h=>hy y (List.mem_of_mem_take h))
   rw[ai (n:=a+j) (by omega) (by omega),hget j j0 hj]
   refine⟨by omega,by omega,by omega,j+1,_,⟨by omega,by omega,rfl⟩,by omega,rfl,rfl,rfl,?_,ai (by omega) (by omega),trivial⟩
   rw[ht,DZ,Dt hb.1 (by omega) x0 x1]
  ·have hj:=of_decide_eq_false hj
   rw[List.take_of_length_le (by omega)];exact⟨rfl,rfl⟩
theorem Z9:ax Tryz.prog GL 197 OJ.spec:=Ct.okH _ Tryz.func197 (by kernel_rfl) aD av U4 (aC (by kernel_rfl) ae4)
def Lf:Ct:=⟨[.val (.sl bj),.val cI,.val cI],[.val cI],fun d=>[(d.1.length:Int)<=1099511627776],fun d=>((dO d.1 d.2.1 d.2.2.1,()),())⟩
def Uf:ar Lf.ps->az:=(fun _=>{})
theorem aq2 :
 ∀(a:List Int)(b c:Int),(n6 a)/\ab b/\ab c/\True->(cC a)<=1099511627776->(cC a)<=1099511627776/\dO a b c=dO a b c:=by
  delta cC n6
  intro b n w _ h
  exact⟨h,rfl⟩
theorem Qx:ax Tryz.prog GL 145 Lf.spec:=Ct.okH _ Tryz.func145 (by kernel_rfl) (ah aD Z9) av Uf (aC (by kernel_rfl) aq2)
def K1:Ct:=⟨[.val cI],[.val .bool],fun d=>[],fun d=>((bV d.1,()),())⟩
def Vl:ar K1.ps->az:=(fun _=>{})
theorem SE :
 ∀(a:Int),ab a/\True->True-> ∀(b:Bool),b=decide (0<=a)->(b->(b->b)/\True)/\(b->b)/\(bif b then decide (a<=65535) else false)=bV a:=by
  rintro n - -
  (repeat (intro (b_:Bool) (hb_:b_=_);(repeat refine⟨(by first|(simp;done)|(rw[hb_];simp;done)|(rw[hb_];simp;omega)|(rw[hb_];simp;intros;omega)|(rw[hb_];simp +contextual;done)),?_⟩);subst hb_))
  unfold bV
  by_cases h:0<=n <;> simp[h]
theorem av1:ax Tryz.prog GL 237 K1.spec:=Ct.okH _ Tryz.func237 (by kernel_rfl) aD av Vl (aC (by kernel_rfl) SE)
def Oy:Ct:=⟨[.val cI,.val cI],[.val cI],fun d=>[],fun d=>((if bV d.1&&bV d.2.1 then oc (d.1+d.2.1) else 0,()),())⟩
def To:ar Oy.ps->az:=(fun _=>{})
theorem Z4 :
 ∀(a b:Int),ab a/\ab b/\True->True-> ∀(c:Bool),c= ! bV a->((! c)->((! c)->(! c))/\True)/\((! c)->((! c)->(! c))/\True)/\(c=false->(! c))/\ad (bif c then true else ! bV b) ((0:Int)=if (bV a&&bV b)=true then oc (a+b) else (0:Int)) ((0:Int)<=16/\IntKind.wrap .i64 (bits BinOp.and IntKind.i64 (IntKind.wrap .i64 (a+b)) (65535:Int)+cT IntKind.i64 (IntKind.wrap .i64 (a+b)) (16:Int))=if (bV a&&bV b)=true then oc (a+b) else (0:Int)):=by
  rintro a b - -
  (repeat (intro (b_:Bool) (hb_:b_=_);(repeat refine⟨(by first|(simp;done)|(rw[hb_];simp;done)|(rw[hb_];simp;omega)|(rw[hb_];simp;intros;omega)|(rw[hb_];simp +contextual;done)),?_⟩);subst hb_))
  refine ae (fun hc=>?_) (fun hc=>?_)
  ·rw[if_neg]
   intro h;simp at h;simp[h] at hc
  ·have hw:bV a=true/\bV b=true:=by simpa[Bool.cond_eq_ite] using hc
   rw[if_pos (by simp[hw])]
   have ha:0<=a/\a<=65535:=of_decide_eq_true hw.1
   have hb:0<=b/\b<=65535:=of_decide_eq_true hw.2
   rw[ai (n:=a+b) (by omega) (by omega)]
   have e:=vI (n:=a+b) (k:=2) (by omega) (by omega)
   have e2:(8:Int)*((2:Nat):Int)=16:=rfl
   have e3:(256:Int)^2=65536:=rfl
   rw[e2,e3] at e
   rw[e,w7,ai (by omega) (by omega)]
   refine⟨by omega,?_⟩
   unfold oc;split <;> omega
theorem Li:ax Tryz.prog GL 196 Oy.spec:=Ct.okH _ Tryz.func196 (by kernel_rfl) (ah aD av1) av To (aC (by kernel_rfl) Z4)
def Lq:Ct:=⟨[.val (.sl bj)],[.val cI],fun d=>[(d.1.length:Int)<=1099511627776],fun d=>((oc (aY true d.1),()),())⟩
def XQ:ar Lq.ps->az:=(fun d=>{loops:=(fun n=>match n with|3=>some (fun S=>{ι:=Int×Int,qn:=⟨fun k_=>∀(k:Int)(s:Int),k_ (k,s),fun k_ h_ i=>h_ i.1 i.2,fun k_=>∃ (k:Int) (s:Int),k_ (k,s),fun k_ ⟨k,s,h_⟩=>⟨_,h_⟩⟩,μ:=fun i=>(d.1.length+1-2*i.1).toNat,inv:=fun i=>0<=i.1/\2*i.1<=d.1.length+1/\i.2=oc (aY true (d.1.take (2*i.1).toNat))/\0<=i.2/\i.2<=65535,keep:=[0],slots:=fun i=>[(3,.int .i64 i.2),(4,.int .i64 (2*i.1))],names:=fun i=>[]})|_=>none)})
def F0(a:List Int)(b:Int) :=
 de IntKind.i64 (IntKind.wrap .i64 (a.getD (Int.toNat ((2:Int)*b)) default)) (8:Int)+IntKind.wrap .i64 (a.getD (Int.toNat (IntKind.wrap .i64 ((2:Int)*b+(1:Int)))) default)
def EU(a:List Int)(d e:Int) :=
 0<=d/\(2:Int)*d<=(cC a)+(1:Int)/\e=oc (aY true (List.take (Int.toNat ((2:Int)*d)) a))/\0<=e/\e<=65535
theorem W9 :
 ∀(a:List Int),(qA a)/\True->(cC a)<=1099511627776->(∃(b:Int) (c:Int),(0<=b/\(2:Int)*b<=(cC a)+(1:Int)/\c=oc (aY true (List.take (Int.toNat ((2:Int)*b)) a))/\0<=c/\c<=65535)/\a=a/\(0:Int)=c/\(0:Int)=2*b/\True)/\ ∀(b c:Int),0<=b/\(2:Int)*b<=(cC a)+(1:Int)/\c=oc (aY true (List.take (Int.toNat ((2:Int)*b)) a))/\0<=c/\c<=65535->ad (decide ((2:Int)*b<(cC a))) ((0:Int)<=2*b/\(2:Int)*b<(cC a)/\(0:Int)<=8/\ad (decide (IntKind.wrap .i64 ((2:Int)*b+(1:Int))<(cC a))) (0<=IntKind.wrap .i64 ((2:Int)*b+(1:Int))/\IntKind.wrap .i64 ((2:Int)*b+(1:Int))<(cC a)/\ ∃(d:Int) (e:Int),(EU a d e)/\Int.toNat ((cC a)+(1:Int) -(2:Int)*d)<Int.toNat ((cC a)+(1:Int) -(2:Int)*b)/\a=a/\(if (bV c&&bV (IntKind.wrap .i64 (F0 a b)))=true then oc (c+IntKind.wrap .i64 (F0 a b)) else (0:Int))=e/\IntKind.wrap .i64 ((2:Int)*b+(2:Int))=2*d/\True) (∃(d:Int) (e:Int),(EU a d e)/\Int.toNat
 ((cC a)+(1:Int) -(2:Int)*d)<Int.toNat ((cC a)+(1:Int) -(2:Int)*b)/\a=a/\(if (bV c&&bV (de IntKind.i64 (IntKind.wrap .i64 (a.getD (Int.toNat ((2:Int)*b)) default)) (8:Int)))=true then oc (c+de IntKind.i64 (IntKind.wrap .i64 (a.getD (Int.toNat ((2:Int)*b)) default)) (8:Int)) else (0:Int))=e/\IntKind.wrap .i64 ((2:Int)*b+(2:Int))=2*d/\True)) (c=oc (aY true a)):=by
  delta cC F0 qA EU
  rintro l ⟨⟨-,hx⟩,-⟩ hl
  refine⟨⟨0,0,⟨by omega,by omega,by simp[aY,oc],by omega,by omega⟩,(by repeat' first|exact trivial|refine⟨trivial,?_⟩|refine⟨(by with_reducible rfl),?_⟩|refine⟨ai (by omega) (by omega),?_⟩|refine⟨rfl,?_⟩)⟩,?_⟩
  rintro k s ⟨k0,k1,rfl,s0,s1⟩
  have hr:=vx true (l.take (2*k).toNat) (fun y h=>hx y (List.mem_of_mem_take h))
  refine ae (fun hk=>?_) (fun hk=>?_)
  ·have hk:=of_decide_eq_true hk
   obtain⟨x0,x1⟩:=hx _ (bL (xs:=l) (i:=2*k) (by omega) hk)
   have ht:=tu (l:=l) (j:=2*k) (by omega) hk
   have hlen:(l.take (2*k).toNat).length%2=0:=by rw[List.length_take];omega
   have hs:=yE true (l.take (2*k).toNat)
   rw[if_pos hlen] at hs
   rw[ai (n:=2*k+1) (by omega) (by omega),ai (n:=l.getD (2*k).toNat default) (by omega) (by omega),B3 x0 (by omega),ai (n:=2*k+2) (by omega) (by omega)]
   refine⟨by omega,hk,by omega,ae (fun hc=>?_) (fun hc=>?_)⟩
   ·have hc:=of_decide_eq_true hc
    obtain⟨y0,y1⟩:=hx _ (bL (xs:=l) (i:=2*k+1) (by omega) hc)
    have ht2:=tu (l:=l) (j:=2*k+1) (by omega) hc
    rw[ht,List.append_assoc] at ht2
    rw[ai (n:=l.getD (2*k+1).toNat default) (by omega) (by omega),ai (n:=l.getD (2*k).toNat default*256+l.getD (2*k+1).toNat default) (by omega) (by omega)]
    rw[if_pos (by simp only[bV,Bool.and_eq_true,decide_eq_true_eq];omega),Jx hr.1 (by omega)]
    have he:aY true (l.take (2*(k+1)).toNat)=aY true (l.take (2*k).toNat)+(l.getD (2*k).toNat default*256+l.getD (2*k+1).toNat default):=by
     rw[show 2*(k+1)=2*k+1+1 from by omega,ht2,hs]
     simp[aY]
    refine⟨by omega,hc,k+1,_,⟨by omega,by omega,rfl,?_,?_⟩,by omega,rfl,by rw[he],by omega,trivial⟩
    ·rw[he];exact (rO (by omega)).1
    ·rw[he];exact (rO (by omega)).2
   ·have hc:=of_decide_eq_false hc
    rw[if_pos (by simp only[bV,Bool.and_eq_true,decide_eq_true_eq];omega),Jx hr.1 (by omega)]
    have he:aY true (l.take (2*(k+1)).toNat)=aY true (l.take (2*k).toNat)+l.getD (2*k).toNat default*256:=by
     rw[show l.take (2*(k+1)).toNat=l.take (2*k+1).toNat from by rw[List.take_of_length_le (by omega),List.take_of_length_le (by omega)],ht,hs]
     simp[aY]
    refine⟨k+1,_,⟨by omega,by omega,rfl,?_,?_⟩,by omega,rfl,by rw[he],by omega,trivial⟩
    ·rw[he];exact (rO (by omega)).1
    ·rw[he];exact (rO (by omega)).2
  ·have hk:=of_decide_eq_false hk
   rw[List.take_of_length_le (by omega)]
theorem ai3:ax Tryz.prog GL 236 Lq.spec:=Ct.okH _ Tryz.func236 (by kernel_rfl) (ah aD Li) av XQ (aC (by kernel_rfl) W9)
def GZ:Ct:=⟨[.val (.sl bj)],[.val cI],fun d=>[(d.1.length:Int)<=1099511627776],fun d=>((65535-oc (aY true d.1),()),())⟩
def SI:ar GZ.ps->az:=(fun _=>{})
theorem Tr :
 ∀(a:List Int),(A5 a):=by
  delta A5 cC qA
  rintro l ⟨⟨-,hx⟩,-⟩ hl
  have:=rO (vx true l hx).1
  exact⟨hl,ai (by omega) (by omega)⟩
theorem FX:ax Tryz.prog GL 192 GZ.spec:=Ct.okH _ Tryz.func192 (by kernel_rfl) (ah aD ai3) av SI (aC (by kernel_rfl) Tr)
end Go.RS

/- Transp: messages of three protocols. -/
namespace Go.RS
open Go.SX Go.Proofs
set_option maxRecDepth 100000
set_option linter.unusedVariables false
abbrev ET:CT := .pair .bool (.pair cI (.pair cI (.sl bj)))
abbrev aa8:CT := .pair cI (.pair cI (.sl bj))
abbrev OS:CT := .pair cI (.pair cI (.sl bj))
abbrev xP:CT := .pair cI (.pair cI (.pair cI (.pair cI (.pair cI (.pair cI (.sl bj))))))
abbrev kX:Type:=Bool×Int×Int×List Int
abbrev mD:Type:=Int×Int×List Int
abbrev nI:Type:=Int×Int×List Int
abbrev jL:Type:=Int×Int×Int×Int×Int×Int×List Int
def cE(lim:Int)(l:List Int):Bool:=l.all fun n=>decide (0<=n/\n<=lim)
def w2(n:Int):List Int:=[n/256%256,n%256]
def w4(n:Int):List Int:=[n/16777216%256,n/65536%256,n/256%256,n%256]
def ci(b:List Int):Int:=65535-oc (aY true b)
def bJ(b:List Int)(at':Nat)(n:Int):List Int:=(b.set at' (n/256%256)).set (at'+1) (n%256)
def aG(b:List Int)(at':Nat):Int:=dH ((b.drop at').take 2)
def My:Ct:=⟨[.val cI,.box 3 cI],[.val .bool],fun _=>[],fun d=>((decide (d.1<0∨d.2.1<d.1),()),(d.2.1,()))⟩
def ag7:ar My.ps->az:=(fun _=>{})
theorem ac1 :
 ∀(a b:Int),ab a/\ab b/\True->True-> ∀(c:Bool),c=decide (a<0)->((! c)->((! c)->(! c))/\((! c)->(! c))/\True)/\(c=false->(! c))/\(bif c then true else decide (b<a))=decide (a<0∨b<a)/\b=b:=by
  rintro n lim - -
  rintro b rfl
  refine⟨by simp,by simp,?_,rfl⟩
  rw[Bool.cond_eq_ite]
  by_cases h:n<0 <;> simp[h]
theorem RB:ax Tryz.prog GL 263 My.spec:=Ct.okH _ Tryz.func263 (by kernel_rfl) aD av ag7 (aC (by kernel_rfl) ac1)
def IA:Cn:=⟨[.val (.sl cI),.fn 263 1,.box 3 cI],[.val cI],fun _=>[],fun d y=>y.2.1=d.2.2.1 ∧ -1<=y.1.1/\(y.1.1 = -1↔cE d.2.2.1 d.1=true),fun d h=>⟨((if cE d.2.2.1 d.1=true then -1 else 0,()),(d.2.2.1,())),rfl,by by_cases h:cE d.2.2.1 d.1=true <;> simp[h]⟩⟩
def ad4:ar IA.ps->az:=(fun d=>{loops:=(fun n=>match n with|2=>some (fun S=>{ι:=Int,μ:=fun i=>(d.1.length-i).toNat,inv:=fun i=>0<=i/\i<=d.1.length/\cE d.2.2.1 (d.1.take i.toNat)=true,keep:=[0,1,6,7],slots:=fun i=>[(8,.int .i64 i)],keepN:=[1048576],names:=fun i=>[]})|_=>none)})
def cA(a:List Int) :=
 (a.length:Int)
theorem VM :
 ∀(a:List Int)(b:Int),(a.length<=maxLen/\ ∀(c:Int),c∈a->ab c)/\True/\ab b/\True->True->(∃(c:Int),(0<=c/\c<=(cA a)/\cE b (List.take c.toNat a)=true)/\a=a/\a=a/\(cA a)=(cA a)/\(0:Int)=c/\b=b/\True)/\ ∀(c:Int),0<=c/\c<=(cA a)/\cE b (List.take c.toNat a)=true->ad (decide (c<(cA a))) (0<=c/\c<(cA a)/\ad (decide (a.getD c.toNat default<0∨b<a.getD c.toNat default)) (b=b/\ -1<=c/\(c= -1↔cE b a=true)) (∃(d:Int),(0<=d/\d<=(cA a)/\cE b (List.take d.toNat a)=true)/\Int.toNat ((cA a) -d)<Int.toNat ((cA a) -c)/\a=a/\a=a/\(cA a)=(cA a)/\IntKind.wrap .i64 (c+(1:Int))=d/\b=b/\True)) (b=b/\(-1:Int)<= -1/\((-1:Int)= -1↔cE b a=true)):=by
  delta cA
  rintro l lim ⟨⟨hl,-⟩,-⟩ -
  simp only[maxLen] at hl
  refine⟨⟨0,⟨by omega,by omega,by simp[cE]⟩,(by repeat' first|exact trivial|refine⟨trivial,?_⟩|refine⟨(by with_reducible rfl),?_⟩|refine⟨ai (by omega) (by omega),?_⟩|refine⟨rfl,?_⟩)⟩,?_⟩
  rintro j ⟨j0,j1,j2⟩
  refine ae (fun hj=>?_) (fun hj=>?_)
  ·have hj:=of_decide_eq_true hj
   have ht:=tu j0 hj
   have hm:=bL (xs:=l) j0 hj
   generalize l.getD j.toNat default=x at *
   refine⟨j0,hj,ae (fun hb=>?_) (fun hb=>?_)⟩
   ·have hb:=of_decide_eq_true hb
    refine⟨rfl,by omega,⟨fun h=>by omega,fun h=>?_⟩⟩
    unfold cE at h
    have:=of_decide_eq_true (List.all_eq_true.1 h x hm)
    omega
   ·have hb:=of_decide_eq_false hb
    refine⟨j+1,⟨by omega,by omega,?_⟩,by omega,(by repeat' first|exact trivial|refine⟨trivial,?_⟩|refine⟨(by with_reducible rfl),?_⟩|refine⟨ai (by omega) (by omega),?_⟩|refine⟨rfl,?_⟩)⟩
    rw[ht];unfold cE at j2 ⊢
    rw[List.all_append,j2];simp;omega
  ·have hj:=of_decide_eq_false hj
   rw[List.take_of_length_le (by omega)] at j2
   simp[j2]
theorem SB:ax Tryz.prog GL 282 IA.spec:=Cn.okH _ Tryz.func282 (by kernel_rfl) (ah aD RB) av ad4 (aC (by kernel_rfl) VM)
def ID:Ct:=⟨[.val (.sl cI),.fn 263 1,.box 3 cI],[.val .bool],fun _=>[],fun d=>((!cE d.2.2.1 d.1,()),(d.2.2.1,()))⟩
def WT:ar ID.ps->az:=(fun _=>{})
theorem Yj :
 ∀(a:List Int)(b:Int),(a.length<=maxLen/\ ∀(c:Int),c∈a->ab c)/\True/\ab b/\True->True-> ∀(c d:Int),d=b/\ -1<=c/\(c= -1↔cE b a=true)->decide (0<=c)= ! cE b a/\d=b:=by
  rintro l lim - - i b ⟨rfl,h1,h2⟩
  refine⟨?_,rfl⟩
  cases h:cE b l with
  | true=>rw[h2.2 h];rfl
  | false =>
   have:¬ i = -1:=fun e=>by rw[h2.1 e] at h;cases h
   simp;omega
theorem Y7:ax Tryz.prog GL 262 ID.spec:=Ct.okH _ Tryz.func262 (by kernel_rfl) (ah aD SB) av WT (aC (by kernel_rfl) Yj)
def Jn:Ct:=⟨[.val cI,.val (.sl cI)],[.val .bool],fun _=>[],fun d=>((cE d.1 d.2.1,()),())⟩
def VD:ar Jn.ps->az:=(fun _=>{})
theorem as6 :
 ∀(a:Int)(b:List Int),ab a/\(b.length<=maxLen/\ ∀(c:Int),c∈b->ab c)/\True->True->(!! cE a b)=cE a b:=by
  rintro lim l - -
  simp
theorem z9:ax Tryz.prog GL 241 Jn.spec:=Ct.okH _ Tryz.func241 (by kernel_rfl) (ah aD Y7) av VD (aC (by kernel_rfl) as6)
theorem VN(l:List Int):(l.flatMap w2).length=2*l.length:=by
 induction l with
 | nil=>rfl
 | cons x l ih=>rw[List.flatMap_cons,List.length_append,ih,List.length_cons];simp[w2];omega
theorem VW(n:Int):iy n 2 2=w2 n:=by
 simp[iy,w2,List.range,List.range.loop]
theorem Tt(n:Int):iy n 4 4=w4 n:=by
 simp[iy,w4,List.range,List.range.loop]
theorem UE(n:Int):iy n 1 1=[n%256]:=by
 simp[iy,List.range,List.range.loop]
theorem gO{b:List Int}{n:Int}(h0:0<=n)(h1:n<=65535):bG b n 2=b++w2 n:=by
 rw[bG,if_neg,← VW]
 ·rfl
 ·unfold lG
  have:(256:Int)^(2:Int).toNat=65536:=rfl
  rw[this];omega
theorem rV{b:List Int}{n:Int}(h0:0<=n)(h1:n<=4294967295):bG b n 4=b++w4 n:=by
 rw[bG,if_neg,← Tt]
 ·rfl
 ·unfold lG
  have:(256:Int)^(4:Int).toNat=4294967296:=rfl
  rw[this];omega
theorem p8{b:List Int}{n:Int}(h0:0<=n)(h1:n<=255):bG b n 1=b++[n]:=by
 rw[bG,if_neg,show iy n (1:Int).toNat (1:Int).toNat=[n] from by
  have:=UE n
  rw[Int.emod_eq_of_lt h0 (by omega)] at this
  exact this]
 unfold lG
 have:(256:Int)^(1:Int).toNat=256:=rfl
 rw[this];omega
def M4:Ct:=⟨[.nils,.val (.sl cI)],[.own 5 bj],fun d=>[cE 65535 d.2.1=true,(d.2.1.length:Int)<=1073741824],fun d=>((d.2.1.flatMap w2,()),())⟩
def So:ar M4.ps->az:=(fun d=>{loops:=(fun n=>match n with|2=>some (fun S=>{ι:=Int×(List Int),qn:=⟨fun k_=>∀(j:Int)(ys:(List Int)),k_ (j,ys),fun k_ h_ i=>h_ i.1 i.2,fun k_=>∃ (j:Int) (ys:(List Int)),k_ (j,ys),fun k_ ⟨j,ys,h_⟩=>⟨_,h_⟩⟩,μ:=fun i=>(d.2.1.length-i.1).toNat,inv:=fun i=>0<=i.1/\i.1<=d.2.1.length/\i.2=(d.2.1.take i.1.toNat).flatMap w2,keep:=[7,8],slots:=fun i=>[(0,.own 524288 1),(9,.int .i64 i.1)],names:=fun i=>[(524288,.live (.row 5 bj i.2))]})|_=>none)})
theorem W2 :
 ∀(a:List Int),True/\(a.length<=maxLen/\ ∀(b:Int),b∈a->ab b)/\True->cE (65535:Int) a=true/\(cA a)<=1073741824->(∃(b:Int) (c:List Int),(0<=b/\b<=(cA a)/\c=List.flatMap w2 (List.take b.toNat a))/\a=a/\(cA a)=(cA a)/\(0:Int)=b/\c=([]:List Int)/\True)/\ ∀(b:Int)(c:List Int),0<=b/\b<=(cA a)/\c=List.flatMap w2 (List.take b.toNat a)->ad (decide (b<(cA a))) (0<=b/\b<(cA a)/\(c.length:Int)<=1099511627776/\ ∃(d:Int) (e:List Int),(0<=d/\d<=(cA a)/\e=List.flatMap w2 (List.take d.toNat a))/\Int.toNat ((cA a) -d)<Int.toNat ((cA a) -b)/\a=a/\(cA a)=(cA a)/\IntKind.wrap .i64 (b+(1:Int))=d/\bG c (a.getD b.toNat default) (2:Int)=e/\True) (c=List.flatMap w2 a):=by
  delta cA
  rintro l ⟨-,⟨hl,-⟩,-⟩⟨ha,hk⟩
  refine⟨⟨0,[],⟨by omega,by omega,by simp⟩,(by repeat' first|exact trivial|refine⟨trivial,?_⟩|refine⟨(by with_reducible rfl),?_⟩|refine⟨ai (by omega) (by omega),?_⟩|refine⟨rfl,?_⟩)⟩,?_⟩
  rintro j ys ⟨j0,j1,rfl⟩
  refine ae (fun hj=>?_) (fun hj=>?_)
  ·have hj:=of_decide_eq_true hj
   have ht:=tu j0 hj
   have hm:=bL (xs:=l) j0 hj
   have hlen:((l.take j.toNat).flatMap w2).length=2*j.toNat:=by
    rw[VN,List.length_take];omega
   generalize l.getD j.toNat default=x at *
   have hx:=of_decide_eq_true (List.all_eq_true.1 ha x hm)
   refine⟨j0,hj,by omega,j+1,_,⟨by omega,by omega,rfl⟩,by omega,rfl,rfl,ai (by omega) (by omega),?_,trivial⟩
   rw[ht,List.flatMap_append,gO hx.1 hx.2];simp
  ·have hj:=of_decide_eq_false hj
   rw[List.take_of_length_le (by omega)]
theorem Ao:ax Tryz.prog GL 242 M4.spec:=Ct.okH _ Tryz.func242 (by kernel_rfl) (ah aD N2) av So (aC (by kernel_rfl) W2)
def Pq:Ct:=⟨[.val (.sl bj),.val cI],[.val cI],fun d=>[0<=d.2.1,d.2.1+2<=d.1.length,(d.1.length:Int)<=1099511627776],fun d=>((aG d.1 d.2.1.toNat,()),())⟩
def aj2:ar Pq.ps->az:=(fun _=>{})
theorem Xl :
 ∀(a:List Int)(b:Int),(a.length<=maxLen/\ ∀(c:Int),c∈a->0<=c/\c<=255)/\ab b/\True->0<=b/\b+2<=(cA a)/\(cA a)<=1099511627776->(cA a)<=1099511627776/\dO a b (2:Int)=aG a b.toNat:=by
  delta cA
  rintro b a-⟨h0,h1,h2⟩
  refine⟨h2,?_⟩
  rw[dO,if_neg (by omega)];rfl
theorem yQ:ax Tryz.prog GL 211 Pq.spec:=Ct.okH _ Tryz.func211 (by kernel_rfl) (ah aD FQ) av aj2 (aC (by kernel_rfl) Xl)
theorem Cg{n:Int}(h0:0<=n):cT .i64 n 8=n/256:=by
 have e:=vI (n:=n) (k:=1) h0 (by omega)
 exact e
def KX:Ct:=⟨[.val (.sl bj),.val cI,.val cI],[.own 5 bj],fun d=>[0<=d.2.1,d.2.1+2<=d.1.length,(d.1.length:Int)<=1099511627776,0<=d.2.2.1,d.2.2.1<=65535],fun d=>((bJ d.1 d.2.1.toNat d.2.2.1,()),())⟩
def UF:ar KX.ps->az:=(fun _=>{})
def zZ(a:List Int)(b c:Int) :=
 (0:Int)<=8/\0<=b/\b<(cA a)/\0<=IntKind.wrap .i64 (b+(1:Int))/\IntKind.wrap .i64 (b+(1:Int))<((List.length (List.set a b.toNat (IntKind.wrap .u8 (cT IntKind.i64 c (8:Int))))):Int)/\List.set (List.set a b.toNat (IntKind.wrap .u8 (cT IntKind.i64 c (8:Int)))) (Int.toNat (IntKind.wrap .i64 (b+(1:Int)))) (IntKind.wrap .u8 c)=bJ a b.toNat c
theorem ak7 :
 ∀(a:List Int)(b c:Int),(a.length<=maxLen/\ ∀(d:Int),d∈a->0<=d/\d<=255)/\ab b/\ab c/\True->0<=b/\b+2<=(cA a)/\(cA a)<=1099511627776/\0<=c/\c<=65535->(cA a)<=1099511627776/\(zZ a b c):=by
  delta zZ cA
  rintro b a n-⟨h0,h1,h2,n0,n1⟩
  rw[ai (n:=a+1) (by omega) (by omega),Cg n0,IntKind.wrap_u8',IntKind.wrap_u8',List.length_set]
  refine⟨by omega,by omega,by omega,by omega,by omega,by omega,?_⟩
  rw[bJ,show (a+1).toNat=a.toNat+1 from by omega]
theorem Jf:ax Tryz.prog GL 240 KX.spec:=Ct.okH _ Tryz.func240 (by kernel_rfl) (ah aD py) av UF (aC (by kernel_rfl) ak7)
def NB:Ct:=⟨[.val (.sl bj),.val cI,.val cI],[.own 5 bj,.val cI],fun d=>[0<=d.2.1,d.2.1+2<=d.1.length,(d.1.length:Int)<=1099511627776,0<=d.2.2.1,d.2.2.1<=65535],fun d=>((if (1480:Int)<d.1.length then [] else bJ d.1 d.2.1.toNat d.2.2.1,if (1480:Int)<d.1.length then 5 else 0,()),())⟩
def XL:ar NB.ps->az:=(fun _=>{})
theorem Zn :
 ∀(a:List Int)(b c:Int),(a.length<=maxLen/\ ∀(d:Int),d∈a->0<=d/\d<=255)/\ab b/\ab c/\True->0<=b/\b+2<=(cA a)/\(cA a)<=1099511627776/\0<=c/\c<=65535->ad (decide (1480<(cA a))) ((([]:List Int)=if 1480<(cA a) then ([]:List Int) else bJ a b.toNat c)/\(5:Int)=if 1480<(cA a) then (5:Int) else (0:Int)) (0<=b/\b+2<=(cA a)/\(cA a)<=1099511627776/\0<=c/\c<=65535/\(bJ a b.toNat c=if 1480<(cA a) then ([]:List Int) else bJ a b.toNat c)/\(0:Int)=if 1480<(cA a) then (5:Int) else (0:Int)):=by
  delta cA
  rintro b a n-⟨h0,h1,h2,n0,n1⟩
  refine ae (fun hb=>?_) (fun hb=>?_)
  ·have hb:=of_decide_eq_true hb
   rw[if_pos hb,if_pos hb];exact⟨rfl,rfl⟩
  ·have hb:=of_decide_eq_false hb
   rw[if_neg hb,if_neg hb];exact⟨h0,h1,h2,n0,n1,rfl,rfl⟩
theorem Gz:ax Tryz.prog GL 283 NB.spec:=Ct.okH _ Tryz.func283 (by kernel_rfl) (ah aD Jf) av XL (aC (by kernel_rfl) Zn)
def Mz:Ct:=⟨[.val (.sl bj),.val cI],[.own 5 bj,.val cI],fun d=>[0<=d.2.1,d.2.1+2<=d.1.length,(d.1.length:Int)<=1099511627776],fun d=>((bJ d.1 d.2.1.toNat 0,aG d.1 d.2.1.toNat,()),())⟩
def ad0:ar Mz.ps->az:=(fun _=>{})
theorem Ub :
 ∀(a:List Int)(b:Int),(a.length<=maxLen/\ ∀(c:Int),c∈a->0<=c/\c<=255)/\ab b/\True->0<=b/\b+2<=(cA a)/\(cA a)<=1099511627776->0<=b/\b+2<=(cA a)/\(cA a)<=1099511627776/\(0:Int)<=0/\(0:Int)<=65535/\0<=b/\b+2<=(cA a)/\(cA a)<=1099511627776/\bJ a b.toNat (0:Int)=bJ a b.toNat (0:Int)/\aG a b.toNat=aG a b.toNat:=by
  delta cA
  rintro b a-⟨h0,h1,h2⟩
  exact⟨h0,h1,h2,by omega,by omega,h0,h1,h2,rfl,rfl⟩
theorem BV:ax Tryz.prog GL 210 Mz.spec:=Ct.okH _ Tryz.func210 (by kernel_rfl) (ah (ah aD Jf) yQ) av ad0 (aC (by kernel_rfl) Ub)
def J4:Ct:=⟨[.val (.sl bj),.val cI,.val cI],[.own 5 bj],fun d=>[0<=d.2.1,d.2.1+2<=d.1.length,(d.1.length:Int)<=1099511627776,0<=d.2.2.1,d.2.2.1<=65535],fun d=>((bJ d.1 d.2.1.toNat d.2.2.1,()),())⟩
def ai2:ar J4.ps->az:=(fun _=>{})
def jy :=
 (140737488355328:Nat)
theorem aj8 :
 ∀(a:List Int)(b c:Int),(a.length<=maxLen/\ ∀(d:Int),d∈a->0<=d/\d<=255)/\ab b/\ab c/\True->0<=b/\b+2<=(cA a)/\(cA a)<=1099511627776/\0<=c/\c<=65535->a.length*(1:Nat)<=(jy)/\(zZ a b c):=by
  delta zZ cA jy
  rintro b a n-⟨h0,h1,h2,n0,n1⟩
  rw[ai (n:=a+1) (by omega) (by omega),Cg n0,IntKind.wrap_u8',IntKind.wrap_u8',List.length_set]
  refine⟨by omega,by omega,by omega,by omega,by omega,by omega,?_⟩
  rw[bJ,show (a+1).toNat=a.toNat+1 from by omega]
theorem D2:ax Tryz.prog GL 194 J4.spec:=Ct.okH _ Tryz.func194 (by kernel_rfl) aD av ai2 (aC (by kernel_rfl) aj8)
def JW:Ct:=⟨[.val cI],[.val .bool],fun d=>[],fun d=>((bV d.1,()),())⟩
def Q5:ar JW.ps->az:=(fun _=>{})
theorem al4 :
 ∀(a:Int),ab a/\True->True-> ∀(b:Bool),b=decide (0<=a)->(b->(b->b)/\True)/\(b->b)/\(bif b then decide (a<=65535) else false)=bV a:=by
  rintro n - -
  (repeat (intro (b_:Bool) (hb_:b_=_);(repeat refine⟨(by first|(simp;done)|(rw[hb_];simp;done)|(rw[hb_];simp;omega)|(rw[hb_];simp;intros;omega)|(rw[hb_];simp +contextual;done)),?_⟩);subst hb_))
  unfold bV
  by_cases h:0<=n <;> simp[h] <;> omega
theorem Gq:ax Tryz.prog GL 193 JW.spec:=Ct.okH _ Tryz.func193 (by kernel_rfl) aD av Q5 (aC (by kernel_rfl) al4)
def LU:Ct:=⟨[.val cI],[.val .bool],fun d=>[],fun d=>((decide (0<=d.1/\d.1<=255),()),())⟩
def ak5:ar LU.ps->az:=(fun _=>{})
theorem PT :
 ∀(a:Int),ab a/\True->True-> ∀(b:Bool),b=decide (0<=a)->(b->(b->b)/\True)/\(b->b)/\(bif b then decide (a<=255) else false)=decide (0<=a/\a<=255):=by
  rintro n - -
  (repeat (intro (b_:Bool) (hb_:b_=_);(repeat refine⟨(by first|(simp;done)|(rw[hb_];simp;done)|(rw[hb_];simp;omega)|(rw[hb_];simp;intros;omega)|(rw[hb_];simp +contextual;done)),?_⟩);subst hb_))
  by_cases h:0<=n <;> simp[h] <;> omega
theorem LT:ax Tryz.prog GL 198 LU.spec:=Ct.okH _ Tryz.func198 (by kernel_rfl) aD av ak5 (aC (by kernel_rfl) PT)
def Po:Ct:=⟨[.val cI],[.val .bool],fun d=>[],fun d=>((decide (0<=d.1/\d.1<=4294967295),()),())⟩
def PS:ar Po.ps->az:=(fun _=>{})
theorem Zx :
 ∀(a:Int),ab a/\True->True-> ∀(b:Bool),b=decide (0<=a)->(b->(b->b)/\True)/\(b->b)/\(bif b then decide (a<4294967296) else false)=decide (0<=a/\a<=4294967295):=by
  rintro n - -
  (repeat (intro (b_:Bool) (hb_:b_=_);(repeat refine⟨(by first|(simp;done)|(rw[hb_];simp;done)|(rw[hb_];simp;omega)|(rw[hb_];simp;intros;omega)|(rw[hb_];simp +contextual;done)),?_⟩);subst hb_))
  by_cases h:0<=n <;> simp[h] <;> omega
theorem TQ:ax Tryz.prog GL 199 Po.spec:=Ct.okH _ Tryz.func199 (by kernel_rfl) aD av PS (aC (by kernel_rfl) Zx)
def ik(e:kX):Int:=if ¬ (bV e.2.1=true/\bV e.2.2.1=true) then 1 else if (1472:Int)<e.2.2.2.length then 5 else 0
def bI(e:kX):List Int:=[if e.1 then 0 else 8,0,0,0]++(w2 e.2.1++(w2 e.2.2.1++e.2.2.2))
def dk(e:kX):List Int:=if ik e=0 then bJ (bI e) 2 (ci (bI e)) else []
def gv(n:mD):Int:=if ¬ ((n.1=3∨n.1=11)/\0<=n.2.1/\n.2.1<=255) then 1 else if (n.2.2.length:Int)<28 then 3 else if (1472:Int)<n.2.2.length then 5 else 0
def j6(n:mD):List Int:=[n.1,n.2.1,0,0,0,0,0,0]++n.2.2
def fU(n:mD):List Int:=if gv n=0 then bJ (j6 n) 2 (ci (j6 n)) else []
def sZ(src dst proto:Int)(b:List Int):List Int:=w4 src++(w4 dst++(w2 proto++(w2 b.length++b)))
def dE(src dst proto:Int)(b:List Int):Int:=if ¬ (0<=proto/\proto<=255)∨(65535:Int)<b.length then 0 else ci (sZ src dst proto b)
def iL(src dst:Int)(b:List Int):Int:=if dE src dst 17 b=0 then 65535 else dE src dst 17 b
def kS(u:nI):Int:=if ¬ (bV u.1=true/\bV u.2.1=true) then 1 else if (1472:Int)<u.2.2.length then 5 else 0
def dm(u:nI):List Int:=w2 u.1++(w2 u.2.1++(w2 (8+u.2.2.length)++([0,0]++u.2.2)))
def jN(src dst:Int)(u:nI):List Int:=if kS u=0 then bJ (dm u) 6 (iL src dst (dm u)) else []
def lO(s:jL):Prop:=bV s.1=true/\bV s.2.1=true/\(0<=s.2.2.1/\s.2.2.1<=4294967295)/\(0<=s.2.2.2.1/\s.2.2.2.1<=4294967295)/\(0<=s.2.2.2.2.1/\s.2.2.2.2.1<=255)/\bV s.2.2.2.2.2.1=true
instance (s:jL):Decidable (lO s):=by unfold lO;infer_instance
def i9(s:jL):Int:=if ¬ lO s then 1 else if (1460:Int)<s.2.2.2.2.2.2.length then 5 else 0
def io(s:jL):List Int:=w2 s.1++(w2 s.2.1++(w4 s.2.2.1++(w4 s.2.2.2.1++([80,s.2.2.2.2.1]++(w2 s.2.2.2.2.2.1++([0,0,0,0]++s.2.2.2.2.2.2))))))
def dj(src dst:Int)(s:jL):List Int:=if i9 s=0 then bJ (io s) 16 (dE src dst 6 (io s)) else []
def bytes(l:List Int):Prop:=∀ x∈l,0<=x/\x<=255
theorem fT{a b:List Int}(ha:bytes a)(hb:bytes b):bytes (a++b):=fun x h=>(List.mem_append.1 h).elim (ha x) (hb x)
theorem jP(n:Int):bytes (w2 n):=by intro x h;simp[w2] at h;omega
theorem vJ(n:Int):bytes (w4 n):=by intro x h;simp[w4] at h;omega
theorem jT{a:Int}{l:List Int}(h0:0<=a)(h1:a<=255)(h:bytes l):bytes (a::l):=by
 intro x hx
 rcases List.mem_cons.1 hx with rfl|hx
 ·exact⟨h0,h1⟩
 ·exact h x hx
theorem kR:bytes []:=by intro x h;cases h
theorem nh{b:List Int}(h:bytes b):0<=ci b/\ci b<=65535:=by
 have:=rO (vx true b h).1
 unfold ci;omega
theorem yO{p data B enc:List Int}{a c err:Int}(hp:p++data=B)(ha:0<=a)(h8:a+2<=p.length)(hp1:p.length<=100)(hd:(data.length:Int)<=1073741824)(c0:0<=c)(c1:c<=65535)
  (he:enc=if (1480:Int)<B.length then [] else bJ B a.toNat c) (hr:err=if (1480:Int)<B.length then 5 else 0) :
  0<=a/\a+2<=((p++data).length:Int)/\((p++data).length:Int)<=1099511627776/\0<=c/\c<=65535/\(if (1480:Int)<((p++data).length:Int) then [] else bJ (p++data) a.toNat c)=enc/\(if (1480:Int)<((p++data).length:Int) then (5:Int) else 0)=err:=by
 have hl:(p++data).length=p.length+data.length:=List.length_append
 rw[hp] at hl ⊢
 exact⟨ha,by omega,by omega,c0,c1,he.symm,hr.symm⟩
theorem lD{p data:List Int}(hp1:p.length<=100)(hd:(data.length:Int)<=1073741824):(p.length+data.length)*1<=140737488355328/\((p++data).length:Int)<=1099511627776:=by
 rw[List.length_append];omega
theorem zP(lim a b:Int):cE lim [a,b]=true↔(0<=a/\a<=lim)/\0<=b/\b<=lim:=by simp[cE]
theorem sN(lim a:Int):cE lim [a]=true↔0<=a/\a<=lim:=by simp[cE]
theorem gz(n:Int):bV n=true↔0<=n/\n<=65535:=by simp[bV]
theorem zd(e:kX):(bI e).length=8+e.2.2.2.length:=by simp[bI,w2];omega
theorem L0{e:kX}(h:¬ (bV e.2.1=true/\bV e.2.2.1=true)):[]=dk e/\1=ik e:=by
 have:ik e=1:=by rw[ik,if_pos h]
 rw[dk,this];simp
theorem N3{e:kX}(h:bV e.2.1=true/\bV e.2.2.1=true):(dk e=if (1480:Int)<(bI e).length then [] else bJ (bI e) 2 (ci (bI e)))/\ik e=if (1480:Int)<(bI e).length then 5 else 0:=by
 have hl:=zd e
 have he:ik e=if (1480:Int)<(bI e).length then 5 else 0:=by
  rw[ik,if_neg (fun k=>k h)]
  by_cases hd:(1472:Int)<e.2.2.2.length
  ·rw[if_pos hd,if_pos (by omega)]
  ·rw[if_neg hd,if_neg (by omega)]
 refine⟨?_,he⟩
 rw[dk,he]
 by_cases hd:(1480:Int)<(bI e).length
 ·rw[if_pos hd,if_pos hd];rfl
 ·rw[if_neg hd,if_neg hd];rfl
theorem tz{e:kX}(h:bytes e.2.2.2):bytes (bI e):=by
 refine fT (jT ?_ ?_ (jT (by omega) (by omega) (jT (by omega) (by omega) (jT (by omega) (by omega) kR)))) (fT (jP _) (fT (jP _) h))
 ·split <;> omega
 ·split <;> omega
theorem Ia(n:Int)(r:List Int):w2 (n/65536)++(w2 (n%65536)++r)=w4 n++r:=by
 unfold w2 w4
 simp only[List.cons_append,List.nil_append]
 have e1:n/65536/256%256=n/16777216%256:=by omega
 have e2:n%65536/256%256=n/256%256:=by omega
 have e3:n%65536%256=n%256:=by omega
 rw[e1,e2,e3]
theorem AF{t k:Int}(t0:0<=t)(t1:t<=255)(k0:0<=k)(k1:k<=255):w2 (t*256+k)=[t,k]:=by
 unfold w2
 have e1:(t*256+k)/256%256=t:=by omega
 have e2:(t*256+k)%256=k:=by omega
 rw[e1,e2]
theorem Kc{n x:Int}(h0:0<=n)(h1:n<=65535)(h2:0<=x)(h3:x<=255):bits .or .i64 (de .i64 n 8) x=n*256+x:=by
 have:=Dt h0 (by omega) h2 h3
 rwa [ai (n:=x) (by omega) (by omega)] at this
theorem Me{n:Int}(h0:0<=n):cT .i64 n 16=n/65536:=by
 have e:=vI (n:=n) (k:=2) h0 (by omega)
 exact e
theorem J5{n:Int}(h0:0<=n)(h1:n<=4294967295):IntKind.wrap .i64 (cT .u32 n 16)=n/65536:=by
 have:cT .u32 n 16=n/65536:=by
  unfold cT
  rw[Int.fdiv_eq_ediv_of_nonneg _ (by decide)]
  rfl
 rw[this,ai (by omega) (by omega)]
theorem Jv{n:Int}(h0:0<=n)(h1:n<=4294967295):IntKind.wrap .i64 (bits .and .u32 n 65535)=n%65536:=by
 rw[u32_and n 65535 h0 (by omega) (by decide) (by decide)]
 have:(n.toNat &&& Int.toNat 65535)=n.toNat%65536:=Nat.and_two_pow_sub_one_eq_mod n.toNat 16
 rw[this,ai (by omega) (by omega)];omega
theorem DP(e:mD):(j6 e).length=8+e.2.2.length:=by simp[j6];omega
theorem HM{e:mD}(h:¬ ((e.1=3∨e.1=11)/\0<=e.2.1/\e.2.1<=255)):[]=fU e/\1=gv e:=by
 have:gv e=1:=by rw[gv,if_pos h]
 rw[fU,this];simp
theorem as5{e:mD}(h:(e.1=3∨e.1=11)/\0<=e.2.1/\e.2.1<=255)(h2:(e.2.2.length:Int)<28):[]=fU e/\3=gv e:=by
 have:gv e=3:=by rw[gv,if_neg (fun k=>k h),if_pos h2]
 rw[fU,this];simp
theorem T0{e:mD}(h:(e.1=3∨e.1=11)/\0<=e.2.1/\e.2.1<=255)(h2:¬ (e.2.2.length:Int)<28):(fU e=if (1480:Int)<(j6 e).length then [] else bJ (j6 e) 2 (ci (j6 e)))/\gv e=if (1480:Int)<(j6 e).length then 5 else 0:=by
 have hl:=DP e
 have he:gv e=if (1480:Int)<(j6 e).length then 5 else 0:=by
  rw[gv,if_neg (fun k=>k h),if_neg h2]
  by_cases hd:(1472:Int)<e.2.2.length
  ·rw[if_pos hd,if_pos (by omega)]
  ·rw[if_neg hd,if_neg (by omega)]
 refine⟨?_,he⟩
 rw[fU,he]
 by_cases hd:(1480:Int)<(j6 e).length
 ·rw[if_pos hd,if_pos hd];rfl
 ·rw[if_neg hd,if_neg hd];rfl
theorem DT{e:mD}(h:(e.1=3∨e.1=11)/\0<=e.2.1/\e.2.1<=255)(hd:bytes e.2.2):bytes (j6 e):=by
 refine fT (jT (by omega) (by omega) (jT h.2.1 h.2.2 ?_)) hd
 intro x hx;simp at hx;omega
theorem K9(e:nI):(dm e).length=8+e.2.2.length:=by simp[dm,w2];omega
theorem Xq{a b:Int}{e:nI}(h:¬ (bV e.1=true/\bV e.2.1=true)):[]=jN a b e/\1=kS e:=by
 have:kS e=1:=by rw[kS,if_pos h]
 rw[jN,this];simp
theorem Sj{a b:Int}{e:nI}(h:bV e.1=true/\bV e.2.1=true):(jN a b e=if (1480:Int)<(dm e).length then [] else bJ (dm e) 6 (iL a b (dm e)))/\kS e=if (1480:Int)<(dm e).length then 5 else 0:=by
 have hl:=K9 e
 have he:kS e=if (1480:Int)<(dm e).length then 5 else 0:=by
  rw[kS,if_neg (fun k=>k h)]
  by_cases hd:(1472:Int)<e.2.2.length
  ·rw[if_pos hd,if_pos (by omega)]
  ·rw[if_neg hd,if_neg (by omega)]
 refine⟨?_,he⟩
 rw[jN,he]
 by_cases hd:(1480:Int)<(dm e).length
 ·rw[if_pos hd,if_pos hd];rfl
 ·rw[if_neg hd,if_neg hd];rfl
theorem xw{e:nI}(h:bytes e.2.2):bytes (dm e) :=
 fT (jP _) (fT (jP _) (fT (jP _) (fT (jT (by omega) (by omega) (jT (by omega) (by omega) kR)) h)))
theorem ul(e:jL):(io e).length=20+e.2.2.2.2.2.2.length:=by simp[io,w2,w4];omega
theorem zf{a b:Int}{e:jL}(h:¬ lO e):[]=dj a b e/\1=i9 e:=by
 have:i9 e=1:=by rw[i9,if_pos h]
 rw[dj,this];simp
theorem Oo{a b:Int}{e:jL}(h:lO e):(dj a b e=if (1480:Int)<(io e).length then [] else bJ (io e) 16 (dE a b 6 (io e)))/\i9 e=if (1480:Int)<(io e).length then 5 else 0:=by
 have hl:=ul e
 have he:i9 e=if (1480:Int)<(io e).length then 5 else 0:=by
  rw[i9,if_neg (fun k=>k h)]
  by_cases hd:(1460:Int)<e.2.2.2.2.2.2.length
  ·rw[if_pos hd,if_pos (by omega)]
  ·rw[if_neg hd,if_neg (by omega)]
 refine⟨?_,he⟩
 rw[dj,he]
 by_cases hd:(1480:Int)<(io e).length
 ·rw[if_pos hd,if_pos hd];rfl
 ·rw[if_neg hd,if_neg hd];rfl
theorem vt{e:jL}(h:lO e)(hd:bytes e.2.2.2.2.2.2):bytes (io e):=by
 obtain⟨-,-,-,-,hf,-⟩:=h
 refine fT (jP _) (fT (jP _) (fT (vJ _) (fT (vJ _) (fT (jT (by omega) (by omega) (jT hf.1 hf.2 kR)) (fT (jP _) (fT ?_ hd))))))
 intro x hx;simp at hx;omega
theorem Ur{a b p:Int}{l:List Int}(h:bytes l):bytes (sZ a b p l):=fT (vJ _) (fT (vJ _) (fT (jP _) (fT (jP _) h)))
theorem vA{a b p:Int}{l:List Int}(h:bytes l):0<=dE a b p l/\dE a b p l<=65535:=by
 unfold dE;split
 ·omega
 ·exact nh (Ur h)
theorem JF{a b:Int}{l:List Int}(h:bytes l):0<=iL a b l/\iL a b l<=65535:=by
 have:=vA (a:=a) (b:=b) (p:=17) h
 unfold iL;split <;> omega
theorem Al{err n:Int}(h:err=if (1480:Int)<n then 5 else 0)(hn:¬ (1480:Int)<n):0=err:=by rw[h,if_neg hn]
def G2:Ct:=⟨[.agg ET],[.own 5 bj,.val cI],fun d=>[(d.1.2.2.2.length:Int)<=1073741824],fun d=>((dk d.1,ik d.1,()),())⟩
def Rb:ar G2.ps->az:=(fun _=>{})
def Gk(a:Bool)(b c:Int)(d e:List Int) :=
 (e.length+d.length)*(1:Nat)<=(jy)/\((List.length (e++d)):Int)<=1099511627776/\ ∀(f:Int),f=65535 -oc (aY true (e++d))->(0:Int)<=2/\(2:Int)+2<=((List.length (e++d)):Int)/\((List.length (e++d)):Int)<=1099511627776/\0<=f/\f<=65535/\(if 1480<((List.length (e++d)):Int) then ([]:List Int) else bJ (e++d) (Int.toNat (2:Int)) f)=dk (a,b,c,d)/\(if 1480<((List.length (e++d)):Int) then (5:Int) else (0:Int))=ik (a,b,c,d)
def rC(d:List Int) :=
 d.length<=maxLen/\ ∀(e:Int),e∈d->0<=e/\e<=255
theorem aq9 :
 ∀(a:Bool)(b c:Int)(d:List Int),(True/\ab b/\ab c/\(rC d))/\True->(d.length:Int)<=1073741824->ad (! cE (65535:Int) [b,c]) (([]:List Int)=dk (a,b,c,d)/\(1:Int)=ik (a,b,c,d)) (ad a ((0:Int)<=8/\cE (65535:Int) [de IntKind.i64 (0:Int) (8:Int),(0:Int),b,c]=true/\((List.length [de IntKind.i64 (0:Int) (8:Int),(0:Int),b,c]):Int)<=1073741824/\ ∀(e:List Int),e=List.flatMap w2 [de IntKind.i64 (0:Int) (8:Int),(0:Int),b,c]->(Gk a b c d e)) ((0:Int)<=8/\cE (65535:Int) [de IntKind.i64 (8:Int) (8:Int),(0:Int),b,c]=true/\((List.length [de IntKind.i64 (8:Int) (8:Int),(0:Int),b,c]):Int)<=1073741824/\ ∀(e:List Int),e=List.flatMap w2 [de IntKind.i64 (8:Int) (8:Int),(0:Int),b,c]->(Gk a b c d e))):=by
  delta Gk jy rC
  rintro r i q data ⟨⟨-,-,-,-,hd⟩,-⟩ hl
  refine ae (fun h=>?_) (fun h=>?_)
  ·apply L0
   simp only[Bool.not_eq_true',← Bool.not_eq_true,zP] at h
   simp only[gz];exact h
  have hw:bV i=true/\bV q=true:=by
   simp only[Bool.not_eq_false',zP] at h
   simp only[gz];exact h
  have hw':=hw
  simp only[gz] at hw'
  obtain⟨e1,e2⟩:=N3 (e:=(r,i,q,data)) hw
  have hB:=nh (tz (e:=(r,i,q,data)) hd)
  cases r with
  | true =>
   refine ae (fun _=>?_) (fun hr=>by cases hr)
   refine⟨by omega,by rw[show de .i64 0 8=0 from by decide];simp[cE];omega,by simp,?_⟩
   intro p hpe
   have hp8:p.length=8:=by rw[hpe];simp[w2]
   have hp:p++data=bI (true,i,q,data):=by
    rw[hpe,show de .i64 0 8=0 from by decide];simp[w2,bI]
   refine⟨(lD (by omega) hl).1,(lD (by omega) hl).2,?_⟩
   intro c hc
   have hc:c=ci (bI (true,i,q,data)):=by rw[hc,hp];rfl
   exact yO (a:=2) hp (by omega) (by omega) (by omega) hl (by rw[hc];exact hB.1) (by rw[hc];exact hB.2) (by rw[hc];exact e1) e2
  | false =>
   refine ae (fun hr=>by cases hr) (fun _=>?_)
   refine⟨by omega,by rw[show de .i64 8 8=2048 from by decide];simp[cE];omega,by simp,?_⟩
   intro p hpe
   have hp8:p.length=8:=by rw[hpe];simp[w2]
   have hp:p++data=bI (false,i,q,data):=by
    rw[hpe,show de .i64 8 8=2048 from by decide];simp[w2,bI]
   refine⟨(lD (by omega) hl).1,(lD (by omega) hl).2,?_⟩
   intro c hc
   have hc:c=ci (bI (false,i,q,data)):=by rw[hc,hp];rfl
   exact yO (a:=2) hp (by omega) (by omega) (by omega) hl (by rw[hc];exact hB.1) (by rw[hc];exact hB.2) (by rw[hc];exact e1) e2
theorem W5:ax Tryz.prog GL 267 G2.spec:=Ct.okH _ Tryz.func267 (by kernel_rfl) (ah (ah (ah (ah aD z9) (Ct.named Ao)) (Ct.named uM)) Gz) av Rb (aC (by kernel_rfl) aq9)
def NH:Ct:=⟨[.agg ET],[.own 5 bj,.val cI],fun d=>[(d.1.2.2.2.length:Int)<=1073741824],fun d=>((dk d.1,ik d.1,()),())⟩
def Wc:ar NH.ps->az:=(fun _=>{})
def Dx(a:Bool)(b c:Int)(d f:List Int) :=
 (f.length:Int)<=1099511627776/\ ∀(g:List Int),g=bG f c (2:Int)->(g.length+d.length)*(1:Nat)<=(jy)/\((List.length (g++d)):Int)<=1099511627776/\ ∀(h:Int),h=65535 -oc (aY true (g++d))->(0:Int)<=2/\(2:Int)+2<=((List.length (g++d)):Int)/\((List.length (g++d)):Int)<=1099511627776/\0<=h/\h<=65535/\bJ (g++d) (Int.toNat (2:Int)) h=dk (a,b,c,d)/\(0:Int)=ik (a,b,c,d)
def jj(e:Bool) :=
 (! e)->((! e)->(! e))/\True
theorem af3 :
 ∀(a:Bool)(b c:Int)(d:List Int),(True/\ab b/\ab c/\(rC d))/\True->(d.length:Int)<=1073741824-> ∀(e:Bool),e= ! bV b->(jj e)/\(jj e)/\(jj e)/\(e=false->(! e))/\ad (bif e then true else ! bV c) (([]:List Int)=dk (a,b,c,d)/\(1:Int)=ik (a,b,c,d)) (ad (decide (1480<IntKind.wrap .i64 ((d.length:Int)+(8:Int)))) (([]:List Int)=dk (a,b,c,d)/\(5:Int)=ik (a,b,c,d)) (ad a (((List.length [IntKind.wrap .u8 (0:Int),(0:Int),(0:Int),(0:Int)]):Int)<=1099511627776/\ ∀(f:List Int),f=bG [IntKind.wrap .u8 (0:Int),(0:Int),(0:Int),(0:Int)] b (2:Int)->(Dx a b c d f)) (((List.length [IntKind.wrap .u8 (8:Int),(0:Int),(0:Int),(0:Int)]):Int)<=1099511627776/\ ∀(f:List Int),f=bG [IntKind.wrap .u8 (8:Int),(0:Int),(0:Int),(0:Int)] b (2:Int)->(Dx a b c d f)))):=by
  delta Dx jj jy rC
  rintro r i q data ⟨⟨-,-,-,-,hd⟩,-⟩ hl
  rintro b rfl
  refine⟨by simp,by simp,by simp,by simp,?_⟩
  rw[ai (n:=(data.length:Int)+8) (by omega) (by omega)]
  refine ae (fun h=>?_) (fun h=>?_)
  ·apply L0
   rintro⟨h1,h2⟩
   simp at h1 h2
   simp[h1,h2] at h
  have hw:bV i=true/\bV q=true:=by
   simp[Bool.cond_eq_ite] at h;exact h
  have hw':=hw
  simp only[gz] at hw'
  obtain⟨e1,e2⟩:=N3 (e:=(r,i,q,data)) hw
  have hB:=nh (tz (e:=(r,i,q,data)) hd)
  have hbl:=zd (r,i,q,data)
  refine ae (fun h5=>?_) (fun h5=>?_)
  ·have h5:=of_decide_eq_true h5
   rw[e1,e2,if_pos (by simp only at hbl;omega),if_pos (by simp only at hbl;omega)];exact⟨rfl,rfl⟩
  have h5:=of_decide_eq_false h5
  have h5:¬ (1480:Int)<(bI (r,i,q,data)).length:=by simp only at hbl;omega
  rw[if_neg h5] at e1
  cases r with
  | true =>
   refine ae (fun _=>?_) (fun hr=>by cases hr)
   refine⟨by simp,?_⟩
   rintro p rfl
   rw[gO hw'.1.1 hw'.1.2]
   refine⟨by simp[w2],?_⟩
   intro p hpe
   rw[gO hw'.2.1 hw'.2.2] at hpe
   have hp8:p.length=8:=by rw[hpe];simp[w2]
   have hp:p++data=bI (true,i,q,data):=by
    rw[hpe,show IntKind.wrap .u8 0=0 from by decide];simp[w2,bI]
   refine⟨(lD (by omega) hl).1,(lD (by omega) hl).2,?_⟩
   intro c hc
   have hc:c=ci (bI (true,i,q,data)):=by rw[hc,hp];rfl
   rw[hp,hc]
   exact⟨by omega,by omega,by omega,hB.1,hB.2,e1.symm,Al e2 h5⟩
  | false =>
   refine ae (fun hr=>by cases hr) (fun _=>?_)
   refine⟨by simp,?_⟩
   rintro p rfl
   rw[gO hw'.1.1 hw'.1.2]
   refine⟨by simp[w2],?_⟩
   intro p hpe
   rw[gO hw'.2.1 hw'.2.2] at hpe
   have hp8:p.length=8:=by rw[hpe];simp[w2]
   have hp:p++data=bI (false,i,q,data):=by
    rw[hpe,show IntKind.wrap .u8 8=8 from by decide];simp[w2,bI]
   refine⟨(lD (by omega) hl).1,(lD (by omega) hl).2,?_⟩
   intro c hc
   have hc:c=ci (bI (false,i,q,data)):=by rw[hc,hp];rfl
   rw[hp,hc]
   exact⟨by omega,by omega,by omega,hB.1,hB.2,e1.symm,Al e2 h5⟩
theorem ZD:ax Tryz.prog GL 142 NH.spec:=Ct.okH _ Tryz.func142 (by kernel_rfl) (ah (ah (ah (ah aD Gq) (Ct.named vL)) (Ct.named FX)) D2) av Wc (aC (by kernel_rfl) af3)
def ME:Ct:=⟨[.agg aa8],[.own 5 bj,.val cI],fun d=>[(d.1.2.2.length:Int)<=1073741824],fun d=>((fU d.1,gv d.1,()),())⟩
def SK:ar ME.ps->az:=(fun _=>{})
def Ej(a b:Int)(c:List Int) :=
 ad (decide ((c.length:Int)<28)) (([]:List Int)=fU (a,b,c)/\(3:Int)=gv (a,b,c)) ((0:Int)<=8/\cE (65535:Int) [bits BinOp.or IntKind.i64 (de IntKind.i64 a (8:Int)) b,(0:Int),(0:Int),(0:Int)]=true/\((List.length [bits BinOp.or IntKind.i64 (de IntKind.i64 a (8:Int)) b,(0:Int),(0:Int),(0:Int)]):Int)<=1073741824/\ ∀(f:List Int),f=List.flatMap w2 [bits BinOp.or IntKind.i64 (de IntKind.i64 a (8:Int)) b,(0:Int),(0:Int),(0:Int)]->(f.length+c.length)*(1:Nat)<=(jy)/\((List.length (f++c)):Int)<=1099511627776/\ ∀(g:Int),g=65535 -oc (aY true (f++c))->(0:Int)<=2/\(2:Int)+2<=((List.length (f++c)):Int)/\((List.length (f++c)):Int)<=1099511627776/\0<=g/\g<=65535/\(if 1480<((List.length (f++c)):Int) then ([]:List Int) else bJ (f++c) (Int.toNat (2:Int)) g)=fU (a,b,c)/\(if 1480<((List.length (f++c)):Int) then (5:Int) else (0:Int))=gv (a,b,c))
theorem Y3 :
 ∀(a b:Int)(c:List Int),(ab a/\ab b/\c.length<=maxLen/\ ∀(d:Int),d∈c->0<=d/\d<=255)/\True->(c.length:Int)<=1073741824-> ∀(d:Bool),d= ! decide (a=3)->(d->(d->d)/\True)/\(d->(d->d)/\True)/\(d->d)/\ ∀(e:Bool),(e=bif d then ! decide (a=11) else false)->(jj e)/\ad (! e) (((! e)->(! e))/\(jj e)/\(e=false->(! e))/\ad (bif e then true else ! cE (255:Int) [b]) (([]:List Int)=fU (a,b,c)/\(1:Int)=gv (a,b,c)) (Ej a b c)) ((! e)=false/\(! e)=false/\(e=false->false=true)/\ad (bif e then true else false) (([]:List Int)=fU (a,b,c)/\(1:Int)=gv (a,b,c)) (Ej a b c)):=by
  delta Ej jj jy
  rintro t k data ⟨⟨-,-,-,hd⟩,-⟩ hl
  rintro b rfl
  refine⟨by simp,by simp,by simp,?_⟩
  intro b hb
  refine⟨by simp,?_⟩
  cases b with
  | true =>
   have ht:¬ (t=3∨t=11):=by
    simp at hb;omega
   refine ae (fun h=>by cases h) (fun _=>⟨rfl,rfl,by simp,ae (fun _=>HM (fun h=>ht h.1)) (fun h=>by cases h)⟩)
  | false =>
   have ht:t=3∨t=11:=by
    by_cases h3:t=3
    ·exact .inl h3
    ·simp[h3] at hb;exact .inr hb
   refine ae (fun _=>⟨by simp,by simp,by simp,?_⟩) (fun h=>by cases h)
   refine ae (fun h=>?_) (fun h=>?_)
   ·apply HM
    rintro⟨-,h2⟩
    have:=(sN 255 k).2 h2
    rw[this] at h;cases h
   have hk:0<=k/\k<=255:=by
    apply (sN 255 k).1
    cases hx:cE 255 [k] with
    | true=>rfl
    | false=>rw[hx] at h;cases h
   refine ae (fun h2=>as5 ⟨ht,hk⟩ (of_decide_eq_true h2)) (fun h2=>?_)
   have h2:=of_decide_eq_false h2
   obtain⟨e1,e2⟩:=T0 (e:=(t,k,data)) ⟨ht,hk⟩ h2
   have hB:=nh (DT (e:=(t,k,data)) ⟨ht,hk⟩ hd)
   rw[Kc (by omega) (by omega) hk.1 hk.2]
   refine⟨by omega,by simp[cE];omega,by simp,?_⟩
   intro p hpe
   have hp8:p.length=8:=by rw[hpe];simp[w2]
   have hp:p++data=j6 (t,k,data):=by
    rw[hpe]
    simp only[List.flatMap_cons,List.flatMap_nil,AF (show 0<=t by omega) (show t<=255 by omega) hk.1 hk.2,show w2 0=[0,0] from rfl];rfl
   refine⟨(lD (by omega) hl).1,(lD (by omega) hl).2,?_⟩
   intro c hc
   have hc:c=ci (j6 (t,k,data)):=by rw[hc,hp];rfl
   exact yO (a:=2) hp (by omega) (by omega) (by omega) hl (by rw[hc];exact hB.1) (by rw[hc];exact hB.2) (by rw[hc];exact e1) e2
theorem Ux:ax Tryz.prog GL 285 ME.spec:=Ct.okH _ Tryz.func285 (by kernel_rfl) (ah (ah (ah (ah aD z9) (Ct.named Ao)) (Ct.named uM)) Gz) av SK (aC (by kernel_rfl) Y3)
def Ot:Ct:=⟨[.val cj,.val cj,.val cI,.val (.sl bj)],[.val cI],fun d=>[(d.2.2.2.1.length:Int)<=1073741824],fun d=>((dE d.1 d.2.1 d.2.2.1 d.2.2.2.1,()),())⟩
def QS:ar Ot.ps->az:=(fun _=>{})
theorem ap2 :
 ∀(a b c:Int)(d:List Int),(0<=a/\a<=4294967295)/\(0<=b/\b<=4294967295)/\ab c/\(rC d)/\True->(d.length:Int)<=1073741824-> ∀(e:Bool),e= ! cE (255:Int) [c]->(jj e)/\(jj e)/\(e=false->(! e))/\ad (bif e then true else decide (65535<(d.length:Int))) ((0:Int)=dE a b c d) ((0:Int)<=16/\(0:Int)<=16/\cE (65535:Int) [IntKind.wrap .i64 (cT IntKind.u32 a (16:Int)),IntKind.wrap .i64 (bits BinOp.and IntKind.u32 a (65535:Int)),IntKind.wrap .i64 (cT IntKind.u32 b (16:Int)),IntKind.wrap .i64 (bits BinOp.and IntKind.u32 b (65535:Int)),c,(d.length:Int)]=true/\((List.length [IntKind.wrap .i64 (cT IntKind.u32 a (16:Int)),IntKind.wrap .i64 (bits BinOp.and IntKind.u32 a (65535:Int)),IntKind.wrap .i64 (cT IntKind.u32 b (16:Int)),IntKind.wrap .i64 (bits BinOp.and IntKind.u32 b (65535:Int)),c,(d.length:Int)]):Int)<=1073741824/\ ∀(f:List Int),f=List.flatMap w2 [IntKind.wrap .i64 (cT
 IntKind.u32 a (16:Int)),IntKind.wrap .i64 (bits BinOp.and IntKind.u32 a (65535:Int)),IntKind.wrap .i64 (cT IntKind.u32 b (16:Int)),IntKind.wrap .i64 (bits BinOp.and IntKind.u32 b (65535:Int)),c,(d.length:Int)]->(f.length+d.length)*(1:Nat)<=(jy)/\((List.length (f++d)):Int)<=1099511627776/\ ∀(g:Int),g=65535 -oc (aY true (f++d))->g=dE a b c d):=by
  delta jj jy rC
  rintro a b p data ⟨⟨a0,a1⟩,⟨b0,b1⟩,-,⟨-,hd⟩,-⟩ hl
  rintro x rfl
  refine⟨by simp,by simp,by simp,?_⟩
  refine ae (fun h=>?_) (fun h=>?_)
  ·rw[dE,if_pos]
   cases hx:cE 255 [p] with
   | false=>exact .inl (fun k=>by rw[(sN 255 p).2 k] at hx;cases hx)
   | true=>rw[hx] at h;exact .inr (of_decide_eq_true h)
  have hp:0<=p/\p<=255:=by
   apply (sN 255 p).1
   cases hx:cE 255 [p] with
   | true=>rfl
   | false=>rw[hx] at h;cases h
  have hn:¬ (65535:Int)<data.length:=by
   rw[(sN 255 p).2 hp] at h;exact of_decide_eq_false h
  rw[J5 a0 a1,J5 b0 b1,Jv a0 a1,Jv b0 b1]
  refine⟨by omega,by omega,by simp[cE];omega,by simp,?_⟩
  intro q hq
  have hp8:q.length=12:=by rw[hq];simp[w2]
  have hB:q++data=sZ a b p data:=by
   rw[hq]
   simp only[List.flatMap_cons,List.flatMap_nil,List.append_nil,List.append_assoc,Ia]
   rfl
  refine⟨(lD (by omega) hl).1,(lD (by omega) hl).2,?_⟩
  rintro c rfl
  rw[hB,dE,if_neg (by omega)];rfl
theorem EG:ax Tryz.prog GL 212 Ot.spec:=Ct.okH _ Tryz.func212 (by kernel_rfl) (ah (ah (ah aD z9) (Ct.named Ao)) (Ct.named uM)) av QS (aC (by kernel_rfl) ap2)
def Mc:Ct:=⟨[.val cj,.val cj,.val cI,.val (.sl bj)],[.val cI],fun d=>[(d.2.2.2.1.length:Int)<=1073741824],fun d=>((dE d.1 d.2.1 d.2.2.1 d.2.2.2.1,()),())⟩
def RJ:ar Mc.ps->az:=(fun _=>{})
theorem Re :
 ∀(a b c:Int)(d:List Int),(0<=a/\a<=4294967295)/\(0<=b/\b<=4294967295)/\ab c/\(rC d)/\True->(d.length:Int)<=1073741824-> ∀(e:Bool),e= ! decide (0<=c/\c<=255)->(jj e)/\(jj e)/\(e=false->(! e))/\ad (bif e then true else decide (65535<(d.length:Int))) ((0:Int)=dE a b c d) ((↑(0:Nat):Int)<=1099511627776/\ ∀(f:List Int),f=bG ([]:List Int) (IntKind.wrap .i64 a) (4:Int)->(f.length:Int)<=1099511627776/\ ∀(g:List Int),g=bG f (IntKind.wrap .i64 b) (4:Int)->(g.length:Int)<=1099511627776/\ ∀(h:List Int),h=bG g c (2:Int)->(h.length:Int)<=1099511627776/\ ∀(i:List Int),i=bG h (d.length:Int) (2:Int)->(i.length+d.length)*(1:Nat)<=(jy)/\((List.length (i++d)):Int)<=1099511627776/\ ∀(j:Int),j=65535 -oc (aY true (i++d))->j=dE a b c d):=by
  delta jj jy rC
  rintro a b p data ⟨⟨a0,a1⟩,⟨b0,b1⟩,-,⟨-,hd⟩,-⟩ hl
  rintro x rfl
  refine⟨by simp,by simp,by simp,?_⟩
  refine ae (fun h=>?_) (fun h=>?_)
  ·rw[dE,if_pos]
   by_cases hx:0<=p/\p<=255
   ·rw[decide_eq_true hx] at h;exact .inr (of_decide_eq_true h)
   ·exact .inl hx
  have hp:0<=p/\p<=255:=Classical.byContradiction fun hk=>by rw[decide_eq_false hk] at h;cases h
  have hn:¬ (65535:Int)<data.length:=by
   rw[decide_eq_true hp] at h;exact of_decide_eq_false h
  refine⟨by simp,?_⟩
  intro q1 h1
  rw[ai (n:=a) (by omega) (by omega),rV a0 a1,List.nil_append] at h1
  refine⟨by rw[h1];simp[w4],?_⟩
  intro q2 h2
  rw[ai (n:=b) (by omega) (by omega),rV b0 b1] at h2
  refine⟨by rw[h2,h1];simp[w4],?_⟩
  intro q3 h3
  rw[gO hp.1 (by omega)] at h3
  refine⟨by rw[h3,h2,h1];simp[w2,w4],?_⟩
  intro q hq
  rw[gO (by omega) (by omega)] at hq
  have hp8:q.length=12:=by rw[hq,h3,h2,h1];simp[w2,w4]
  have hB:q++data=sZ a b p data:=by
   rw[hq,h3,h2,h1]
   simp only[List.append_assoc]
   rfl
  refine⟨(lD (by omega) hl).1,(lD (by omega) hl).2,?_⟩
  rintro c rfl
  rw[hB,dE,if_neg (by omega)];rfl
theorem Ga:ax Tryz.prog GL 146 Mc.spec:=Ct.okH _ Tryz.func146 (by kernel_rfl) (ah (ah (ah aD LT) (Ct.named vL)) (Ct.named FX)) av RJ (aC (by kernel_rfl) Re)
def Mf:Ct:=⟨[.val cj,.val cj,.val (.sl bj)],[.val cI],fun d=>[(d.2.2.1.length:Int)<=1073741824],fun d=>((iL d.1 d.2.1 d.2.2.1,()),())⟩
def Zd:ar Mf.ps->az:=(fun _=>{})
theorem ad6 :
 ∀(a b:Int)(c:List Int),(0<=a/\a<=4294967295)/\(0<=b/\b<=4294967295)/\(c.length<=maxLen/\ ∀(d:Int),d∈c->0<=d/\d<=255)/\True->(c.length:Int)<=1073741824->(c.length:Int)<=1073741824/\ad (! decide (dE a b (17:Int) c=0)) (dE a b (17:Int) c=iL a b c) ((65535:Int)=iL a b c):=by
  rintro a b data-hl
  refine⟨hl,ae (fun h=>?_) (fun h=>?_)⟩
  ·rw[iL,if_neg];intro k;rw[decide_eq_true k] at h;cases h
  ·rw[iL,if_pos]
   exact Classical.byContradiction fun k=>by rw[decide_eq_false k] at h;cases h
theorem Xj:ax Tryz.prog GL 284 Mf.spec:=Ct.okH _ Tryz.func284 (by kernel_rfl) (ah aD EG) av Zd (aC (by kernel_rfl) ad6)
def N6:Ct:=⟨[.val cj,.val cj,.agg OS],[.own 5 bj,.val cI],fun d=>[(d.2.2.1.2.2.length:Int)<=1073741824],fun d=>((jN d.1 d.2.1 d.2.2.1,kS d.2.2.1,()),())⟩
def Vn:ar N6.ps->az:=(fun _=>{})
def vU(e i:List Int) :=
 ((List.length (i++[(0:Int),(0:Int)]++e)):Int)
def rE(f:Bool) :=
 (! f)->((! f)->(! f))/\True
theorem Q3 :
 ∀(a b c d:Int)(e:List Int),(0<=a/\a<=4294967295)/\(0<=b/\b<=4294967295)/\(ab c/\ab d/\e.length<=maxLen/\ ∀(f:Int),f∈e->0<=f/\f<=255)/\True->(e.length:Int)<=1073741824-> ∀(f:Bool),f= ! bV c->(rE f)/\(rE f)/\(rE f)/\(f=false->(! f))/\ad (bif f then true else ! bV d) (([]:List Int)=jN a b (c,d,e)/\(1:Int)=kS (c,d,e)) (ad (decide (1480<IntKind.wrap .i64 ((e.length:Int)+(8:Int)))) (([]:List Int)=jN a b (c,d,e)/\(5:Int)=kS (c,d,e)) ((↑(0:Nat):Int)<=1099511627776/\ ∀(g:List Int),g=bG ([]:List Int) c (2:Int)->(g.length:Int)<=1099511627776/\ ∀(h:List Int),h=bG g d (2:Int)->(h.length:Int)<=1099511627776/\ ∀(i:List Int),i=bG h (IntKind.wrap .i64 ((e.length:Int)+(8:Int))) (2:Int)->(i.length+List.length [(0:Int),(0:Int)])*(1:Nat)<=(jy)/\(List.length (i++[(0:Int),(0:Int)])+e.length)*(1:Nat)<=(jy)/\(vU e i)<=1073741824/\ ∀(j:Int),j=dE a b (17:Int)
 (i++[(0:Int),(0:Int)]++e)->ad (decide (j=0)) ((0:Int)<=6/\(6:Int)+2<=(vU e i)/\(vU e i)<=1099511627776/\(0:Int)<=65535/\(65535:Int)<=65535/\bJ (i++[(0:Int),(0:Int)]++e) (Int.toNat (6:Int)) (65535:Int)=jN a b (c,d,e)/\(0:Int)=kS (c,d,e)) ((0:Int)<=6/\(6:Int)+2<=(vU e i)/\(vU e i)<=1099511627776/\0<=j/\j<=65535/\bJ (i++[(0:Int),(0:Int)]++e) (Int.toNat (6:Int)) j=jN a b (c,d,e)/\(0:Int)=kS (c,d,e)))):=by
  delta vU rE jy
  rintro a b sp dp data ⟨-,-,⟨-,-,-,hd⟩,-⟩ hl
  rintro x rfl
  refine⟨by simp,by simp,by simp,by simp,?_⟩
  rw[ai (n:=(data.length:Int)+8) (by omega) (by omega)]
  refine ae (fun h=>?_) (fun h=>?_)
  ·apply Xq
   rintro⟨h1,h2⟩
   simp at h1 h2
   simp[h1,h2] at h
  have hw:bV sp=true/\bV dp=true:=by
   simp[Bool.cond_eq_ite] at h;exact h
  have hw':=hw
  simp only[gz] at hw'
  obtain⟨e1,e2⟩:=Sj (a:=a) (b:=b) (e:=(sp,dp,data)) hw
  have hB:=JF (a:=a) (b:=b) (xw (e:=(sp,dp,data)) hd)
  have hbl:=K9 (sp,dp,data)
  refine ae (fun h5=>?_) (fun h5=>?_)
  ·have h5:=of_decide_eq_true h5
   rw[e1,e2,if_pos (by simp only at hbl;omega),if_pos (by simp only at hbl;omega)];exact⟨rfl,rfl⟩
  have h5:=of_decide_eq_false h5
  have h5':¬ (1480:Int)<(dm (sp,dp,data)).length:=by simp only at hbl;omega
  rw[if_neg h5'] at e1
  refine⟨by simp,?_⟩
  intro q1 h1
  rw[gO hw'.1.1 hw'.1.2,List.nil_append] at h1
  refine⟨by rw[h1];simp[w2],?_⟩
  intro q2 h2
  rw[gO hw'.2.1 hw'.2.2] at h2
  refine⟨by rw[h2,h1];simp[w2],?_⟩
  intro q3 h3
  rw[gO (by omega) (by omega)] at h3
  have hp8:q3.length=6:=by rw[h3,h2,h1];simp[w2]
  have hp:q3++[0,0]++data=dm (sp,dp,data):=by
   rw[h3,h2,h1]
   simp only[List.append_assoc,dm]
   rw[Int.add_comm 8]
  rw[hp]
  refine⟨by simp only[List.length_cons,List.length_nil];omega,by simp only[List.length_append,List.length_cons,List.length_nil];omega,by simp only at hbl;omega,?_⟩
  rintro c rfl
  have hs:∀ c,c=iL a b (dm (sp,dp,data))->bJ (dm (sp,dp,data)) (Int.toNat 6) c=jN a b (sp,dp,data)/\0=kS (sp,dp,data):=by
   rintro c rfl;exact⟨e1.symm,Al e2 h5'⟩
  refine ae (fun hz=>?_) (fun hz=>?_)
  ·have hz:=of_decide_eq_true hz
   exact⟨by omega,by simp only at hbl;omega,by simp only at hbl;omega,by omega,by omega,hs _ (by rw[iL,if_pos hz])⟩
  ·have hz:=of_decide_eq_false hz
   have hr:=vA (a:=a) (b:=b) (p:=17) (xw (e:=(sp,dp,data)) hd)
   exact⟨by omega,by simp only at hbl;omega,by simp only at hbl;omega,hr.1,hr.2,hs _ (by rw[iL,if_neg hz])⟩
theorem Un:ax Tryz.prog GL 147 N6.spec:=Ct.okH _ Tryz.func147 (by kernel_rfl) (ah (ah (ah (ah aD Gq) (Ct.named vL)) (Ct.named Ga)) D2) av Vn (aC (by kernel_rfl) Q3)
theorem as8{f:Int}(h0:0<=f)(h1:f<=255):bits .or .i64 20480 f=80*256+f:=by
 have:=Kc (n:=80) (x:=f) (by omega) (by omega) h0 h1
 rwa [show de .i64 80 8=20480 from by decide] at this
theorem as0{f:Int}(h0:0<=f)(h1:f<=255):w2 (80*256+f)=[80,f]:=AF (by omega) (by omega) h0 h1
def Ov:Ct:=⟨[.val cj,.val cj,.agg xP],[.own 5 bj,.val cI],fun d=>[(d.2.2.1.2.2.2.2.2.2.length:Int)<=1000000],fun d=>((dj d.1 d.2.1 d.2.2.1,i9 d.2.2.1,()),())⟩
def T5:ar Ov.ps->az:=(fun _=>{})
def Fa(a b:Int)(c:Int×Int×Int×Int×Int×Int×List Int) :=
 (0:Int)<=16/\(0:Int)<=16/\cE (65535:Int) [c.1,c.2.1,cT IntKind.i64 c.2.2.1 (16:Int),bits BinOp.and IntKind.i64 c.2.2.1 (65535:Int),cT IntKind.i64 c.2.2.2.1 (16:Int),bits BinOp.and IntKind.i64 c.2.2.2.1 (65535:Int),bits BinOp.or IntKind.i64 (20480:Int) c.2.2.2.2.1,c.2.2.2.2.2.1,(0:Int),(0:Int)]=true/\((List.length [c.1,c.2.1,cT IntKind.i64 c.2.2.1 (16:Int),bits BinOp.and IntKind.i64 c.2.2.1 (65535:Int),cT IntKind.i64 c.2.2.2.1 (16:Int),bits BinOp.and IntKind.i64 c.2.2.2.1 (65535:Int),bits BinOp.or IntKind.i64 (20480:Int) c.2.2.2.2.1,c.2.2.2.2.2.1,(0:Int),(0:Int)]):Int)<=1073741824/\ ∀(f:List Int),f=List.flatMap w2 [c.1,c.2.1,cT IntKind.i64 c.2.2.1 (16:Int),bits BinOp.and IntKind.i64 c.2.2.1 (65535:Int),cT IntKind.i64 c.2.2.2.1 (16:Int),bits BinOp.and IntKind.i64 c.2.2.2.1 (65535:Int),bits BinOp.or IntKind.i64 (20480:Int)
 c.2.2.2.2.1,c.2.2.2.2.2.1,(0:Int),(0:Int)]->(f.length+c.2.2.2.2.2.2.length)*(1:Nat)<=(jy)/\((List.length (f++c.2.2.2.2.2.2)):Int)<=1073741824/\ ∀(g:Int),g=dE a b (6:Int) (f++c.2.2.2.2.2.2)->(0:Int)<=16/\(16:Int)+2<=((List.length (f++c.2.2.2.2.2.2)):Int)/\((List.length (f++c.2.2.2.2.2.2)):Int)<=1099511627776/\0<=g/\g<=65535/\(if 1480<((List.length (f++c.2.2.2.2.2.2)):Int) then ([]:List Int) else bJ (f++c.2.2.2.2.2.2) (Int.toNat (16:Int)) g)=dj a b c/\(if 1480<((List.length (f++c.2.2.2.2.2.2)):Int) then (5:Int) else (0:Int))=i9 c
def Di(a b:Int)(c:Int×Int×Int×Int×Int×Int×List Int)(e:Bool) :=
 (jj e)/\ad (! e) (((! e)->(! e))/\(jj e)/\(e=false->(! e))/\ad (bif e then true else ! cE (255:Int) [c.2.2.2.2.1]) (([]:List Int)=dj a b c/\(1:Int)=i9 c) (Fa a b c)) ((! e)=false/\(! e)=false/\(e=false->false=true)/\ad (bif e then true else false) (([]:List Int)=dj a b c/\(1:Int)=i9 c) (Fa a b c))
def rJ(d:Bool) :=
 (! d)->((! d)->(! d))/\True
theorem YL :
 ∀(a b:Int)(c:Int×Int×Int×Int×Int×Int×List Int),(0<=a/\a<=4294967295)/\(0<=b/\b<=4294967295)/\CT.wf xP c/\True->(c.2.2.2.2.2.2.length:Int)<=1000000-> ∀(d:Bool),d= ! cE (65535:Int) [c.1,c.2.1,c.2.2.2.2.2.1]->(rJ d)/\(rJ d)/\ad (! d) (((! d)->(! d))/\((! d)->(! d))/\(rJ d)/\(d=false->(! d))/\ ∀(e:Bool),(e=bif d then true else ! cE (4294967295:Int) [c.2.2.1,c.2.2.2.1])->(Di a b c e)) ((! d)=false/\(! d)=false/\(d=false->false=true)/\ ∀(e:Bool),(e=bif d then true else false)->(Di a b c e)):=by
  delta Fa Di jj rJ jy
  rintro a b e ⟨-,-,⟨-,-,-,-,-,-,-,hd⟩,-⟩ hl
  intro b1 hb1
  refine⟨by simp,by simp,?_⟩
  cases b1 with
  | true =>
   have hbad:¬ lO e:=by
    rintro⟨h1,h2,-,-,-,h3⟩
    rw[gz] at h1 h2 h3
    rw[show cE 65535 [e.1,e.2.1,e.2.2.2.2.2.1]=true from by simp[cE];omega] at hb1;cases hb1
   refine ae (fun h=>by cases h) (fun _=>⟨rfl,rfl,by simp,?_⟩)
   intro b2 hb2
   have hb2:b2=true:=hb2
   subst hb2
   exact⟨by simp,ae (fun h=>by cases h) (fun _=>⟨rfl,rfl,by simp,ae (fun _=>zf hbad) (fun h=>by cases h)⟩)⟩
  | false =>
   have h1:(0<=e.1/\e.1<=65535)/\(0<=e.2.1/\e.2.1<=65535)/\0<=e.2.2.2.2.2.1/\e.2.2.2.2.2.1<=65535:=by
    have:cE 65535 [e.1,e.2.1,e.2.2.2.2.2.1]=true:=by
     cases hx:cE 65535 [e.1,e.2.1,e.2.2.2.2.2.1] with
     | true=>rfl
     | false=>rw[hx] at hb1;cases hb1
    simpa[cE] using this
   refine ae (fun _=>⟨by simp,by simp,by simp,by simp,?_⟩) (fun h=>by cases h)
   intro b2 hb2
   refine⟨by simp,?_⟩
   cases b2 with
   | true =>
    have hbad:¬ lO e:=by
     rintro⟨-,-,h3,h4,-,-⟩
     have:cE 4294967295 [e.2.2.1,e.2.2.2.1]=true:=(zP _ _ _).2 ⟨h3,h4⟩
     rw[this] at hb2;cases hb2
    exact ae (fun h=>by cases h) (fun _=>⟨rfl,rfl,by simp,ae (fun _=>zf hbad) (fun h=>by cases h)⟩)
   | false =>
    have h2:(0<=e.2.2.1/\e.2.2.1<=4294967295)/\0<=e.2.2.2.1/\e.2.2.2.1<=4294967295:=by
     apply (zP _ _ _).1
     cases hx:cE 4294967295 [e.2.2.1,e.2.2.2.1] with
     | true=>rfl
     | false=>rw[hx] at hb2;cases hb2
    refine ae (fun _=>⟨by simp,by simp,by simp,ae (fun h=>?_) (fun h=>?_)⟩) (fun h=>by cases h)
    ·apply zf
     rintro⟨-,-,-,-,h3,-⟩
     rw[(sN _ _).2 h3] at h;cases h
    have h3:0<=e.2.2.2.2.1/\e.2.2.2.2.1<=255:=by
     apply (sN _ _).1
     cases hx:cE 255 [e.2.2.2.2.1] with
     | true=>rfl
     | false=>rw[hx] at h;cases h
    have hok:lO e:=⟨(gz _).2 h1.1,(gz _).2 h1.2.1,h2.1,h2.2,h3,(gz _).2 h1.2.2⟩
    obtain⟨e1,e2⟩:=Oo (a:=a) (b:=b) hok
    have hB:=vA (a:=a) (b:=b) (p:=6) (vt hok hd)
    have hbl:=ul e
    rw[Me h2.1.1,Me h2.2.1,w7,w7,as8 h3.1 h3.2]
    refine⟨by omega,by omega,by simp[cE];omega,by simp,?_⟩
    intro p hpe
    have hp8:p.length=20:=by rw[hpe];simp[w2]
    have hp:p++e.2.2.2.2.2.2=io e:=by
     rw[hpe]
     simp only[List.flatMap_cons,List.flatMap_nil,List.append_nil,List.append_assoc,Ia,show w2 0=[0,0] from rfl,as0 h3.1 h3.2]
     rfl
    refine⟨(lD (by omega) (by omega)).1,by rw[List.length_append];omega,?_⟩
    intro c hc
    have hc:c=dE a b 6 (io e):=by rw[hc,hp]
    exact yO (a:=16) hp (by omega) (by omega) (by omega) (by omega) (by rw[hc];exact hB.1) (by rw[hc];exact hB.2) (by rw[hc];exact e1) e2
theorem as7:ax Tryz.prog GL 271 Ov.spec:=Ct.okH _ Tryz.func271 (by kernel_rfl) (ah (ah (ah (ah aD z9) (Ct.named Ao)) (Ct.named EG)) Gz) av T5 (aC (by kernel_rfl) YL)
def Nf:Ct:=⟨[.val cj,.val cj,.agg xP],[.own 5 bj,.val cI],fun d=>[(d.2.2.1.2.2.2.2.2.2.length:Int)<=1000000],fun d=>((dj d.1 d.2.1 d.2.2.1,i9 d.2.2.1,()),())⟩
def ae2:ar Nf.ps->az:=(fun _=>{})
def vy(c:Int×Int×Int×Int×Int×Int×List Int)(o:List Int) :=
 o++[(0:Int),(0:Int),(0:Int),(0:Int)]++c.2.2.2.2.2.2
theorem Xy :
 ∀(a b:Int)(c:Int×Int×Int×Int×Int×Int×List Int),(0<=a/\a<=4294967295)/\(0<=b/\b<=4294967295)/\CT.wf xP c/\True->(c.2.2.2.2.2.2.length:Int)<=1000000-> ∀(d:Bool),d= ! bV c.1->(rJ d)/\(rJ d)/\(rJ d)/\(d=false->(! d))/\ ∀(e:Bool),(e=bif d then true else ! bV c.2.1)->(jj e)/\(jj e)/\(jj e)/\(e=false->(! e))/\ ∀(f:Bool),(f=bif e then true else ! decide (0<=c.2.2.1/\c.2.2.1<=4294967295))->(rE f)/\(rE f)/\(rE f)/\(f=false->(! f))/\ ∀(g:Bool),(g=bif f then true else ! decide (0<=c.2.2.2.1/\c.2.2.2.1<=4294967295))->((! g)->((! g)->(! g))/\True)/\((! g)->((! g)->(! g))/\True)/\((! g)->((! g)->(! g))/\True)/\(g=false->(! g))/\ ∀(h:Bool),(h=bif g then true else ! decide (0<=c.2.2.2.2.1/\c.2.2.2.2.1<=255))->((! h)->((! h)->(! h))/\True)/\((! h)->((! h)->(! h))/\True)/\((! h)->((! h)->(! h))/\True)/\(h=false->(! h))/\ad (bif h then true else ! bV c.2.2.2.2.2.1)
 (([]:List Int)=dj a b c/\(1:Int)=i9 c) (ad (decide (1480<IntKind.wrap .i64 ((c.2.2.2.2.2.2.length:Int)+(20:Int)))) (([]:List Int)=dj a b c/\(5:Int)=i9 c) ((↑(0:Nat):Int)<=1099511627776/\ ∀(i:List Int),i=bG ([]:List Int) c.1 (2:Int)->(i.length:Int)<=1099511627776/\ ∀(j:List Int),j=bG i c.2.1 (2:Int)->(j.length:Int)<=1099511627776/\ ∀(k:List Int),k=bG j c.2.2.1 (4:Int)->(k.length:Int)<=1099511627776/\ ∀(l:List Int),l=bG k c.2.2.2.1 (4:Int)->(l.length:Int)<=1099511627776/\ ∀(m:List Int),m=bG l (80:Int) (1:Int)->(m.length:Int)<=1099511627776/\ ∀(n:List Int),n=bG m c.2.2.2.2.1 (1:Int)->(n.length:Int)<=1099511627776/\ ∀(o:List Int),o=bG n c.2.2.2.2.2.1 (2:Int)->(o.length+List.length [(0:Int),(0:Int),(0:Int),(0:Int)])*(1:Nat)<=(jy)/\(List.length (o++[(0:Int),(0:Int),(0:Int),(0:Int)])+c.2.2.2.2.2.2.length)*(1:Nat)<=(jy)/\((List.length (vy c
 o)):Int)<=1073741824/\ ∀(p:Int),p=dE a b (6:Int) (vy c o)->(0:Int)<=16/\(16:Int)+2<=((List.length (vy c o)):Int)/\((List.length (vy c o)):Int)<=1099511627776/\0<=p/\p<=65535/\bJ (vy c o) (Int.toNat (16:Int)) p=dj a b c/\(0:Int)=i9 c)):=by
  delta jj vy rE rJ jy
  rintro a b e ⟨-,-,⟨-,-,-,-,-,-,-,hd⟩,-⟩ hl
  intro b1 h1
  refine⟨by simp,by simp,by simp,by simp,?_⟩
  intro b2 h2
  refine⟨by simp,by simp,by simp,by simp,?_⟩
  intro b3 h3
  refine⟨by simp,by simp,by simp,by simp,?_⟩
  intro b4 h4
  refine⟨by simp,by simp,by simp,by simp,?_⟩
  intro b5 h5
  refine⟨by simp,by simp,by simp,by simp,?_⟩
  rw[ai (n:=(e.2.2.2.2.2.2.length:Int)+20) (by omega) (by omega)]
  have hall:(bif b5 then true else !bV e.2.2.2.2.2.1) = !decide (lO e):=by
   rw[h5,h4,h3,h2,h1]
   by_cases w1:bV e.1=true
   all_goals by_cases w2:bV e.2.1=true
   all_goals by_cases w3:bV e.2.2.2.2.2.1=true
   all_goals by_cases q1:0<=e.2.2.1/\e.2.2.1<=4294967295
   all_goals by_cases q2:0<=e.2.2.2.1/\e.2.2.2.1<=4294967295
   all_goals by_cases q3:0<=e.2.2.2.2.1/\e.2.2.2.2.1<=255
   all_goals simp[lO,w1,w2,w3,q1,q2,q3]
  rw[hall]
  refine ae (fun h=>zf (by simpa using h)) (fun h=>?_)
  have hok:lO e:=by simpa using h
  obtain⟨e1,e2⟩:=Oo (a:=a) (b:=b) hok
  have hB:=vA (a:=a) (b:=b) (p:=6) (vt hok hd)
  have hbl:=ul e
  refine ae (fun h5=>?_) (fun h5=>?_)
  ·have h5:=of_decide_eq_true h5
   rw[e1,e2,if_pos (by omega),if_pos (by omega)];exact⟨rfl,rfl⟩
  have h5:=of_decide_eq_false h5
  have h5':¬ (1480:Int)<(io e).length:=by omega
  rw[if_neg h5'] at e1
  obtain⟨k1,k2,k3,k4,k5,k6⟩:=hok
  rw[gz] at k1 k2 k6
  refine⟨by simp,?_⟩
  intro q1 h1
  rw[gO k1.1 k1.2,List.nil_append] at h1
  have l1:q1.length=2:=by rw[h1];rfl
  refine⟨by omega,?_⟩
  intro q2 h2
  rw[gO k2.1 k2.2] at h2
  have l2:q2.length=4:=by rw[h2,List.length_append,l1];rfl
  refine⟨by omega,?_⟩
  intro q3 h3
  rw[rV k3.1 k3.2] at h3
  have l3:q3.length=8:=by rw[h3,List.length_append,l2];rfl
  refine⟨by omega,?_⟩
  intro q4 h4
  rw[rV k4.1 k4.2] at h4
  have l4:q4.length=12:=by rw[h4,List.length_append,l3];rfl
  refine⟨by omega,?_⟩
  intro q5 h5
  rw[p8 (by omega) (by omega)] at h5
  have l5:q5.length=13:=by rw[h5,List.length_append,l4];rfl
  refine⟨by omega,?_⟩
  intro q6 h6
  rw[p8 k5.1 k5.2] at h6
  have l6:q6.length=14:=by rw[h6,List.length_append,l5];rfl
  refine⟨by omega,?_⟩
  intro q7 h7
  rw[gO k6.1 k6.2] at h7
  have l7:q7.length=16:=by rw[h7,List.length_append,l6];rfl
  have hp:q7++[0,0,0,0]++e.2.2.2.2.2.2=io e:=by
   rw[h7,h6,h5,h4,h3,h2,h1]
   simp only[List.append_assoc]
   rfl
  rw[hp]
  refine⟨by simp only[List.length_cons,List.length_nil];omega,by simp only[List.length_append,List.length_cons,List.length_nil];omega,by omega,?_⟩
  rintro c rfl
  exact⟨by omega,by omega,by omega,hB.1,hB.2,e1.symm,Al e2 h5'⟩
theorem ZG:ax Tryz.prog GL 148 Nf.spec:=Ct.okH _ Tryz.func148 (by kernel_rfl) (ah (ah (ah (ah (ah (ah aD Gq) LT) TQ) (Ct.named vL)) (Ct.named Ga)) D2) av ae2 (aC (by kernel_rfl) Xy)
end Go.RS

/- Trdec: decoding messages. -/
namespace Go.RS
open Go.SX Go.Proofs
set_option maxRecDepth 100000
set_option linter.unusedVariables false
def yr(b:List Int):Prop:=(b.getD (Int.toNat 0) default=8∨b.getD (Int.toNat 0) default=0)/\b.getD (Int.toNat 1) default=0
instance (b:List Int):Decidable (yr b):=by unfold yr;infer_instance
def iE(b:List Int):Int:=if (b.length:Int)<8 then 3 else if ¬ yr b then 2 else if (1480:Int)<b.length then 5 else if ci (bJ b (Int.toNat 2) 0)≠aG b (Int.toNat 2) then 4 else 0
def dU(b:List Int):kX:=if iE b=0 then (decide (b.getD (Int.toNat 0) default=0),aG b (Int.toNat 4),aG b (Int.toNat 6),b.drop 8) else (false,0,0,[])
def CP(b:List Int):Prop:=(b.getD (Int.toNat 0) default=3∨b.getD (Int.toNat 0) default=11)/\aG b (Int.toNat 4)=0/\aG b (Int.toNat 6)=0
instance (b:List Int):Decidable (CP b):=by unfold CP;infer_instance
def xX(b:List Int):Int:=if (b.length:Int)<36 then 3 else if ¬ CP b then 2 else if (1480:Int)<b.length then 5 else if ci (bJ b (Int.toNat 2) 0)≠aG b (Int.toNat 2) then 4 else 0
def qJ(b:List Int):mD:=if xX b=0 then (b.getD (Int.toNat 0) default,b.getD (Int.toNat 1) default,b.drop 8) else (0,0,[])
def gW(s d:Int)(b:List Int):Int:=if (b.length:Int)<8 then 3 else if ¬ aG b (Int.toNat 4)=b.length then 2 else if (1480:Int)<b.length then 5 else if iL s d (bJ b (Int.toNat 6) 0)≠aG b (Int.toNat 6) then 4 else 0
def nJ(s d:Int)(b:List Int):nI:=if gW s d b=0 then (aG b (Int.toNat 0),aG b (Int.toNat 2),b.drop 8) else (0,0,[])
def xN(b:List Int):Prop:=b.getD (Int.toNat 12) default=80/\aG b (Int.toNat 18)=0
instance (b:List Int):Decidable (xN b):=by unfold xN;infer_instance
def gJ(s d:Int)(b:List Int):Int:=if (b.length:Int)<20 then 3 else if ¬ xN b then 2 else if (1480:Int)<b.length then 5 else if dE s d 6 (bJ b (Int.toNat 16) 0)≠aG b (Int.toNat 16) then 4 else 0
def dK(s d:Int)(b:List Int):jL:=if gJ s d b=0 then (aG b (Int.toNat 0),aG b (Int.toNat 2),aG b (Int.toNat 4)*65536+aG b (Int.toNat 6),aG b (Int.toNat 8)*65536+aG b (Int.toNat 10),b.getD (Int.toNat 13) default,aG b (Int.toNat 14),b.drop 20) else (0,0,0,0,0,0,[])
theorem Ab{b:List Int}{e:Int}(h:iE b=e)(he:e≠0):(false,0,0,[])=dU b/\e=iE b:=by
 rw[dU,if_neg (by rw[h];exact he),h];exact⟨rfl,rfl⟩
theorem Ak{s d:Int}{b:List Int}{e:Int}(h:gW s d b=e)(he:e≠0):(0,0,[])=nJ s d b/\e=gW s d b:=by
 rw[nJ,if_neg (by rw[h];exact he),h];exact⟨rfl,rfl⟩
theorem Bb{s d:Int}{b:List Int}{e:Int}(h:gJ s d b=e)(he:e≠0):(0,0,0,0,0,0,[])=dK s d b/\e=gJ s d b:=by
 rw[dK,if_neg (by rw[h];exact he),h];exact⟨rfl,rfl⟩
theorem si(b:List Int)(k:Nat):cf b k (Int.toNat (b.length:Int))=b.drop k:=by unfold cf;simp
theorem Ny{b:List Int}{i:Nat}{v:Int}(h:bytes b)(h0:0<=v)(h1:v<=255):bytes (b.set i v):=by
 intro x hx
 rcases List.mem_or_eq_of_mem_set hx with hx|rfl
 ·exact h x hx
 ·exact⟨h0,h1⟩
theorem pf{b:List Int}{i:Nat}{v:Int}(h:bytes b):bytes (bJ b i v):=Ny (Ny h (by omega) (by omega)) (by omega) (by omega)
theorem zV{b:List Int}{k:Nat}(h:bytes b):0<=aG b k/\aG b k<=65535:=by
 have:=z7 2 ((b.drop k).take 2) (by rw[List.length_take];omega) (fun x hx=>h x (List.mem_of_mem_drop (List.mem_of_mem_take hx)))
 have e:(256:Int)^2=65536:=rfl
 unfold aG;omega
theorem j9(b:List Int)(i:Nat)(v:Int):(bJ b i v).length=b.length:=by simp[bJ]
theorem fG(x y:Int)(r:List Int):aG (x::y::r) 0=x*256+y:=by simp[aG,dH]
theorem Lj{n x:Int}(h0:0<=n)(h1:n<=65535)(h2:0<=x)(h3:x<=65535):bits .or .i64 (de .i64 n 16) x=n*65536+x:=by
 have e:de .i64 n 16=n*65536:=by
  show IntKind.i64.wrap (n*2^(min 16 64))=_
  rw[ai (by simp;omega) (by simp;omega)];rfl
 rw[e]
 obtain⟨m,rfl⟩:=Int.eq_ofNat_of_zero_le h0
 obtain⟨y,rfl⟩:=Int.eq_ofNat_of_zero_le h2
 have:=J2 (m*65536) y (by omega) (by omega)
 rw[nat_join 16 (m*65536) y (by omega) (by omega),show ((m*65536:Nat):Int)=(m:Int)*65536 from by omega,show ((m*65536+y:Nat):Int)=(m:Int)*65536+(y:Int) from by omega] at this
 exact this
def HL:Ct:=⟨[.val (.sl bj)],[.agg ET,.val cI],fun d=>[(d.1.length:Int)<=1000000],fun d=>((dU d.1,iE d.1,()),())⟩
def VQ:ar HL.ps->az:=(fun _=>{})
def yA :=
 (false,(0:Int),(0:Int),([]:List Int))
def jA(a:List Int) :=
 (a.length:Int)
theorem RP :
 ∀(a:List Int),(a.length<=maxLen/\ ∀(b:Int),b∈a->0<=b/\b<=255)/\True->(jA a)<=1000000->ad (decide ((jA a)<8)) ((yA)=dU a/\(3:Int)=iE a) ((0:Int)<=0/\0<(jA a)/\ ∀(b:Bool),b= ! decide (a.getD (Int.toNat (0:Int)) default=8)->(b->(b->b)/\(0:Int)<=0/\0<(jA a)/\True)/\(b->(b->b)/\True)/\(b->(b->b)/\True)/\(b->b)/\ ∀(c:Bool),(c=bif b then ! decide (a.getD (Int.toNat (0:Int)) default=0) else false)->((! c)->((! c)->(! c))/\(0:Int)<=1/\1<(jA a)/\True)/\((! c)->((! c)->(! c))/\True)/\((! c)->((! c)->(! c))/\True)/\(c=false->(! c))/\ad (bif c then true else ! decide (a.getD (Int.toNat (1:Int)) default=0)) ((yA)=dU a/\(2:Int)=iE a) (ad (decide (1480<(jA a))) ((yA)=dU a/\(5:Int)=iE a) ((0:Int)<=2/\(2:Int)+2<=(jA a)/\(jA a)<=1099511627776/\ ∀(d:List Int)(e:Int),d=bJ a (Int.toNat (2:Int)) (0:Int)/\e=aG a (Int.toNat
 (2:Int))->(d.length:Int)<=1099511627776/\ ∀(f:Int),f=65535 -oc (aY true d)->ad (! decide (f=e)) ((yA)=dU a/\(4:Int)=iE a) ((0:Int)<=0/\0<(jA a)/\(0:Int)<=4/\(4:Int)+2<=(jA a)/\(jA a)<=1099511627776/\(0:Int)<=6/\(6:Int)+2<=(jA a)/\(jA a)<=1099511627776/\(0:Int)<=8/\8<=(jA a)/\(jA a)<=(jA a)/\((List.length (cf a (Int.toNat (8:Int)) (Int.toNat (jA a)))):Int)<=1099511627776/\ ∀(g:List Int),g=cf a (Int.toNat (8:Int)) (Int.toNat (jA a))->(decide (a.getD (Int.toNat (0:Int)) default=0),aG a (Int.toNat (4:Int)),aG a (Int.toNat (6:Int)),g)=dU a/\(0:Int)=iE a)))):=by
  delta yA jA
  rintro b ⟨⟨-,hb⟩,-⟩ hl
  refine ae (fun h=>?_) (fun h8=>?_)
  ·exact Ab (by rw[iE,if_pos (of_decide_eq_true h)]) (by decide)
  have h8:=of_decide_eq_false h8
  refine⟨by omega,by omega,?_⟩
  (repeat (intro (b_:Bool) (hb_:b_=_);(repeat refine⟨(by first|(simp;done)|(rw[hb_];simp;done)|(rw[hb_];simp;omega)|(rw[hb_];simp;intros;omega)|(rw[hb_];simp +contextual;done)),?_⟩);subst hb_))
  refine ae (fun h=>?_) (fun hf=>?_)
  ·refine Ab (by rw[iE,if_neg h8,if_pos];rintro⟨f0,f1⟩;rw[decide_eq_true f1] at h;rcases f0 with f0|f0 <;> rw[f0] at h <;> simp at h) (by decide)
  have hf:yr b:=by
   unfold yr
   by_cases k1:b.getD (Int.toNat 1) default=0
   ·by_cases k2:b.getD (Int.toNat 0) default=8
    ·exact⟨.inl k2,k1⟩
    ·by_cases k3:b.getD (Int.toNat 0) default=0
     ·exact⟨.inr k3,k1⟩
     ·rw[decide_eq_false k2,decide_eq_false k3] at hf;simp at hf
   ·rw[decide_eq_false k1] at hf;simp[Bool.cond_eq_ite] at hf
  refine ae (fun h=>?_) (fun h5=>?_)
  ·exact Ab (by rw[iE,if_neg h8,if_neg (fun k=>k hf),if_pos (of_decide_eq_true h)]) (by decide)
  have h5:=of_decide_eq_false h5
  refine⟨by omega,by omega,by omega,?_⟩
  rintro x w ⟨rfl,rfl⟩
  refine⟨by simp[bJ];omega,?_⟩
  rintro c rfl
  refine ae (fun h=>?_) (fun h=>?_)
  ·refine Ab (by rw[iE,if_neg h8,if_neg (fun k=>k hf),if_neg h5,if_pos];intro k;rw[ci] at k;rw[decide_eq_true k] at h;cases h) (by decide)
  have h0:iE b=0:=by
   rw[iE,if_neg h8,if_neg (fun k=>k hf),if_neg h5,if_neg]
   intro k;rw[ci] at k;rw[decide_eq_false k] at h;cases h
  refine⟨by omega,by omega,by omega,by omega,by omega,by omega,by omega,by omega,by omega,by omega,by omega,by rw[si,List.length_drop];omega,?_⟩
  rintro y rfl
  rw[dU,if_pos h0,h0,si];exact⟨rfl,rfl⟩
theorem av0:ax Tryz.prog GL 162 HL.spec:=Ct.okH _ Tryz.func162 (by kernel_rfl) (ah (ah (ah (ah aD (Ct.named BV)) (Ct.named uM)) yQ) (Ct.named py)) av VQ (aC (by kernel_rfl) RP)
theorem Fw{b:List Int}{k:Nat}(h:k+2<=b.length):aG b k=b.getD k default*256+b.getD (k+1) default:=by
 have h0:k<b.length:=by omega
 have h1:k+1<b.length:=by omega
 have e:b.drop k=b[k]::b[k+1]::b.drop (k+1+1):=by rw[List.drop_eq_getElem_cons h0,List.drop_eq_getElem_cons h1]
 unfold aG
 rw[e,List.getD_eq_getElem?_getD,List.getD_eq_getElem?_getD,List.getElem?_eq_getElem h0,List.getElem?_eq_getElem h1]
 generalize b.drop (k+1+1)=r
 generalize b[k]=u
 generalize b[k+1]=v
 simp[dH]
theorem WU(p r:Prop) [Decidable p] [Decidable r]:(bif !decide p then true else !decide r) = !decide (p/\r):=by
 by_cases p <;> by_cases r <;> simp[*]
def KV:Ct:=⟨[.val cj,.val cj,.val (.sl bj)],[.agg OS,.val cI],fun d=>[(d.2.2.1.length:Int)<=1000000],fun d=>((nJ d.1 d.2.1 d.2.2.1,gW d.1 d.2.1 d.2.2.1,()),())⟩
def ZL:ar KV.ps->az:=(fun _=>{})
def cS(c:List Int) :=
 (c.length:Int)
def xY :=
 ((0:Int),(0:Int),([]:List Int))
theorem TP :
 ∀(a b:Int)(c:List Int),(0<=a/\a<=4294967295)/\(0<=b/\b<=4294967295)/\(c.length<=maxLen/\ ∀(d:Int),d∈c->0<=d/\d<=255)/\True->(cS c)<=1000000->ad (decide ((cS c)<8)) ((xY)=nJ a b c/\(3:Int)=gW a b c) ((0:Int)<=4/\(4:Int)+2<=(cS c)/\(cS c)<=1099511627776/\ad (! decide (aG c (Int.toNat (4:Int))=(cS c))) ((xY)=nJ a b c/\(2:Int)=gW a b c) (ad (decide (1480<(cS c))) ((xY)=nJ a b c/\(5:Int)=gW a b c) ((0:Int)<=6/\(6:Int)+2<=(cS c)/\(cS c)<=1099511627776/\ ∀(d:List Int)(e:Int),d=bJ c (Int.toNat (6:Int)) (0:Int)/\e=aG c (Int.toNat (6:Int))->(d.length:Int)<=1073741824/\ ∀(f:Int),f=iL a b d->ad (! decide (f=e)) ((xY)=nJ a b c/\(4:Int)=gW a b c) ((0:Int)<=0/\(0:Int)+2<=(cS c)/\(cS c)<=1099511627776/\(0:Int)<=2/\(2:Int)+2<=(cS c)/\(cS c)<=1099511627776/\(0:Int)<=8/\8<=(cS c)/\(cS c)<=(cS c)/\((List.length (cf
 c (Int.toNat (8:Int)) (Int.toNat (cS c)))):Int)<=1099511627776/\ ∀(g:List Int),g=cf c (Int.toNat (8:Int)) (Int.toNat (cS c))->(aG c (Int.toNat (0:Int)),aG c (Int.toNat (2:Int)),g)=nJ a b c/\(0:Int)=gW a b c)))):=by
  delta cS xY
  rintro s d b ⟨-,-,⟨-,hb⟩,-⟩ hl
  refine ae (fun h=>?_) (fun h8=>?_)
  ·exact Ak (by rw[gW,if_pos (of_decide_eq_true h)]) (by decide)
  have h8:=of_decide_eq_false h8
  repeat refine⟨by omega,?_⟩
  refine ae (fun h=>?_) (fun hf=>?_)
  ·exact Ak (by rw[gW,if_neg h8,if_pos];simpa using h) (by decide)
  have hf:aG b (Int.toNat 4)=b.length:=by simpa using hf
  refine ae (fun h=>?_) (fun h5=>?_)
  ·exact Ak (by rw[gW,if_neg h8,if_neg (fun k=>k hf),if_pos (of_decide_eq_true h)]) (by decide)
  have h5:=of_decide_eq_false h5
  repeat refine⟨by omega,?_⟩
  rintro x w ⟨rfl,rfl⟩
  refine⟨by rw[j9];omega,?_⟩
  rintro c rfl
  refine ae (fun h=>?_) (fun h=>?_)
  ·refine Ak (by rw[gW,if_neg h8,if_neg (fun k=>k hf),if_neg h5,if_pos];intro k;rw[decide_eq_true k] at h;cases h) (by decide)
  have h0:gW s d b=0:=by
   rw[gW,if_neg h8,if_neg (fun k=>k hf),if_neg h5,if_neg]
   intro k;rw[decide_eq_false k] at h;cases h
  rw[si]
  repeat refine⟨by omega,?_⟩
  refine⟨by rw[List.length_drop];omega,?_⟩
  rintro y rfl
  rw[nJ,if_pos h0,h0];exact⟨rfl,rfl⟩
theorem Sc:ax Tryz.prog GL 269 KV.spec:=Ct.okH _ Tryz.func269 (by kernel_rfl) (ah (ah (ah (ah aD (Ct.named BV)) (Ct.named Xj)) yQ) (Ct.named py)) av ZL (aC (by kernel_rfl) TP)
def J6:Ct:=⟨[.val cj,.val cj,.val (.sl bj)],[.agg xP,.val cI],fun d=>[(d.2.2.1.length:Int)<=1000000],fun d=>((dK d.1 d.2.1 d.2.2.1,gJ d.1 d.2.1 d.2.2.1,()),())⟩
def ab2:ar J6.ps->az:=(fun _=>{})
def xg :=
 ((0:Int),(0:Int),(0:Int),(0:Int),(0:Int),(0:Int),([]:List Int))
theorem Vv :
 ∀(a b:Int)(c:List Int),(0<=a/\a<=4294967295)/\(0<=b/\b<=4294967295)/\(c.length<=maxLen/\ ∀(d:Int),d∈c->0<=d/\d<=255)/\True->(cS c)<=1000000->ad (decide ((cS c)<20)) ((xg)=dK a b c/\(3:Int)=gJ a b c) ((0:Int)<=12/\12<(cS c)/\ ∀(d:Bool),d= ! decide (c.getD (Int.toNat (12:Int)) default=80)->((! d)->((! d)->(! d))/\(0:Int)<=18/\(18:Int)+2<=(cS c)/\(cS c)<=1099511627776/\True)/\((! d)->((! d)->(! d))/\True)/\(d=false->(! d))/\ad (bif d then true else ! decide (aG c (Int.toNat (18:Int))=0)) ((xg)=dK a b c/\(2:Int)=gJ a b c) (ad (decide (1480<(cS c))) ((xg)=dK a b c/\(5:Int)=gJ a b c) ((0:Int)<=16/\(16:Int)+2<=(cS c)/\(cS c)<=1099511627776/\ ∀(e:List Int)(f:Int),e=bJ c (Int.toNat (16:Int)) (0:Int)/\f=aG c (Int.toNat (16:Int))->(e.length:Int)<=1073741824/\ ∀(g:Int),g=dE a b (6:Int) e->ad (! decide (g=f)) ((xg)=dK a b
 c/\(4:Int)=gJ a b c) ((0:Int)<=0/\(0:Int)+2<=(cS c)/\(cS c)<=1099511627776/\(0:Int)<=2/\(2:Int)+2<=(cS c)/\(cS c)<=1099511627776/\(0:Int)<=4/\(4:Int)+2<=(cS c)/\(cS c)<=1099511627776/\(0:Int)<=16/\(0:Int)<=6/\(6:Int)+2<=(cS c)/\(cS c)<=1099511627776/\(0:Int)<=8/\(8:Int)+2<=(cS c)/\(cS c)<=1099511627776/\(0:Int)<=16/\(0:Int)<=10/\(10:Int)+2<=(cS c)/\(cS c)<=1099511627776/\(0:Int)<=13/\13<(cS c)/\(0:Int)<=14/\(14:Int)+2<=(cS c)/\(cS c)<=1099511627776/\(0:Int)<=20/\20<=(cS c)/\(cS c)<=(cS c)/\((List.length (cf c (Int.toNat (20:Int)) (Int.toNat (cS c)))):Int)<=1099511627776/\ ∀(h:List Int),h=cf c (Int.toNat (20:Int)) (Int.toNat (cS c))->(aG c (Int.toNat (0:Int)),aG c (Int.toNat (2:Int)),bits BinOp.or IntKind.i64 (de IntKind.i64 (aG c (Int.toNat (4:Int))) (16:Int)) (aG c (Int.toNat (6:Int))),bits BinOp.or IntKind.i64 (de
 IntKind.i64 (aG c (Int.toNat (8:Int))) (16:Int)) (aG c (Int.toNat (10:Int))),IntKind.wrap .i64 (c.getD (Int.toNat (13:Int)) default),aG c (Int.toNat (14:Int)),h)=dK a b c/\(0:Int)=gJ a b c)))):=by
  delta cS xg
  rintro s d b ⟨-,-,⟨-,hb⟩,-⟩ hl
  refine ae (fun h=>?_) (fun h8=>?_)
  ·exact Bb (by rw[gJ,if_pos (of_decide_eq_true h)]) (by decide)
  have h8:=of_decide_eq_false h8
  refine⟨by omega,by omega,?_⟩
  (repeat (intro (b_:Bool) (hb_:b_=_);(repeat refine⟨(by first|(simp;done)|(rw[hb_];simp;done)|(rw[hb_];simp;omega)|(rw[hb_];simp;intros;omega)|(rw[hb_];simp +contextual;done)),?_⟩);subst hb_))
  rw[show (bif !decide (b.getD (Int.toNat 12) default=80) then true else !decide (aG b (Int.toNat 18)=0)) = !decide (xN b) from (WU _ _).trans (congrArg (fun x => !x) (decide_eq_decide.2 Iff.rfl))]
  refine ae (fun h=>?_) (fun hf=>?_)
  ·exact Bb (by rw[gJ,if_neg h8,if_pos];simpa using h) (by decide)
  have hf:xN b:=by simpa using hf
  refine ae (fun h=>?_) (fun h5=>?_)
  ·exact Bb (by rw[gJ,if_neg h8,if_neg (fun k=>k hf),if_pos (of_decide_eq_true h)]) (by decide)
  have h5:=of_decide_eq_false h5
  repeat refine⟨by omega,?_⟩
  rintro x w ⟨rfl,rfl⟩
  refine⟨by rw[j9];omega,?_⟩
  rintro c rfl
  refine ae (fun h=>?_) (fun h=>?_)
  ·exact Bb (by rw[gJ,if_neg h8,if_neg (fun k=>k hf),if_neg h5,if_pos];intro k;rw[decide_eq_true k] at h;cases h) (by decide)
  have h0:gJ s d b=0:=by
   rw[gJ,if_neg h8,if_neg (fun k=>k hf),if_neg h5,if_neg]
   intro k;rw[decide_eq_false k] at h;cases h
  rw[si]
  repeat refine⟨by omega,?_⟩
  refine⟨by rw[List.length_drop];omega,?_⟩
  rintro y rfl
  have g:=hb _ (bL (xs:=b) (i:=13) (by omega) (by omega))
  have v4:=zV (k:=Int.toNat 4) hb
  have v6:=zV (k:=Int.toNat 6) hb
  have v8:=zV (k:=Int.toNat 8) hb
  have v10:=zV (k:=Int.toNat 10) hb
  rw[dK,if_pos h0,h0,ai (by omega) (by omega),Lj v4.1 v4.2 v6.1 v6.2,Lj v8.1 v8.2 v10.1 v10.2];exact⟨rfl,rfl⟩
theorem Uy:ax Tryz.prog GL 166 J6.spec:=Ct.okH _ Tryz.func166 (by kernel_rfl) (ah (ah (ah (ah aD (Ct.named BV)) (Ct.named EG)) yQ) (Ct.named py)) av ab2 (aC (by kernel_rfl) Vv)
end Go.RS

/- Trback: messages are decoded from their encodings; what damage does. -/
namespace Go.RS
open Go.SX Go.Proofs
set_option maxRecDepth 100000
set_option linter.unusedVariables false
def AW(data:List Int)(e:kX):Prop:=(bV e.2.1=true/\bV e.2.2.1=true)/\e.2.2.2=data
def DW(data:List Int)(u:nI):Prop:=(bV u.1=true/\bV u.2.1=true)/\u.2.2=data
def AJ(data:List Int)(s:jL):Prop:=lO s/\s.2.2.2.2.2.2=data
theorem jG{n:Int}(h0:0<=n)(h1:n<=65535):n/256%256*256+n%256=n:=by omega
theorem ah3{e:kX}(h:ik e=0):dk e=(if e.1 then 0 else 8)::0::(ci (bI e)/256%256)::(ci (bI e)%256)::(e.2.1/256%256)::(e.2.1%256)::(e.2.2.1/256%256)::(e.2.2.1%256)::e.2.2.2:=by
 rw[dk,if_pos h];rfl
theorem AH{data:List Int}{e:kX}(h:AW data e)(hl:(data.length:Int)<=1472):ik e=0:=by
 rw[ik,if_neg (fun k=>k h.1),if_neg (by rw[h.2];omega)]
theorem Nh{data:List Int}{e:kX}(h:AW data e)(hd:bytes data)(hl:(data.length:Int)<=1472):iE (dk e)=0/\dU (dk e)=e:=by
 have h0:=AH h hl
 rw[ah3 h0]
 obtain⟨⟨h1,h2⟩,h3⟩:=h
 rw[gz] at h1 h2
 have hc:=nh (tz (e:=e) (by rw[h3];exact hd))
 have hb:bI e=(if e.1 then 0 else 8)::0::0::0::(e.2.1/256%256)::(e.2.1%256)::(e.2.2.1/256%256)::(e.2.2.1%256)::e.2.2.2:=rfl
 obtain⟨r,i,q,l⟩:=e
 simp only at h1 h2 h3 hc hb ⊢
 subst h3
 have he:iE ((if r then 0 else 8)::0::(ci (bI (r,i,q,l))/256%256)::(ci (bI (r,i,q,l))%256)::(i/256%256)::(i%256)::(q/256%256)::(q%256)::l)=0:=by
  rw[iE,if_neg (by simp only[List.length_cons];omega),if_neg,if_neg (by simp only[List.length_cons];omega),if_neg]
  ·have e2:aG ((if r then 0 else 8)::0::(ci (bI (r,i,q,l))/256%256)::(ci (bI (r,i,q,l))%256)::(i/256%256)::(i%256)::(q/256%256)::(q%256)::l) (Int.toNat 2)=ci (bI (r,i,q,l))/256%256*256+ci (bI (r,i,q,l))%256:=fG _ _ _
   rw[e2,jG hc.1 hc.2]
   have e3:bJ ((if r then 0 else 8)::0::(ci (bI (r,i,q,l))/256%256)::(ci (bI (r,i,q,l))%256)::(i/256%256)::(i%256)::(q/256%256)::(q%256)::l) (Int.toNat 2) 0=bI (r,i,q,l):=rfl
   rw[e3];exact fun k=>k rfl
  ·intro k;apply k
   refine⟨?_,rfl⟩
   cases r
   ·exact .inl rfl
   ·exact .inr rfl
 refine⟨he,?_⟩
 rw[dU,if_pos he]
 have e4:aG ((if r then 0 else 8)::0::(ci (bI (r,i,q,l))/256%256)::(ci (bI (r,i,q,l))%256)::(i/256%256)::(i%256)::(q/256%256)::(q%256)::l) (Int.toNat 4)=i/256%256*256+i%256:=fG _ _ _
 have e6:aG ((if r then 0 else 8)::0::(ci (bI (r,i,q,l))/256%256)::(ci (bI (r,i,q,l))%256)::(i/256%256)::(i%256)::(q/256%256)::(q%256)::l) (Int.toNat 6)=q/256%256*256+q%256:=fG _ _ _
 rw[e4,e6,jG h1.1 h1.2,jG h2.1 h2.2]
 cases r <;> rfl
theorem HF{data:List Int}{u:nI}(h:DW data u)(hl:(data.length:Int)<=1472):kS u=0:=by
 rw[kS,if_neg (fun k=>k h.1),if_neg (by rw[h.2];omega)]
theorem Zr{s d:Int}{data:List Int}{u:nI}(h:DW data u)(hd:bytes data)(hl:(data.length:Int)<=1472):gW s d (jN s d u)=0/\nJ s d (jN s d u)=u:=by
 have h0:=HF h hl
 obtain⟨⟨h1,h2⟩,h3⟩:=h
 rw[gz] at h1 h2
 have hc:=JF (a:=s) (b:=d) (xw (e:=u) (by rw[h3];exact hd))
 obtain⟨sp,dp,l⟩:=u
 simp only at h1 h2 h3 hc
 subst h3
 generalize hB:jN s d (sp,dp,l)=B
 have hs:B=(sp/256%256)::(sp%256)::(dp/256%256)::(dp%256)::((8+l.length:Int)/256%256)::((8+l.length:Int)%256)::(iL s d (dm (sp,dp,l))/256%256)::(iL s d (dm (sp,dp,l))%256)::l:=by rw[← hB,jN,if_pos h0];rfl
 have i0:aG B (Int.toNat 0)=sp/256%256*256+sp%256:=by rw[hs];exact fG _ _ _
 have i2:aG B (Int.toNat 2)=dp/256%256*256+dp%256:=by rw[hs];exact fG _ _ _
 have i4:aG B (Int.toNat 4)=(8+l.length:Int)/256%256*256+(8+l.length:Int)%256:=by rw[hs];exact fG _ _ _
 have i6:aG B (Int.toNat 6)=iL s d (dm (sp,dp,l))/256%256*256+iL s d (dm (sp,dp,l))%256:=by rw[hs];exact fG _ _ _
 have hset:bJ B (Int.toNat 6) 0=dm (sp,dp,l):=by rw[hs];rfl
 have hlen:(B.length:Int)=8+l.length:=by rw[hs];simp only[List.length_cons];omega
 have g8:B.drop 8=l:=by rw[hs];rfl
 have he:gW s d B=0:=by
  rw[gW,if_neg (by omega),if_neg (fun q=>q (by rw[i4];omega)),if_neg (by omega),if_neg]
  rw[hset,i6,jG hc.1 hc.2];exact fun q=>q rfl
 refine⟨he,?_⟩
 rw[nJ,if_pos he,i0,i2,g8,jG h1.1 h1.2,jG h2.1 h2.2]
theorem Gu{data:List Int}{s:jL}(h:AJ data s)(hl:(data.length:Int)<=1460):i9 s=0:=by
 rw[i9,if_neg (fun k=>k h.1),if_neg (by rw[h.2];omega)]
theorem JU{n:Int}(h0:0<=n)(h1:n<=4294967295):(n/16777216%256*256+n/65536%256)*65536+(n/256%256*256+n%256)=n:=by omega
theorem Pt{s d:Int}{data:List Int}{u:jL}(h:AJ data u)(hd:bytes data)(hl:(data.length:Int)<=1460):gJ s d (dj s d u)=0/\dK s d (dj s d u)=u:=by
 have h0:=Gu h hl
 obtain⟨hok,h3⟩:=h
 have hc:=vA (a:=s) (b:=d) (p:=6) (vt hok (by rw[h3];exact hd))
 obtain⟨h1,h2,k3,k4,k5,k6⟩:=hok
 rw[gz] at h1 h2 k6
 obtain⟨sp,dp,sq,ak,fl,wi,l⟩:=u
 simp only at h1 h2 h3 hc k3 k4 k5 k6
 subst h3
 generalize hC:dE s d 6 (io (sp,dp,sq,ak,fl,wi,l))=c at hc
 generalize hB:dj s d (sp,dp,sq,ak,fl,wi,l)=B
 have hs:B=(sp/256%256)::(sp%256)::(dp/256%256)::(dp%256)::(sq/16777216%256)::(sq/65536%256)::(sq/256%256)::(sq%256)::(ak/16777216%256)::(ak/65536%256)::(ak/256%256)::(ak%256)::80::fl::(wi/256%256)::(wi%256)::(c/256%256)::(c%256)::0::0::l:=by rw[← hB,dj,if_pos h0,hC];rfl
 have i0:aG B (Int.toNat 0)=sp/256%256*256+sp%256:=by rw[hs];exact fG _ _ _
 have i2:aG B (Int.toNat 2)=dp/256%256*256+dp%256:=by rw[hs];exact fG _ _ _
 have i4:aG B (Int.toNat 4)=sq/16777216%256*256+sq/65536%256:=by rw[hs];exact fG _ _ _
 have i6:aG B (Int.toNat 6)=sq/256%256*256+sq%256:=by rw[hs];exact fG _ _ _
 have i8:aG B (Int.toNat 8)=ak/16777216%256*256+ak/65536%256:=by rw[hs];exact fG _ _ _
 have i10:aG B (Int.toNat 10)=ak/256%256*256+ak%256:=by rw[hs];exact fG _ _ _
 have i14:aG B (Int.toNat 14)=wi/256%256*256+wi%256:=by rw[hs];exact fG _ _ _
 have i16:aG B (Int.toNat 16)=c/256%256*256+c%256:=by rw[hs];exact fG _ _ _
 have i18:aG B (Int.toNat 18)=0:=by rw[hs];exact fG 0 0 _
 have hset:bJ B (Int.toNat 16) 0=io (sp,dp,sq,ak,fl,wi,l):=by rw[hs];rfl
 have hlen:(B.length:Int)=20+l.length:=by rw[hs];simp only[List.length_cons];omega
 have g12:B.getD (Int.toNat 12) default=80:=by rw[hs];rfl
 have g13:B.getD (Int.toNat 13) default=fl:=by rw[hs];rfl
 have g20:B.drop 20=l:=by rw[hs];rfl
 have he:gJ s d B=0:=by
  rw[gJ,if_neg (by omega),if_neg (fun q=>q ⟨g12,i18⟩),if_neg (by omega),if_neg]
  rw[hset,hC,i16,jG hc.1 hc.2];exact fun q=>q rfl
 refine⟨he,?_⟩
 rw[dK,if_pos he,i0,i2,i4,i6,i8,i10,g13,i14,g20,jG h1.1 h1.2,jG h2.1 h2.2,jG k6.1 k6.2,JU k3.1 k3.2,JU k4.1 k4.2]
def pb(s d p n:Int):List Int:=w4 s++(w4 d++(w2 p++w2 n))
theorem CI(s d p:Int)(X:List Int):aY true (sZ s d p X)=aY true (pb s d p X.length)+aY true X:=by
 have e:sZ s d p X=pb s d p X.length++X:=by simp[sZ,pb]
 have hl:(pb s d p X.length).length=12:=by simp[pb,w4,w2]
 rw[e,yE,hl];rfl
theorem RU(s d p n:Int):aY true (pb s d p n)=aY true (w4 s)+aY true (w4 d)+aY true (w2 p)+aY true (w2 n):=by
 have h4:∀ n r,aY true (w4 n++r)=aY true (w4 n)+aY true r:=fun n r=>by rw[yE,show (w4 n).length=4 from rfl];rfl
 have h2:∀ n r,aY true (w2 n++r)=aY true (w2 n)+aY true r:=fun n r=>by rw[yE,show (w2 n).length=2 from rfl];rfl
 rw[pb,h4,h4,h2]
 omega
theorem af1(e:kX):((dk e).length:Int)<=1480:=by
 unfold dk
 split
 ·rename_i h
  rw[j9,zd]
  unfold ik at h
  split at h
  ·cases h
  ·split at h
   ·cases h
   ·omega
 ·simp
theorem Db(e:mD):((fU e).length:Int)<=1480:=by
 unfold fU
 split
 ·rename_i h
  rw[j9,DP]
  unfold gv at h
  split at h
  ·cases h
  ·split at h
   ·cases h
   ·split at h
    ·cases h
    ·omega
 ·simp
theorem YZ(s d:Int)(e:jL):((dj s d e).length:Int)<=1480:=by
 unfold dj
 split
 ·rename_i h
  rw[j9,ul]
  unfold i9 at h
  split at h
  ·cases h
  ·split at h
   ·cases h
   ·omega
 ·simp
theorem ND{l:List Int}{i:Nat}{v:Int}(h:i<l.length):(l.set i v).getD i default=v:=by
 rw[List.getD_eq_getElem?_getD,List.getElem?_set_self h,Option.getD_some]
theorem yz{l:List Int}{i j:Nat}{v:Int}(h:i≠j):(l.set i v).getD j default=l.getD j default:=by
 rw[List.getD_eq_getElem?_getD,List.getElem?_set_ne h,← List.getD_eq_getElem?_getD]
theorem JN(s d p n:Int):p%256<=aY true (pb s d p n):=by
 rw[RU];simp[aY,w4,w2];omega
end Go.RS
