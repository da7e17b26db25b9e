/- Wire: numbers in bytes, the Internet checksum. -/
import Derived.Test.YthmcfealplfaaaaGreatDoorIdent
namespace Go.RS
open Go.SX Go.Proofs
set_option maxRecDepth 100000
set_option linter.unusedVariables false
def io(n:Int)(w k:Nat):List Int:=(List.range k).map fun j=>n/256^(w-1-j)%256
def lL(n w:Int):Prop:=w<1∨7<w∨n<0∨256^w.toNat<=n
instance (n w:Int):Decidable (lL n w):=by unfold lL;infer_instance
def bG(b:List Int)(n w:Int):List Int:=if lL n w then [] else b++io n w.toNat w.toNat
def nJ(n w:Int):Int:=if lL n w then 1 else 0
def dL(l:List Int):Int:=l.foldl (fun n x=>n*256+x) 0
def dQ(b:List Int)(at' w:Int):Int:=if w<1∨7<w∨at'<0∨b.length-w<at' then 0 else dL ((b.drop at'.toNat).take w.toNat)
def qh(b:List Int)(at' w:Int):Int:=if w<1∨7<w∨at'<0 then 1 else if b.length-w<at' then 3 else 0
def oc(n:Int):Int:=if n=0 then 0 else (n-1)%65535+1
def bf:Bool->List Int->Int
 | _,[]=>0
 | hi,x::r=>(if hi then x*256 else x)+bf (!hi) r
def bU(n:Int):Bool:=decide (0<=n/\n<=65535)
theorem K2(a b:Nat)(ha:a<9223372036854775808)(hb:b<9223372036854775808):bits .or .i64 (a:Int) (b:Int)=((a ||| b:Nat):Int):=by
 have h:a ||| b<2^63:=Nat.or_lt_two_pow (by omega) (by omega)
 have key:(BitVec.ofInt 64 (a:Int) ||| BitVec.ofInt 64 (b:Int)).toNat=a ||| b:=by
  rw[BitVec.toNat_or,BitVec.toNat_ofInt,BitVec.toNat_ofInt]
  have e1:((a:Int)%((2^64:Nat):Int)).toNat=a:=by omega
  have e2:((b:Int)%((2^64:Nat):Int)).toNat=b:=by omega
  rw[e1,e2]
 show IntKind.i64.wrap ((BitVec.ofInt 64 (a:Int) ||| BitVec.ofInt 64 (b:Int)).toNat:Nat)=_
 rw[key,af (by omega) (by omega)]
theorem C8{n:Int}(h0:0<=n)(h1:n<=36028797018963967):dm .i64 n 8=n*256:=by
 show IntKind.i64.wrap (n*2^(min 8 64))=_
 rw[af (by simp;omega) (by simp;omega)];rfl
theorem FG{n x:Int}(h0:0<=n)(h1:n<=36028797018963966)(h2:0<=x)(h3:x<=255):bits .or .i64 (dm .i64 n 8) (IntKind.wrap .i64 x)=n*256+x:=by
 rw[C8 h0 (by omega),af (n:=x) (by omega) (by omega)]
 obtain⟨m,rfl⟩:=Int.eq_ofNat_of_zero_le h0
 obtain⟨y,rfl⟩:=Int.eq_ofNat_of_zero_le h2
 have:=K2 (m*256) y (by omega) (by omega)
 rw[nat_join 8 (m*256) y (by omega) (by omega)] at this
 push_cast at this
 exact this
theorem uO{n:Int}{k:Nat}(h0:0<=n)(hk:k<8):cU .i64 n (8*k)=n/256^k:=by
 unfold cU
 have hm:min ((8*(k:Int))).toNat IntKind.i64.bits=8*k:=by simp only[IntKind.bits];omega
 rw[hm,Int.fdiv_eq_ediv_of_nonneg _ (Int.le_of_lt (Int.pow_pos (by decide))),Int.pow_mul]
 rfl
theorem yY{w:Int}(h0:1<=w)(h1:w<=7):dm .i64 1 (IntKind.wrap .i64 (8*w))=256^w.toNat:=by
 have:w=1∨w=2∨w=3∨w=4∨w=5∨w=6∨w=7:=by omega
 rcases this with rfl|rfl|rfl|rfl|rfl|rfl|rfl <;> decide
theorem Ij(n:Int)(w k:Nat):io n w (k+1)=io n w k++[n/256^(w-1-k)%256]:=by
 unfold io;rw[List.range_succ,List.map_append];rfl
theorem HT(n:Int)(w k:Nat):(io n w k).length=k:=by unfold io;simp
theorem GO(l:List Int)(x:Int):dL (l++[x])=dL l*256+x:=by unfold dL;rw[List.foldl_append];rfl
theorem Au:∀(k:Nat)(l:List Int),l.length<=k->(∀ x∈l,0<=x/\x<=255)->0<=dL l/\dL l<256^k:=by
 intro k
 induction k with
 | zero =>
  intro l hl _
  have:l=[]:=List.eq_nil_of_length_eq_zero (by omega)
  subst this;exact⟨by decide,by decide⟩
 | succ k ih =>
  intro l hl hx
  rcases List.eq_nil_or_concat l with rfl|⟨m,x,rfl⟩
  ·exact⟨by decide,Int.pow_pos (by decide)⟩
  ·rw[List.concat_eq_append] at hl hx ⊢
   have h1:=ih m (by simp at hl;omega) (fun y hy=>hx y (List.mem_append_left _ hy))
   have h2:=hx x (by simp)
   rw[GO,Int.pow_succ]
   generalize (256:Int)^k=P at h1 ⊢
   omega
theorem Mu{l:List Int}(hl:l.length<=6)(hx:∀ x∈l,0<=x/\x<=255):0<=dL l/\dL l<=281474976710655:=by
 have:=Au 6 l hl hx
 have e:(256:Int)^6=281474976710656:=by decide
 omega
theorem ay7{n:Int}(h:65535<n):oc (n/65536+n%65536)=oc n:=by
 unfold oc
 rw[if_neg (by omega),if_neg (by omega)];omega
theorem Se{n:Int}(h0:0<=n)(h1:n<=65535):oc n=n:=by
 unfold oc;split
 ·omega
 ·omega
theorem r8{n:Int}(h0:0<=n):0<=oc n/\oc n<=65535:=by unfold oc;split <;> omega
theorem I7{m x:Int}(h0:0<=m)(h1:0<=x):oc (oc m+x)=oc (m+x):=by
 unfold oc
 by_cases h:m=0
 ·simp[h]
 ·rw[if_neg h,if_neg (by omega),if_neg (by omega)];omega
theorem xm(hi:Bool)(a b:List Int):bf hi (a++b)=bf hi a+bf (if a.length%2=0 then hi else !hi) b:=by
 induction a generalizing hi with
 | nil=>simp[bf]
 | cons x a ih =>
  rw[List.cons_append,bf,bf,ih,Int.add_assoc]
  congr 3
  rw[List.length_cons]
  by_cases h:a.length%2=0
  ·rw[if_pos h,if_neg (by omega)]
  ·rw[if_neg h,if_pos (by omega)];simp
theorem wv(hi:Bool)(l:List Int)(hx:∀ x∈l,0<=x/\x<=255):0<=bf hi l/\bf hi l<=65280*l.length:=by
 induction l generalizing hi with
 | nil=>simp[bf]
 | cons x l ih =>
  have h1:=ih (!hi) (fun y hy=>hx y (List.mem_cons_of_mem _ hy))
  have h2:=hx x List.mem_cons_self
  rw[bf,List.length_cons]
  cases hi
  ·simp at h1 ⊢;omega
  ·simp at h1 ⊢;omega
theorem qK{l:List Int}{j:Int}(h0:0<=j)(h1:j<l.length):l.take (j+1).toNat=l.take j.toNat++[l.getD j.toNat default]:=by
 have hj:j.toNat<l.length:=by omega
 rw[show (j+1).toNat=j.toNat+1 from by omega,List.take_succ_eq_append_getElem hj,List.getD_eq_getElem?_getD,List.getElem?_eq_getElem hj,Option.getD_some]
def I9:Ct:=⟨[.val (.sl bm)],[.own 5 bm],fun d=>[(d.1.length:Int)<=1099511627776],fun d=>((d.1,()),())⟩
def UX:ar I9.ps->ay:=(fun _=>{})
def bX(a:List Int) :=
 (a.length:Int)
def qF(a:List Int) :=
 a.length<=maxLen/\ ∀(b:Int),b∈a->0<=b/\b<=255
theorem Ub :
 ∀(a:List Int),(qF a)/\True->(bX a)<=1099511627776-> ∀(b:Bool),(b=true->a.length=(0:Nat))->ad b (([]:List Int)=a) (((0:Nat)+a.length)*(1:Nat)<=(140737488355328:Nat)/\a=a):=by
  delta bX qF
  rintro x ⟨⟨hl,-⟩,-⟩ h b hb
  refine ae (fun h1=>?_) (fun h1=>⟨by omega,rfl⟩)
  have:=hb h1
  exact (List.eq_nil_of_length_eq_zero this).symm
theorem pU:av Tryz.prog GL 47 I9.spec:=Ct.okH _ Tryz.func47 (by kernel_rfl) aA au UX (aB (by kernel_rfl) Ub)
def MO:Ct:=⟨[.val (.sl bm),.val cI,.val cI],[.own 5 bm,.val cI],fun d=>[(d.1.length:Int)<=1099511627776],fun d=>((bG d.1 d.2.1 d.2.2.1,nJ d.2.1 d.2.2.1,()),())⟩
def aj5:ar MO.ps->ay:=(fun d=>{loops:=(fun n=>match n with|5=>some (fun S=>{ι:=Int×(List Int),qn:=⟨fun k_=>∀(k:Int)(ys:(List Int)),k_ (k,ys),fun k_ h_ i=>h_ i.1 i.2,fun k_=>∃ (k:Int) (ys:(List Int)),k_ (k,ys),fun k_ ⟨k,ys,h_⟩=>⟨_,h_⟩⟩,μ:=fun i=>(d.2.2.1-i.1).toNat,inv:=fun i=>0<=i.1/\i.1<=d.2.2.1/\i.2=d.1++io d.2.1 d.2.2.1.toNat i.1.toNat,keep:=[1,2],slots:=fun i=>[(8,.own 524288 1),(9,.int .i64 (8*(d.2.2.1-1-i.1)))],names:=fun i=>[(524288,.live (.row 5 bm i.2))]})|_=>none)})
def nZ(a:List Int) :=
 a.length<=maxLen/\ ∀(d:Int),d∈a->0<=d/\d<=255
def sY(f:Bool) :=
 (! f)->((! f)->(! f))/\((! f)->(! f))/\True
theorem Wa :
 ∀(a:List Int)(b c:Int),(nZ a)/\ab b/\ab c/\True->(bX a)<=1099511627776-> ∀(d:Bool),d=decide (c<1)->((! d)->((! d)->(! d))/\True)/\(d=false->(! d))/\ ∀(e:Bool),(e=bif d then true else decide (7<c))->((! e)->((! e)->(! e))/\True)/\(e=false->(! e))/\ ∀(f:Bool),(f=bif e then true else decide (b<0))->((! f)->((! f)->(! f))/\True)/\((! f)->((! f)->(! f))/\0<=IntKind.wrap .i64 ((8:Int)*c)/\True)/\(sY f)/\(f=false->(! f))/\ad (bif f then true else decide (dm IntKind.i64 (1:Int) (IntKind.wrap .i64 ((8:Int)*c))<=b)) (([]:List Int)=bG a b c/\(1:Int)=nJ b c) ((bX a)<=1099511627776/\(∃(g:Int) (h:List Int),(0<=g/\g<=c/\h=a++io b c.toNat g.toNat)/\b=b/\c=c/\IntKind.wrap .i64 ((8:Int)*IntKind.wrap .i64 (c -(1:Int)))=8*(c -(1:Int) -g)/\a=h/\True)/\ ∀(g:Int)(h:List Int),0<=g/\g<=c/\h=a++io b c.toNat g.toNat->ad (decide ((0:Int)<=8*(c -(1:Int) -g))) ((0:Int)<=8*(c -(1:Int)
 -g)/\(h.length+List.length [IntKind.wrap .u8 (cU IntKind.i64 b ((8:Int)*(c -(1:Int) -g)))])*(1:Nat)<=(140737488355328:Nat)/\ ∃(i:Int) (j:List Int),(0<=i/\i<=c/\j=a++io b c.toNat i.toNat)/\Int.toNat (c -i)<Int.toNat (c -g)/\b=b/\c=c/\IntKind.wrap .i64 ((8:Int)*(c -(1:Int) -g) -(8:Int))=8*(c -(1:Int) -i)/\h++[IntKind.wrap .u8 (cU IntKind.i64 b ((8:Int)*(c -(1:Int) -g)))]=j/\True) (h=bG a b c/\(0:Int)=nJ b c)):=by
  delta bX nZ sY
  rintro b n w ⟨-,⟨n0,n1⟩,⟨w0,w1⟩,-⟩ hl
  rintro b1 rfl
  refine⟨by simp,by simp,?_⟩
  rintro b1 rfl
  refine⟨by simp,by simp,?_⟩
  rintro b1 rfl
  have hpre:(!(bif (bif decide (w<1) then true else decide (7<w)) then true else decide (n<0)))=true->1<=w/\w<=7/\0<=n:=by
   simp[Bool.cond_eq_ite];omega
  refine⟨by simp,fun h=>⟨fun _=>h,by have:=hpre h;rw[af (by omega) (by omega)];omega,trivial⟩,fun h=>⟨fun _=>h,fun _=>h,trivial⟩,by simp,?_⟩
  refine ae (fun hc=>?_) (fun hc=>?_)
  ·have hbad:lL n w:=by
    unfold lL
    by_cases h:1<=w/\w<=7
    ·rw[yY h.1 h.2] at hc
     simp[Bool.cond_eq_ite] at hc;omega
    ·omega
   rw[bG,nJ,if_pos hbad,if_pos hbad];exact⟨rfl,rfl⟩
  ·have hw:1<=w/\w<=7/\0<=n:=hpre (by
    cases h:(bif (bif decide (w<1) then true else decide (7<w)) then true else decide (n<0)) with
    | false=>rfl
    | true=>rw[h] at hc;simp at hc)
   obtain⟨h1,h7,hn⟩:=hw
   rw[yY h1 h7] at hc
   have hgood:¬ lL n w:=by
    unfold lL
    simp[Bool.cond_eq_ite] at hc;omega
   rw[bG,nJ,if_neg hgood,if_neg hgood]
   refine⟨hl,⟨0,b,⟨by omega,by omega,by simp[io]⟩,rfl,rfl,by rw[af (n:=w-1) (by omega) (by omega),af (by omega) (by omega)];omega,rfl,trivial⟩,?_⟩
   rintro k ys ⟨k0,k1,rfl⟩
   refine ae (fun hk=>?_) (fun hk=>?_)
   ·have hk:=of_decide_eq_true hk
    obtain⟨j,hj⟩:=Int.eq_ofNat_of_zero_le (show 0<=w-1-k by omega)
    rw[hj,uO hn (by omega),IntKind.wrap_u8']
    have hbl:=HT n w.toNat k.toNat
    refine⟨by omega,by simp only[List.length_append,List.length_singleton,hbl];omega,k+1,_,⟨by omega,by omega,rfl⟩,by omega,rfl,rfl,by rw[af (by omega) (by omega)];omega,?_,trivial⟩
    rw[show (k+1).toNat=k.toNat+1 from by omega,Ij,List.append_assoc,show w.toNat-1-k.toNat=j from by omega]
   ·have hk:=of_decide_eq_false hk
    rw[show k=w from by omega];exact⟨rfl,rfl⟩
theorem NC:av Tryz.prog GL 264 MO.spec:=Ct.okH _ Tryz.func264 (by kernel_rfl) (ah aA pU) au aj5 (aB (by kernel_rfl) Wa)
def OC:Ct:=⟨[.val (.sl bm),.val cI,.val cI],[.val cI,.val cI],fun d=>[(d.1.length:Int)<=1099511627776],fun d=>((dQ d.1 d.2.1 d.2.2.1,qh d.1 d.2.1 d.2.2.1,()),())⟩
def WG:ar OC.ps->ay:=(fun d=>{loops:=(fun n=>match n with|7=>some (fun S=>{ι:=Int×Int,qn:=⟨fun k_=>∀(j:Int)(n:Int),k_ (j,n),fun k_ h_ i=>h_ i.1 i.2,fun k_=>∃ (j:Int) (n:Int),k_ (j,n),fun k_ ⟨j,n,h_⟩=>⟨_,h_⟩⟩,μ:=fun i=>(d.2.2.1-i.1).toNat,inv:=fun i=>0<=i.1/\i.1<=d.2.2.1/\i.2=dL (((d.1.drop d.2.1.toNat).take d.2.2.1.toNat).take i.1.toNat),keep:=[34,35],slots:=fun i=>[(8,.int .i64 i.2),(36,.int .i64 i.1)],names:=fun i=>[]})|_=>none)})
def ta(b c:Int) :=
 Int.toNat (IntKind.wrap .i64 (b+c))
def tC(a:List Int)(b c:Int) :=
 ((List.length (ce a b.toNat (ta b c))):Int)
def rR(a:List Int)(b c:Int) :=
 List.take c.toNat (List.drop b.toNat a)
theorem Tk :
 ∀(a:List Int)(b c:Int),(nZ a)/\ab b/\ab c/\True->(bX a)<=1099511627776-> ∀(d:Bool),d=decide (c<1)->((! d)->((! d)->(! d))/\True)/\(d=false->(! d))/\ ∀(e:Bool),(e=bif d then true else decide (7<c))->((! e)->((! e)->(! e))/\True)/\(e=false->(! e))/\ad (bif e then true else decide (b<0)) ((0:Int)=dQ a b c/\(1:Int)=qh a b c) (ad (decide (IntKind.wrap .i64 ((bX a) -c)<b)) ((0:Int)=dQ a b c/\(3:Int)=qh a b c) (0<=b/\b<=IntKind.wrap .i64 (b+c)/\IntKind.wrap .i64 (b+c)<=(bX a)/\(∃(f:Int) (g:Int),(0<=f/\f<=c/\g=dL (List.take f.toNat (rR a b c)))/\(0:Int)=g/\ce a b.toNat (ta b c)=ce a b.toNat (ta b c)/\(tC a b c)=(tC a b c)/\(0:Int)=f/\True)/\ ∀(f g:Int),0<=f/\f<=c/\g=dL (List.take f.toNat (rR a b c))->ad (decide (f<(tC a b c))) (0<=f/\f<(tC a b c)/\(0:Int)<=8/\ ∃(h:Int) (i:Int),(0<=h/\h<=c/\i=dL (List.take h.toNat (rR a b c)))/\Int.toNat (c
 -h)<Int.toNat (c -f)/\bits BinOp.or IntKind.i64 (dm IntKind.i64 g (8:Int)) (IntKind.wrap .i64 (List.getD (ce a b.toNat (ta b c)) f.toNat default))=i/\ce a b.toNat (ta b c)=ce a b.toNat (ta b c)/\(tC a b c)=(tC a b c)/\IntKind.wrap .i64 (f+(1:Int))=h/\True) (g=dQ a b c/\(0:Int)=qh a b c))):=by
  delta tC bX nZ ta rR
  rintro b a w ⟨⟨hl0,hx⟩,⟨a0,a1⟩,⟨w0,w1⟩,-⟩ hl
  (repeat (intro (b_:Bool) (hb_:b_=_);(repeat refine⟨(by first|(simp;done)|(rw[hb_];simp;done)|(rw[hb_];simp;omega)|(rw[hb_];simp;intros;omega)|(rw[hb_];simp +contextual;done)),?_⟩);subst hb_))
  unfold dQ qh
  refine ae (fun hc=>?_) (fun hc=>?_)
  ·have h:w<1∨7<w∨a<0:=by simp[Bool.cond_eq_ite] at hc;omega
   rw[if_pos (by omega),if_pos h];exact⟨rfl,rfl⟩
  have h:¬ (w<1∨7<w∨a<0):=by simp[Bool.cond_eq_ite] at hc;omega
  rw[af (n:=(b.length:Int)-w) (by omega) (by omega),if_neg h]
  refine ae (fun hd=>?_) (fun hd=>?_)
  ·have hd:=of_decide_eq_true hd
   rw[if_pos (by omega),if_pos hd];exact⟨rfl,rfl⟩
  have hd:=of_decide_eq_false hd
  rw[if_neg (by omega),if_neg hd,af (n:=a+w) (by omega) (by omega)]
  have hsub:ce b a.toNat (a+w).toNat=(b.drop a.toNat).take w.toNat:=by
   unfold ce;rw[List.drop_take,show (a+w).toNat-a.toNat=w.toNat from by omega]
  rw[hsub]
  have hlen:((b.drop a.toNat).take w.toNat).length=w.toNat:=by rw[List.length_take,List.length_drop];omega
  have hy:∀ y∈(b.drop a.toNat).take w.toNat,0<=y/\y<=255:=fun y hy=>hx y (List.mem_of_mem_drop (List.mem_of_mem_take hy))
  generalize (b.drop a.toNat).take w.toNat=m at *
  rw[hlen]
  refine⟨by omega,by omega,by omega,⟨0,0,⟨by omega,by omega,by simp[dL]⟩,(by repeat' first|exact trivial|refine⟨trivial,?_⟩|refine⟨(by with_reducible rfl),?_⟩|refine⟨af (by omega) (by omega),?_⟩|refine⟨rfl,?_⟩)⟩,?_⟩
  rintro j n ⟨j0,j1,rfl⟩
  refine ae (fun hj=>?_) (fun hj=>?_)
  ·have hj:=of_decide_eq_true hj
   have ht:=qK (l:=m) j0 (by omega)
   obtain⟨x0,x1⟩:=hy _ (bL (xs:=m) j0 (by omega))
   have hb:=Mu (l:=m.take j.toNat) (by rw[List.length_take];omega) (fun y h=>hy y (List.mem_of_mem_take h))
   refine⟨j0,hj,by omega,j+1,_,⟨by omega,by omega,rfl⟩,by omega,?_,rfl,rfl,af (by omega) (by omega),trivial⟩
   rw[ht,GO,FG hb.1 (by omega) x0 x1]
  ·have hj:=of_decide_eq_false hj
   rw[List.take_of_length_le (by omega)];exact⟨rfl,rfl⟩
theorem Dm:av Tryz.prog GL 208 OC.spec:=Ct.okH _ Tryz.func208 (by kernel_rfl) aA au WG (aB (by kernel_rfl) Tk)
def KI:Ct:=⟨[.val cI],[.val cI],fun d=>[0<=d.1],fun d=>((oc d.1,()),())⟩
def Wi:ar KI.ps->ay:=(fun d=>{loops:=(fun n=>match n with|1=>some (fun S=>{ι:=Int,μ:=fun i=>i.toNat,inv:=fun i=>0<=i/\i<=9223372036854775807/\oc i=oc d.1,keep:=[],slots:=fun i=>[(0,.int .i64 i)],names:=fun i=>[]})|_=>none)})
theorem S0 :
 ∀(a:Int),ab a/\True->0<=a->(∃(b:Int),(0<=b/\b<=9223372036854775807/\oc b=oc a)/\a=b/\True)/\ ∀(b:Int),0<=b/\b<=9223372036854775807/\oc b=oc a->ad (decide (65535<b)) ((0:Int)<=16/\ ∃(c:Int),(0<=c/\c<=9223372036854775807/\oc c=oc a)/\c.toNat<b.toNat/\IntKind.wrap .i64 (cU IntKind.i64 b (16:Int)+bits BinOp.and IntKind.i64 b (65535:Int))=c/\True) (b=oc a):=by
  rintro n ⟨⟨n0,n1⟩,-⟩ h
  refine⟨⟨n,⟨h,n1,rfl⟩,rfl,trivial⟩,?_⟩
  rintro m ⟨m0,m1,m2⟩
  refine ae (fun hm=>?_) (fun hm=>?_)
  ·have hm:=of_decide_eq_true hm
   have e:=uO (n:=m) (k:=2) m0 (by omega)
   have e2:(8:Int)*((2:Nat):Int)=16:=rfl
   rw[e2] at e
   rw[e,xO,af (by omega) (by omega)]
   have e3:(256:Int)^2=65536:=rfl
   rw[e3]
   exact⟨by omega,_,⟨by omega,by omega,by rw[ay7 hm,m2]⟩,by omega,rfl,trivial⟩
  ·have hm:=of_decide_eq_false hm
   rw[← m2,Se m0 (by omega)]
theorem XJ:av Tryz.prog GL 261 KI.spec:=Ct.okH _ Tryz.func261 (by kernel_rfl) aA au Wi (aB (by kernel_rfl) S0)
theorem T8{j:Int}(h0:0<=j)(h1:j<=9223372036854775807):bits .and .i64 j 1=j%2:=by
 obtain⟨m,rfl⟩:=Int.eq_ofNat_of_zero_le h0
 have key:(BitVec.ofInt 64 (m:Int) &&& BitVec.ofInt 64 1).toNat=m%2:=by
  rw[BitVec.toNat_and,BitVec.toNat_ofInt,show (BitVec.ofInt 64 1).toNat=1 from by decide]
  have e1:((m:Int)%((2^64:Nat):Int)).toNat=m:=by omega
  rw[e1,nat_mask1]
 show IntKind.i64.wrap ((BitVec.ofInt 64 (m:Int) &&& BitVec.ofInt 64 1).toNat:Nat)=_
 rw[key,af (by omega) (by omega)];omega
theorem UW{n:Int}(h0:0<=n)(h1:n<=36028797018963967):dm .i64 n (IntKind.wrap .i64 (8*IntKind.wrap .i64 (1-1)))=n:=by
 show IntKind.i64.wrap (n*2^(min 0 64))=_
 rw[af (by simp;omega) (by simp;omega)];simp
def Pn:Ct:=⟨[.val (.sl bm)],[.val cI],fun d=>[(d.1.length:Int)<=1099511627776],fun d=>((oc (bf true d.1),()),())⟩
def Y1:ar Pn.ps->ay:=(fun d=>{loops:=(fun n=>match n with|3=>some (fun S=>{ι:=Int×Int,qn:=⟨fun k_=>∀(j:Int)(n:Int),k_ (j,n),fun k_ h_ i=>h_ i.1 i.2,fun k_=>∃ (j:Int) (n:Int),k_ (j,n),fun k_ ⟨j,n,h_⟩=>⟨_,h_⟩⟩,μ:=fun i=>(d.1.length-i.1).toNat,inv:=fun i=>0<=i.1/\i.1<=d.1.length/\i.2=bf true (d.1.take i.1.toNat)/\0<=i.2/\i.2<=65280*i.1,keep:=[0,6,7],slots:=fun i=>[(3,.int .i64 i.2),(8,.int .i64 i.1)],names:=fun i=>[]})|_=>none)})
theorem XA :
 ∀(a:List Int),(qF a)/\True->(bX a)<=1099511627776->(∃(b:Int) (c:Int),(0<=b/\b<=(bX a)/\c=bf true (List.take b.toNat a)/\0<=c/\c<=65280*b)/\a=a/\(0:Int)=c/\a=a/\(bX a)=(bX a)/\(0:Int)=b/\True)/\ ∀(b c:Int),0<=b/\b<=(bX a)/\c=bf true (List.take b.toNat a)/\0<=c/\c<=65280*b->ad (decide (b<(bX a))) (0<=b/\b<(bX a)/\0<=IntKind.wrap .i64 ((8:Int)*IntKind.wrap .i64 ((1:Int) -bits BinOp.and IntKind.i64 b (1:Int)))/\ ∃(d:Int) (e:Int),(0<=d/\d<=(bX a)/\e=bf true (List.take d.toNat a)/\0<=e/\e<=65280*d)/\Int.toNat ((bX a) -d)<Int.toNat ((bX a) -b)/\a=a/\IntKind.wrap .i64 (c+dm IntKind.i64 (IntKind.wrap .i64 (a.getD b.toNat default)) (IntKind.wrap .i64 ((8:Int)*IntKind.wrap .i64 ((1:Int) -bits BinOp.and IntKind.i64 b (1:Int)))))=e/\a=a/\(bX a)=(bX a)/\IntKind.wrap .i64 (b+(1:Int))=d/\True) (0<=c/\oc c=oc (bf true a)):=by
  delta bX qF
  rintro l ⟨⟨-,hx⟩,-⟩ hl
  refine⟨⟨0,0,⟨by omega,by omega,by simp[bf],by omega,by omega⟩,(by repeat' first|exact trivial|refine⟨trivial,?_⟩|refine⟨(by with_reducible rfl),?_⟩|refine⟨af (by omega) (by omega),?_⟩|refine⟨rfl,?_⟩)⟩,?_⟩
  rintro j n ⟨j0,j1,rfl,n0,n1⟩
  refine ae (fun hj=>?_) (fun hj=>?_)
  ·have hj:=of_decide_eq_true hj
   obtain⟨x0,x1⟩:=hx _ (bL j0 hj)
   have ht:=qK j0 hj
   have hs:=xm true (l.take j.toNat) [l.getD j.toNat default]
   rw[← ht] at hs
   generalize l.getD j.toNat default=x at *
   have hb:=T8 j0 (by omega)
   rw[hb]
   have hlen:(l.take j.toNat).length=j.toNat:=by rw[List.length_take];omega
   rw[hlen] at hs
   have hv:0<=IntKind.wrap .i64 (8*IntKind.wrap .i64 (1-j%2))/\dm .i64 (IntKind.wrap .i64 x) (IntKind.wrap .i64 (8*IntKind.wrap .i64 (1-j%2)))=(if j%2=0 then x*256 else x):=by
    rw[af (n:=x) (by omega) (by omega)]
    by_cases he:j%2=0
    ·rw[he,if_pos rfl];exact⟨by decide,C8 x0 (by omega)⟩
    ·rw[show j%2=1 from by omega,if_neg (by decide)]
     exact⟨by decide,UW x0 (by omega)⟩
   rw[hv.2]
   refine⟨j0,hj,hv.1,j+1,bf true (l.take (j+1).toNat),⟨by omega,by omega,rfl,?_,?_⟩,by omega,rfl,?_,rfl,rfl,af (by omega) (by omega),trivial⟩
   all_goals rw[hs]
   all_goals by_cases he:j%2=0
   all_goals first
    | rw[if_pos (show j.toNat%2=0 by omega)]
    | rw[if_neg (show ¬ j.toNat%2=0 by omega)]
   all_goals simp only[bf,he,if_true,if_false,Bool.not_true,Bool.false_eq_true]
   all_goals try omega
   all_goals rw[af (by omega) (by omega)]
   all_goals omega
  ·have hj:=of_decide_eq_false hj
   rw[List.take_of_length_le (by omega)] at n0 ⊢
   exact⟨n0,rfl⟩
theorem Zl:av Tryz.prog GL 239 Pn.spec:=Ct.okH _ Tryz.func239 (by kernel_rfl) (ah aA XJ) au Y1 (aB (by kernel_rfl) XA)
def Mw:Ct:=⟨[.val (.sl bm)],[.val cI],fun d=>[(d.1.length:Int)<=1099511627776],fun d=>((65535-oc (bf true d.1),()),())⟩
def We:ar Mw.ps->ay:=(fun _=>{})
def zx(a:List Int) :=
 (qF a)/\True->(bX a)<=1099511627776->(bX a)<=1099511627776/\IntKind.wrap .i64 ((65535:Int) -oc (bf true a))=65535 -oc (bf true a)
theorem av0 :
 ∀(a:List Int),(zx a):=by
  delta bX zx qF
  rintro l ⟨⟨-,hx⟩,-⟩ hl
  have:=r8 (wv true l hx).1
  exact⟨hl,af (by omega) (by omega)⟩
theorem uC:av Tryz.prog GL 209 Mw.spec:=Ct.okH _ Tryz.func209 (by kernel_rfl) (ah aA Zl) au We (aB (by kernel_rfl) av0)
def Kh:Ct:=⟨[.val (.sl bm),.val cI,.val cI],[.own 5 bm,.val cI],fun d=>[(d.1.length:Int)<=1099511627776],fun d=>((bG d.1 d.2.1 d.2.2.1,nJ d.2.1 d.2.2.1,()),())⟩
def ax0:ar Kh.ps->ay:=(fun d=>{loops:=(fun n=>match n with|5=>some (fun S=>{ι:=Int×(List Int),qn:=⟨fun k_=>∀(k:Int)(ys:(List Int)),k_ (k,ys),fun k_ h_ i=>h_ i.1 i.2,fun k_=>∃ (k:Int) (ys:(List Int)),k_ (k,ys),fun k_ ⟨k,ys,h_⟩=>⟨_,h_⟩⟩,μ:=fun i=>(d.2.2.1-i.1).toNat,inv:=fun i=>0<=i.1/\i.1<=d.2.2.1/\i.2=d.1++io d.2.1 d.2.2.1.toNat i.1.toNat,keep:=[1,2],slots:=fun i=>[(8,.own 524288 1),(9,.int .i64 (d.2.2.1-1-i.1))],names:=fun i=>[(524288,.live (.row 5 bm i.2))]})|_=>none)})
theorem am1 :
 ∀(a:List Int)(b c:Int),(nZ a)/\ab b/\ab c/\True->(bX a)<=1099511627776-> ∀(d:Bool),d=decide (c<1)->((! d)->((! d)->(! d))/\True)/\(d=false->(! d))/\ ∀(e:Bool),(e=bif d then true else decide (7<c))->((! e)->((! e)->(! e))/\True)/\(e=false->(! e))/\ ∀(f:Bool),(f=bif e then true else decide (b<0))->((! f)->((! f)->(! f))/\True)/\((! f)->((! f)->(! f))/\0<=IntKind.wrap .i64 ((8:Int)*c)/\True)/\(sY f)/\(f=false->(! f))/\ad (bif f then true else decide (dm IntKind.i64 (1:Int) (IntKind.wrap .i64 ((8:Int)*c))<=b)) (([]:List Int)=bG a b c/\(1:Int)=nJ b c) (a.length*(1:Nat)<=(140737488355328:Nat)/\(∃(g:Int) (h:List Int),(0<=g/\g<=c/\h=a++io b c.toNat g.toNat)/\b=b/\c=c/\IntKind.wrap .i64 (c -(1:Int))=c -(1:Int) -g/\a=h/\True)/\ ∀(g:Int)(h:List Int),0<=g/\g<=c/\h=a++io b c.toNat g.toNat->ad (decide (0<=c -(1:Int) -g)) (0<=IntKind.wrap .i64 ((8:Int)*(c -(1:Int)
 -g))/\(h.length+List.length [IntKind.wrap .u8 (cU IntKind.i64 b (IntKind.wrap .i64 ((8:Int)*(c -(1:Int) -g))))])*(1:Nat)<=(140737488355328:Nat)/\ ∃(i:Int) (j:List Int),(0<=i/\i<=c/\j=a++io b c.toNat i.toNat)/\Int.toNat (c -i)<Int.toNat (c -g)/\b=b/\c=c/\IntKind.wrap .i64 (c -(1:Int) -g -(1:Int))=c -(1:Int) -i/\h++[IntKind.wrap .u8 (cU IntKind.i64 b (IntKind.wrap .i64 ((8:Int)*(c -(1:Int) -g))))]=j/\True) (h=bG a b c/\(0:Int)=nJ b c)):=by
  delta bX nZ sY
  rintro b n w ⟨-,⟨n0,n1⟩,⟨w0,w1⟩,-⟩ hl
  rintro b1 rfl
  refine⟨by simp,by simp,?_⟩
  rintro b1 rfl
  refine⟨by simp,by simp,?_⟩
  rintro b1 rfl
  have hpre:(!(bif (bif decide (w<1) then true else decide (7<w)) then true else decide (n<0)))=true->1<=w/\w<=7/\0<=n:=by
   simp[Bool.cond_eq_ite];omega
  refine⟨by simp,fun h=>⟨fun _=>h,by have:=hpre h;rw[af (by omega) (by omega)];omega,trivial⟩,fun h=>⟨fun _=>h,fun _=>h,trivial⟩,by simp,?_⟩
  refine ae (fun hc=>?_) (fun hc=>?_)
  ·have hbad:lL n w:=by
    unfold lL
    by_cases h:1<=w/\w<=7
    ·rw[yY h.1 h.2] at hc
     simp[Bool.cond_eq_ite] at hc;omega
    ·omega
   rw[bG,nJ,if_pos hbad,if_pos hbad];exact⟨rfl,rfl⟩
  ·have hw:1<=w/\w<=7/\0<=n:=hpre (by
    cases h:(bif (bif decide (w<1) then true else decide (7<w)) then true else decide (n<0)) with
    | false=>rfl
    | true=>rw[h] at hc;simp at hc)
   obtain⟨h1,h7,hn⟩:=hw
   rw[yY h1 h7] at hc
   have hgood:¬ lL n w:=by
    unfold lL
    simp[Bool.cond_eq_ite] at hc;omega
   rw[bG,nJ,if_neg hgood,if_neg hgood]
   refine⟨by omega,⟨0,b,⟨by omega,by omega,by simp[io]⟩,rfl,rfl,by rw[af (by omega) (by omega)];omega,rfl,trivial⟩,?_⟩
   rintro k ys ⟨k0,k1,rfl⟩
   refine ae (fun hk=>?_) (fun hk=>?_)
   ·have hk:=of_decide_eq_true hk
    rw[af (n:=8*(w-1-k)) (by omega) (by omega)]
    obtain⟨j,hj⟩:=Int.eq_ofNat_of_zero_le (show 0<=w-1-k by omega)
    rw[hj,uO hn (by omega),IntKind.wrap_u8']
    have hbl:=HT n w.toNat k.toNat
    refine⟨by omega,by simp only[List.length_append,List.length_singleton,hbl];omega,k+1,_,⟨by omega,by omega,rfl⟩,by omega,rfl,rfl,by rw[af (by omega) (by omega)];omega,?_,trivial⟩
    rw[show (k+1).toNat=k.toNat+1 from by omega,Ij,List.append_assoc,show w.toNat-1-k.toNat=j from by omega]
   ·have hk:=of_decide_eq_false hk
    rw[show k=w from by omega];exact⟨rfl,rfl⟩
theorem XV:av Tryz.prog GL 195 Kh.spec:=Ct.okH _ Tryz.func195 (by kernel_rfl) aA au ax0 (aB (by kernel_rfl) am1)
def Pw:Ct:=⟨[.val (.sl bm),.val cI,.val cI],[.own 5 bm],fun d=>[(d.1.length:Int)<=1099511627776],fun d=>((bG d.1 d.2.1 d.2.2.1,()),())⟩
def ZM:ar Pw.ps->ay:=(fun _=>{})
theorem Sj :
 ∀(a:List Int)(b c:Int),(nZ a)/\ab b/\ab c/\True->(bX a)<=1099511627776->(bX a)<=1099511627776/\bG a b c=bG a b c:=by
  delta bX nZ
  intro b n w _ h
  exact⟨h,rfl⟩
theorem vp:av Tryz.prog GL 143 Pw.spec:=Ct.okH _ Tryz.func143 (by kernel_rfl) (ah aA XV) au ZM (aB (by kernel_rfl) Sj)
def Ho:Ct:=⟨[.val (.sl bm),.val cI,.val cI],[.val cI,.val cI],fun d=>[(d.1.length:Int)<=1099511627776],fun d=>((dQ d.1 d.2.1 d.2.2.1,qh d.1 d.2.1 d.2.2.1,()),())⟩
def ap0:ar Ho.ps->ay:=(fun d=>{loops:=(fun n=>match n with|7=>some (fun S=>{ι:=Int×Int,qn:=⟨fun k_=>∀(j:Int)(n:Int),k_ (j,n),fun k_ h_ i=>h_ i.1 i.2,fun k_=>∃ (j:Int) (n:Int),k_ (j,n),fun k_ ⟨j,n,h_⟩=>⟨_,h_⟩⟩,μ:=fun i=>(d.2.2.1-i.1).toNat,inv:=fun i=>0<=i.1/\i.1<=d.2.2.1/\i.2=dL (((d.1.drop d.2.1.toNat).take d.2.2.1.toNat).take i.1.toNat),keep:=[0,1,2],slots:=fun i=>[(8,.int .i64 i.2),(9,.int .i64 i.1)],names:=fun i=>[]})|_=>none)})
theorem Xy :
 ∀(a:List Int)(b c:Int),(nZ a)/\ab b/\ab c/\True->(bX a)<=1099511627776-> ∀(d:Bool),d=decide (c<1)->((! d)->((! d)->(! d))/\True)/\(d=false->(! d))/\ ∀(e:Bool),(e=bif d then true else decide (7<c))->((! e)->((! e)->(! e))/\True)/\(e=false->(! e))/\ad (bif e then true else decide (b<0)) ((0:Int)=dQ a b c/\(1:Int)=qh a b c) (∀(f:Bool),f=decide ((bX a)<b)->((! f)->((! f)->(! f))/\True)/\(sY f)/\(sY f)/\(f=false->(! f))/\ad (bif f then true else decide (IntKind.wrap .i64 ((bX a) -b)<c)) ((0:Int)=dQ a b c/\(3:Int)=qh a b c) ((∃(g:Int) (h:Int),(0<=g/\g<=c/\h=dL (List.take g.toNat (rR a b c)))/\a=a/\b=b/\c=c/\(0:Int)=h/\(0:Int)=g/\True)/\ ∀(g h:Int),0<=g/\g<=c/\h=dL (List.take g.toNat (rR a b c))->ad (decide (g<c)) ((0:Int)<=8/\0<=IntKind.wrap .i64 (b+g)/\IntKind.wrap .i64 (b+g)<(bX a)/\ ∃(i:Int) (j:Int),(0<=i/\i<=c/\j=dL (List.take i.toNat (rR a b
 c)))/\Int.toNat (c -i)<Int.toNat (c -g)/\a=a/\b=b/\c=c/\bits BinOp.or IntKind.i64 (dm IntKind.i64 h (8:Int)) (IntKind.wrap .i64 (a.getD (Int.toNat (IntKind.wrap .i64 (b+g))) default))=j/\IntKind.wrap .i64 (g+(1:Int))=i/\True) (h=dQ a b c/\(0:Int)=qh a b c))):=by
  delta bX nZ rR sY
  rintro b a w ⟨⟨hl0,hx⟩,⟨a0,a1⟩,⟨w0,w1⟩,-⟩ hl
  rintro b1 rfl
  refine⟨by simp,by simp,?_⟩
  rintro b1 rfl
  refine⟨by simp,by simp,?_⟩
  unfold dQ qh
  refine ae (fun hc=>?_) (fun hc=>?_)
  ·have h:w<1∨7<w∨a<0:=by simp[Bool.cond_eq_ite] at hc;omega
   rw[if_pos (by omega),if_pos h];exact⟨rfl,rfl⟩
  have h:¬ (w<1∨7<w∨a<0):=by simp[Bool.cond_eq_ite] at hc;omega
  rintro b1 rfl
  refine⟨by simp,by simp,by simp,by simp,?_⟩
  rw[af (n:=(b.length:Int)-a) (by omega) (by omega),if_neg h]
  refine ae (fun hd=>?_) (fun hd=>?_)
  ·have hd:b.length<a∨b.length-a<w:=by simp[Bool.cond_eq_ite] at hd;omega
   rw[if_pos (by omega),if_pos (by omega)];exact⟨rfl,rfl⟩
  have hd:¬ (b.length<a∨b.length-a<w):=by simp[Bool.cond_eq_ite] at hd;omega
  rw[if_neg (by omega),if_neg (by omega)]
  have hlen:((b.drop a.toNat).take w.toNat).length=w.toNat:=by rw[List.length_take,List.length_drop];omega
  have hy:∀ y∈(b.drop a.toNat).take w.toNat,0<=y/\y<=255:=fun y hy=>hx y (List.mem_of_mem_drop (List.mem_of_mem_take hy))
  have hget:∀ j:Int,0<=j->j<w->b.getD (a+j).toNat default=((b.drop a.toNat).take w.toNat).getD j.toNat default:=by
   intro j j0 j1
   rw[List.getD_eq_getElem?_getD,List.getD_eq_getElem?_getD,List.getElem?_take,if_pos (by omega),List.getElem?_drop]
   congr 2;omega
  generalize (b.drop a.toNat).take w.toNat=m at *
  refine⟨⟨0,0,⟨by omega,by omega,by simp[dL]⟩,(by repeat' first|exact trivial|refine⟨trivial,?_⟩|refine⟨(by with_reducible rfl),?_⟩|refine⟨af (by omega) (by omega),?_⟩|refine⟨rfl,?_⟩)⟩,?_⟩
  rintro j n ⟨j0,j1,rfl⟩
  refine ae (fun hj=>?_) (fun hj=>?_)
  ·have hj:=of_decide_eq_true hj
   have ht:=qK (l:=m) j0 (by omega)
   obtain⟨x0,x1⟩:=hy _ (bL (xs:=m) j0 (by omega))
   have hb:=Mu (l:=m.take j.toNat) (by rw[List.length_take];omega) (fun y h=>hy y (List.mem_of_mem_take h))
   rw[af (n:=a+j) (by omega) (by omega),hget j j0 hj]
   refine⟨by omega,by omega,by omega,j+1,_,⟨by omega,by omega,rfl⟩,by omega,rfl,rfl,rfl,?_,af (by omega) (by omega),trivial⟩
   rw[ht,GO,FG hb.1 (by omega) x0 x1]
  ·have hj:=of_decide_eq_false hj
   rw[List.take_of_length_le (by omega)];exact⟨rfl,rfl⟩
theorem Wk:av Tryz.prog GL 197 Ho.spec:=Ct.okH _ Tryz.func197 (by kernel_rfl) aA au ap0 (aB (by kernel_rfl) Xy)
def HL:Ct:=⟨[.val (.sl bm),.val cI,.val cI],[.val cI],fun d=>[(d.1.length:Int)<=1099511627776],fun d=>((dQ d.1 d.2.1 d.2.2.1,()),())⟩
def QX:ar HL.ps->ay:=(fun _=>{})
theorem Th :
 ∀(a:List Int)(b c:Int),(nZ a)/\ab b/\ab c/\True->(bX a)<=1099511627776->(bX a)<=1099511627776/\dQ a b c=dQ a b c:=by
  delta bX nZ
  intro b n w _ h
  exact⟨h,rfl⟩
theorem TX:av Tryz.prog GL 145 HL.spec:=Ct.okH _ Tryz.func145 (by kernel_rfl) (ah aA Wk) au QX (aB (by kernel_rfl) Th)
def PX:Ct:=⟨[.val cI],[.val .bool],fun d=>[],fun d=>((bU d.1,()),())⟩
def Xu:ar PX.ps->ay:=(fun _=>{})
theorem ac9 :
 ∀(a:Int),ab a/\True->True-> ∀(b:Bool),b=decide (0<=a)->(b->(b->b)/\True)/\(b->b)/\(bif b then decide (a<=65535) else false)=bU a:=by
  rintro n - -
  (repeat (intro (b_:Bool) (hb_:b_=_);(repeat refine⟨(by first|(simp;done)|(rw[hb_];simp;done)|(rw[hb_];simp;omega)|(rw[hb_];simp;intros;omega)|(rw[hb_];simp +contextual;done)),?_⟩);subst hb_))
  unfold bU
  by_cases h:0<=n <;> simp[h]
theorem am4:av Tryz.prog GL 237 PX.spec:=Ct.okH _ Tryz.func237 (by kernel_rfl) aA au Xu (aB (by kernel_rfl) ac9)
def JB:Ct:=⟨[.val cI,.val cI],[.val cI],fun d=>[],fun d=>((if bU d.1&&bU d.2.1 then oc (d.1+d.2.1) else 0,()),())⟩
def Xm:ar JB.ps->ay:=(fun _=>{})
theorem TZ :
 ∀(a b:Int),ab a/\ab b/\True->True-> ∀(c:Bool),c= ! bU a->((! c)->((! c)->(! c))/\True)/\((! c)->((! c)->(! c))/\True)/\(c=false->(! c))/\ad (bif c then true else ! bU b) ((0:Int)=if (bU a&&bU b)=true then oc (a+b) else (0:Int)) ((0:Int)<=16/\IntKind.wrap .i64 (bits BinOp.and IntKind.i64 (IntKind.wrap .i64 (a+b)) (65535:Int)+cU IntKind.i64 (IntKind.wrap .i64 (a+b)) (16:Int))=if (bU a&&bU b)=true then oc (a+b) else (0:Int)):=by
  rintro a b - -
  (repeat (intro (b_:Bool) (hb_:b_=_);(repeat refine⟨(by first|(simp;done)|(rw[hb_];simp;done)|(rw[hb_];simp;omega)|(rw[hb_];simp;intros;omega)|(rw[hb_];simp +contextual;done)),?_⟩);subst hb_))
  refine ae (fun hc=>?_) (fun hc=>?_)
  ·rw[if_neg]
   intro h;simp at h;simp[h] at hc
  ·have hw:bU a=true/\bU b=true:=by simpa[Bool.cond_eq_ite] using hc
   rw[if_pos (by simp[hw])]
   have ha:0<=a/\a<=65535:=of_decide_eq_true hw.1
   have hb:0<=b/\b<=65535:=of_decide_eq_true hw.2
   rw[af (n:=a+b) (by omega) (by omega)]
   have e:=uO (n:=a+b) (k:=2) (by omega) (by omega)
   have e2:(8:Int)*((2:Nat):Int)=16:=rfl
   have e3:(256:Int)^2=65536:=rfl
   rw[e2,e3] at e
   rw[e,xO,af (by omega) (by omega)]
   refine⟨by omega,?_⟩
   unfold oc;split <;> omega
theorem NZ:av Tryz.prog GL 196 JB.spec:=Ct.okH _ Tryz.func196 (by kernel_rfl) (ah aA am4) au Xm (aB (by kernel_rfl) TZ)
def Pk:Ct:=⟨[.val (.sl bm)],[.val cI],fun d=>[(d.1.length:Int)<=1099511627776],fun d=>((oc (bf true d.1),()),())⟩
def R0:ar Pk.ps->ay:=(fun d=>{loops:=(fun n=>match n with|3=>some (fun S=>{ι:=Int×Int,qn:=⟨fun k_=>∀(k:Int)(s:Int),k_ (k,s),fun k_ h_ i=>h_ i.1 i.2,fun k_=>∃ (k:Int) (s:Int),k_ (k,s),fun k_ ⟨k,s,h_⟩=>⟨_,h_⟩⟩,μ:=fun i=>(d.1.length+1-2*i.1).toNat,inv:=fun i=>0<=i.1/\2*i.1<=d.1.length+1/\i.2=oc (bf true (d.1.take (2*i.1).toNat))/\0<=i.2/\i.2<=65535,keep:=[0],slots:=fun i=>[(3,.int .i64 i.2),(4,.int .i64 (2*i.1))],names:=fun i=>[]})|_=>none)})
def EX(a:List Int)(b:Int) :=
 dm IntKind.i64 (IntKind.wrap .i64 (a.getD (Int.toNat ((2:Int)*b)) default)) (8:Int)+IntKind.wrap .i64 (a.getD (Int.toNat (IntKind.wrap .i64 ((2:Int)*b+(1:Int)))) default)
def Ci(a:List Int)(d e:Int) :=
 0<=d/\(2:Int)*d<=(bX a)+(1:Int)/\e=oc (bf true (List.take (Int.toNat ((2:Int)*d)) a))/\0<=e/\e<=65535
theorem Sp :
 ∀(a:List Int),(qF a)/\True->(bX a)<=1099511627776->(∃(b:Int) (c:Int),(0<=b/\(2:Int)*b<=(bX a)+(1:Int)/\c=oc (bf true (List.take (Int.toNat ((2:Int)*b)) a))/\0<=c/\c<=65535)/\a=a/\(0:Int)=c/\(0:Int)=2*b/\True)/\ ∀(b c:Int),0<=b/\(2:Int)*b<=(bX a)+(1:Int)/\c=oc (bf true (List.take (Int.toNat ((2:Int)*b)) a))/\0<=c/\c<=65535->ad (decide ((2:Int)*b<(bX a))) ((0:Int)<=2*b/\(2:Int)*b<(bX a)/\(0:Int)<=8/\ad (decide (IntKind.wrap .i64 ((2:Int)*b+(1:Int))<(bX a))) (0<=IntKind.wrap .i64 ((2:Int)*b+(1:Int))/\IntKind.wrap .i64 ((2:Int)*b+(1:Int))<(bX a)/\ ∃(d:Int) (e:Int),(Ci a d e)/\Int.toNat ((bX a)+(1:Int) -(2:Int)*d)<Int.toNat ((bX a)+(1:Int) -(2:Int)*b)/\a=a/\(if (bU c&&bU (IntKind.wrap .i64 (EX a b)))=true then oc (c+IntKind.wrap .i64 (EX a b)) else (0:Int))=e/\IntKind.wrap .i64 ((2:Int)*b+(2:Int))=2*d/\True) (∃(d:Int) (e:Int),(Ci a d e)/\Int.toNat
 ((bX a)+(1:Int) -(2:Int)*d)<Int.toNat ((bX a)+(1:Int) -(2:Int)*b)/\a=a/\(if (bU c&&bU (dm IntKind.i64 (IntKind.wrap .i64 (a.getD (Int.toNat ((2:Int)*b)) default)) (8:Int)))=true then oc (c+dm IntKind.i64 (IntKind.wrap .i64 (a.getD (Int.toNat ((2:Int)*b)) default)) (8:Int)) else (0:Int))=e/\IntKind.wrap .i64 ((2:Int)*b+(2:Int))=2*d/\True)) (c=oc (bf true a)):=by
  delta bX EX qF Ci
  rintro l ⟨⟨-,hx⟩,-⟩ hl
  refine⟨⟨0,0,⟨by omega,by omega,by simp[bf,oc],by omega,by omega⟩,(by repeat' first|exact trivial|refine⟨trivial,?_⟩|refine⟨(by with_reducible rfl),?_⟩|refine⟨af (by omega) (by omega),?_⟩|refine⟨rfl,?_⟩)⟩,?_⟩
  rintro k s ⟨k0,k1,rfl,s0,s1⟩
  have hr:=wv true (l.take (2*k).toNat) (fun y h=>hx y (List.mem_of_mem_take h))
  refine ae (fun hk=>?_) (fun hk=>?_)
  ·have hk:=of_decide_eq_true hk
   obtain⟨x0,x1⟩:=hx _ (bL (xs:=l) (i:=2*k) (by omega) hk)
   have ht:=qK (l:=l) (j:=2*k) (by omega) hk
   have hlen:(l.take (2*k).toNat).length%2=0:=by rw[List.length_take];omega
   have hs:=xm true (l.take (2*k).toNat)
   rw[if_pos hlen] at hs
   rw[af (n:=2*k+1) (by omega) (by omega),af (n:=l.getD (2*k).toNat default) (by omega) (by omega),C8 x0 (by omega),af (n:=2*k+2) (by omega) (by omega)]
   refine⟨by omega,hk,by omega,ae (fun hc=>?_) (fun hc=>?_)⟩
   ·have hc:=of_decide_eq_true hc
    obtain⟨y0,y1⟩:=hx _ (bL (xs:=l) (i:=2*k+1) (by omega) hc)
    have ht2:=qK (l:=l) (j:=2*k+1) (by omega) hc
    rw[ht,List.append_assoc] at ht2
    rw[af (n:=l.getD (2*k+1).toNat default) (by omega) (by omega),af (n:=l.getD (2*k).toNat default*256+l.getD (2*k+1).toNat default) (by omega) (by omega)]
    rw[if_pos (by simp only[bU,Bool.and_eq_true,decide_eq_true_eq];omega),I7 hr.1 (by omega)]
    have he:bf true (l.take (2*(k+1)).toNat)=bf true (l.take (2*k).toNat)+(l.getD (2*k).toNat default*256+l.getD (2*k+1).toNat default):=by
     rw[show 2*(k+1)=2*k+1+1 from by omega,ht2,hs]
     simp[bf]
    refine⟨by omega,hc,k+1,_,⟨by omega,by omega,rfl,?_,?_⟩,by omega,rfl,by rw[he],by omega,trivial⟩
    ·rw[he];exact (r8 (by omega)).1
    ·rw[he];exact (r8 (by omega)).2
   ·have hc:=of_decide_eq_false hc
    rw[if_pos (by simp only[bU,Bool.and_eq_true,decide_eq_true_eq];omega),I7 hr.1 (by omega)]
    have he:bf true (l.take (2*(k+1)).toNat)=bf true (l.take (2*k).toNat)+l.getD (2*k).toNat default*256:=by
     rw[show l.take (2*(k+1)).toNat=l.take (2*k+1).toNat from by rw[List.take_of_length_le (by omega),List.take_of_length_le (by omega)],ht,hs]
     simp[bf]
    refine⟨k+1,_,⟨by omega,by omega,rfl,?_,?_⟩,by omega,rfl,by rw[he],by omega,trivial⟩
    ·rw[he];exact (r8 (by omega)).1
    ·rw[he];exact (r8 (by omega)).2
  ·have hk:=of_decide_eq_false hk
   rw[List.take_of_length_le (by omega)]
theorem Vy:av Tryz.prog GL 236 Pk.spec:=Ct.okH _ Tryz.func236 (by kernel_rfl) (ah aA NZ) au R0 (aB (by kernel_rfl) Sp)
def Ih:Ct:=⟨[.val (.sl bm)],[.val cI],fun d=>[(d.1.length:Int)<=1099511627776],fun d=>((65535-oc (bf true d.1),()),())⟩
def Sn:ar Ih.ps->ay:=(fun _=>{})
theorem WR :
 ∀(a:List Int),(zx a):=by
  delta bX zx qF
  rintro l ⟨⟨-,hx⟩,-⟩ hl
  have:=r8 (wv true l hx).1
  exact⟨hl,af (by omega) (by omega)⟩
theorem FL:av Tryz.prog GL 192 Ih.spec:=Ct.okH _ Tryz.func192 (by kernel_rfl) (ah aA Vy) au Sn (aB (by kernel_rfl) WR)
def Kv:Ct:=⟨[.val (.sl bm),.val (.sl bm)],[.val .bool],fun d=>[],fun d=>((decide (d.1=d.2.1),()),())⟩
def Xb:ar Kv.ps->ay:=(fun d=>{loops:=(fun n=>match n with|4=>some (fun S=>{ι:=Int,μ:=fun i=>(d.1.length-i).toNat,inv:=fun i=>0<=i/\i<=d.1.length/\d.1.take i.toNat=d.2.1.take i.toNat,keep:=[0,1],slots:=fun i=>[(5,.int .i64 i)],names:=fun i=>[]})|_=>none)})
theorem ae8 :
 ∀(a b:List Int),(a.length<=maxLen/\ ∀(c:Int),c∈a->0<=c/\c<=255)/\(b.length<=maxLen/\ ∀(c:Int),c∈b->0<=c/\c<=255)/\True->True->ad (! decide ((bX a)=(b.length:Int))) (false=decide (a=b)) ((∃(c:Int),(0<=c/\c<=(bX a)/\List.take c.toNat a=List.take c.toNat b)/\a=a/\b=b/\(0:Int)=c/\True)/\ ∀(c:Int),0<=c/\c<=(bX a)/\List.take c.toNat a=List.take c.toNat b->ad (decide (c<(bX a))) (0<=c/\c<(bX a)/\0<=c/\c<(b.length:Int)/\ad (! decide (a.getD c.toNat default=b.getD c.toNat default)) (false=decide (a=b)) (∃(d:Int),(0<=d/\d<=(bX a)/\List.take d.toNat a=List.take d.toNat b)/\Int.toNat ((bX a) -d)<Int.toNat ((bX a) -c)/\a=a/\b=b/\IntKind.wrap .i64 (c+(1:Int))=d/\True)) (true=decide (a=b))):=by
  delta bX
  rintro l m ⟨⟨hl,-⟩,⟨hm,-⟩,-⟩ -
  simp only[maxLen] at hl hm
  refine ae (fun hc=>?_) (fun hc=>?_)
  ·symm;apply decide_eq_false
   intro h;cases h;simp at hc
  ·have hc:l.length=m.length:=by simp at hc;omega
   refine⟨⟨0,⟨by omega,by omega,by simp⟩,(by repeat' first|exact trivial|refine⟨trivial,?_⟩|refine⟨(by with_reducible rfl),?_⟩|refine⟨af (by omega) (by omega),?_⟩|refine⟨rfl,?_⟩)⟩,?_⟩
   rintro i ⟨h0,h1,h2⟩
   refine ae (fun hi=>?_) (fun hi=>?_)
   ·have hi:=of_decide_eq_true hi
    refine⟨h0,hi,h0,by omega,ae (fun hq=>?_) (fun hq=>?_)⟩
    ·symm;apply decide_eq_false
     intro h;cases h;simp at hq
    ·simp only[Bool.not_eq_false',decide_eq_true_eq] at hq
     refine⟨i+1,⟨by omega,by omega,?_⟩,by omega,(by repeat' first|exact trivial|refine⟨trivial,?_⟩|refine⟨(by with_reducible rfl),?_⟩|refine⟨af (by omega) (by omega),?_⟩|refine⟨rfl,?_⟩)⟩
     rw[qK h0 hi,qK h0 (by omega),h2,hq]
   ·have hi:=of_decide_eq_false hi
    rw[List.take_of_length_le (by omega),List.take_of_length_le (by omega)] at h2
    symm;apply decide_eq_true;rw[h2]
theorem av9:av Tryz.prog GL 72 Kv.spec:=Ct.okH _ Tryz.func72 (by kernel_rfl) aA au Xb (aB (by kernel_rfl) ae8)
end Go.RS

/- Transp: messages of three protocols. -/
namespace Go.RS
open Go.SX Go.Proofs
set_option maxRecDepth 100000
set_option linter.unusedVariables false
abbrev C1:CT := .pair .bool (.pair cI (.pair cI (.sl bm)))
abbrev Tl:CT := .pair cI (.pair cI (.sl bm))
abbrev Ou:CT := .pair cI (.pair cI (.sl bm))
abbrev wV:CT := .pair cI (.pair cI (.pair cI (.pair cI (.pair cI (.pair cI (.sl bm))))))
abbrev kZ:Type:=Bool×Int×Int×List Int
abbrev mW:Type:=Int×Int×List Int
abbrev nz:Type:=Int×Int×List Int
abbrev jO:Type:=Int×Int×Int×Int×Int×Int×List Int
def cD(lim:Int)(l:List Int):Bool:=l.all fun n=>decide (0<=n/\n<=lim)
def w2(n:Int):List Int:=[n/256%256,n%256]
def w4(n:Int):List Int:=[n/16777216%256,n/65536%256,n/256%256,n%256]
def cf(b:List Int):Int:=65535-oc (bf true b)
def bI(b:List Int)(at':Nat)(n:Int):List Int:=(b.set at' (n/256%256)).set (at'+1) (n%256)
def aG(b:List Int)(at':Nat):Int:=dL ((b.drop at').take 2)
def OL:Ct:=⟨[.val cI,.box 3 cI],[.val .bool],fun _=>[],fun d=>((decide (d.1<0∨d.2.1<d.1),()),(d.2.1,()))⟩
def ac1:ar OL.ps->ay:=(fun _=>{})
theorem UN :
 ∀(a b:Int),ab a/\ab b/\True->True-> ∀(c:Bool),c=decide (a<0)->((! c)->((! c)->(! c))/\((! c)->(! c))/\True)/\(c=false->(! c))/\(bif c then true else decide (b<a))=decide (a<0∨b<a)/\b=b:=by
  rintro n lim - -
  rintro b rfl
  refine⟨by simp,by simp,?_,rfl⟩
  rw[Bool.cond_eq_ite]
  by_cases h:n<0 <;> simp[h]
theorem RW:av Tryz.prog GL 263 OL.spec:=Ct.okH _ Tryz.func263 (by kernel_rfl) aA au ac1 (aB (by kernel_rfl) UN)
def Nf:Cn:=⟨[.val (.sl cI),.fn 263 1,.box 3 cI],[.val cI],fun _=>[],fun d y=>y.2.1=d.2.2.1 ∧ -1<=y.1.1/\(y.1.1 = -1↔cD d.2.2.1 d.1=true),fun d h=>⟨((if cD d.2.2.1 d.1=true then -1 else 0,()),(d.2.2.1,())),rfl,by by_cases h:cD d.2.2.1 d.1=true <;> simp[h]⟩⟩
def V6:ar Nf.ps->ay:=(fun d=>{loops:=(fun n=>match n with|2=>some (fun S=>{ι:=Int,μ:=fun i=>(d.1.length-i).toNat,inv:=fun i=>0<=i/\i<=d.1.length/\cD d.2.2.1 (d.1.take i.toNat)=true,keep:=[0,1,6,7],slots:=fun i=>[(8,.int .i64 i)],keepN:=[1048576],names:=fun i=>[]})|_=>none)})
def cA(a:List Int) :=
 (a.length:Int)
theorem au7 :
 ∀(a:List Int)(b:Int),(a.length<=maxLen/\ ∀(c:Int),c∈a->ab c)/\True/\ab b/\True->True->(∃(c:Int),(0<=c/\c<=(cA a)/\cD b (List.take c.toNat a)=true)/\a=a/\a=a/\(cA a)=(cA a)/\(0:Int)=c/\b=b/\True)/\ ∀(c:Int),0<=c/\c<=(cA a)/\cD b (List.take c.toNat a)=true->ad (decide (c<(cA a))) (0<=c/\c<(cA a)/\ad (decide (a.getD c.toNat default<0∨b<a.getD c.toNat default)) (b=b/\ -1<=c/\(c= -1↔cD b a=true)) (∃(d:Int),(0<=d/\d<=(cA a)/\cD b (List.take d.toNat a)=true)/\Int.toNat ((cA a) -d)<Int.toNat ((cA a) -c)/\a=a/\a=a/\(cA a)=(cA a)/\IntKind.wrap .i64 (c+(1:Int))=d/\b=b/\True)) (b=b/\(-1:Int)<= -1/\((-1:Int)= -1↔cD b a=true)):=by
  delta cA
  rintro l lim ⟨⟨hl,-⟩,-⟩ -
  simp only[maxLen] at hl
  refine⟨⟨0,⟨by omega,by omega,by simp[cD]⟩,(by repeat' first|exact trivial|refine⟨trivial,?_⟩|refine⟨(by with_reducible rfl),?_⟩|refine⟨af (by omega) (by omega),?_⟩|refine⟨rfl,?_⟩)⟩,?_⟩
  rintro j ⟨j0,j1,j2⟩
  refine ae (fun hj=>?_) (fun hj=>?_)
  ·have hj:=of_decide_eq_true hj
   have ht:=qK j0 hj
   have hm:=bL (xs:=l) j0 hj
   generalize l.getD j.toNat default=x at *
   refine⟨j0,hj,ae (fun hb=>?_) (fun hb=>?_)⟩
   ·have hb:=of_decide_eq_true hb
    refine⟨rfl,by omega,⟨fun h=>by omega,fun h=>?_⟩⟩
    unfold cD at h
    have:=of_decide_eq_true (List.all_eq_true.1 h x hm)
    omega
   ·have hb:=of_decide_eq_false hb
    refine⟨j+1,⟨by omega,by omega,?_⟩,by omega,(by repeat' first|exact trivial|refine⟨trivial,?_⟩|refine⟨(by with_reducible rfl),?_⟩|refine⟨af (by omega) (by omega),?_⟩|refine⟨rfl,?_⟩)⟩
    rw[ht];unfold cD at j2 ⊢
    rw[List.all_append,j2];simp;omega
  ·have hj:=of_decide_eq_false hj
   rw[List.take_of_length_le (by omega)] at j2
   simp[j2]
theorem ZK:av Tryz.prog GL 282 Nf.spec:=Cn.okH _ Tryz.func282 (by kernel_rfl) (ah aA RW) au V6 (aB (by kernel_rfl) au7)
def Iq:Ct:=⟨[.val (.sl cI),.fn 263 1,.box 3 cI],[.val .bool],fun _=>[],fun d=>((!cD d.2.2.1 d.1,()),(d.2.2.1,()))⟩
def av1:ar Iq.ps->ay:=(fun _=>{})
theorem au0 :
 ∀(a:List Int)(b:Int),(a.length<=maxLen/\ ∀(c:Int),c∈a->ab c)/\True/\ab b/\True->True-> ∀(c d:Int),d=b/\ -1<=c/\(c= -1↔cD b a=true)->decide (0<=c)= ! cD b a/\d=b:=by
  rintro l lim - - i b ⟨rfl,h1,h2⟩
  refine⟨?_,rfl⟩
  cases h:cD b l with
  | true=>rw[h2.2 h];rfl
  | false =>
   have:¬ i = -1:=fun e=>by rw[h2.1 e] at h;cases h
   simp;omega
theorem RU:av Tryz.prog GL 262 Iq.spec:=Ct.okH _ Tryz.func262 (by kernel_rfl) (ah aA ZK) au av1 (aB (by kernel_rfl) au0)
def HC:Ct:=⟨[.val cI,.val (.sl cI)],[.val .bool],fun _=>[],fun d=>((cD d.1 d.2.1,()),())⟩
def RY:ar HC.ps->ay:=(fun _=>{})
theorem XX :
 ∀(a:Int)(b:List Int),ab a/\(b.length<=maxLen/\ ∀(c:Int),c∈b->ab c)/\True->True->(!! cD a b)=cD a b:=by
  rintro lim l - -
  simp
theorem zk:av Tryz.prog GL 241 HC.spec:=Ct.okH _ Tryz.func241 (by kernel_rfl) (ah aA RU) au RY (aB (by kernel_rfl) XX)
theorem ar9(l:List Int):(l.flatMap w2).length=2*l.length:=by
 induction l with
 | nil=>rfl
 | cons x l ih=>rw[List.flatMap_cons,List.length_append,ih,List.length_cons];simp[w2];omega
theorem X2(n:Int):io n 2 2=w2 n:=by
 simp[io,w2,List.range,List.range.loop]
theorem Q7(n:Int):io n 4 4=w4 n:=by
 simp[io,w4,List.range,List.range.loop]
theorem SO(n:Int):io n 1 1=[n%256]:=by
 simp[io,List.range,List.range.loop]
theorem gR{b:List Int}{n:Int}(h0:0<=n)(h1:n<=65535):bG b n 2=b++w2 n:=by
 rw[bG,if_neg,← X2]
 ·rfl
 ·unfold lL
  have:(256:Int)^(2:Int).toNat=65536:=rfl
  rw[this];omega
theorem sM{b:List Int}{n:Int}(h0:0<=n)(h1:n<=4294967295):bG b n 4=b++w4 n:=by
 rw[bG,if_neg,← Q7]
 ·rfl
 ·unfold lL
  have:(256:Int)^(4:Int).toNat=4294967296:=rfl
  rw[this];omega
theorem pX{b:List Int}{n:Int}(h0:0<=n)(h1:n<=255):bG b n 1=b++[n]:=by
 rw[bG,if_neg,show io n (1:Int).toNat (1:Int).toNat=[n] from by
  have:=SO n
  rw[Int.emod_eq_of_lt h0 (by omega)] at this
  exact this]
 unfold lL
 have:(256:Int)^(1:Int).toNat=256:=rfl
 rw[this];omega
def Jv:Ct:=⟨[.nils,.val (.sl cI)],[.own 5 bm],fun d=>[cD 65535 d.2.1=true,(d.2.1.length:Int)<=1073741824],fun d=>((d.2.1.flatMap w2,()),())⟩
def Z8:ar Jv.ps->ay:=(fun d=>{loops:=(fun n=>match n with|2=>some (fun S=>{ι:=Int×(List Int),qn:=⟨fun k_=>∀(j:Int)(ys:(List Int)),k_ (j,ys),fun k_ h_ i=>h_ i.1 i.2,fun k_=>∃ (j:Int) (ys:(List Int)),k_ (j,ys),fun k_ ⟨j,ys,h_⟩=>⟨_,h_⟩⟩,μ:=fun i=>(d.2.1.length-i.1).toNat,inv:=fun i=>0<=i.1/\i.1<=d.2.1.length/\i.2=(d.2.1.take i.1.toNat).flatMap w2,keep:=[7,8],slots:=fun i=>[(0,.own 524288 1),(9,.int .i64 i.1)],names:=fun i=>[(524288,.live (.row 5 bm i.2))]})|_=>none)})
theorem am8 :
 ∀(a:List Int),True/\(a.length<=maxLen/\ ∀(b:Int),b∈a->ab b)/\True->cD (65535:Int) a=true/\(cA a)<=1073741824->(∃(b:Int) (c:List Int),(0<=b/\b<=(cA a)/\c=List.flatMap w2 (List.take b.toNat a))/\a=a/\(cA a)=(cA a)/\(0:Int)=b/\c=([]:List Int)/\True)/\ ∀(b:Int)(c:List Int),0<=b/\b<=(cA a)/\c=List.flatMap w2 (List.take b.toNat a)->ad (decide (b<(cA a))) (0<=b/\b<(cA a)/\(c.length:Int)<=1099511627776/\ ∃(d:Int) (e:List Int),(0<=d/\d<=(cA a)/\e=List.flatMap w2 (List.take d.toNat a))/\Int.toNat ((cA a) -d)<Int.toNat ((cA a) -b)/\a=a/\(cA a)=(cA a)/\IntKind.wrap .i64 (b+(1:Int))=d/\bG c (a.getD b.toNat default) (2:Int)=e/\True) (c=List.flatMap w2 a):=by
  delta cA
  rintro l ⟨-,⟨hl,-⟩,-⟩⟨ha,hk⟩
  refine⟨⟨0,[],⟨by omega,by omega,by simp⟩,(by repeat' first|exact trivial|refine⟨trivial,?_⟩|refine⟨(by with_reducible rfl),?_⟩|refine⟨af (by omega) (by omega),?_⟩|refine⟨rfl,?_⟩)⟩,?_⟩
  rintro j ys ⟨j0,j1,rfl⟩
  refine ae (fun hj=>?_) (fun hj=>?_)
  ·have hj:=of_decide_eq_true hj
   have ht:=qK j0 hj
   have hm:=bL (xs:=l) j0 hj
   have hlen:((l.take j.toNat).flatMap w2).length=2*j.toNat:=by
    rw[ar9,List.length_take];omega
   generalize l.getD j.toNat default=x at *
   have hx:=of_decide_eq_true (List.all_eq_true.1 ha x hm)
   refine⟨j0,hj,by omega,j+1,_,⟨by omega,by omega,rfl⟩,by omega,rfl,rfl,af (by omega) (by omega),?_,trivial⟩
   rw[ht,List.flatMap_append,gR hx.1 hx.2];simp
  ·have hj:=of_decide_eq_false hj
   rw[List.take_of_length_le (by omega)]
theorem ze:av Tryz.prog GL 242 Jv.spec:=Ct.okH _ Tryz.func242 (by kernel_rfl) (ah aA NC) au Z8 (aB (by kernel_rfl) am8)
def Kz:Ct:=⟨[.val (.sl bm),.val cI],[.val cI],fun d=>[0<=d.2.1,d.2.1+2<=d.1.length,(d.1.length:Int)<=1099511627776],fun d=>((aG d.1 d.2.1.toNat,()),())⟩
def Wz:ar Kz.ps->ay:=(fun _=>{})
theorem Vl :
 ∀(a:List Int)(b:Int),(a.length<=maxLen/\ ∀(c:Int),c∈a->0<=c/\c<=255)/\ab b/\True->0<=b/\b+2<=(cA a)/\(cA a)<=1099511627776->(cA a)<=1099511627776/\dQ a b (2:Int)=aG a b.toNat:=by
  delta cA
  rintro b a-⟨h0,h1,h2⟩
  refine⟨h2,?_⟩
  rw[dQ,if_neg (by omega)];rfl
theorem AT:av Tryz.prog GL 211 Kz.spec:=Ct.okH _ Tryz.func211 (by kernel_rfl) (ah aA Dm) au Wz (aB (by kernel_rfl) Vl)
theorem FC{n:Int}(h0:0<=n):cU .i64 n 8=n/256:=by
 have e:=uO (n:=n) (k:=1) h0 (by omega)
 exact e
def MM:Ct:=⟨[.val (.sl bm),.val cI,.val cI],[.own 5 bm],fun d=>[0<=d.2.1,d.2.1+2<=d.1.length,(d.1.length:Int)<=1099511627776,0<=d.2.2.1,d.2.2.1<=65535],fun d=>((bI d.1 d.2.1.toNat d.2.2.1,()),())⟩
def S4:ar MM.ps->ay:=(fun _=>{})
def BH(a:List Int)(b c:Int) :=
 (0:Int)<=8/\0<=b/\b<(cA a)/\0<=IntKind.wrap .i64 (b+(1:Int))/\IntKind.wrap .i64 (b+(1:Int))<((List.length (List.set a b.toNat (IntKind.wrap .u8 (cU IntKind.i64 c (8:Int))))):Int)/\List.set (List.set a b.toNat (IntKind.wrap .u8 (cU IntKind.i64 c (8:Int)))) (Int.toNat (IntKind.wrap .i64 (b+(1:Int)))) (IntKind.wrap .u8 c)=bI a b.toNat c
theorem ai3 :
 ∀(a:List Int)(b c:Int),(a.length<=maxLen/\ ∀(d:Int),d∈a->0<=d/\d<=255)/\ab b/\ab c/\True->0<=b/\b+2<=(cA a)/\(cA a)<=1099511627776/\0<=c/\c<=65535->(cA a)<=1099511627776/\(BH a b c):=by
  delta BH cA
  rintro b a n-⟨h0,h1,h2,n0,n1⟩
  rw[af (n:=a+1) (by omega) (by omega),FC n0,IntKind.wrap_u8',IntKind.wrap_u8',List.length_set]
  refine⟨by omega,by omega,by omega,by omega,by omega,by omega,?_⟩
  rw[bI,show (a+1).toNat=a.toNat+1 from by omega]
theorem Of:av Tryz.prog GL 240 MM.spec:=Ct.okH _ Tryz.func240 (by kernel_rfl) (ah aA pU) au S4 (aB (by kernel_rfl) ai3)
def Mt:Ct:=⟨[.val (.sl bm),.val cI,.val cI],[.own 5 bm,.val cI],fun d=>[0<=d.2.1,d.2.1+2<=d.1.length,(d.1.length:Int)<=1099511627776,0<=d.2.2.1,d.2.2.1<=65535],fun d=>((if (1480:Int)<d.1.length then [] else bI d.1 d.2.1.toNat d.2.2.1,if (1480:Int)<d.1.length then 5 else 0,()),())⟩
def Qf:ar Mt.ps->ay:=(fun _=>{})
theorem QC :
 ∀(a:List Int)(b c:Int),(a.length<=maxLen/\ ∀(d:Int),d∈a->0<=d/\d<=255)/\ab b/\ab c/\True->0<=b/\b+2<=(cA a)/\(cA a)<=1099511627776/\0<=c/\c<=65535->ad (decide (1480<(cA a))) ((([]:List Int)=if 1480<(cA a) then ([]:List Int) else bI a b.toNat c)/\(5:Int)=if 1480<(cA a) then (5:Int) else (0:Int)) (0<=b/\b+2<=(cA a)/\(cA a)<=1099511627776/\0<=c/\c<=65535/\(bI a b.toNat c=if 1480<(cA a) then ([]:List Int) else bI a b.toNat c)/\(0:Int)=if 1480<(cA a) then (5:Int) else (0:Int)):=by
  delta cA
  rintro b a n-⟨h0,h1,h2,n0,n1⟩
  refine ae (fun hb=>?_) (fun hb=>?_)
  ·have hb:=of_decide_eq_true hb
   rw[if_pos hb,if_pos hb];exact⟨rfl,rfl⟩
  ·have hb:=of_decide_eq_false hb
   rw[if_neg hb,if_neg hb];exact⟨h0,h1,h2,n0,n1,rfl,rfl⟩
theorem F6:av Tryz.prog GL 283 Mt.spec:=Ct.okH _ Tryz.func283 (by kernel_rfl) (ah aA Of) au Qf (aB (by kernel_rfl) QC)
def IP:Ct:=⟨[.val (.sl bm),.val cI],[.own 5 bm,.val cI],fun d=>[0<=d.2.1,d.2.1+2<=d.1.length,(d.1.length:Int)<=1099511627776],fun d=>((bI d.1 d.2.1.toNat 0,aG d.1 d.2.1.toNat,()),())⟩
def Rw:ar IP.ps->ay:=(fun _=>{})
theorem XE :
 ∀(a:List Int)(b:Int),(a.length<=maxLen/\ ∀(c:Int),c∈a->0<=c/\c<=255)/\ab b/\True->0<=b/\b+2<=(cA a)/\(cA a)<=1099511627776->0<=b/\b+2<=(cA a)/\(cA a)<=1099511627776/\(0:Int)<=0/\(0:Int)<=65535/\0<=b/\b+2<=(cA a)/\(cA a)<=1099511627776/\bI a b.toNat (0:Int)=bI a b.toNat (0:Int)/\aG a b.toNat=aG a b.toNat:=by
  delta cA
  rintro b a-⟨h0,h1,h2⟩
  exact⟨h0,h1,h2,by omega,by omega,h0,h1,h2,rfl,rfl⟩
theorem Ef:av Tryz.prog GL 210 IP.spec:=Ct.okH _ Tryz.func210 (by kernel_rfl) (ah (ah aA Of) AT) au Rw (aB (by kernel_rfl) XE)
def Jy:Ct:=⟨[.val (.sl bm),.val cI,.val cI],[.own 5 bm],fun d=>[0<=d.2.1,d.2.1+2<=d.1.length,(d.1.length:Int)<=1099511627776,0<=d.2.2.1,d.2.2.1<=65535],fun d=>((bI d.1 d.2.1.toNat d.2.2.1,()),())⟩
def Zk:ar Jy.ps->ay:=(fun _=>{})
def jB :=
 (140737488355328:Nat)
theorem ah7 :
 ∀(a:List Int)(b c:Int),(a.length<=maxLen/\ ∀(d:Int),d∈a->0<=d/\d<=255)/\ab b/\ab c/\True->0<=b/\b+2<=(cA a)/\(cA a)<=1099511627776/\0<=c/\c<=65535->a.length*(1:Nat)<=(jB)/\(BH a b c):=by
  delta BH cA jB
  rintro b a n-⟨h0,h1,h2,n0,n1⟩
  rw[af (n:=a+1) (by omega) (by omega),FC n0,IntKind.wrap_u8',IntKind.wrap_u8',List.length_set]
  refine⟨by omega,by omega,by omega,by omega,by omega,by omega,?_⟩
  rw[bI,show (a+1).toNat=a.toNat+1 from by omega]
theorem Do:av Tryz.prog GL 194 Jy.spec:=Ct.okH _ Tryz.func194 (by kernel_rfl) aA au Zk (aB (by kernel_rfl) ah7)
def JO:Ct:=⟨[.val cI],[.val .bool],fun d=>[],fun d=>((bU d.1,()),())⟩
def ZV:ar JO.ps->ay:=(fun _=>{})
theorem U2 :
 ∀(a:Int),ab a/\True->True-> ∀(b:Bool),b=decide (0<=a)->(b->(b->b)/\True)/\(b->b)/\(bif b then decide (a<=65535) else false)=bU a:=by
  rintro n - -
  (repeat (intro (b_:Bool) (hb_:b_=_);(repeat refine⟨(by first|(simp;done)|(rw[hb_];simp;done)|(rw[hb_];simp;omega)|(rw[hb_];simp;intros;omega)|(rw[hb_];simp +contextual;done)),?_⟩);subst hb_))
  unfold bU
  by_cases h:0<=n <;> simp[h] <;> omega
theorem GZ:av Tryz.prog GL 193 JO.spec:=Ct.okH _ Tryz.func193 (by kernel_rfl) aA au ZV (aB (by kernel_rfl) U2)
def Ik:Ct:=⟨[.val cI],[.val .bool],fun d=>[],fun d=>((decide (0<=d.1/\d.1<=255),()),())⟩
def UY:ar Ik.ps->ay:=(fun _=>{})
theorem Un :
 ∀(a:Int),ab a/\True->True-> ∀(b:Bool),b=decide (0<=a)->(b->(b->b)/\True)/\(b->b)/\(bif b then decide (a<=255) else false)=decide (0<=a/\a<=255):=by
  rintro n - -
  (repeat (intro (b_:Bool) (hb_:b_=_);(repeat refine⟨(by first|(simp;done)|(rw[hb_];simp;done)|(rw[hb_];simp;omega)|(rw[hb_];simp;intros;omega)|(rw[hb_];simp +contextual;done)),?_⟩);subst hb_))
  by_cases h:0<=n <;> simp[h] <;> omega
theorem Kt:av Tryz.prog GL 198 Ik.spec:=Ct.okH _ Tryz.func198 (by kernel_rfl) aA au UY (aB (by kernel_rfl) Un)
def Mr:Ct:=⟨[.val cI],[.val .bool],fun d=>[],fun d=>((decide (0<=d.1/\d.1<=4294967295),()),())⟩
def Vj:ar Mr.ps->ay:=(fun _=>{})
theorem WH :
 ∀(a:Int),ab a/\True->True-> ∀(b:Bool),b=decide (0<=a)->(b->(b->b)/\True)/\(b->b)/\(bif b then decide (a<4294967296) else false)=decide (0<=a/\a<=4294967295):=by
  rintro n - -
  (repeat (intro (b_:Bool) (hb_:b_=_);(repeat refine⟨(by first|(simp;done)|(rw[hb_];simp;done)|(rw[hb_];simp;omega)|(rw[hb_];simp;intros;omega)|(rw[hb_];simp +contextual;done)),?_⟩);subst hb_))
  by_cases h:0<=n <;> simp[h] <;> omega
theorem RL:av Tryz.prog GL 199 Mr.spec:=Ct.okH _ Tryz.func199 (by kernel_rfl) aA au Vj (aB (by kernel_rfl) WH)
def iq(e:kZ):Int:=if ¬ (bU e.2.1=true/\bU e.2.2.1=true) then 1 else if (1472:Int)<e.2.2.2.length then 5 else 0
def bK(e:kZ):List Int:=[if e.1 then 0 else 8,0,0,0]++(w2 e.2.1++(w2 e.2.2.1++e.2.2.2))
def dj(e:kZ):List Int:=if iq e=0 then bI (bK e) 2 (cf (bK e)) else []
def gG(n:mW):Int:=if ¬ ((n.1=3∨n.1=11)/\0<=n.2.1/\n.2.1<=255) then 1 else if (n.2.2.length:Int)<28 then 3 else if (1472:Int)<n.2.2.length then 5 else 0
def jV(n:mW):List Int:=[n.1,n.2.1,0,0,0,0,0,0]++n.2.2
def fW(n:mW):List Int:=if gG n=0 then bI (jV n) 2 (cf (jV n)) else []
def tv(src dst proto:Int)(b:List Int):List Int:=w4 src++(w4 dst++(w2 proto++(w2 b.length++b)))
def dA(src dst proto:Int)(b:List Int):Int:=if ¬ (0<=proto/\proto<=255)∨(65535:Int)<b.length then 0 else cf (tv src dst proto b)
def iT(src dst:Int)(b:List Int):Int:=if dA src dst 17 b=0 then 65535 else dA src dst 17 b
def lf(u:nz):Int:=if ¬ (bU u.1=true/\bU u.2.1=true) then 1 else if (1472:Int)<u.2.2.length then 5 else 0
def dw(u:nz):List Int:=w2 u.1++(w2 u.2.1++(w2 (8+u.2.2.length)++([0,0]++u.2.2)))
def jF(src dst:Int)(u:nz):List Int:=if lf u=0 then bI (dw u) 6 (iT src dst (dw u)) else []
def mz(s:jO):Prop:=bU s.1=true/\bU s.2.1=true/\(0<=s.2.2.1/\s.2.2.1<=4294967295)/\(0<=s.2.2.2.1/\s.2.2.2.1<=4294967295)/\(0<=s.2.2.2.2.1/\s.2.2.2.2.1<=255)/\bU s.2.2.2.2.2.1=true
instance (s:jO):Decidable (mz s):=by unfold mz;infer_instance
def iZ(s:jO):Int:=if ¬ mz s then 1 else if (1460:Int)<s.2.2.2.2.2.2.length then 5 else 0
def ix(s:jO):List Int:=w2 s.1++(w2 s.2.1++(w4 s.2.2.1++(w4 s.2.2.2.1++([80,s.2.2.2.2.1]++(w2 s.2.2.2.2.2.1++([0,0,0,0]++s.2.2.2.2.2.2))))))
def dq(src dst:Int)(s:jO):List Int:=if iZ s=0 then bI (ix s) 16 (dA src dst 6 (ix s)) else []
def bytes(l:List Int):Prop:=∀ x∈l,0<=x/\x<=255
theorem fP{a b:List Int}(ha:bytes a)(hb:bytes b):bytes (a++b):=fun x h=>(List.mem_append.1 h).elim (ha x) (hb x)
theorem jR(n:Int):bytes (w2 n):=by intro x h;simp[w2] at h;omega
theorem vN(n:Int):bytes (w4 n):=by intro x h;simp[w4] at h;omega
theorem j4{a:Int}{l:List Int}(h0:0<=a)(h1:a<=255)(h:bytes l):bytes (a::l):=by
 intro x hx
 rcases List.mem_cons.1 hx with rfl|hx
 ·exact⟨h0,h1⟩
 ·exact h x hx
theorem kP:bytes []:=by intro x h;cases h
theorem mV{b:List Int}(h:bytes b):0<=cf b/\cf b<=65535:=by
 have:=r8 (wv true b h).1
 unfold cf;omega
theorem BX{p data B enc:List Int}{a c err:Int}(hp:p++data=B)(ha:0<=a)(h8:a+2<=p.length)(hp1:p.length<=100)(hd:(data.length:Int)<=1073741824)(c0:0<=c)(c1:c<=65535)
  (he:enc=if (1480:Int)<B.length then [] else bI B a.toNat c) (hr:err=if (1480:Int)<B.length then 5 else 0) :
  0<=a/\a+2<=((p++data).length:Int)/\((p++data).length:Int)<=1099511627776/\0<=c/\c<=65535/\(if (1480:Int)<((p++data).length:Int) then [] else bI (p++data) a.toNat c)=enc/\(if (1480:Int)<((p++data).length:Int) then (5:Int) else 0)=err:=by
 have hl:(p++data).length=p.length+data.length:=List.length_append
 rw[hp] at hl ⊢
 exact⟨ha,by omega,by omega,c0,c1,he.symm,hr.symm⟩
theorem lp{p data:List Int}(hp1:p.length<=100)(hd:(data.length:Int)<=1073741824):(p.length+data.length)*1<=140737488355328/\((p++data).length:Int)<=1099511627776:=by
 rw[List.length_append];omega
theorem BD(lim a b:Int):cD lim [a,b]=true↔(0<=a/\a<=lim)/\0<=b/\b<=lim:=by simp[cD]
theorem tE(lim a:Int):cD lim [a]=true↔0<=a/\a<=lim:=by simp[cD]
theorem gH(n:Int):bU n=true↔0<=n/\n<=65535:=by simp[bU]
theorem An(e:kZ):(bK e).length=8+e.2.2.2.length:=by simp[bK,w2];omega
theorem HD{e:kZ}(h:¬ (bU e.2.1=true/\bU e.2.2.1=true)):[]=dj e/\1=iq e:=by
 have:iq e=1:=by rw[iq,if_pos h]
 rw[dj,this];simp
theorem Le{e:kZ}(h:bU e.2.1=true/\bU e.2.2.1=true):(dj e=if (1480:Int)<(bK e).length then [] else bI (bK e) 2 (cf (bK e)))/\iq e=if (1480:Int)<(bK e).length then 5 else 0:=by
 have hl:=An e
 have he:iq e=if (1480:Int)<(bK e).length then 5 else 0:=by
  rw[iq,if_neg (fun k=>k h)]
  by_cases hd:(1472:Int)<e.2.2.2.length
  ·rw[if_pos hd,if_pos (by omega)]
  ·rw[if_neg hd,if_neg (by omega)]
 refine⟨?_,he⟩
 rw[dj,he]
 by_cases hd:(1480:Int)<(bK e).length
 ·rw[if_pos hd,if_pos hd];rfl
 ·rw[if_neg hd,if_neg hd];rfl
theorem tf{e:kZ}(h:bytes e.2.2.2):bytes (bK e):=by
 refine fP (j4 ?_ ?_ (j4 (by omega) (by omega) (j4 (by omega) (by omega) (j4 (by omega) (by omega) kP)))) (fP (jR _) (fP (jR _) h))
 ·split <;> omega
 ·split <;> omega
theorem O8(n:Int)(r:List Int):w2 (n/65536)++(w2 (n%65536)++r)=w4 n++r:=by
 unfold w2 w4
 simp only[List.cons_append,List.nil_append]
 have e1:n/65536/256%256=n/16777216%256:=by omega
 have e2:n%65536/256%256=n/256%256:=by omega
 have e3:n%65536%256=n%256:=by omega
 rw[e1,e2,e3]
theorem zu{t k:Int}(t0:0<=t)(t1:t<=255)(k0:0<=k)(k1:k<=255):w2 (t*256+k)=[t,k]:=by
 unfold w2
 have e1:(t*256+k)/256%256=t:=by omega
 have e2:(t*256+k)%256=k:=by omega
 rw[e1,e2]
theorem Oi{n x:Int}(h0:0<=n)(h1:n<=65535)(h2:0<=x)(h3:x<=255):bits .or .i64 (dm .i64 n 8) x=n*256+x:=by
 have:=FG h0 (by omega) h2 h3
 rwa [af (n:=x) (by omega) (by omega)] at this
theorem H3{n:Int}(h0:0<=n):cU .i64 n 16=n/65536:=by
 have e:=uO (n:=n) (k:=2) h0 (by omega)
 exact e
theorem Ly{n:Int}(h0:0<=n)(h1:n<=4294967295):IntKind.wrap .i64 (cU .u32 n 16)=n/65536:=by
 have:cU .u32 n 16=n/65536:=by
  unfold cU
  rw[Int.fdiv_eq_ediv_of_nonneg _ (by decide)]
  rfl
 rw[this,af (by omega) (by omega)]
theorem KX{n:Int}(h0:0<=n)(h1:n<=4294967295):IntKind.wrap .i64 (bits .and .u32 n 65535)=n%65536:=by
 rw[u32_and n 65535 h0 (by omega) (by decide) (by decide)]
 have:(n.toNat &&& Int.toNat 65535)=n.toNat%65536:=Nat.and_two_pow_sub_one_eq_mod n.toNat 16
 rw[this,af (by omega) (by omega)];omega
theorem EY(e:mW):(jV e).length=8+e.2.2.length:=by simp[jV];omega
theorem Ha{e:mW}(h:¬ ((e.1=3∨e.1=11)/\0<=e.2.1/\e.2.1<=255)):[]=fW e/\1=gG e:=by
 have:gG e=1:=by rw[gG,if_pos h]
 rw[fW,this];simp
theorem ay5{e:mW}(h:(e.1=3∨e.1=11)/\0<=e.2.1/\e.2.1<=255)(h2:(e.2.2.length:Int)<28):[]=fW e/\3=gG e:=by
 have:gG e=3:=by rw[gG,if_neg (fun k=>k h),if_pos h2]
 rw[fW,this];simp
theorem VH{e:mW}(h:(e.1=3∨e.1=11)/\0<=e.2.1/\e.2.1<=255)(h2:¬ (e.2.2.length:Int)<28):(fW e=if (1480:Int)<(jV e).length then [] else bI (jV e) 2 (cf (jV e)))/\gG e=if (1480:Int)<(jV e).length then 5 else 0:=by
 have hl:=EY e
 have he:gG e=if (1480:Int)<(jV e).length then 5 else 0:=by
  rw[gG,if_neg (fun k=>k h),if_neg h2]
  by_cases hd:(1472:Int)<e.2.2.length
  ·rw[if_pos hd,if_pos (by omega)]
  ·rw[if_neg hd,if_neg (by omega)]
 refine⟨?_,he⟩
 rw[fW,he]
 by_cases hd:(1480:Int)<(jV e).length
 ·rw[if_pos hd,if_pos hd];rfl
 ·rw[if_neg hd,if_neg hd];rfl
theorem Dc{e:mW}(h:(e.1=3∨e.1=11)/\0<=e.2.1/\e.2.1<=255)(hd:bytes e.2.2):bytes (jV e):=by
 refine fP (j4 (by omega) (by omega) (j4 h.2.1 h.2.2 ?_)) hd
 intro x hx;simp at hx;omega
theorem If(e:nz):(dw e).length=8+e.2.2.length:=by simp[dw,w2];omega
theorem Sx{a b:Int}{e:nz}(h:¬ (bU e.1=true/\bU e.2.1=true)):[]=jF a b e/\1=lf e:=by
 have:lf e=1:=by rw[lf,if_pos h]
 rw[jF,this];simp
theorem Y7{a b:Int}{e:nz}(h:bU e.1=true/\bU e.2.1=true):(jF a b e=if (1480:Int)<(dw e).length then [] else bI (dw e) 6 (iT a b (dw e)))/\lf e=if (1480:Int)<(dw e).length then 5 else 0:=by
 have hl:=If e
 have he:lf e=if (1480:Int)<(dw e).length then 5 else 0:=by
  rw[lf,if_neg (fun k=>k h)]
  by_cases hd:(1472:Int)<e.2.2.length
  ·rw[if_pos hd,if_pos (by omega)]
  ·rw[if_neg hd,if_neg (by omega)]
 refine⟨?_,he⟩
 rw[jF,he]
 by_cases hd:(1480:Int)<(dw e).length
 ·rw[if_pos hd,if_pos hd];rfl
 ·rw[if_neg hd,if_neg hd];rfl
theorem xW{e:nz}(h:bytes e.2.2):bytes (dw e) :=
 fP (jR _) (fP (jR _) (fP (jR _) (fP (j4 (by omega) (by omega) (j4 (by omega) (by omega) kP)) h)))
theorem vx(e:jO):(ix e).length=20+e.2.2.2.2.2.2.length:=by simp[ix,w2,w4];omega
theorem Bc{a b:Int}{e:jO}(h:¬ mz e):[]=dq a b e/\1=iZ e:=by
 have:iZ e=1:=by rw[iZ,if_pos h]
 rw[dq,this];simp
theorem OZ{a b:Int}{e:jO}(h:mz e):(dq a b e=if (1480:Int)<(ix e).length then [] else bI (ix e) 16 (dA a b 6 (ix e)))/\iZ e=if (1480:Int)<(ix e).length then 5 else 0:=by
 have hl:=vx e
 have he:iZ e=if (1480:Int)<(ix e).length then 5 else 0:=by
  rw[iZ,if_neg (fun k=>k h)]
  by_cases hd:(1460:Int)<e.2.2.2.2.2.2.length
  ·rw[if_pos hd,if_pos (by omega)]
  ·rw[if_neg hd,if_neg (by omega)]
 refine⟨?_,he⟩
 rw[dq,he]
 by_cases hd:(1480:Int)<(ix e).length
 ·rw[if_pos hd,if_pos hd];rfl
 ·rw[if_neg hd,if_neg hd];rfl
theorem uu{e:jO}(h:mz e)(hd:bytes e.2.2.2.2.2.2):bytes (ix e):=by
 obtain⟨-,-,-,-,hf,-⟩:=h
 refine fP (jR _) (fP (jR _) (fP (vN _) (fP (vN _) (fP (j4 (by omega) (by omega) (j4 hf.1 hf.2 kP)) (fP (jR _) (fP ?_ hd))))))
 intro x hx;simp at hx;omega
theorem Ur{a b p:Int}{l:List Int}(h:bytes l):bytes (tv a b p l):=fP (vN _) (fP (vN _) (fP (jR _) (fP (jR _) h)))
theorem va{a b p:Int}{l:List Int}(h:bytes l):0<=dA a b p l/\dA a b p l<=65535:=by
 unfold dA;split
 ·omega
 ·exact mV (Ur h)
theorem K3{a b:Int}{l:List Int}(h:bytes l):0<=iT a b l/\iT a b l<=65535:=by
 have:=va (a:=a) (b:=b) (p:=17) h
 unfold iT;split <;> omega
theorem Aq{err n:Int}(h:err=if (1480:Int)<n then 5 else 0)(hn:¬ (1480:Int)<n):0=err:=by rw[h,if_neg hn]
def N3:Ct:=⟨[.agg C1],[.own 5 bm,.val cI],fun d=>[(d.1.2.2.2.length:Int)<=1073741824],fun d=>((dj d.1,iq d.1,()),())⟩
def XY:ar N3.ps->ay:=(fun _=>{})
def BZ(a:Bool)(b c:Int)(d e:List Int) :=
 (e.length+d.length)*(1:Nat)<=(jB)/\((List.length (e++d)):Int)<=1099511627776/\ ∀(f:Int),f=65535 -oc (bf true (e++d))->(0:Int)<=2/\(2:Int)+2<=((List.length (e++d)):Int)/\((List.length (e++d)):Int)<=1099511627776/\0<=f/\f<=65535/\(if 1480<((List.length (e++d)):Int) then ([]:List Int) else bI (e++d) (Int.toNat (2:Int)) f)=dj (a,b,c,d)/\(if 1480<((List.length (e++d)):Int) then (5:Int) else (0:Int))=iq (a,b,c,d)
def sP(d:List Int) :=
 d.length<=maxLen/\ ∀(e:Int),e∈d->0<=e/\e<=255
theorem U1 :
 ∀(a:Bool)(b c:Int)(d:List Int),(True/\ab b/\ab c/\(sP d))/\True->(d.length:Int)<=1073741824->ad (! cD (65535:Int) [b,c]) (([]:List Int)=dj (a,b,c,d)/\(1:Int)=iq (a,b,c,d)) (ad a ((0:Int)<=8/\cD (65535:Int) [dm IntKind.i64 (0:Int) (8:Int),(0:Int),b,c]=true/\((List.length [dm IntKind.i64 (0:Int) (8:Int),(0:Int),b,c]):Int)<=1073741824/\ ∀(e:List Int),e=List.flatMap w2 [dm IntKind.i64 (0:Int) (8:Int),(0:Int),b,c]->(BZ a b c d e)) ((0:Int)<=8/\cD (65535:Int) [dm IntKind.i64 (8:Int) (8:Int),(0:Int),b,c]=true/\((List.length [dm IntKind.i64 (8:Int) (8:Int),(0:Int),b,c]):Int)<=1073741824/\ ∀(e:List Int),e=List.flatMap w2 [dm IntKind.i64 (8:Int) (8:Int),(0:Int),b,c]->(BZ a b c d e))):=by
  delta BZ jB sP
  rintro r i q data ⟨⟨-,-,-,-,hd⟩,-⟩ hl
  refine ae (fun h=>?_) (fun h=>?_)
  ·apply HD
   simp only[Bool.not_eq_true',← Bool.not_eq_true,BD] at h
   simp only[gH];exact h
  have hw:bU i=true/\bU q=true:=by
   simp only[Bool.not_eq_false',BD] at h
   simp only[gH];exact h
  have hw':=hw
  simp only[gH] at hw'
  obtain⟨e1,e2⟩:=Le (e:=(r,i,q,data)) hw
  have hB:=mV (tf (e:=(r,i,q,data)) hd)
  cases r with
  | true =>
   refine ae (fun _=>?_) (fun hr=>by cases hr)
   refine⟨by omega,by rw[show dm .i64 0 8=0 from by decide];simp[cD];omega,by simp,?_⟩
   intro p hpe
   have hp8:p.length=8:=by rw[hpe];simp[w2]
   have hp:p++data=bK (true,i,q,data):=by
    rw[hpe,show dm .i64 0 8=0 from by decide];simp[w2,bK]
   refine⟨(lp (by omega) hl).1,(lp (by omega) hl).2,?_⟩
   intro c hc
   have hc:c=cf (bK (true,i,q,data)):=by rw[hc,hp];rfl
   exact BX (a:=2) hp (by omega) (by omega) (by omega) hl (by rw[hc];exact hB.1) (by rw[hc];exact hB.2) (by rw[hc];exact e1) e2
  | false =>
   refine ae (fun hr=>by cases hr) (fun _=>?_)
   refine⟨by omega,by rw[show dm .i64 8 8=2048 from by decide];simp[cD];omega,by simp,?_⟩
   intro p hpe
   have hp8:p.length=8:=by rw[hpe];simp[w2]
   have hp:p++data=bK (false,i,q,data):=by
    rw[hpe,show dm .i64 8 8=2048 from by decide];simp[w2,bK]
   refine⟨(lp (by omega) hl).1,(lp (by omega) hl).2,?_⟩
   intro c hc
   have hc:c=cf (bK (false,i,q,data)):=by rw[hc,hp];rfl
   exact BX (a:=2) hp (by omega) (by omega) (by omega) hl (by rw[hc];exact hB.1) (by rw[hc];exact hB.2) (by rw[hc];exact e1) e2
theorem QV:av Tryz.prog GL 267 N3.spec:=Ct.okH _ Tryz.func267 (by kernel_rfl) (ah (ah (ah (ah aA zk) (Ct.named ze)) (Ct.named uC)) F6) au XY (aB (by kernel_rfl) U1)
def PZ:Ct:=⟨[.agg C1],[.own 5 bm,.val cI],fun d=>[(d.1.2.2.2.length:Int)<=1073741824],fun d=>((dj d.1,iq d.1,()),())⟩
def Vk:ar PZ.ps->ay:=(fun _=>{})
def F0(a:Bool)(b c:Int)(d f:List Int) :=
 (f.length:Int)<=1099511627776/\ ∀(g:List Int),g=bG f c (2:Int)->(g.length+d.length)*(1:Nat)<=(jB)/\((List.length (g++d)):Int)<=1099511627776/\ ∀(h:Int),h=65535 -oc (bf true (g++d))->(0:Int)<=2/\(2:Int)+2<=((List.length (g++d)):Int)/\((List.length (g++d)):Int)<=1099511627776/\0<=h/\h<=65535/\bI (g++d) (Int.toNat (2:Int)) h=dj (a,b,c,d)/\(0:Int)=iq (a,b,c,d)
def jA(e:Bool) :=
 (! e)->((! e)->(! e))/\True
theorem SG :
 ∀(a:Bool)(b c:Int)(d:List Int),(True/\ab b/\ab c/\(sP d))/\True->(d.length:Int)<=1073741824-> ∀(e:Bool),e= ! bU b->(jA e)/\(jA e)/\(jA e)/\(e=false->(! e))/\ad (bif e then true else ! bU c) (([]:List Int)=dj (a,b,c,d)/\(1:Int)=iq (a,b,c,d)) (ad (decide (1480<IntKind.wrap .i64 ((d.length:Int)+(8:Int)))) (([]:List Int)=dj (a,b,c,d)/\(5:Int)=iq (a,b,c,d)) (ad a (((List.length [IntKind.wrap .u8 (0:Int),(0:Int),(0:Int),(0:Int)]):Int)<=1099511627776/\ ∀(f:List Int),f=bG [IntKind.wrap .u8 (0:Int),(0:Int),(0:Int),(0:Int)] b (2:Int)->(F0 a b c d f)) (((List.length [IntKind.wrap .u8 (8:Int),(0:Int),(0:Int),(0:Int)]):Int)<=1099511627776/\ ∀(f:List Int),f=bG [IntKind.wrap .u8 (8:Int),(0:Int),(0:Int),(0:Int)] b (2:Int)->(F0 a b c d f)))):=by
  delta F0 jA jB sP
  rintro r i q data ⟨⟨-,-,-,-,hd⟩,-⟩ hl
  rintro b rfl
  refine⟨by simp,by simp,by simp,by simp,?_⟩
  rw[af (n:=(data.length:Int)+8) (by omega) (by omega)]
  refine ae (fun h=>?_) (fun h=>?_)
  ·apply HD
   rintro⟨h1,h2⟩
   simp at h1 h2
   simp[h1,h2] at h
  have hw:bU i=true/\bU q=true:=by
   simp[Bool.cond_eq_ite] at h;exact h
  have hw':=hw
  simp only[gH] at hw'
  obtain⟨e1,e2⟩:=Le (e:=(r,i,q,data)) hw
  have hB:=mV (tf (e:=(r,i,q,data)) hd)
  have hbl:=An (r,i,q,data)
  refine ae (fun h5=>?_) (fun h5=>?_)
  ·have h5:=of_decide_eq_true h5
   rw[e1,e2,if_pos (by simp only at hbl;omega),if_pos (by simp only at hbl;omega)];exact⟨rfl,rfl⟩
  have h5:=of_decide_eq_false h5
  have h5:¬ (1480:Int)<(bK (r,i,q,data)).length:=by simp only at hbl;omega
  rw[if_neg h5] at e1
  cases r with
  | true =>
   refine ae (fun _=>?_) (fun hr=>by cases hr)
   refine⟨by simp,?_⟩
   rintro p rfl
   rw[gR hw'.1.1 hw'.1.2]
   refine⟨by simp[w2],?_⟩
   intro p hpe
   rw[gR hw'.2.1 hw'.2.2] at hpe
   have hp8:p.length=8:=by rw[hpe];simp[w2]
   have hp:p++data=bK (true,i,q,data):=by
    rw[hpe,show IntKind.wrap .u8 0=0 from by decide];simp[w2,bK]
   refine⟨(lp (by omega) hl).1,(lp (by omega) hl).2,?_⟩
   intro c hc
   have hc:c=cf (bK (true,i,q,data)):=by rw[hc,hp];rfl
   rw[hp,hc]
   exact⟨by omega,by omega,by omega,hB.1,hB.2,e1.symm,Aq e2 h5⟩
  | false =>
   refine ae (fun hr=>by cases hr) (fun _=>?_)
   refine⟨by simp,?_⟩
   rintro p rfl
   rw[gR hw'.1.1 hw'.1.2]
   refine⟨by simp[w2],?_⟩
   intro p hpe
   rw[gR hw'.2.1 hw'.2.2] at hpe
   have hp8:p.length=8:=by rw[hpe];simp[w2]
   have hp:p++data=bK (false,i,q,data):=by
    rw[hpe,show IntKind.wrap .u8 8=8 from by decide];simp[w2,bK]
   refine⟨(lp (by omega) hl).1,(lp (by omega) hl).2,?_⟩
   intro c hc
   have hc:c=cf (bK (false,i,q,data)):=by rw[hc,hp];rfl
   rw[hp,hc]
   exact⟨by omega,by omega,by omega,hB.1,hB.2,e1.symm,Aq e2 h5⟩
theorem Xc:av Tryz.prog GL 142 PZ.spec:=Ct.okH _ Tryz.func142 (by kernel_rfl) (ah (ah (ah (ah aA GZ) (Ct.named vp)) (Ct.named FL)) Do) au Vk (aB (by kernel_rfl) SG)
def Lz:Ct:=⟨[.agg Tl],[.own 5 bm,.val cI],fun d=>[(d.1.2.2.length:Int)<=1073741824],fun d=>((fW d.1,gG d.1,()),())⟩
def aw1:ar Lz.ps->ay:=(fun _=>{})
def Dn(a b:Int)(c:List Int) :=
 ad (decide ((c.length:Int)<28)) (([]:List Int)=fW (a,b,c)/\(3:Int)=gG (a,b,c)) ((0:Int)<=8/\cD (65535:Int) [bits BinOp.or IntKind.i64 (dm IntKind.i64 a (8:Int)) b,(0:Int),(0:Int),(0:Int)]=true/\((List.length [bits BinOp.or IntKind.i64 (dm IntKind.i64 a (8:Int)) b,(0:Int),(0:Int),(0:Int)]):Int)<=1073741824/\ ∀(f:List Int),f=List.flatMap w2 [bits BinOp.or IntKind.i64 (dm IntKind.i64 a (8:Int)) b,(0:Int),(0:Int),(0:Int)]->(f.length+c.length)*(1:Nat)<=(jB)/\((List.length (f++c)):Int)<=1099511627776/\ ∀(g:Int),g=65535 -oc (bf true (f++c))->(0:Int)<=2/\(2:Int)+2<=((List.length (f++c)):Int)/\((List.length (f++c)):Int)<=1099511627776/\0<=g/\g<=65535/\(if 1480<((List.length (f++c)):Int) then ([]:List Int) else bI (f++c) (Int.toNat (2:Int)) g)=fW (a,b,c)/\(if 1480<((List.length (f++c)):Int) then (5:Int) else (0:Int))=gG (a,b,c))
theorem QZ :
 ∀(a b:Int)(c:List Int),(ab a/\ab b/\c.length<=maxLen/\ ∀(d:Int),d∈c->0<=d/\d<=255)/\True->(c.length:Int)<=1073741824-> ∀(d:Bool),d= ! decide (a=3)->(d->(d->d)/\True)/\(d->(d->d)/\True)/\(d->d)/\ ∀(e:Bool),(e=bif d then ! decide (a=11) else false)->(jA e)/\ad (! e) (((! e)->(! e))/\(jA e)/\(e=false->(! e))/\ad (bif e then true else ! cD (255:Int) [b]) (([]:List Int)=fW (a,b,c)/\(1:Int)=gG (a,b,c)) (Dn a b c)) ((! e)=false/\(! e)=false/\(e=false->false=true)/\ad (bif e then true else false) (([]:List Int)=fW (a,b,c)/\(1:Int)=gG (a,b,c)) (Dn a b c)):=by
  delta Dn jA jB
  rintro t k data ⟨⟨-,-,-,hd⟩,-⟩ hl
  rintro b rfl
  refine⟨by simp,by simp,by simp,?_⟩
  intro b hb
  refine⟨by simp,?_⟩
  cases b with
  | true =>
   have ht:¬ (t=3∨t=11):=by
    simp at hb;omega
   refine ae (fun h=>by cases h) (fun _=>⟨rfl,rfl,by simp,ae (fun _=>Ha (fun h=>ht h.1)) (fun h=>by cases h)⟩)
  | false =>
   have ht:t=3∨t=11:=by
    by_cases h3:t=3
    ·exact .inl h3
    ·simp[h3] at hb;exact .inr hb
   refine ae (fun _=>⟨by simp,by simp,by simp,?_⟩) (fun h=>by cases h)
   refine ae (fun h=>?_) (fun h=>?_)
   ·apply Ha
    rintro⟨-,h2⟩
    have:=(tE 255 k).2 h2
    rw[this] at h;cases h
   have hk:0<=k/\k<=255:=by
    apply (tE 255 k).1
    cases hx:cD 255 [k] with
    | true=>rfl
    | false=>rw[hx] at h;cases h
   refine ae (fun h2=>ay5 ⟨ht,hk⟩ (of_decide_eq_true h2)) (fun h2=>?_)
   have h2:=of_decide_eq_false h2
   obtain⟨e1,e2⟩:=VH (e:=(t,k,data)) ⟨ht,hk⟩ h2
   have hB:=mV (Dc (e:=(t,k,data)) ⟨ht,hk⟩ hd)
   rw[Oi (by omega) (by omega) hk.1 hk.2]
   refine⟨by omega,by simp[cD];omega,by simp,?_⟩
   intro p hpe
   have hp8:p.length=8:=by rw[hpe];simp[w2]
   have hp:p++data=jV (t,k,data):=by
    rw[hpe]
    simp only[List.flatMap_cons,List.flatMap_nil,zu (show 0<=t by omega) (show t<=255 by omega) hk.1 hk.2,show w2 0=[0,0] from rfl];rfl
   refine⟨(lp (by omega) hl).1,(lp (by omega) hl).2,?_⟩
   intro c hc
   have hc:c=cf (jV (t,k,data)):=by rw[hc,hp];rfl
   exact BX (a:=2) hp (by omega) (by omega) (by omega) hl (by rw[hc];exact hB.1) (by rw[hc];exact hB.2) (by rw[hc];exact e1) e2
theorem af3:av Tryz.prog GL 285 Lz.spec:=Ct.okH _ Tryz.func285 (by kernel_rfl) (ah (ah (ah (ah aA zk) (Ct.named ze)) (Ct.named uC)) F6) au aw1 (aB (by kernel_rfl) QZ)
def Ph:Ct:=⟨[.val ck,.val ck,.val cI,.val (.sl bm)],[.val cI],fun d=>[(d.2.2.2.1.length:Int)<=1073741824],fun d=>((dA d.1 d.2.1 d.2.2.1 d.2.2.2.1,()),())⟩
def RQ:ar Ph.ps->ay:=(fun _=>{})
theorem Zq :
 ∀(a b c:Int)(d:List Int),(0<=a/\a<=4294967295)/\(0<=b/\b<=4294967295)/\ab c/\(sP d)/\True->(d.length:Int)<=1073741824-> ∀(e:Bool),e= ! cD (255:Int) [c]->(jA e)/\(jA e)/\(e=false->(! e))/\ad (bif e then true else decide (65535<(d.length:Int))) ((0:Int)=dA a b c d) ((0:Int)<=16/\(0:Int)<=16/\cD (65535:Int) [IntKind.wrap .i64 (cU IntKind.u32 a (16:Int)),IntKind.wrap .i64 (bits BinOp.and IntKind.u32 a (65535:Int)),IntKind.wrap .i64 (cU IntKind.u32 b (16:Int)),IntKind.wrap .i64 (bits BinOp.and IntKind.u32 b (65535:Int)),c,(d.length:Int)]=true/\((List.length [IntKind.wrap .i64 (cU IntKind.u32 a (16:Int)),IntKind.wrap .i64 (bits BinOp.and IntKind.u32 a (65535:Int)),IntKind.wrap .i64 (cU IntKind.u32 b (16:Int)),IntKind.wrap .i64 (bits BinOp.and IntKind.u32 b (65535:Int)),c,(d.length:Int)]):Int)<=1073741824/\ ∀(f:List Int),f=List.flatMap w2 [IntKind.wrap .i64 (cU
 IntKind.u32 a (16:Int)),IntKind.wrap .i64 (bits BinOp.and IntKind.u32 a (65535:Int)),IntKind.wrap .i64 (cU IntKind.u32 b (16:Int)),IntKind.wrap .i64 (bits BinOp.and IntKind.u32 b (65535:Int)),c,(d.length:Int)]->(f.length+d.length)*(1:Nat)<=(jB)/\((List.length (f++d)):Int)<=1099511627776/\ ∀(g:Int),g=65535 -oc (bf true (f++d))->g=dA a b c d):=by
  delta jA jB sP
  rintro a b p data ⟨⟨a0,a1⟩,⟨b0,b1⟩,-,⟨-,hd⟩,-⟩ hl
  rintro x rfl
  refine⟨by simp,by simp,by simp,?_⟩
  refine ae (fun h=>?_) (fun h=>?_)
  ·rw[dA,if_pos]
   cases hx:cD 255 [p] with
   | false=>exact .inl (fun k=>by rw[(tE 255 p).2 k] at hx;cases hx)
   | true=>rw[hx] at h;exact .inr (of_decide_eq_true h)
  have hp:0<=p/\p<=255:=by
   apply (tE 255 p).1
   cases hx:cD 255 [p] with
   | true=>rfl
   | false=>rw[hx] at h;cases h
  have hn:¬ (65535:Int)<data.length:=by
   rw[(tE 255 p).2 hp] at h;exact of_decide_eq_false h
  rw[Ly a0 a1,Ly b0 b1,KX a0 a1,KX b0 b1]
  refine⟨by omega,by omega,by simp[cD];omega,by simp,?_⟩
  intro q hq
  have hp8:q.length=12:=by rw[hq];simp[w2]
  have hB:q++data=tv a b p data:=by
   rw[hq]
   simp only[List.flatMap_cons,List.flatMap_nil,List.append_nil,List.append_assoc,O8]
   rfl
  refine⟨(lp (by omega) hl).1,(lp (by omega) hl).2,?_⟩
  rintro c rfl
  rw[hB,dA,if_neg (by omega)];rfl
theorem Cg:av Tryz.prog GL 212 Ph.spec:=Ct.okH _ Tryz.func212 (by kernel_rfl) (ah (ah (ah aA zk) (Ct.named ze)) (Ct.named uC)) au RQ (aB (by kernel_rfl) Zq)
def IL:Ct:=⟨[.val ck,.val ck,.val cI,.val (.sl bm)],[.val cI],fun d=>[(d.2.2.2.1.length:Int)<=1073741824],fun d=>((dA d.1 d.2.1 d.2.2.1 d.2.2.2.1,()),())⟩
def am6:ar IL.ps->ay:=(fun _=>{})
theorem aj0 :
 ∀(a b c:Int)(d:List Int),(0<=a/\a<=4294967295)/\(0<=b/\b<=4294967295)/\ab c/\(sP d)/\True->(d.length:Int)<=1073741824-> ∀(e:Bool),e= ! decide (0<=c/\c<=255)->(jA e)/\(jA e)/\(e=false->(! e))/\ad (bif e then true else decide (65535<(d.length:Int))) ((0:Int)=dA a b c d) ((↑(0:Nat):Int)<=1099511627776/\ ∀(f:List Int),f=bG ([]:List Int) (IntKind.wrap .i64 a) (4:Int)->(f.length:Int)<=1099511627776/\ ∀(g:List Int),g=bG f (IntKind.wrap .i64 b) (4:Int)->(g.length:Int)<=1099511627776/\ ∀(h:List Int),h=bG g c (2:Int)->(h.length:Int)<=1099511627776/\ ∀(i:List Int),i=bG h (d.length:Int) (2:Int)->(i.length+d.length)*(1:Nat)<=(jB)/\((List.length (i++d)):Int)<=1099511627776/\ ∀(j:Int),j=65535 -oc (bf true (i++d))->j=dA a b c d):=by
  delta jA jB sP
  rintro a b p data ⟨⟨a0,a1⟩,⟨b0,b1⟩,-,⟨-,hd⟩,-⟩ hl
  rintro x rfl
  refine⟨by simp,by simp,by simp,?_⟩
  refine ae (fun h=>?_) (fun h=>?_)
  ·rw[dA,if_pos]
   by_cases hx:0<=p/\p<=255
   ·rw[decide_eq_true hx] at h;exact .inr (of_decide_eq_true h)
   ·exact .inl hx
  have hp:0<=p/\p<=255:=Classical.byContradiction fun hk=>by rw[decide_eq_false hk] at h;cases h
  have hn:¬ (65535:Int)<data.length:=by
   rw[decide_eq_true hp] at h;exact of_decide_eq_false h
  refine⟨by simp,?_⟩
  intro q1 h1
  rw[af (n:=a) (by omega) (by omega),sM a0 a1,List.nil_append] at h1
  refine⟨by rw[h1];simp[w4],?_⟩
  intro q2 h2
  rw[af (n:=b) (by omega) (by omega),sM b0 b1] at h2
  refine⟨by rw[h2,h1];simp[w4],?_⟩
  intro q3 h3
  rw[gR hp.1 (by omega)] at h3
  refine⟨by rw[h3,h2,h1];simp[w2,w4],?_⟩
  intro q hq
  rw[gR (by omega) (by omega)] at hq
  have hp8:q.length=12:=by rw[hq,h3,h2,h1];simp[w2,w4]
  have hB:q++data=tv a b p data:=by
   rw[hq,h3,h2,h1]
   simp only[List.append_assoc]
   rfl
  refine⟨(lp (by omega) hl).1,(lp (by omega) hl).2,?_⟩
  rintro c rfl
  rw[hB,dA,if_neg (by omega)];rfl
theorem EE:av Tryz.prog GL 146 IL.spec:=Ct.okH _ Tryz.func146 (by kernel_rfl) (ah (ah (ah aA Kt) (Ct.named vp)) (Ct.named FL)) au am6 (aB (by kernel_rfl) aj0)
def J6:Ct:=⟨[.val ck,.val ck,.val (.sl bm)],[.val cI],fun d=>[(d.2.2.1.length:Int)<=1073741824],fun d=>((iT d.1 d.2.1 d.2.2.1,()),())⟩
def UA:ar J6.ps->ay:=(fun _=>{})
theorem aq2 :
 ∀(a b:Int)(c:List Int),(0<=a/\a<=4294967295)/\(0<=b/\b<=4294967295)/\(c.length<=maxLen/\ ∀(d:Int),d∈c->0<=d/\d<=255)/\True->(c.length:Int)<=1073741824->(c.length:Int)<=1073741824/\ad (! decide (dA a b (17:Int) c=0)) (dA a b (17:Int) c=iT a b c) ((65535:Int)=iT a b c):=by
  rintro a b data-hl
  refine⟨hl,ae (fun h=>?_) (fun h=>?_)⟩
  ·rw[iT,if_neg];intro k;rw[decide_eq_true k] at h;cases h
  ·rw[iT,if_pos]
   exact Classical.byContradiction fun k=>by rw[decide_eq_false k] at h;cases h
theorem RX:av Tryz.prog GL 284 J6.spec:=Ct.okH _ Tryz.func284 (by kernel_rfl) (ah aA Cg) au UA (aB (by kernel_rfl) aq2)
def OI:Ct:=⟨[.val ck,.val ck,.agg Ou],[.own 5 bm,.val cI],fun d=>[(d.2.2.1.2.2.length:Int)<=1073741824],fun d=>((jF d.1 d.2.1 d.2.2.1,lf d.2.2.1,()),())⟩
def TH:ar OI.ps->ay:=(fun _=>{})
def uA(e i:List Int) :=
 ((List.length (i++[(0:Int),(0:Int)]++e)):Int)
def sC(f:Bool) :=
 (! f)->((! f)->(! f))/\True
theorem ZN :
 ∀(a b c d:Int)(e:List Int),(0<=a/\a<=4294967295)/\(0<=b/\b<=4294967295)/\(ab c/\ab d/\e.length<=maxLen/\ ∀(f:Int),f∈e->0<=f/\f<=255)/\True->(e.length:Int)<=1073741824-> ∀(f:Bool),f= ! bU c->(sC f)/\(sC f)/\(sC f)/\(f=false->(! f))/\ad (bif f then true else ! bU d) (([]:List Int)=jF a b (c,d,e)/\(1:Int)=lf (c,d,e)) (ad (decide (1480<IntKind.wrap .i64 ((e.length:Int)+(8:Int)))) (([]:List Int)=jF a b (c,d,e)/\(5:Int)=lf (c,d,e)) ((↑(0:Nat):Int)<=1099511627776/\ ∀(g:List Int),g=bG ([]:List Int) c (2:Int)->(g.length:Int)<=1099511627776/\ ∀(h:List Int),h=bG g d (2:Int)->(h.length:Int)<=1099511627776/\ ∀(i:List Int),i=bG h (IntKind.wrap .i64 ((e.length:Int)+(8:Int))) (2:Int)->(i.length+List.length [(0:Int),(0:Int)])*(1:Nat)<=(jB)/\(List.length (i++[(0:Int),(0:Int)])+e.length)*(1:Nat)<=(jB)/\(uA e i)<=1073741824/\ ∀(j:Int),j=dA a b (17:Int)
 (i++[(0:Int),(0:Int)]++e)->ad (decide (j=0)) ((0:Int)<=6/\(6:Int)+2<=(uA e i)/\(uA e i)<=1099511627776/\(0:Int)<=65535/\(65535:Int)<=65535/\bI (i++[(0:Int),(0:Int)]++e) (Int.toNat (6:Int)) (65535:Int)=jF a b (c,d,e)/\(0:Int)=lf (c,d,e)) ((0:Int)<=6/\(6:Int)+2<=(uA e i)/\(uA e i)<=1099511627776/\0<=j/\j<=65535/\bI (i++[(0:Int),(0:Int)]++e) (Int.toNat (6:Int)) j=jF a b (c,d,e)/\(0:Int)=lf (c,d,e)))):=by
  delta uA sC jB
  rintro a b sp dp data ⟨-,-,⟨-,-,-,hd⟩,-⟩ hl
  rintro x rfl
  refine⟨by simp,by simp,by simp,by simp,?_⟩
  rw[af (n:=(data.length:Int)+8) (by omega) (by omega)]
  refine ae (fun h=>?_) (fun h=>?_)
  ·apply Sx
   rintro⟨h1,h2⟩
   simp at h1 h2
   simp[h1,h2] at h
  have hw:bU sp=true/\bU dp=true:=by
   simp[Bool.cond_eq_ite] at h;exact h
  have hw':=hw
  simp only[gH] at hw'
  obtain⟨e1,e2⟩:=Y7 (a:=a) (b:=b) (e:=(sp,dp,data)) hw
  have hB:=K3 (a:=a) (b:=b) (xW (e:=(sp,dp,data)) hd)
  have hbl:=If (sp,dp,data)
  refine ae (fun h5=>?_) (fun h5=>?_)
  ·have h5:=of_decide_eq_true h5
   rw[e1,e2,if_pos (by simp only at hbl;omega),if_pos (by simp only at hbl;omega)];exact⟨rfl,rfl⟩
  have h5:=of_decide_eq_false h5
  have h5':¬ (1480:Int)<(dw (sp,dp,data)).length:=by simp only at hbl;omega
  rw[if_neg h5'] at e1
  refine⟨by simp,?_⟩
  intro q1 h1
  rw[gR hw'.1.1 hw'.1.2,List.nil_append] at h1
  refine⟨by rw[h1];simp[w2],?_⟩
  intro q2 h2
  rw[gR hw'.2.1 hw'.2.2] at h2
  refine⟨by rw[h2,h1];simp[w2],?_⟩
  intro q3 h3
  rw[gR (by omega) (by omega)] at h3
  have hp8:q3.length=6:=by rw[h3,h2,h1];simp[w2]
  have hp:q3++[0,0]++data=dw (sp,dp,data):=by
   rw[h3,h2,h1]
   simp only[List.append_assoc,dw]
   rw[Int.add_comm 8]
  rw[hp]
  refine⟨by simp only[List.length_cons,List.length_nil];omega,by simp only[List.length_append,List.length_cons,List.length_nil];omega,by simp only at hbl;omega,?_⟩
  rintro c rfl
  have hs:∀ c,c=iT a b (dw (sp,dp,data))->bI (dw (sp,dp,data)) (Int.toNat 6) c=jF a b (sp,dp,data)/\0=lf (sp,dp,data):=by
   rintro c rfl;exact⟨e1.symm,Aq e2 h5'⟩
  refine ae (fun hz=>?_) (fun hz=>?_)
  ·have hz:=of_decide_eq_true hz
   exact⟨by omega,by simp only at hbl;omega,by simp only at hbl;omega,by omega,by omega,hs _ (by rw[iT,if_pos hz])⟩
  ·have hz:=of_decide_eq_false hz
   have hr:=va (a:=a) (b:=b) (p:=17) (xW (e:=(sp,dp,data)) hd)
   exact⟨by omega,by simp only at hbl;omega,by simp only at hbl;omega,hr.1,hr.2,hs _ (by rw[iT,if_neg hz])⟩
theorem WS:av Tryz.prog GL 147 OI.spec:=Ct.okH _ Tryz.func147 (by kernel_rfl) (ah (ah (ah (ah aA GZ) (Ct.named vp)) (Ct.named EE)) Do) au TH (aB (by kernel_rfl) ZN)
theorem aq9{f:Int}(h0:0<=f)(h1:f<=255):bits .or .i64 20480 f=80*256+f:=by
 have:=Oi (n:=80) (x:=f) (by omega) (by omega) h0 h1
 rwa [show dm .i64 80 8=20480 from by decide] at this
theorem YM{f:Int}(h0:0<=f)(h1:f<=255):w2 (80*256+f)=[80,f]:=zu (by omega) (by omega) h0 h1
def Nl:Ct:=⟨[.val ck,.val ck,.agg wV],[.own 5 bm,.val cI],fun d=>[(d.2.2.1.2.2.2.2.2.2.length:Int)<=1000000],fun d=>((dq d.1 d.2.1 d.2.2.1,iZ d.2.2.1,()),())⟩
def aj6:ar Nl.ps->ay:=(fun _=>{})
def B0(a b:Int)(c:Int×Int×Int×Int×Int×Int×List Int) :=
 (0:Int)<=16/\(0:Int)<=16/\cD (65535:Int) [c.1,c.2.1,cU IntKind.i64 c.2.2.1 (16:Int),bits BinOp.and IntKind.i64 c.2.2.1 (65535:Int),cU IntKind.i64 c.2.2.2.1 (16:Int),bits BinOp.and IntKind.i64 c.2.2.2.1 (65535:Int),bits BinOp.or IntKind.i64 (20480:Int) c.2.2.2.2.1,c.2.2.2.2.2.1,(0:Int),(0:Int)]=true/\((List.length [c.1,c.2.1,cU IntKind.i64 c.2.2.1 (16:Int),bits BinOp.and IntKind.i64 c.2.2.1 (65535:Int),cU IntKind.i64 c.2.2.2.1 (16:Int),bits BinOp.and IntKind.i64 c.2.2.2.1 (65535:Int),bits BinOp.or IntKind.i64 (20480:Int) c.2.2.2.2.1,c.2.2.2.2.2.1,(0:Int),(0:Int)]):Int)<=1073741824/\ ∀(f:List Int),f=List.flatMap w2 [c.1,c.2.1,cU IntKind.i64 c.2.2.1 (16:Int),bits BinOp.and IntKind.i64 c.2.2.1 (65535:Int),cU IntKind.i64 c.2.2.2.1 (16:Int),bits BinOp.and IntKind.i64 c.2.2.2.1 (65535:Int),bits BinOp.or IntKind.i64 (20480:Int)
 c.2.2.2.2.1,c.2.2.2.2.2.1,(0:Int),(0:Int)]->(f.length+c.2.2.2.2.2.2.length)*(1:Nat)<=(jB)/\((List.length (f++c.2.2.2.2.2.2)):Int)<=1073741824/\ ∀(g:Int),g=dA a b (6:Int) (f++c.2.2.2.2.2.2)->(0:Int)<=16/\(16:Int)+2<=((List.length (f++c.2.2.2.2.2.2)):Int)/\((List.length (f++c.2.2.2.2.2.2)):Int)<=1099511627776/\0<=g/\g<=65535/\(if 1480<((List.length (f++c.2.2.2.2.2.2)):Int) then ([]:List Int) else bI (f++c.2.2.2.2.2.2) (Int.toNat (16:Int)) g)=dq a b c/\(if 1480<((List.length (f++c.2.2.2.2.2.2)):Int) then (5:Int) else (0:Int))=iZ c
def Fo(a b:Int)(c:Int×Int×Int×Int×Int×Int×List Int)(e:Bool) :=
 (jA e)/\ad (! e) (((! e)->(! e))/\(jA e)/\(e=false->(! e))/\ad (bif e then true else ! cD (255:Int) [c.2.2.2.2.1]) (([]:List Int)=dq a b c/\(1:Int)=iZ c) (B0 a b c)) ((! e)=false/\(! e)=false/\(e=false->false=true)/\ad (bif e then true else false) (([]:List Int)=dq a b c/\(1:Int)=iZ c) (B0 a b c))
def rY(d:Bool) :=
 (! d)->((! d)->(! d))/\True
theorem V5 :
 ∀(a b:Int)(c:Int×Int×Int×Int×Int×Int×List Int),(0<=a/\a<=4294967295)/\(0<=b/\b<=4294967295)/\CT.wf wV c/\True->(c.2.2.2.2.2.2.length:Int)<=1000000-> ∀(d:Bool),d= ! cD (65535:Int) [c.1,c.2.1,c.2.2.2.2.2.1]->(rY d)/\(rY d)/\ad (! d) (((! d)->(! d))/\((! d)->(! d))/\(rY d)/\(d=false->(! d))/\ ∀(e:Bool),(e=bif d then true else ! cD (4294967295:Int) [c.2.2.1,c.2.2.2.1])->(Fo a b c e)) ((! d)=false/\(! d)=false/\(d=false->false=true)/\ ∀(e:Bool),(e=bif d then true else false)->(Fo a b c e)):=by
  delta B0 Fo jA rY jB
  rintro a b e ⟨-,-,⟨-,-,-,-,-,-,-,hd⟩,-⟩ hl
  intro b1 hb1
  refine⟨by simp,by simp,?_⟩
  cases b1 with
  | true =>
   have hbad:¬ mz e:=by
    rintro⟨h1,h2,-,-,-,h3⟩
    rw[gH] at h1 h2 h3
    rw[show cD 65535 [e.1,e.2.1,e.2.2.2.2.2.1]=true from by simp[cD];omega] at hb1;cases hb1
   refine ae (fun h=>by cases h) (fun _=>⟨rfl,rfl,by simp,?_⟩)
   intro b2 hb2
   have hb2:b2=true:=hb2
   subst hb2
   exact⟨by simp,ae (fun h=>by cases h) (fun _=>⟨rfl,rfl,by simp,ae (fun _=>Bc hbad) (fun h=>by cases h)⟩)⟩
  | false =>
   have h1:(0<=e.1/\e.1<=65535)/\(0<=e.2.1/\e.2.1<=65535)/\0<=e.2.2.2.2.2.1/\e.2.2.2.2.2.1<=65535:=by
    have:cD 65535 [e.1,e.2.1,e.2.2.2.2.2.1]=true:=by
     cases hx:cD 65535 [e.1,e.2.1,e.2.2.2.2.2.1] with
     | true=>rfl
     | false=>rw[hx] at hb1;cases hb1
    simpa[cD] using this
   refine ae (fun _=>⟨by simp,by simp,by simp,by simp,?_⟩) (fun h=>by cases h)
   intro b2 hb2
   refine⟨by simp,?_⟩
   cases b2 with
   | true =>
    have hbad:¬ mz e:=by
     rintro⟨-,-,h3,h4,-,-⟩
     have:cD 4294967295 [e.2.2.1,e.2.2.2.1]=true:=(BD _ _ _).2 ⟨h3,h4⟩
     rw[this] at hb2;cases hb2
    exact ae (fun h=>by cases h) (fun _=>⟨rfl,rfl,by simp,ae (fun _=>Bc hbad) (fun h=>by cases h)⟩)
   | false =>
    have h2:(0<=e.2.2.1/\e.2.2.1<=4294967295)/\0<=e.2.2.2.1/\e.2.2.2.1<=4294967295:=by
     apply (BD _ _ _).1
     cases hx:cD 4294967295 [e.2.2.1,e.2.2.2.1] with
     | true=>rfl
     | false=>rw[hx] at hb2;cases hb2
    refine ae (fun _=>⟨by simp,by simp,by simp,ae (fun h=>?_) (fun h=>?_)⟩) (fun h=>by cases h)
    ·apply Bc
     rintro⟨-,-,-,-,h3,-⟩
     rw[(tE _ _).2 h3] at h;cases h
    have h3:0<=e.2.2.2.2.1/\e.2.2.2.2.1<=255:=by
     apply (tE _ _).1
     cases hx:cD 255 [e.2.2.2.2.1] with
     | true=>rfl
     | false=>rw[hx] at h;cases h
    have hok:mz e:=⟨(gH _).2 h1.1,(gH _).2 h1.2.1,h2.1,h2.2,h3,(gH _).2 h1.2.2⟩
    obtain⟨e1,e2⟩:=OZ (a:=a) (b:=b) hok
    have hB:=va (a:=a) (b:=b) (p:=6) (uu hok hd)
    have hbl:=vx e
    rw[H3 h2.1.1,H3 h2.2.1,xO,xO,aq9 h3.1 h3.2]
    refine⟨by omega,by omega,by simp[cD];omega,by simp,?_⟩
    intro p hpe
    have hp8:p.length=20:=by rw[hpe];simp[w2]
    have hp:p++e.2.2.2.2.2.2=ix e:=by
     rw[hpe]
     simp only[List.flatMap_cons,List.flatMap_nil,List.append_nil,List.append_assoc,O8,show w2 0=[0,0] from rfl,YM h3.1 h3.2]
     rfl
    refine⟨(lp (by omega) (by omega)).1,by rw[List.length_append];omega,?_⟩
    intro c hc
    have hc:c=dA a b 6 (ix e):=by rw[hc,hp]
    exact BX (a:=16) hp (by omega) (by omega) (by omega) (by omega) (by rw[hc];exact hB.1) (by rw[hc];exact hB.2) (by rw[hc];exact e1) e2
theorem aA3:av Tryz.prog GL 271 Nl.spec:=Ct.okH _ Tryz.func271 (by kernel_rfl) (ah (ah (ah (ah aA zk) (Ct.named ze)) (Ct.named Cg)) F6) au aj6 (aB (by kernel_rfl) V5)
def Ku:Ct:=⟨[.val ck,.val ck,.agg wV],[.own 5 bm,.val cI],fun d=>[(d.2.2.1.2.2.2.2.2.2.length:Int)<=1000000],fun d=>((dq d.1 d.2.1 d.2.2.1,iZ d.2.2.1,()),())⟩
def YO:ar Ku.ps->ay:=(fun _=>{})
def wt(c:Int×Int×Int×Int×Int×Int×List Int)(o:List Int) :=
 o++[(0:Int),(0:Int),(0:Int),(0:Int)]++c.2.2.2.2.2.2
theorem ab4 :
 ∀(a b:Int)(c:Int×Int×Int×Int×Int×Int×List Int),(0<=a/\a<=4294967295)/\(0<=b/\b<=4294967295)/\CT.wf wV c/\True->(c.2.2.2.2.2.2.length:Int)<=1000000-> ∀(d:Bool),d= ! bU c.1->(rY d)/\(rY d)/\(rY d)/\(d=false->(! d))/\ ∀(e:Bool),(e=bif d then true else ! bU c.2.1)->(jA e)/\(jA e)/\(jA e)/\(e=false->(! e))/\ ∀(f:Bool),(f=bif e then true else ! decide (0<=c.2.2.1/\c.2.2.1<=4294967295))->(sC f)/\(sC f)/\(sC f)/\(f=false->(! f))/\ ∀(g:Bool),(g=bif f then true else ! decide (0<=c.2.2.2.1/\c.2.2.2.1<=4294967295))->((! g)->((! g)->(! g))/\True)/\((! g)->((! g)->(! g))/\True)/\((! g)->((! g)->(! g))/\True)/\(g=false->(! g))/\ ∀(h:Bool),(h=bif g then true else ! decide (0<=c.2.2.2.2.1/\c.2.2.2.2.1<=255))->((! h)->((! h)->(! h))/\True)/\((! h)->((! h)->(! h))/\True)/\((! h)->((! h)->(! h))/\True)/\(h=false->(! h))/\ad (bif h then true else ! bU c.2.2.2.2.2.1)
 (([]:List Int)=dq a b c/\(1:Int)=iZ c) (ad (decide (1480<IntKind.wrap .i64 ((c.2.2.2.2.2.2.length:Int)+(20:Int)))) (([]:List Int)=dq a b c/\(5:Int)=iZ c) ((↑(0:Nat):Int)<=1099511627776/\ ∀(i:List Int),i=bG ([]:List Int) c.1 (2:Int)->(i.length:Int)<=1099511627776/\ ∀(j:List Int),j=bG i c.2.1 (2:Int)->(j.length:Int)<=1099511627776/\ ∀(k:List Int),k=bG j c.2.2.1 (4:Int)->(k.length:Int)<=1099511627776/\ ∀(l:List Int),l=bG k c.2.2.2.1 (4:Int)->(l.length:Int)<=1099511627776/\ ∀(m:List Int),m=bG l (80:Int) (1:Int)->(m.length:Int)<=1099511627776/\ ∀(n:List Int),n=bG m c.2.2.2.2.1 (1:Int)->(n.length:Int)<=1099511627776/\ ∀(o:List Int),o=bG n c.2.2.2.2.2.1 (2:Int)->(o.length+List.length [(0:Int),(0:Int),(0:Int),(0:Int)])*(1:Nat)<=(jB)/\(List.length (o++[(0:Int),(0:Int),(0:Int),(0:Int)])+c.2.2.2.2.2.2.length)*(1:Nat)<=(jB)/\((List.length (wt c
 o)):Int)<=1073741824/\ ∀(p:Int),p=dA a b (6:Int) (wt c o)->(0:Int)<=16/\(16:Int)+2<=((List.length (wt c o)):Int)/\((List.length (wt c o)):Int)<=1099511627776/\0<=p/\p<=65535/\bI (wt c o) (Int.toNat (16:Int)) p=dq a b c/\(0:Int)=iZ c)):=by
  delta jA wt sC rY jB
  rintro a b e ⟨-,-,⟨-,-,-,-,-,-,-,hd⟩,-⟩ hl
  intro b1 h1
  refine⟨by simp,by simp,by simp,by simp,?_⟩
  intro b2 h2
  refine⟨by simp,by simp,by simp,by simp,?_⟩
  intro b3 h3
  refine⟨by simp,by simp,by simp,by simp,?_⟩
  intro b4 h4
  refine⟨by simp,by simp,by simp,by simp,?_⟩
  intro b5 h5
  refine⟨by simp,by simp,by simp,by simp,?_⟩
  rw[af (n:=(e.2.2.2.2.2.2.length:Int)+20) (by omega) (by omega)]
  have hall:(bif b5 then true else !bU e.2.2.2.2.2.1) = !decide (mz e):=by
   rw[h5,h4,h3,h2,h1]
   by_cases w1:bU e.1=true
   all_goals by_cases w2:bU e.2.1=true
   all_goals by_cases w3:bU e.2.2.2.2.2.1=true
   all_goals by_cases q1:0<=e.2.2.1/\e.2.2.1<=4294967295
   all_goals by_cases q2:0<=e.2.2.2.1/\e.2.2.2.1<=4294967295
   all_goals by_cases q3:0<=e.2.2.2.2.1/\e.2.2.2.2.1<=255
   all_goals simp[mz,w1,w2,w3,q1,q2,q3]
  rw[hall]
  refine ae (fun h=>Bc (by simpa using h)) (fun h=>?_)
  have hok:mz e:=by simpa using h
  obtain⟨e1,e2⟩:=OZ (a:=a) (b:=b) hok
  have hB:=va (a:=a) (b:=b) (p:=6) (uu hok hd)
  have hbl:=vx e
  refine ae (fun h5=>?_) (fun h5=>?_)
  ·have h5:=of_decide_eq_true h5
   rw[e1,e2,if_pos (by omega),if_pos (by omega)];exact⟨rfl,rfl⟩
  have h5:=of_decide_eq_false h5
  have h5':¬ (1480:Int)<(ix e).length:=by omega
  rw[if_neg h5'] at e1
  obtain⟨k1,k2,k3,k4,k5,k6⟩:=hok
  rw[gH] at k1 k2 k6
  refine⟨by simp,?_⟩
  intro q1 h1
  rw[gR k1.1 k1.2,List.nil_append] at h1
  have l1:q1.length=2:=by rw[h1];rfl
  refine⟨by omega,?_⟩
  intro q2 h2
  rw[gR k2.1 k2.2] at h2
  have l2:q2.length=4:=by rw[h2,List.length_append,l1];rfl
  refine⟨by omega,?_⟩
  intro q3 h3
  rw[sM k3.1 k3.2] at h3
  have l3:q3.length=8:=by rw[h3,List.length_append,l2];rfl
  refine⟨by omega,?_⟩
  intro q4 h4
  rw[sM k4.1 k4.2] at h4
  have l4:q4.length=12:=by rw[h4,List.length_append,l3];rfl
  refine⟨by omega,?_⟩
  intro q5 h5
  rw[pX (by omega) (by omega)] at h5
  have l5:q5.length=13:=by rw[h5,List.length_append,l4];rfl
  refine⟨by omega,?_⟩
  intro q6 h6
  rw[pX k5.1 k5.2] at h6
  have l6:q6.length=14:=by rw[h6,List.length_append,l5];rfl
  refine⟨by omega,?_⟩
  intro q7 h7
  rw[gR k6.1 k6.2] at h7
  have l7:q7.length=16:=by rw[h7,List.length_append,l6];rfl
  have hp:q7++[0,0,0,0]++e.2.2.2.2.2.2=ix e:=by
   rw[h7,h6,h5,h4,h3,h2,h1]
   simp only[List.append_assoc]
   rfl
  rw[hp]
  refine⟨by simp only[List.length_cons,List.length_nil];omega,by simp only[List.length_append,List.length_cons,List.length_nil];omega,by omega,?_⟩
  rintro c rfl
  exact⟨by omega,by omega,by omega,hB.1,hB.2,e1.symm,Aq e2 h5'⟩
theorem as2:av Tryz.prog GL 148 Ku.spec:=Ct.okH _ Tryz.func148 (by kernel_rfl) (ah (ah (ah (ah (ah (ah aA GZ) Kt) RL) (Ct.named vp)) (Ct.named EE)) Do) au YO (aB (by kernel_rfl) ab4)
end Go.RS

/- Trdec: decoding messages. -/
namespace Go.RS
open Go.SX Go.Proofs
set_option maxRecDepth 100000
set_option linter.unusedVariables false
def xE(b:List Int):Prop:=(b.getD (Int.toNat 0) default=8∨b.getD (Int.toNat 0) default=0)/\b.getD (Int.toNat 1) default=0
instance (b:List Int):Decidable (xE b):=by unfold xE;infer_instance
def iE(b:List Int):Int:=if (b.length:Int)<8 then 3 else if ¬ xE b then 2 else if (1480:Int)<b.length then 5 else if cf (bI b (Int.toNat 2) 0)≠aG b (Int.toNat 2) then 4 else 0
def dW(b:List Int):kZ:=if iE b=0 then (decide (b.getD (Int.toNat 0) default=0),aG b (Int.toNat 4),aG b (Int.toNat 6),b.drop 8) else (false,0,0,[])
def F3(b:List Int):Prop:=(b.getD (Int.toNat 0) default=3∨b.getD (Int.toNat 0) default=11)/\aG b (Int.toNat 4)=0/\aG b (Int.toNat 6)=0
instance (b:List Int):Decidable (F3 b):=by unfold F3;infer_instance
def xB(b:List Int):Int:=if (b.length:Int)<36 then 3 else if ¬ F3 b then 2 else if (1480:Int)<b.length then 5 else if cf (bI b (Int.toNat 2) 0)≠aG b (Int.toNat 2) then 4 else 0
def qQ(b:List Int):mW:=if xB b=0 then (b.getD (Int.toNat 0) default,b.getD (Int.toNat 1) default,b.drop 8) else (0,0,[])
def hV(s d:Int)(b:List Int):Int:=if (b.length:Int)<8 then 3 else if ¬ aG b (Int.toNat 4)=b.length then 2 else if (1480:Int)<b.length then 5 else if iT s d (bI b (Int.toNat 6) 0)≠aG b (Int.toNat 6) then 4 else 0
def nE(s d:Int)(b:List Int):nz:=if hV s d b=0 then (aG b (Int.toNat 0),aG b (Int.toNat 2),b.drop 8) else (0,0,[])
def yL(b:List Int):Prop:=b.getD (Int.toNat 12) default=80/\aG b (Int.toNat 18)=0
instance (b:List Int):Decidable (yL b):=by unfold yL;infer_instance
def gK(s d:Int)(b:List Int):Int:=if (b.length:Int)<20 then 3 else if ¬ yL b then 2 else if (1480:Int)<b.length then 5 else if dA s d 6 (bI b (Int.toNat 16) 0)≠aG b (Int.toNat 16) then 4 else 0
def dI(s d:Int)(b:List Int):jO:=if gK s d b=0 then (aG b (Int.toNat 0),aG b (Int.toNat 2),aG b (Int.toNat 4)*65536+aG b (Int.toNat 6),aG b (Int.toNat 8)*65536+aG b (Int.toNat 10),b.getD (Int.toNat 13) default,aG b (Int.toNat 14),b.drop 20) else (0,0,0,0,0,0,[])
theorem zo{b:List Int}{e:Int}(h:iE b=e)(he:e≠0):(false,0,0,[])=dW b/\e=iE b:=by
 rw[dW,if_neg (by rw[h];exact he),h];exact⟨rfl,rfl⟩
theorem AP{s d:Int}{b:List Int}{e:Int}(h:hV s d b=e)(he:e≠0):(0,0,[])=nE s d b/\e=hV s d b:=by
 rw[nE,if_neg (by rw[h];exact he),h];exact⟨rfl,rfl⟩
theorem A0{s d:Int}{b:List Int}{e:Int}(h:gK s d b=e)(he:e≠0):(0,0,0,0,0,0,[])=dI s d b/\e=gK s d b:=by
 rw[dI,if_neg (by rw[h];exact he),h];exact⟨rfl,rfl⟩
theorem sr(b:List Int)(k:Nat):ce b k (Int.toNat (b.length:Int))=b.drop k:=by unfold ce;simp
theorem Nb{b:List Int}{i:Nat}{v:Int}(h:bytes b)(h0:0<=v)(h1:v<=255):bytes (b.set i v):=by
 intro x hx
 rcases List.mem_or_eq_of_mem_set hx with hx|rfl
 ·exact h x hx
 ·exact⟨h0,h1⟩
theorem qo{b:List Int}{i:Nat}{v:Int}(h:bytes b):bytes (bI b i v):=Nb (Nb h (by omega) (by omega)) (by omega) (by omega)
theorem BP{b:List Int}{k:Nat}(h:bytes b):0<=aG b k/\aG b k<=65535:=by
 have:=Au 2 ((b.drop k).take 2) (by rw[List.length_take];omega) (fun x hx=>h x (List.mem_of_mem_drop (List.mem_of_mem_take hx)))
 have e:(256:Int)^2=65536:=rfl
 unfold aG;omega
theorem j6(b:List Int)(i:Nat)(v:Int):(bI b i v).length=b.length:=by simp[bI]
theorem fD(x y:Int)(r:List Int):aG (x::y::r) 0=x*256+y:=by simp[aG,dL]
theorem IG{n x:Int}(h0:0<=n)(h1:n<=65535)(h2:0<=x)(h3:x<=65535):bits .or .i64 (dm .i64 n 16) x=n*65536+x:=by
 have e:dm .i64 n 16=n*65536:=by
  show IntKind.i64.wrap (n*2^(min 16 64))=_
  rw[af (by simp;omega) (by simp;omega)];rfl
 rw[e]
 obtain⟨m,rfl⟩:=Int.eq_ofNat_of_zero_le h0
 obtain⟨y,rfl⟩:=Int.eq_ofNat_of_zero_le h2
 have:=K2 (m*65536) y (by omega) (by omega)
 rw[nat_join 16 (m*65536) y (by omega) (by omega),show ((m*65536:Nat):Int)=(m:Int)*65536 from by omega,show ((m*65536+y:Nat):Int)=(m:Int)*65536+(y:Int) from by omega] at this
 exact this
def KN:Ct:=⟨[.val (.sl bm)],[.agg C1,.val cI],fun d=>[(d.1.length:Int)<=1000000],fun d=>((dW d.1,iE d.1,()),())⟩
def UM:ar KN.ps->ay:=(fun _=>{})
def xM :=
 (false,(0:Int),(0:Int),([]:List Int))
def jM(a:List Int) :=
 (a.length:Int)
theorem XL :
 ∀(a:List Int),(a.length<=maxLen/\ ∀(b:Int),b∈a->0<=b/\b<=255)/\True->(jM a)<=1000000->ad (decide ((jM a)<8)) ((xM)=dW a/\(3:Int)=iE a) ((0:Int)<=0/\0<(jM a)/\ ∀(b:Bool),b= ! decide (a.getD (Int.toNat (0:Int)) default=8)->(b->(b->b)/\(0:Int)<=0/\0<(jM a)/\True)/\(b->(b->b)/\True)/\(b->(b->b)/\True)/\(b->b)/\ ∀(c:Bool),(c=bif b then ! decide (a.getD (Int.toNat (0:Int)) default=0) else false)->((! c)->((! c)->(! c))/\(0:Int)<=1/\1<(jM a)/\True)/\((! c)->((! c)->(! c))/\True)/\((! c)->((! c)->(! c))/\True)/\(c=false->(! c))/\ad (bif c then true else ! decide (a.getD (Int.toNat (1:Int)) default=0)) ((xM)=dW a/\(2:Int)=iE a) (ad (decide (1480<(jM a))) ((xM)=dW a/\(5:Int)=iE a) ((0:Int)<=2/\(2:Int)+2<=(jM a)/\(jM a)<=1099511627776/\ ∀(d:List Int)(e:Int),d=bI a (Int.toNat (2:Int)) (0:Int)/\e=aG a (Int.toNat
 (2:Int))->(d.length:Int)<=1099511627776/\ ∀(f:Int),f=65535 -oc (bf true d)->ad (! decide (f=e)) ((xM)=dW a/\(4:Int)=iE a) ((0:Int)<=0/\0<(jM a)/\(0:Int)<=4/\(4:Int)+2<=(jM a)/\(jM a)<=1099511627776/\(0:Int)<=6/\(6:Int)+2<=(jM a)/\(jM a)<=1099511627776/\(0:Int)<=8/\8<=(jM a)/\(jM a)<=(jM a)/\((List.length (ce a (Int.toNat (8:Int)) (Int.toNat (jM a)))):Int)<=1099511627776/\ ∀(g:List Int),g=ce a (Int.toNat (8:Int)) (Int.toNat (jM a))->(decide (a.getD (Int.toNat (0:Int)) default=0),aG a (Int.toNat (4:Int)),aG a (Int.toNat (6:Int)),g)=dW a/\(0:Int)=iE a)))):=by
  delta xM jM
  rintro b ⟨⟨-,hb⟩,-⟩ hl
  refine ae (fun h=>?_) (fun h8=>?_)
  ·exact zo (by rw[iE,if_pos (of_decide_eq_true h)]) (by decide)
  have h8:=of_decide_eq_false h8
  refine⟨by omega,by omega,?_⟩
  (repeat (intro (b_:Bool) (hb_:b_=_);(repeat refine⟨(by first|(simp;done)|(rw[hb_];simp;done)|(rw[hb_];simp;omega)|(rw[hb_];simp;intros;omega)|(rw[hb_];simp +contextual;done)),?_⟩);subst hb_))
  refine ae (fun h=>?_) (fun hf=>?_)
  ·refine zo (by rw[iE,if_neg h8,if_pos];rintro⟨f0,f1⟩;rw[decide_eq_true f1] at h;rcases f0 with f0|f0 <;> rw[f0] at h <;> simp at h) (by decide)
  have hf:xE b:=by
   unfold xE
   by_cases k1:b.getD (Int.toNat 1) default=0
   ·by_cases k2:b.getD (Int.toNat 0) default=8
    ·exact⟨.inl k2,k1⟩
    ·by_cases k3:b.getD (Int.toNat 0) default=0
     ·exact⟨.inr k3,k1⟩
     ·rw[decide_eq_false k2,decide_eq_false k3] at hf;simp at hf
   ·rw[decide_eq_false k1] at hf;simp[Bool.cond_eq_ite] at hf
  refine ae (fun h=>?_) (fun h5=>?_)
  ·exact zo (by rw[iE,if_neg h8,if_neg (fun k=>k hf),if_pos (of_decide_eq_true h)]) (by decide)
  have h5:=of_decide_eq_false h5
  refine⟨by omega,by omega,by omega,?_⟩
  rintro x w ⟨rfl,rfl⟩
  refine⟨by simp[bI];omega,?_⟩
  rintro c rfl
  refine ae (fun h=>?_) (fun h=>?_)
  ·refine zo (by rw[iE,if_neg h8,if_neg (fun k=>k hf),if_neg h5,if_pos];intro k;rw[cf] at k;rw[decide_eq_true k] at h;cases h) (by decide)
  have h0:iE b=0:=by
   rw[iE,if_neg h8,if_neg (fun k=>k hf),if_neg h5,if_neg]
   intro k;rw[cf] at k;rw[decide_eq_false k] at h;cases h
  refine⟨by omega,by omega,by omega,by omega,by omega,by omega,by omega,by omega,by omega,by omega,by omega,by rw[sr,List.length_drop];omega,?_⟩
  rintro y rfl
  rw[dW,if_pos h0,h0,sr];exact⟨rfl,rfl⟩
theorem VT:av Tryz.prog GL 162 KN.spec:=Ct.okH _ Tryz.func162 (by kernel_rfl) (ah (ah (ah (ah aA (Ct.named Ef)) (Ct.named uC)) AT) (Ct.named pU)) au UM (aB (by kernel_rfl) XL)
theorem D1{b:List Int}{k:Nat}(h:k+2<=b.length):aG b k=b.getD k default*256+b.getD (k+1) default:=by
 have h0:k<b.length:=by omega
 have h1:k+1<b.length:=by omega
 have e:b.drop k=b[k]::b[k+1]::b.drop (k+1+1):=by rw[List.drop_eq_getElem_cons h0,List.drop_eq_getElem_cons h1]
 unfold aG
 rw[e,List.getD_eq_getElem?_getD,List.getD_eq_getElem?_getD,List.getElem?_eq_getElem h0,List.getElem?_eq_getElem h1]
 generalize b.drop (k+1+1)=r
 generalize b[k]=u
 generalize b[k+1]=v
 simp[dL]
theorem ap8(p r:Prop) [Decidable p] [Decidable r]:(bif !decide p then true else !decide r) = !decide (p/\r):=by
 by_cases p <;> by_cases r <;> simp[*]
def K7:Ct:=⟨[.val ck,.val ck,.val (.sl bm)],[.agg Ou,.val cI],fun d=>[(d.2.2.1.length:Int)<=1000000],fun d=>((nE d.1 d.2.1 d.2.2.1,hV d.1 d.2.1 d.2.2.1,()),())⟩
def Yl:ar K7.ps->ay:=(fun _=>{})
def cR(c:List Int) :=
 (c.length:Int)
def xG :=
 ((0:Int),(0:Int),([]:List Int))
theorem Ya :
 ∀(a b:Int)(c:List Int),(0<=a/\a<=4294967295)/\(0<=b/\b<=4294967295)/\(c.length<=maxLen/\ ∀(d:Int),d∈c->0<=d/\d<=255)/\True->(cR c)<=1000000->ad (decide ((cR c)<8)) ((xG)=nE a b c/\(3:Int)=hV a b c) ((0:Int)<=4/\(4:Int)+2<=(cR c)/\(cR c)<=1099511627776/\ad (! decide (aG c (Int.toNat (4:Int))=(cR c))) ((xG)=nE a b c/\(2:Int)=hV a b c) (ad (decide (1480<(cR c))) ((xG)=nE a b c/\(5:Int)=hV a b c) ((0:Int)<=6/\(6:Int)+2<=(cR c)/\(cR c)<=1099511627776/\ ∀(d:List Int)(e:Int),d=bI c (Int.toNat (6:Int)) (0:Int)/\e=aG c (Int.toNat (6:Int))->(d.length:Int)<=1073741824/\ ∀(f:Int),f=iT a b d->ad (! decide (f=e)) ((xG)=nE a b c/\(4:Int)=hV a b c) ((0:Int)<=0/\(0:Int)+2<=(cR c)/\(cR c)<=1099511627776/\(0:Int)<=2/\(2:Int)+2<=(cR c)/\(cR c)<=1099511627776/\(0:Int)<=8/\8<=(cR c)/\(cR c)<=(cR c)/\((List.length (ce
 c (Int.toNat (8:Int)) (Int.toNat (cR c)))):Int)<=1099511627776/\ ∀(g:List Int),g=ce c (Int.toNat (8:Int)) (Int.toNat (cR c))->(aG c (Int.toNat (0:Int)),aG c (Int.toNat (2:Int)),g)=nE a b c/\(0:Int)=hV a b c)))):=by
  delta cR xG
  rintro s d b ⟨-,-,⟨-,hb⟩,-⟩ hl
  refine ae (fun h=>?_) (fun h8=>?_)
  ·exact AP (by rw[hV,if_pos (of_decide_eq_true h)]) (by decide)
  have h8:=of_decide_eq_false h8
  repeat refine⟨by omega,?_⟩
  refine ae (fun h=>?_) (fun hf=>?_)
  ·exact AP (by rw[hV,if_neg h8,if_pos];simpa using h) (by decide)
  have hf:aG b (Int.toNat 4)=b.length:=by simpa using hf
  refine ae (fun h=>?_) (fun h5=>?_)
  ·exact AP (by rw[hV,if_neg h8,if_neg (fun k=>k hf),if_pos (of_decide_eq_true h)]) (by decide)
  have h5:=of_decide_eq_false h5
  repeat refine⟨by omega,?_⟩
  rintro x w ⟨rfl,rfl⟩
  refine⟨by rw[j6];omega,?_⟩
  rintro c rfl
  refine ae (fun h=>?_) (fun h=>?_)
  ·refine AP (by rw[hV,if_neg h8,if_neg (fun k=>k hf),if_neg h5,if_pos];intro k;rw[decide_eq_true k] at h;cases h) (by decide)
  have h0:hV s d b=0:=by
   rw[hV,if_neg h8,if_neg (fun k=>k hf),if_neg h5,if_neg]
   intro k;rw[decide_eq_false k] at h;cases h
  rw[sr]
  repeat refine⟨by omega,?_⟩
  refine⟨by rw[List.length_drop];omega,?_⟩
  rintro y rfl
  rw[nE,if_pos h0,h0];exact⟨rfl,rfl⟩
theorem RR:av Tryz.prog GL 269 K7.spec:=Ct.okH _ Tryz.func269 (by kernel_rfl) (ah (ah (ah (ah aA (Ct.named Ef)) (Ct.named RX)) AT) (Ct.named pU)) au Yl (aB (by kernel_rfl) Ya)
def Ow:Ct:=⟨[.val ck,.val ck,.val (.sl bm)],[.agg wV,.val cI],fun d=>[(d.2.2.1.length:Int)<=1000000],fun d=>((dI d.1 d.2.1 d.2.2.1,gK d.1 d.2.1 d.2.2.1,()),())⟩
def YX:ar Ow.ps->ay:=(fun _=>{})
def yF :=
 ((0:Int),(0:Int),(0:Int),(0:Int),(0:Int),(0:Int),([]:List Int))
theorem al7 :
 ∀(a b:Int)(c:List Int),(0<=a/\a<=4294967295)/\(0<=b/\b<=4294967295)/\(c.length<=maxLen/\ ∀(d:Int),d∈c->0<=d/\d<=255)/\True->(cR c)<=1000000->ad (decide ((cR c)<20)) ((yF)=dI a b c/\(3:Int)=gK a b c) ((0:Int)<=12/\12<(cR c)/\ ∀(d:Bool),d= ! decide (c.getD (Int.toNat (12:Int)) default=80)->((! d)->((! d)->(! d))/\(0:Int)<=18/\(18:Int)+2<=(cR c)/\(cR c)<=1099511627776/\True)/\((! d)->((! d)->(! d))/\True)/\(d=false->(! d))/\ad (bif d then true else ! decide (aG c (Int.toNat (18:Int))=0)) ((yF)=dI a b c/\(2:Int)=gK a b c) (ad (decide (1480<(cR c))) ((yF)=dI a b c/\(5:Int)=gK a b c) ((0:Int)<=16/\(16:Int)+2<=(cR c)/\(cR c)<=1099511627776/\ ∀(e:List Int)(f:Int),e=bI c (Int.toNat (16:Int)) (0:Int)/\f=aG c (Int.toNat (16:Int))->(e.length:Int)<=1073741824/\ ∀(g:Int),g=dA a b (6:Int) e->ad (! decide (g=f)) ((yF)=dI a b
 c/\(4:Int)=gK a b c) ((0:Int)<=0/\(0:Int)+2<=(cR c)/\(cR c)<=1099511627776/\(0:Int)<=2/\(2:Int)+2<=(cR c)/\(cR c)<=1099511627776/\(0:Int)<=4/\(4:Int)+2<=(cR c)/\(cR c)<=1099511627776/\(0:Int)<=16/\(0:Int)<=6/\(6:Int)+2<=(cR c)/\(cR c)<=1099511627776/\(0:Int)<=8/\(8:Int)+2<=(cR c)/\(cR c)<=1099511627776/\(0:Int)<=16/\(0:Int)<=10/\(10:Int)+2<=(cR c)/\(cR c)<=1099511627776/\(0:Int)<=13/\13<(cR c)/\(0:Int)<=14/\(14:Int)+2<=(cR c)/\(cR c)<=1099511627776/\(0:Int)<=20/\20<=(cR c)/\(cR c)<=(cR c)/\((List.length (ce c (Int.toNat (20:Int)) (Int.toNat (cR c)))):Int)<=1099511627776/\ ∀(h:List Int),h=ce c (Int.toNat (20:Int)) (Int.toNat (cR c))->(aG c (Int.toNat (0:Int)),aG c (Int.toNat (2:Int)),bits BinOp.or IntKind.i64 (dm IntKind.i64 (aG c (Int.toNat (4:Int))) (16:Int)) (aG c (Int.toNat (6:Int))),bits BinOp.or IntKind.i64 (dm
 IntKind.i64 (aG c (Int.toNat (8:Int))) (16:Int)) (aG c (Int.toNat (10:Int))),IntKind.wrap .i64 (c.getD (Int.toNat (13:Int)) default),aG c (Int.toNat (14:Int)),h)=dI a b c/\(0:Int)=gK a b c)))):=by
  delta cR yF
  rintro s d b ⟨-,-,⟨-,hb⟩,-⟩ hl
  refine ae (fun h=>?_) (fun h8=>?_)
  ·exact A0 (by rw[gK,if_pos (of_decide_eq_true h)]) (by decide)
  have h8:=of_decide_eq_false h8
  refine⟨by omega,by omega,?_⟩
  (repeat (intro (b_:Bool) (hb_:b_=_);(repeat refine⟨(by first|(simp;done)|(rw[hb_];simp;done)|(rw[hb_];simp;omega)|(rw[hb_];simp;intros;omega)|(rw[hb_];simp +contextual;done)),?_⟩);subst hb_))
  rw[show (bif !decide (b.getD (Int.toNat 12) default=80) then true else !decide (aG b (Int.toNat 18)=0)) = !decide (yL b) from (ap8 _ _).trans (congrArg (fun x => !x) (decide_eq_decide.2 Iff.rfl))]
  refine ae (fun h=>?_) (fun hf=>?_)
  ·exact A0 (by rw[gK,if_neg h8,if_pos];simpa using h) (by decide)
  have hf:yL b:=by simpa using hf
  refine ae (fun h=>?_) (fun h5=>?_)
  ·exact A0 (by rw[gK,if_neg h8,if_neg (fun k=>k hf),if_pos (of_decide_eq_true h)]) (by decide)
  have h5:=of_decide_eq_false h5
  repeat refine⟨by omega,?_⟩
  rintro x w ⟨rfl,rfl⟩
  refine⟨by rw[j6];omega,?_⟩
  rintro c rfl
  refine ae (fun h=>?_) (fun h=>?_)
  ·exact A0 (by rw[gK,if_neg h8,if_neg (fun k=>k hf),if_neg h5,if_pos];intro k;rw[decide_eq_true k] at h;cases h) (by decide)
  have h0:gK s d b=0:=by
   rw[gK,if_neg h8,if_neg (fun k=>k hf),if_neg h5,if_neg]
   intro k;rw[decide_eq_false k] at h;cases h
  rw[sr]
  repeat refine⟨by omega,?_⟩
  refine⟨by rw[List.length_drop];omega,?_⟩
  rintro y rfl
  have g:=hb _ (bL (xs:=b) (i:=13) (by omega) (by omega))
  have v4:=BP (k:=Int.toNat 4) hb
  have v6:=BP (k:=Int.toNat 6) hb
  have v8:=BP (k:=Int.toNat 8) hb
  have v10:=BP (k:=Int.toNat 10) hb
  rw[dI,if_pos h0,h0,af (by omega) (by omega),IG v4.1 v4.2 v6.1 v6.2,IG v8.1 v8.2 v10.1 v10.2];exact⟨rfl,rfl⟩
theorem aA1:av Tryz.prog GL 166 Ow.spec:=Ct.okH _ Tryz.func166 (by kernel_rfl) (ah (ah (ah (ah aA (Ct.named Ef)) (Ct.named Cg)) AT) (Ct.named pU)) au YX (aB (by kernel_rfl) al7)
end Go.RS

/- Trback: messages are decoded from their encodings; what damage does. -/
namespace Go.RS
open Go.SX Go.Proofs
set_option maxRecDepth 100000
set_option linter.unusedVariables false
def AR(data:List Int)(e:kZ):Prop:=(bU e.2.1=true/\bU e.2.2.1=true)/\e.2.2.2=data
def Ey(data:List Int)(u:nz):Prop:=(bU u.1=true/\bU u.2.1=true)/\u.2.2=data
def AE(data:List Int)(s:jO):Prop:=mz s/\s.2.2.2.2.2.2=data
theorem jD{n:Int}(h0:0<=n)(h1:n<=65535):n/256%256*256+n%256=n:=by omega
theorem Yp{e:kZ}(h:iq e=0):dj e=(if e.1 then 0 else 8)::0::(cf (bK e)/256%256)::(cf (bK e)%256)::(e.2.1/256%256)::(e.2.1%256)::(e.2.2.1/256%256)::(e.2.2.1%256)::e.2.2.2:=by
 rw[dj,if_pos h];rfl
theorem BQ{data:List Int}{e:kZ}(h:AR data e)(hl:(data.length:Int)<=1472):iq e=0:=by
 rw[iq,if_neg (fun k=>k h.1),if_neg (by rw[h.2];omega)]
theorem HA{data:List Int}{e:kZ}(h:AR data e)(hd:bytes data)(hl:(data.length:Int)<=1472):iE (dj e)=0/\dW (dj e)=e:=by
 have h0:=BQ h hl
 rw[Yp h0]
 obtain⟨⟨h1,h2⟩,h3⟩:=h
 rw[gH] at h1 h2
 have hc:=mV (tf (e:=e) (by rw[h3];exact hd))
 have hb:bK e=(if e.1 then 0 else 8)::0::0::0::(e.2.1/256%256)::(e.2.1%256)::(e.2.2.1/256%256)::(e.2.2.1%256)::e.2.2.2:=rfl
 obtain⟨r,i,q,l⟩:=e
 simp only at h1 h2 h3 hc hb ⊢
 subst h3
 have he:iE ((if r then 0 else 8)::0::(cf (bK (r,i,q,l))/256%256)::(cf (bK (r,i,q,l))%256)::(i/256%256)::(i%256)::(q/256%256)::(q%256)::l)=0:=by
  rw[iE,if_neg (by simp only[List.length_cons];omega),if_neg,if_neg (by simp only[List.length_cons];omega),if_neg]
  ·have e2:aG ((if r then 0 else 8)::0::(cf (bK (r,i,q,l))/256%256)::(cf (bK (r,i,q,l))%256)::(i/256%256)::(i%256)::(q/256%256)::(q%256)::l) (Int.toNat 2)=cf (bK (r,i,q,l))/256%256*256+cf (bK (r,i,q,l))%256:=fD _ _ _
   rw[e2,jD hc.1 hc.2]
   have e3:bI ((if r then 0 else 8)::0::(cf (bK (r,i,q,l))/256%256)::(cf (bK (r,i,q,l))%256)::(i/256%256)::(i%256)::(q/256%256)::(q%256)::l) (Int.toNat 2) 0=bK (r,i,q,l):=rfl
   rw[e3];exact fun k=>k rfl
  ·intro k;apply k
   refine⟨?_,rfl⟩
   cases r
   ·exact .inl rfl
   ·exact .inr rfl
 refine⟨he,?_⟩
 rw[dW,if_pos he]
 have e4:aG ((if r then 0 else 8)::0::(cf (bK (r,i,q,l))/256%256)::(cf (bK (r,i,q,l))%256)::(i/256%256)::(i%256)::(q/256%256)::(q%256)::l) (Int.toNat 4)=i/256%256*256+i%256:=fD _ _ _
 have e6:aG ((if r then 0 else 8)::0::(cf (bK (r,i,q,l))/256%256)::(cf (bK (r,i,q,l))%256)::(i/256%256)::(i%256)::(q/256%256)::(q%256)::l) (Int.toNat 6)=q/256%256*256+q%256:=fD _ _ _
 rw[e4,e6,jD h1.1 h1.2,jD h2.1 h2.2]
 cases r <;> rfl
theorem JS{data:List Int}{u:nz}(h:Ey data u)(hl:(data.length:Int)<=1472):lf u=0:=by
 rw[lf,if_neg (fun k=>k h.1),if_neg (by rw[h.2];omega)]
theorem ao2{s d:Int}{data:List Int}{u:nz}(h:Ey data u)(hd:bytes data)(hl:(data.length:Int)<=1472):hV s d (jF s d u)=0/\nE s d (jF s d u)=u:=by
 have h0:=JS h hl
 obtain⟨⟨h1,h2⟩,h3⟩:=h
 rw[gH] at h1 h2
 have hc:=K3 (a:=s) (b:=d) (xW (e:=u) (by rw[h3];exact hd))
 obtain⟨sp,dp,l⟩:=u
 simp only at h1 h2 h3 hc
 subst h3
 generalize hB:jF s d (sp,dp,l)=B
 have hs:B=(sp/256%256)::(sp%256)::(dp/256%256)::(dp%256)::((8+l.length:Int)/256%256)::((8+l.length:Int)%256)::(iT s d (dw (sp,dp,l))/256%256)::(iT s d (dw (sp,dp,l))%256)::l:=by rw[← hB,jF,if_pos h0];rfl
 have i0:aG B (Int.toNat 0)=sp/256%256*256+sp%256:=by rw[hs];exact fD _ _ _
 have i2:aG B (Int.toNat 2)=dp/256%256*256+dp%256:=by rw[hs];exact fD _ _ _
 have i4:aG B (Int.toNat 4)=(8+l.length:Int)/256%256*256+(8+l.length:Int)%256:=by rw[hs];exact fD _ _ _
 have i6:aG B (Int.toNat 6)=iT s d (dw (sp,dp,l))/256%256*256+iT s d (dw (sp,dp,l))%256:=by rw[hs];exact fD _ _ _
 have hset:bI B (Int.toNat 6) 0=dw (sp,dp,l):=by rw[hs];rfl
 have hlen:(B.length:Int)=8+l.length:=by rw[hs];simp only[List.length_cons];omega
 have g8:B.drop 8=l:=by rw[hs];rfl
 have he:hV s d B=0:=by
  rw[hV,if_neg (by omega),if_neg (fun q=>q (by rw[i4];omega)),if_neg (by omega),if_neg]
  rw[hset,i6,jD hc.1 hc.2];exact fun q=>q rfl
 refine⟨he,?_⟩
 rw[nE,if_pos he,i0,i2,g8,jD h1.1 h1.2,jD h2.1 h2.2]
theorem Eh{data:List Int}{s:jO}(h:AE data s)(hl:(data.length:Int)<=1460):iZ s=0:=by
 rw[iZ,if_neg (fun k=>k h.1),if_neg (by rw[h.2];omega)]
theorem Lo{n:Int}(h0:0<=n)(h1:n<=4294967295):(n/16777216%256*256+n/65536%256)*65536+(n/256%256*256+n%256)=n:=by omega
theorem MF{s d:Int}{data:List Int}{u:jO}(h:AE data u)(hd:bytes data)(hl:(data.length:Int)<=1460):gK s d (dq s d u)=0/\dI s d (dq s d u)=u:=by
 have h0:=Eh h hl
 obtain⟨hok,h3⟩:=h
 have hc:=va (a:=s) (b:=d) (p:=6) (uu hok (by rw[h3];exact hd))
 obtain⟨h1,h2,k3,k4,k5,k6⟩:=hok
 rw[gH] at h1 h2 k6
 obtain⟨sp,dp,sq,ak,fl,wi,l⟩:=u
 simp only at h1 h2 h3 hc k3 k4 k5 k6
 subst h3
 generalize hC:dA s d 6 (ix (sp,dp,sq,ak,fl,wi,l))=c at hc
 generalize hB:dq s d (sp,dp,sq,ak,fl,wi,l)=B
 have hs:B=(sp/256%256)::(sp%256)::(dp/256%256)::(dp%256)::(sq/16777216%256)::(sq/65536%256)::(sq/256%256)::(sq%256)::(ak/16777216%256)::(ak/65536%256)::(ak/256%256)::(ak%256)::80::fl::(wi/256%256)::(wi%256)::(c/256%256)::(c%256)::0::0::l:=by rw[← hB,dq,if_pos h0,hC];rfl
 have i0:aG B (Int.toNat 0)=sp/256%256*256+sp%256:=by rw[hs];exact fD _ _ _
 have i2:aG B (Int.toNat 2)=dp/256%256*256+dp%256:=by rw[hs];exact fD _ _ _
 have i4:aG B (Int.toNat 4)=sq/16777216%256*256+sq/65536%256:=by rw[hs];exact fD _ _ _
 have i6:aG B (Int.toNat 6)=sq/256%256*256+sq%256:=by rw[hs];exact fD _ _ _
 have i8:aG B (Int.toNat 8)=ak/16777216%256*256+ak/65536%256:=by rw[hs];exact fD _ _ _
 have i10:aG B (Int.toNat 10)=ak/256%256*256+ak%256:=by rw[hs];exact fD _ _ _
 have i14:aG B (Int.toNat 14)=wi/256%256*256+wi%256:=by rw[hs];exact fD _ _ _
 have i16:aG B (Int.toNat 16)=c/256%256*256+c%256:=by rw[hs];exact fD _ _ _
 have i18:aG B (Int.toNat 18)=0:=by rw[hs];exact fD 0 0 _
 have hset:bI B (Int.toNat 16) 0=ix (sp,dp,sq,ak,fl,wi,l):=by rw[hs];rfl
 have hlen:(B.length:Int)=20+l.length:=by rw[hs];simp only[List.length_cons];omega
 have g12:B.getD (Int.toNat 12) default=80:=by rw[hs];rfl
 have g13:B.getD (Int.toNat 13) default=fl:=by rw[hs];rfl
 have g20:B.drop 20=l:=by rw[hs];rfl
 have he:gK s d B=0:=by
  rw[gK,if_neg (by omega),if_neg (fun q=>q ⟨g12,i18⟩),if_neg (by omega),if_neg]
  rw[hset,hC,i16,jD hc.1 hc.2];exact fun q=>q rfl
 refine⟨he,?_⟩
 rw[dI,if_pos he,i0,i2,i4,i6,i8,i10,g13,i14,g20,jD h1.1 h1.2,jD h2.1 h2.2,jD k6.1 k6.2,Lo k3.1 k3.2,Lo k4.1 k4.2]
def pc(s d p n:Int):List Int:=w4 s++(w4 d++(w2 p++w2 n))
theorem DO(s d p:Int)(X:List Int):bf true (tv s d p X)=bf true (pc s d p X.length)+bf true X:=by
 have e:tv s d p X=pc s d p X.length++X:=by simp[tv,pc]
 have hl:(pc s d p X.length).length=12:=by simp[pc,w4,w2]
 rw[e,xm,hl];rfl
theorem ZX(s d p n:Int):bf true (pc s d p n)=bf true (w4 s)+bf true (w4 d)+bf true (w2 p)+bf true (w2 n):=by
 have h4:∀ n r,bf true (w4 n++r)=bf true (w4 n)+bf true r:=fun n r=>by rw[xm,show (w4 n).length=4 from rfl];rfl
 have h2:∀ n r,bf true (w2 n++r)=bf true (w2 n)+bf true r:=fun n r=>by rw[xm,show (w2 n).length=2 from rfl];rfl
 rw[pc,h4,h4,h2]
 omega
theorem VS(e:kZ):((dj e).length:Int)<=1480:=by
 unfold dj
 split
 ·rename_i h
  rw[j6,An]
  unfold iq at h
  split at h
  ·cases h
  ·split at h
   ·cases h
   ·omega
 ·simp
theorem Dh(e:mW):((fW e).length:Int)<=1480:=by
 unfold fW
 split
 ·rename_i h
  rw[j6,EY]
  unfold gG at h
  split at h
  ·cases h
  ·split at h
   ·cases h
   ·split at h
    ·cases h
    ·omega
 ·simp
theorem TK(s d:Int)(e:jO):((dq s d e).length:Int)<=1480:=by
 unfold dq
 split
 ·rename_i h
  rw[j6,vx]
  unfold iZ at h
  split at h
  ·cases h
  ·split at h
   ·cases h
   ·omega
 ·simp
theorem O1{l:List Int}{i:Nat}{v:Int}(h:i<l.length):(l.set i v).getD i default=v:=by
 rw[List.getD_eq_getElem?_getD,List.getElem?_set_self h,Option.getD_some]
theorem yy{l:List Int}{i j:Nat}{v:Int}(h:i≠j):(l.set i v).getD j default=l.getD j default:=by
 rw[List.getD_eq_getElem?_getD,List.getElem?_set_ne h,← List.getD_eq_getElem?_getD]
theorem I6(s d p n:Int):p%256<=bf true (pc s d p n):=by
 rw[ZX];simp[bf,w4,w2];omega
end Go.RS
