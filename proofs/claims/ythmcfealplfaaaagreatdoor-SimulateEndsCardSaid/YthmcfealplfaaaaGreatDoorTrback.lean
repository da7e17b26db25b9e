/- Wire: numbers in bytes, the Internet checksum. -/
import Derived.Test.YthmcfealplfaaaaGreatDoorIdent
namespace Go.RS
open Go.SX Go.Proofs
set_option maxRecDepth 100000
set_option linter.unusedVariables false
def ie(n:Int)(w k:Nat):List Int:=(List.range k).map fun j=>n/256^(w-1-j)%256
def lJ(n w:Int):Prop:=w<1∨7<w∨n<0∨256^w.toNat<=n
instance (n w:Int):Decidable (lJ n w):=by unfold lJ;infer_instance
def bu(b:List Int)(n w:Int):List Int:=if lJ n w then [] else b++ie n w.toNat w.toNat
def nN(n w:Int):Int:=if lJ n w then 1 else 0
def dG(l:List Int):Int:=l.foldl (fun n x=>n*256+x) 0
def dL(b:List Int)(at' w:Int):Int:=if w<1∨7<w∨at'<0∨b.length-w<at' then 0 else dG ((b.drop at'.toNat).take w.toNat)
def pU(b:List Int)(at' w:Int):Int:=if w<1∨7<w∨at'<0 then 1 else if b.length-w<at' then 3 else 0
def oc(n:Int):Int:=if n=0 then 0 else (n-1)%65535+1
def aZ:Bool->List Int->Int
 | _,[]=>0
 | hi,x::r=>(if hi then x*256 else x)+aZ (!hi) r
def bQ(n:Int):Bool:=decide (0<=n/\n<=65535)
theorem Iu(a b:Nat)(ha:a<9223372036854775808)(hb:b<9223372036854775808):bits .or .i64 (a:Int) (b:Int)=((a ||| b:Nat):Int):=by
 have h:a ||| b<2^63:=Nat.or_lt_two_pow (by omega) (by omega)
 have key:(BitVec.ofInt 64 (a:Int) ||| BitVec.ofInt 64 (b:Int)).toNat=a ||| b:=by
  rw[BitVec.toNat_or,BitVec.toNat_ofInt,BitVec.toNat_ofInt]
  have e1:((a:Int)%((2^64:Nat):Int)).toNat=a:=by omega
  have e2:((b:Int)%((2^64:Nat):Int)).toNat=b:=by omega
  rw[e1,e2]
 show IntKind.i64.wrap ((BitVec.ofInt 64 (a:Int) ||| BitVec.ofInt 64 (b:Int)).toNat:Nat)=_
 rw[key,af (by omega) (by omega)]
theorem Ew{n:Int}(h0:0<=n)(h1:n<=36028797018963967):db .i64 n 8=n*256:=by
 show IntKind.i64.wrap (n*2^(min 8 64))=_
 rw[af (by simp;omega) (by simp;omega)];rfl
theorem Eu{n x:Int}(h0:0<=n)(h1:n<=36028797018963966)(h2:0<=x)(h3:x<=255):bits .or .i64 (db .i64 n 8) (IntKind.wrap .i64 x)=n*256+x:=by
 rw[Ew h0 (by omega),af (n:=x) (by omega) (by omega)]
 obtain⟨m,rfl⟩:=Int.eq_ofNat_of_zero_le h0
 obtain⟨y,rfl⟩:=Int.eq_ofNat_of_zero_le h2
 have:=Iu (m*256) y (by omega) (by omega)
 rw[nat_join 8 (m*256) y (by omega) (by omega)] at this
 push_cast at this
 exact this
theorem u9{n:Int}{k:Nat}(h0:0<=n)(hk:k<8):cP .i64 n (8*k)=n/256^k:=by
 unfold cP
 have hm:min ((8*(k:Int))).toNat IntKind.i64.bits=8*k:=by simp only[IntKind.bits];omega
 rw[hm,Int.fdiv_eq_ediv_of_nonneg _ (Int.le_of_lt (Int.pow_pos (by decide))),Int.pow_mul]
 rfl
theorem Af{w:Int}(h0:1<=w)(h1:w<=7):db .i64 1 (IntKind.wrap .i64 (8*w))=256^w.toNat:=by
 have:w=1∨w=2∨w=3∨w=4∨w=5∨w=6∨w=7:=by omega
 rcases this with rfl|rfl|rfl|rfl|rfl|rfl|rfl <;> decide
theorem Kc(n:Int)(w k:Nat):ie n w (k+1)=ie n w k++[n/256^(w-1-k)%256]:=by
 unfold ie;rw[List.range_succ,List.map_append];rfl
theorem Of(n:Int)(w k:Nat):(ie n w k).length=k:=by unfold ie;simp
theorem BU(l:List Int)(x:Int):dG (l++[x])=dG l*256+x:=by unfold dG;rw[List.foldl_append];rfl
theorem Bw:∀(k:Nat)(l:List Int),l.length<=k->(∀ x∈l,0<=x/\x<=255)->0<=dG l/\dG l<256^k:=by
 intro k
 induction k with
 | zero =>
  intro l hl _
  have:l=[]:=List.eq_nil_of_length_eq_zero (by omega)
  subst this;exact⟨by decide,by decide⟩
 | succ k ih =>
  intro l hl hx
  rcases List.eq_nil_or_concat l with rfl|⟨m,x,rfl⟩
  ·exact⟨by decide,Int.pow_pos (by decide)⟩
  ·rw[List.concat_eq_append] at hl hx ⊢
   have h1:=ih m (by simp at hl;omega) (fun y hy=>hx y (List.mem_append_left _ hy))
   have h2:=hx x (by simp)
   rw[BU,Int.pow_succ]
   generalize (256:Int)^k=P at h1 ⊢
   omega
theorem Pr{l:List Int}(hl:l.length<=6)(hx:∀ x∈l,0<=x/\x<=255):0<=dG l/\dG l<=281474976710655:=by
 have:=Bw 6 l hl hx
 have e:(256:Int)^6=281474976710656:=by decide
 omega
theorem ZR{n:Int}(h:65535<n):oc (n/65536+n%65536)=oc n:=by
 unfold oc
 rw[if_neg (by omega),if_neg (by omega)];omega
theorem Up{n:Int}(h0:0<=n)(h1:n<=65535):oc n=n:=by
 unfold oc;split
 ·omega
 ·omega
theorem sn{n:Int}(h0:0<=n):0<=oc n/\oc n<=65535:=by unfold oc;split <;> omega
theorem Pi{m x:Int}(h0:0<=m)(h1:0<=x):oc (oc m+x)=oc (m+x):=by
 unfold oc
 by_cases h:m=0
 ·simp[h]
 ·rw[if_neg h,if_neg (by omega),if_neg (by omega)];omega
theorem yF(hi:Bool)(a b:List Int):aZ hi (a++b)=aZ hi a+aZ (if a.length%2=0 then hi else !hi) b:=by
 induction a generalizing hi with
 | nil=>simp[aZ]
 | cons x a ih =>
  rw[List.cons_append,aZ,aZ,ih,Int.add_assoc]
  congr 3
  rw[List.length_cons]
  by_cases h:a.length%2=0
  ·rw[if_pos h,if_neg (by omega)]
  ·rw[if_neg h,if_pos (by omega)];simp
theorem vH(hi:Bool)(l:List Int)(hx:∀ x∈l,0<=x/\x<=255):0<=aZ hi l/\aZ hi l<=65280*l.length:=by
 induction l generalizing hi with
 | nil=>simp[aZ]
 | cons x l ih =>
  have h1:=ih (!hi) (fun y hy=>hx y (List.mem_cons_of_mem _ hy))
  have h2:=hx x List.mem_cons_self
  rw[aZ,List.length_cons]
  cases hi
  ·simp at h1 ⊢;omega
  ·simp at h1 ⊢;omega
theorem sY{l:List Int}{j:Int}(h0:0<=j)(h1:j<l.length):l.take (j+1).toNat=l.take j.toNat++[l.getD j.toNat default]:=by
 have hj:j.toNat<l.length:=by omega
 rw[show (j+1).toNat=j.toNat+1 from by omega,List.take_succ_eq_append_getElem hj,List.getD_eq_getElem?_getD,List.getElem?_eq_getElem hj,Option.getD_some]
def HL:Ct:=⟨[.val (.sl bj)],[.own 5 bj],fun d=>[(d.1.length:Int)<=1099511627776],fun d=>((d.1,()),())⟩
def Ze:ao HL.ps->az:=(fun _=>{})
def qS(a:List Int) :=
 a.length<=maxLen/\ ∀(b:Int),b∈a->0<=b/\b<=255
def cu(a:List Int) :=
 (a.length:Int)
theorem RG :
 ∀(a:List Int),(qS a)/\True->(cu a)<=1099511627776-> ∀(b:Bool),(b=true->a.length=(0:Nat))->ad b (([]:List Int)=a) (((0:Nat)+a.length)*(1:Nat)<=(140737488355328:Nat)/\a=a):=by
  delta cu qS
  rintro x ⟨⟨hl,-⟩,-⟩ h b hb
  refine ae (fun h1=>?_) (fun h1=>⟨by omega,rfl⟩)
  have:=hb h1
  exact (List.eq_nil_of_length_eq_zero this).symm
theorem pE:av Tryz.prog GL 47 HL.spec:=Ct.okH _ Tryz.func47 (by kernel_rfl) aC ar Ze (aD (by kernel_rfl) RG)
def JY:Ct:=⟨[.val (.sl bj),.val cI,.val cI],[.own 5 bj,.val cI],fun d=>[(d.1.length:Int)<=1099511627776],fun d=>((bu d.1 d.2.1 d.2.2.1,nN d.2.1 d.2.2.1,()),())⟩
def Vg:ao JY.ps->az:=(fun d=>{loops:=(fun n=>match n with|5=>some (fun S=>{ι:=Int×(List Int),qn:=⟨fun k_=>∀(k:Int)(ys:(List Int)),k_ (k,ys),fun k_ h_ i=>h_ i.1 i.2,fun k_=>∃ (k:Int) (ys:(List Int)),k_ (k,ys),fun k_ ⟨k,ys,h_⟩=>⟨_,h_⟩⟩,μ:=fun i=>(d.2.2.1-i.1).toNat,inv:=fun i=>0<=i.1/\i.1<=d.2.2.1/\i.2=d.1++ie d.2.1 d.2.2.1.toNat i.1.toNat,keep:=[1,2],slots:=fun i=>[(8,.own 524288 1),(9,.int .i64 (8*(d.2.2.1-1-i.1)))],names:=fun i=>[(524288,.live (.row 5 bj i.2))]})|_=>none)})
def nD(a:List Int) :=
 a.length<=maxLen/\ ∀(d:Int),d∈a->0<=d/\d<=255
def tR(f:Bool) :=
 (! f)->((! f)->(! f))/\((! f)->(! f))/\True
theorem VF :
 ∀(a:List Int)(b c:Int),(nD a)/\ab b/\ab c/\True->(cu a)<=1099511627776-> ∀(d:Bool),d=decide (c<1)->((! d)->((! d)->(! d))/\True)/\(d=false->(! d))/\ ∀(e:Bool),(e=bif d then true else decide (7<c))->((! e)->((! e)->(! e))/\True)/\(e=false->(! e))/\ ∀(f:Bool),(f=bif e then true else decide (b<0))->((! f)->((! f)->(! f))/\True)/\((! f)->((! f)->(! f))/\0<=IntKind.wrap .i64 ((8:Int)*c)/\True)/\(tR f)/\(f=false->(! f))/\ad (bif f then true else decide (db IntKind.i64 (1:Int) (IntKind.wrap .i64 ((8:Int)*c))<=b)) (([]:List Int)=bu a b c/\(1:Int)=nN b c) ((cu a)<=1099511627776/\(∃(g:Int) (h:List Int),(0<=g/\g<=c/\h=a++ie b c.toNat g.toNat)/\b=b/\c=c/\IntKind.wrap .i64 ((8:Int)*IntKind.wrap .i64 (c -(1:Int)))=8*(c -(1:Int) -g)/\a=h/\True)/\ ∀(g:Int)(h:List Int),0<=g/\g<=c/\h=a++ie b c.toNat g.toNat->ad (decide ((0:Int)<=8*(c -(1:Int) -g))) ((0:Int)<=8*(c -(1:Int)
 -g)/\(h.length+List.length [IntKind.wrap .u8 (cP IntKind.i64 b ((8:Int)*(c -(1:Int) -g)))])*(1:Nat)<=(140737488355328:Nat)/\ ∃(i:Int) (j:List Int),(0<=i/\i<=c/\j=a++ie b c.toNat i.toNat)/\Int.toNat (c -i)<Int.toNat (c -g)/\b=b/\c=c/\IntKind.wrap .i64 ((8:Int)*(c -(1:Int) -g) -(8:Int))=8*(c -(1:Int) -i)/\h++[IntKind.wrap .u8 (cP IntKind.i64 b ((8:Int)*(c -(1:Int) -g)))]=j/\True) (h=bu a b c/\(0:Int)=nN b c)):=by
  delta cu nD tR
  rintro b n w ⟨-,⟨n0,n1⟩,⟨w0,w1⟩,-⟩ hl
  rintro b1 rfl
  refine⟨by simp,by simp,?_⟩
  rintro b1 rfl
  refine⟨by simp,by simp,?_⟩
  rintro b1 rfl
  have hpre:(!(bif (bif decide (w<1) then true else decide (7<w)) then true else decide (n<0)))=true->1<=w/\w<=7/\0<=n:=by
   simp[Bool.cond_eq_ite];omega
  refine⟨by simp,fun h=>⟨fun _=>h,by have:=hpre h;rw[af (by omega) (by omega)];omega,trivial⟩,fun h=>⟨fun _=>h,fun _=>h,trivial⟩,by simp,?_⟩
  refine ae (fun hc=>?_) (fun hc=>?_)
  ·have hbad:lJ n w:=by
    unfold lJ
    by_cases h:1<=w/\w<=7
    ·rw[Af h.1 h.2] at hc
     simp[Bool.cond_eq_ite] at hc;omega
    ·omega
   rw[bu,nN,if_pos hbad,if_pos hbad];exact⟨rfl,rfl⟩
  ·have hw:1<=w/\w<=7/\0<=n:=hpre (by
    cases h:(bif (bif decide (w<1) then true else decide (7<w)) then true else decide (n<0)) with
    | false=>rfl
    | true=>rw[h] at hc;simp at hc)
   obtain⟨h1,h7,hn⟩:=hw
   rw[Af h1 h7] at hc
   have hgood:¬ lJ n w:=by
    unfold lJ
    simp[Bool.cond_eq_ite] at hc;omega
   rw[bu,nN,if_neg hgood,if_neg hgood]
   refine⟨hl,⟨0,b,⟨by omega,by omega,by simp[ie]⟩,rfl,rfl,by rw[af (n:=w-1) (by omega) (by omega),af (by omega) (by omega)];omega,rfl,trivial⟩,?_⟩
   rintro k ys ⟨k0,k1,rfl⟩
   refine ae (fun hk=>?_) (fun hk=>?_)
   ·have hk:=of_decide_eq_true hk
    obtain⟨j,hj⟩:=Int.eq_ofNat_of_zero_le (show 0<=w-1-k by omega)
    rw[hj,u9 hn (by omega),IntKind.wrap_u8']
    have hbl:=Of n w.toNat k.toNat
    refine⟨by omega,by simp only[List.length_append,List.length_singleton,hbl];omega,k+1,_,⟨by omega,by omega,rfl⟩,by omega,rfl,rfl,by rw[af (by omega) (by omega)];omega,?_,trivial⟩
    rw[show (k+1).toNat=k.toNat+1 from by omega,Kc,List.append_assoc,show w.toNat-1-k.toNat=j from by omega]
   ·have hk:=of_decide_eq_false hk
    rw[show k=w from by omega];exact⟨rfl,rfl⟩
theorem O2:av Tryz.prog GL 264 JY.spec:=Ct.okH _ Tryz.func264 (by kernel_rfl) (ai aC pE) ar Vg (aD (by kernel_rfl) VF)
def GX:Ct:=⟨[.val (.sl bj),.val cI,.val cI],[.val cI,.val cI],fun d=>[(d.1.length:Int)<=1099511627776],fun d=>((dL d.1 d.2.1 d.2.2.1,pU d.1 d.2.1 d.2.2.1,()),())⟩
def ag8:ao GX.ps->az:=(fun d=>{loops:=(fun n=>match n with|7=>some (fun S=>{ι:=Int×Int,qn:=⟨fun k_=>∀(j:Int)(n:Int),k_ (j,n),fun k_ h_ i=>h_ i.1 i.2,fun k_=>∃ (j:Int) (n:Int),k_ (j,n),fun k_ ⟨j,n,h_⟩=>⟨_,h_⟩⟩,μ:=fun i=>(d.2.2.1-i.1).toNat,inv:=fun i=>0<=i.1/\i.1<=d.2.2.1/\i.2=dG (((d.1.drop d.2.1.toNat).take d.2.2.1.toNat).take i.1.toNat),keep:=[34,35],slots:=fun i=>[(8,.int .i64 i.2),(36,.int .i64 i.1)],names:=fun i=>[]})|_=>none)})
def ud(b c:Int) :=
 Int.toNat (IntKind.wrap .i64 (b+c))
def uk(a:List Int)(b c:Int) :=
 ((List.length (bW a b.toNat (ud b c))):Int)
def rR(a:List Int)(b c:Int) :=
 List.take c.toNat (List.drop b.toNat a)
theorem Wm :
 ∀(a:List Int)(b c:Int),(nD a)/\ab b/\ab c/\True->(cu a)<=1099511627776-> ∀(d:Bool),d=decide (c<1)->((! d)->((! d)->(! d))/\True)/\(d=false->(! d))/\ ∀(e:Bool),(e=bif d then true else decide (7<c))->((! e)->((! e)->(! e))/\True)/\(e=false->(! e))/\ad (bif e then true else decide (b<0)) ((0:Int)=dL a b c/\(1:Int)=pU a b c) (ad (decide (IntKind.wrap .i64 ((cu a) -c)<b)) ((0:Int)=dL a b c/\(3:Int)=pU a b c) (0<=b/\b<=IntKind.wrap .i64 (b+c)/\IntKind.wrap .i64 (b+c)<=(cu a)/\(∃(f:Int) (g:Int),(0<=f/\f<=c/\g=dG (List.take f.toNat (rR a b c)))/\(0:Int)=g/\bW a b.toNat (ud b c)=bW a b.toNat (ud b c)/\(uk a b c)=(uk a b c)/\(0:Int)=f/\True)/\ ∀(f g:Int),0<=f/\f<=c/\g=dG (List.take f.toNat (rR a b c))->ad (decide (f<(uk a b c))) (0<=f/\f<(uk a b c)/\(0:Int)<=8/\ ∃(h:Int) (i:Int),(0<=h/\h<=c/\i=dG (List.take h.toNat (rR a b c)))/\Int.toNat (c
 -h)<Int.toNat (c -f)/\bits BinOp.or IntKind.i64 (db IntKind.i64 g (8:Int)) (IntKind.wrap .i64 (List.getD (bW a b.toNat (ud b c)) f.toNat default))=i/\bW a b.toNat (ud b c)=bW a b.toNat (ud b c)/\(uk a b c)=(uk a b c)/\IntKind.wrap .i64 (f+(1:Int))=h/\True) (g=dL a b c/\(0:Int)=pU a b c))):=by
  delta uk cu nD ud rR
  rintro b a w ⟨⟨hl0,hx⟩,⟨a0,a1⟩,⟨w0,w1⟩,-⟩ hl
  (repeat (intro (b_:Bool) (hb_:b_=_);(repeat refine⟨(by first|(simp;done)|(rw[hb_];simp;done)|(rw[hb_];simp;omega)|(rw[hb_];simp;intros;omega)|(rw[hb_];simp +contextual;done)),?_⟩);subst hb_))
  unfold dL pU
  refine ae (fun hc=>?_) (fun hc=>?_)
  ·have h:w<1∨7<w∨a<0:=by simp[Bool.cond_eq_ite] at hc;omega
   rw[if_pos (by omega),if_pos h];exact⟨rfl,rfl⟩
  have h:¬ (w<1∨7<w∨a<0):=by simp[Bool.cond_eq_ite] at hc;omega
  rw[af (n:=(b.length:Int)-w) (by omega) (by omega),if_neg h]
  refine ae (fun hd=>?_) (fun hd=>?_)
  ·have hd:=of_decide_eq_true hd
   rw[if_pos (by omega),if_pos hd];exact⟨rfl,rfl⟩
  have hd:=of_decide_eq_false hd
  rw[if_neg (by omega),if_neg hd,af (n:=a+w) (by omega) (by omega)]
  have hsub:bW b a.toNat (a+w).toNat=(b.drop a.toNat).take w.toNat:=by
   unfold bW;rw[List.drop_take,show (a+w).toNat-a.toNat=w.toNat from by omega]
  rw[hsub]
  have hlen:((b.drop a.toNat).take w.toNat).length=w.toNat:=by rw[List.length_take,List.length_drop];omega
  have hy:∀ y∈(b.drop a.toNat).take w.toNat,0<=y/\y<=255:=fun y hy=>hx y (List.mem_of_mem_drop (List.mem_of_mem_take hy))
  generalize (b.drop a.toNat).take w.toNat=m at *
  rw[hlen]
  refine⟨by omega,by omega,by omega,⟨0,0,⟨by omega,by omega,by simp[dG]⟩,(by repeat' first|exact trivial|refine⟨trivial,?_⟩|refine⟨(by with_reducible rfl),?_⟩|refine⟨af (by omega) (by omega),?_⟩|refine⟨rfl,?_⟩)⟩,?_⟩
  rintro j n ⟨j0,j1,rfl⟩
  refine ae (fun hj=>?_) (fun hj=>?_)
  ·have hj:=of_decide_eq_true hj
   have ht:=sY (l:=m) j0 (by omega)
   obtain⟨x0,x1⟩:=hy _ (bH (xs:=m) j0 (by omega))
   have hb:=Pr (l:=m.take j.toNat) (by rw[List.length_take];omega) (fun y h=>hy y (List.mem_of_mem_take h))
   refine⟨j0,hj,by omega,j+1,_,⟨by omega,by omega,rfl⟩,by omega,?_,rfl,rfl,af (by omega) (by omega),trivial⟩
   rw[ht,BU,Eu hb.1 (by omega) x0 x1]
  ·have hj:=of_decide_eq_false hj
   rw[List.take_of_length_le (by omega)];exact⟨rfl,rfl⟩
theorem Fz:av Tryz.prog GL 208 GX.spec:=Ct.okH _ Tryz.func208 (by kernel_rfl) aC ar ag8 (aD (by kernel_rfl) Wm)
def KR:Ct:=⟨[.val cI],[.val cI],fun d=>[0<=d.1],fun d=>((oc d.1,()),())⟩
def QS:ao KR.ps->az:=(fun d=>{loops:=(fun n=>match n with|1=>some (fun S=>{ι:=Int,μ:=fun i=>i.toNat,inv:=fun i=>0<=i/\i<=9223372036854775807/\oc i=oc d.1,keep:=[],slots:=fun i=>[(0,.int .i64 i)],names:=fun i=>[]})|_=>none)})
theorem Zf :
 ∀(a:Int),ab a/\True->0<=a->(∃(b:Int),(0<=b/\b<=9223372036854775807/\oc b=oc a)/\a=b/\True)/\ ∀(b:Int),0<=b/\b<=9223372036854775807/\oc b=oc a->ad (decide (65535<b)) ((0:Int)<=16/\ ∃(c:Int),(0<=c/\c<=9223372036854775807/\oc c=oc a)/\c.toNat<b.toNat/\IntKind.wrap .i64 (cP IntKind.i64 b (16:Int)+bits BinOp.and IntKind.i64 b (65535:Int))=c/\True) (b=oc a):=by
  rintro n ⟨⟨n0,n1⟩,-⟩ h
  refine⟨⟨n,⟨h,n1,rfl⟩,rfl,trivial⟩,?_⟩
  rintro m ⟨m0,m1,m2⟩
  refine ae (fun hm=>?_) (fun hm=>?_)
  ·have hm:=of_decide_eq_true hm
   have e:=u9 (n:=m) (k:=2) m0 (by omega)
   have e2:(8:Int)*((2:Nat):Int)=16:=rfl
   rw[e2] at e
   rw[e,yh,af (by omega) (by omega)]
   have e3:(256:Int)^2=65536:=rfl
   rw[e3]
   exact⟨by omega,_,⟨by omega,by omega,by rw[ZR hm,m2]⟩,by omega,rfl,trivial⟩
  ·have hm:=of_decide_eq_false hm
   rw[← m2,Up m0 (by omega)]
theorem ag1:av Tryz.prog GL 261 KR.spec:=Ct.okH _ Tryz.func261 (by kernel_rfl) aC ar QS (aD (by kernel_rfl) Zf)
theorem Qu{j:Int}(h0:0<=j)(h1:j<=9223372036854775807):bits .and .i64 j 1=j%2:=by
 obtain⟨m,rfl⟩:=Int.eq_ofNat_of_zero_le h0
 have key:(BitVec.ofInt 64 (m:Int) &&& BitVec.ofInt 64 1).toNat=m%2:=by
  rw[BitVec.toNat_and,BitVec.toNat_ofInt,show (BitVec.ofInt 64 1).toNat=1 from by decide]
  have e1:((m:Int)%((2^64:Nat):Int)).toNat=m:=by omega
  rw[e1,nat_mask1]
 show IntKind.i64.wrap ((BitVec.ofInt 64 (m:Int) &&& BitVec.ofInt 64 1).toNat:Nat)=_
 rw[key,af (by omega) (by omega)];omega
theorem au8{n:Int}(h0:0<=n)(h1:n<=36028797018963967):db .i64 n (IntKind.wrap .i64 (8*IntKind.wrap .i64 (1-1)))=n:=by
 show IntKind.i64.wrap (n*2^(min 0 64))=_
 rw[af (by simp;omega) (by simp;omega)];simp
def ME:Ct:=⟨[.val (.sl bj)],[.val cI],fun d=>[(d.1.length:Int)<=1099511627776],fun d=>((oc (aZ true d.1),()),())⟩
def VU:ao ME.ps->az:=(fun d=>{loops:=(fun n=>match n with|3=>some (fun S=>{ι:=Int×Int,qn:=⟨fun k_=>∀(j:Int)(n:Int),k_ (j,n),fun k_ h_ i=>h_ i.1 i.2,fun k_=>∃ (j:Int) (n:Int),k_ (j,n),fun k_ ⟨j,n,h_⟩=>⟨_,h_⟩⟩,μ:=fun i=>(d.1.length-i.1).toNat,inv:=fun i=>0<=i.1/\i.1<=d.1.length/\i.2=aZ true (d.1.take i.1.toNat)/\0<=i.2/\i.2<=65280*i.1,keep:=[0,6,7],slots:=fun i=>[(3,.int .i64 i.2),(8,.int .i64 i.1)],names:=fun i=>[]})|_=>none)})
theorem SP :
 ∀(a:List Int),(qS a)/\True->(cu a)<=1099511627776->(∃(b:Int) (c:Int),(0<=b/\b<=(cu a)/\c=aZ true (List.take b.toNat a)/\0<=c/\c<=65280*b)/\a=a/\(0:Int)=c/\a=a/\(cu a)=(cu a)/\(0:Int)=b/\True)/\ ∀(b c:Int),0<=b/\b<=(cu a)/\c=aZ true (List.take b.toNat a)/\0<=c/\c<=65280*b->ad (decide (b<(cu a))) (0<=b/\b<(cu a)/\0<=IntKind.wrap .i64 ((8:Int)*IntKind.wrap .i64 ((1:Int) -bits BinOp.and IntKind.i64 b (1:Int)))/\ ∃(d:Int) (e:Int),(0<=d/\d<=(cu a)/\e=aZ true (List.take d.toNat a)/\0<=e/\e<=65280*d)/\Int.toNat ((cu a) -d)<Int.toNat ((cu a) -b)/\a=a/\IntKind.wrap .i64 (c+db IntKind.i64 (IntKind.wrap .i64 (a.getD b.toNat default)) (IntKind.wrap .i64 ((8:Int)*IntKind.wrap .i64 ((1:Int) -bits BinOp.and IntKind.i64 b (1:Int)))))=e/\a=a/\(cu a)=(cu a)/\IntKind.wrap .i64 (b+(1:Int))=d/\True) (0<=c/\oc c=oc (aZ true a)):=by
  delta cu qS
  rintro l ⟨⟨-,hx⟩,-⟩ hl
  refine⟨⟨0,0,⟨by omega,by omega,by simp[aZ],by omega,by omega⟩,(by repeat' first|exact trivial|refine⟨trivial,?_⟩|refine⟨(by with_reducible rfl),?_⟩|refine⟨af (by omega) (by omega),?_⟩|refine⟨rfl,?_⟩)⟩,?_⟩
  rintro j n ⟨j0,j1,rfl,n0,n1⟩
  refine ae (fun hj=>?_) (fun hj=>?_)
  ·have hj:=of_decide_eq_true hj
   obtain⟨x0,x1⟩:=hx _ (bH j0 hj)
   have ht:=sY j0 hj
   have hs:=yF true (l.take j.toNat) [l.getD j.toNat default]
   rw[← ht] at hs
   generalize l.getD j.toNat default=x at *
   have hb:=Qu j0 (by omega)
   rw[hb]
   have hlen:(l.take j.toNat).length=j.toNat:=by rw[List.length_take];omega
   rw[hlen] at hs
   have hv:0<=IntKind.wrap .i64 (8*IntKind.wrap .i64 (1-j%2))/\db .i64 (IntKind.wrap .i64 x) (IntKind.wrap .i64 (8*IntKind.wrap .i64 (1-j%2)))=(if j%2=0 then x*256 else x):=by
    rw[af (n:=x) (by omega) (by omega)]
    by_cases he:j%2=0
    ·rw[he,if_pos rfl];exact⟨by decide,Ew x0 (by omega)⟩
    ·rw[show j%2=1 from by omega,if_neg (by decide)]
     exact⟨by decide,au8 x0 (by omega)⟩
   rw[hv.2]
   refine⟨j0,hj,hv.1,j+1,aZ true (l.take (j+1).toNat),⟨by omega,by omega,rfl,?_,?_⟩,by omega,rfl,?_,rfl,rfl,af (by omega) (by omega),trivial⟩
   all_goals rw[hs]
   all_goals by_cases he:j%2=0
   all_goals first
    | rw[if_pos (show j.toNat%2=0 by omega)]
    | rw[if_neg (show ¬ j.toNat%2=0 by omega)]
   all_goals simp only[aZ,he,if_true,if_false,Bool.not_true,Bool.false_eq_true]
   all_goals try omega
   all_goals rw[af (by omega) (by omega)]
   all_goals omega
  ·have hj:=of_decide_eq_false hj
   rw[List.take_of_length_le (by omega)] at n0 ⊢
   exact⟨n0,rfl⟩
theorem ap6:av Tryz.prog GL 239 ME.spec:=Ct.okH _ Tryz.func239 (by kernel_rfl) (ai aC ag1) ar VU (aD (by kernel_rfl) SP)
def LL:Ct:=⟨[.val (.sl bj)],[.val cI],fun d=>[(d.1.length:Int)<=1099511627776],fun d=>((65535-oc (aZ true d.1),()),())⟩
def Z0:ao LL.ps->az:=(fun _=>{})
def Ak(a:List Int) :=
 (qS a)/\True->(cu a)<=1099511627776->(cu a)<=1099511627776/\IntKind.wrap .i64 ((65535:Int) -oc (aZ true a))=65535 -oc (aZ true a)
theorem Yp :
 ∀(a:List Int),(Ak a):=by
  delta Ak cu qS
  rintro l ⟨⟨-,hx⟩,-⟩ hl
  have:=sn (vH true l hx).1
  exact⟨hl,af (by omega) (by omega)⟩
theorem uU:av Tryz.prog GL 209 LL.spec:=Ct.okH _ Tryz.func209 (by kernel_rfl) (ai aC ap6) ar Z0 (aD (by kernel_rfl) Yp)
def K1:Ct:=⟨[.val (.sl bj),.val cI,.val cI],[.own 5 bj,.val cI],fun d=>[(d.1.length:Int)<=1099511627776],fun d=>((bu d.1 d.2.1 d.2.2.1,nN d.2.1 d.2.2.1,()),())⟩
def RY:ao K1.ps->az:=(fun d=>{loops:=(fun n=>match n with|5=>some (fun S=>{ι:=Int×(List Int),qn:=⟨fun k_=>∀(k:Int)(ys:(List Int)),k_ (k,ys),fun k_ h_ i=>h_ i.1 i.2,fun k_=>∃ (k:Int) (ys:(List Int)),k_ (k,ys),fun k_ ⟨k,ys,h_⟩=>⟨_,h_⟩⟩,μ:=fun i=>(d.2.2.1-i.1).toNat,inv:=fun i=>0<=i.1/\i.1<=d.2.2.1/\i.2=d.1++ie d.2.1 d.2.2.1.toNat i.1.toNat,keep:=[1,2],slots:=fun i=>[(8,.own 524288 1),(9,.int .i64 (d.2.2.1-1-i.1))],names:=fun i=>[(524288,.live (.row 5 bj i.2))]})|_=>none)})
theorem QB :
 ∀(a:List Int)(b c:Int),(nD a)/\ab b/\ab c/\True->(cu a)<=1099511627776-> ∀(d:Bool),d=decide (c<1)->((! d)->((! d)->(! d))/\True)/\(d=false->(! d))/\ ∀(e:Bool),(e=bif d then true else decide (7<c))->((! e)->((! e)->(! e))/\True)/\(e=false->(! e))/\ ∀(f:Bool),(f=bif e then true else decide (b<0))->((! f)->((! f)->(! f))/\True)/\((! f)->((! f)->(! f))/\0<=IntKind.wrap .i64 ((8:Int)*c)/\True)/\(tR f)/\(f=false->(! f))/\ad (bif f then true else decide (db IntKind.i64 (1:Int) (IntKind.wrap .i64 ((8:Int)*c))<=b)) (([]:List Int)=bu a b c/\(1:Int)=nN b c) (a.length*(1:Nat)<=(140737488355328:Nat)/\(∃(g:Int) (h:List Int),(0<=g/\g<=c/\h=a++ie b c.toNat g.toNat)/\b=b/\c=c/\IntKind.wrap .i64 (c -(1:Int))=c -(1:Int) -g/\a=h/\True)/\ ∀(g:Int)(h:List Int),0<=g/\g<=c/\h=a++ie b c.toNat g.toNat->ad (decide (0<=c -(1:Int) -g)) (0<=IntKind.wrap .i64 ((8:Int)*(c -(1:Int)
 -g))/\(h.length+List.length [IntKind.wrap .u8 (cP IntKind.i64 b (IntKind.wrap .i64 ((8:Int)*(c -(1:Int) -g))))])*(1:Nat)<=(140737488355328:Nat)/\ ∃(i:Int) (j:List Int),(0<=i/\i<=c/\j=a++ie b c.toNat i.toNat)/\Int.toNat (c -i)<Int.toNat (c -g)/\b=b/\c=c/\IntKind.wrap .i64 (c -(1:Int) -g -(1:Int))=c -(1:Int) -i/\h++[IntKind.wrap .u8 (cP IntKind.i64 b (IntKind.wrap .i64 ((8:Int)*(c -(1:Int) -g))))]=j/\True) (h=bu a b c/\(0:Int)=nN b c)):=by
  delta cu nD tR
  rintro b n w ⟨-,⟨n0,n1⟩,⟨w0,w1⟩,-⟩ hl
  rintro b1 rfl
  refine⟨by simp,by simp,?_⟩
  rintro b1 rfl
  refine⟨by simp,by simp,?_⟩
  rintro b1 rfl
  have hpre:(!(bif (bif decide (w<1) then true else decide (7<w)) then true else decide (n<0)))=true->1<=w/\w<=7/\0<=n:=by
   simp[Bool.cond_eq_ite];omega
  refine⟨by simp,fun h=>⟨fun _=>h,by have:=hpre h;rw[af (by omega) (by omega)];omega,trivial⟩,fun h=>⟨fun _=>h,fun _=>h,trivial⟩,by simp,?_⟩
  refine ae (fun hc=>?_) (fun hc=>?_)
  ·have hbad:lJ n w:=by
    unfold lJ
    by_cases h:1<=w/\w<=7
    ·rw[Af h.1 h.2] at hc
     simp[Bool.cond_eq_ite] at hc;omega
    ·omega
   rw[bu,nN,if_pos hbad,if_pos hbad];exact⟨rfl,rfl⟩
  ·have hw:1<=w/\w<=7/\0<=n:=hpre (by
    cases h:(bif (bif decide (w<1) then true else decide (7<w)) then true else decide (n<0)) with
    | false=>rfl
    | true=>rw[h] at hc;simp at hc)
   obtain⟨h1,h7,hn⟩:=hw
   rw[Af h1 h7] at hc
   have hgood:¬ lJ n w:=by
    unfold lJ
    simp[Bool.cond_eq_ite] at hc;omega
   rw[bu,nN,if_neg hgood,if_neg hgood]
   refine⟨by omega,⟨0,b,⟨by omega,by omega,by simp[ie]⟩,rfl,rfl,by rw[af (by omega) (by omega)];omega,rfl,trivial⟩,?_⟩
   rintro k ys ⟨k0,k1,rfl⟩
   refine ae (fun hk=>?_) (fun hk=>?_)
   ·have hk:=of_decide_eq_true hk
    rw[af (n:=8*(w-1-k)) (by omega) (by omega)]
    obtain⟨j,hj⟩:=Int.eq_ofNat_of_zero_le (show 0<=w-1-k by omega)
    rw[hj,u9 hn (by omega),IntKind.wrap_u8']
    have hbl:=Of n w.toNat k.toNat
    refine⟨by omega,by simp only[List.length_append,List.length_singleton,hbl];omega,k+1,_,⟨by omega,by omega,rfl⟩,by omega,rfl,rfl,by rw[af (by omega) (by omega)];omega,?_,trivial⟩
    rw[show (k+1).toNat=k.toNat+1 from by omega,Kc,List.append_assoc,show w.toNat-1-k.toNat=j from by omega]
   ·have hk:=of_decide_eq_false hk
    rw[show k=w from by omega];exact⟨rfl,rfl⟩
theorem T4:av Tryz.prog GL 195 K1.spec:=Ct.okH _ Tryz.func195 (by kernel_rfl) aC ar RY (aD (by kernel_rfl) QB)
def I7:Ct:=⟨[.val (.sl bj),.val cI,.val cI],[.own 5 bj],fun d=>[(d.1.length:Int)<=1099511627776],fun d=>((bu d.1 d.2.1 d.2.2.1,()),())⟩
def XT:ao I7.ps->az:=(fun _=>{})
theorem Uo :
 ∀(a:List Int)(b c:Int),(nD a)/\ab b/\ab c/\True->(cu a)<=1099511627776->(cu a)<=1099511627776/\bu a b c=bu a b c:=by
  delta cu nD
  intro b n w _ h
  exact⟨h,rfl⟩
theorem uY:av Tryz.prog GL 143 I7.spec:=Ct.okH _ Tryz.func143 (by kernel_rfl) (ai aC T4) ar XT (aD (by kernel_rfl) Uo)
def K9:Ct:=⟨[.val (.sl bj),.val cI,.val cI],[.val cI,.val cI],fun d=>[(d.1.length:Int)<=1099511627776],fun d=>((dL d.1 d.2.1 d.2.2.1,pU d.1 d.2.1 d.2.2.1,()),())⟩
def Y2:ao K9.ps->az:=(fun d=>{loops:=(fun n=>match n with|7=>some (fun S=>{ι:=Int×Int,qn:=⟨fun k_=>∀(j:Int)(n:Int),k_ (j,n),fun k_ h_ i=>h_ i.1 i.2,fun k_=>∃ (j:Int) (n:Int),k_ (j,n),fun k_ ⟨j,n,h_⟩=>⟨_,h_⟩⟩,μ:=fun i=>(d.2.2.1-i.1).toNat,inv:=fun i=>0<=i.1/\i.1<=d.2.2.1/\i.2=dG (((d.1.drop d.2.1.toNat).take d.2.2.1.toNat).take i.1.toNat),keep:=[0,1,2],slots:=fun i=>[(8,.int .i64 i.2),(9,.int .i64 i.1)],names:=fun i=>[]})|_=>none)})
theorem TE :
 ∀(a:List Int)(b c:Int),(nD a)/\ab b/\ab c/\True->(cu a)<=1099511627776-> ∀(d:Bool),d=decide (c<1)->((! d)->((! d)->(! d))/\True)/\(d=false->(! d))/\ ∀(e:Bool),(e=bif d then true else decide (7<c))->((! e)->((! e)->(! e))/\True)/\(e=false->(! e))/\ad (bif e then true else decide (b<0)) ((0:Int)=dL a b c/\(1:Int)=pU a b c) (∀(f:Bool),f=decide ((cu a)<b)->((! f)->((! f)->(! f))/\True)/\(tR f)/\(tR f)/\(f=false->(! f))/\ad (bif f then true else decide (IntKind.wrap .i64 ((cu a) -b)<c)) ((0:Int)=dL a b c/\(3:Int)=pU a b c) ((∃(g:Int) (h:Int),(0<=g/\g<=c/\h=dG (List.take g.toNat (rR a b c)))/\a=a/\b=b/\c=c/\(0:Int)=h/\(0:Int)=g/\True)/\ ∀(g h:Int),0<=g/\g<=c/\h=dG (List.take g.toNat (rR a b c))->ad (decide (g<c)) ((0:Int)<=8/\0<=IntKind.wrap .i64 (b+g)/\IntKind.wrap .i64 (b+g)<(cu a)/\ ∃(i:Int) (j:Int),(0<=i/\i<=c/\j=dG (List.take i.toNat (rR a b
 c)))/\Int.toNat (c -i)<Int.toNat (c -g)/\a=a/\b=b/\c=c/\bits BinOp.or IntKind.i64 (db IntKind.i64 h (8:Int)) (IntKind.wrap .i64 (a.getD (Int.toNat (IntKind.wrap .i64 (b+g))) default))=j/\IntKind.wrap .i64 (g+(1:Int))=i/\True) (h=dL a b c/\(0:Int)=pU a b c))):=by
  delta cu nD rR tR
  rintro b a w ⟨⟨hl0,hx⟩,⟨a0,a1⟩,⟨w0,w1⟩,-⟩ hl
  rintro b1 rfl
  refine⟨by simp,by simp,?_⟩
  rintro b1 rfl
  refine⟨by simp,by simp,?_⟩
  unfold dL pU
  refine ae (fun hc=>?_) (fun hc=>?_)
  ·have h:w<1∨7<w∨a<0:=by simp[Bool.cond_eq_ite] at hc;omega
   rw[if_pos (by omega),if_pos h];exact⟨rfl,rfl⟩
  have h:¬ (w<1∨7<w∨a<0):=by simp[Bool.cond_eq_ite] at hc;omega
  rintro b1 rfl
  refine⟨by simp,by simp,by simp,by simp,?_⟩
  rw[af (n:=(b.length:Int)-a) (by omega) (by omega),if_neg h]
  refine ae (fun hd=>?_) (fun hd=>?_)
  ·have hd:b.length<a∨b.length-a<w:=by simp[Bool.cond_eq_ite] at hd;omega
   rw[if_pos (by omega),if_pos (by omega)];exact⟨rfl,rfl⟩
  have hd:¬ (b.length<a∨b.length-a<w):=by simp[Bool.cond_eq_ite] at hd;omega
  rw[if_neg (by omega),if_neg (by omega)]
  have hlen:((b.drop a.toNat).take w.toNat).length=w.toNat:=by rw[List.length_take,List.length_drop];omega
  have hy:∀ y∈(b.drop a.toNat).take w.toNat,0<=y/\y<=255:=fun y hy=>hx y (List.mem_of_mem_drop (List.mem_of_mem_take hy))
  have hget:∀ j:Int,0<=j->j<w->b.getD (a+j).toNat default=((b.drop a.toNat).take w.toNat).getD j.toNat default:=by
   intro j j0 j1
   rw[List.getD_eq_getElem?_getD,List.getD_eq_getElem?_getD,List.getElem?_take,if_pos (by omega),List.getElem?_drop]
   congr 2;omega
  generalize (b.drop a.toNat).take w.toNat=m at *
  refine⟨⟨0,0,⟨by omega,by omega,by simp[dG]⟩,(by repeat' first|exact trivial|refine⟨trivial,?_⟩|refine⟨(by with_reducible rfl),?_⟩|refine⟨af (by omega) (by omega),?_⟩|refine⟨rfl,?_⟩)⟩,?_⟩
  rintro j n ⟨j0,j1,rfl⟩
  refine ae (fun hj=>?_) (fun hj=>?_)
  ·have hj:=of_decide_eq_true hj
   have ht:=sY (l:=m) j0 (by omega)
   obtain⟨x0,x1⟩:=hy _ (bH (xs:=m) j0 (by omega))
   have hb:=Pr (l:=m.take j.toNat) (by rw[List.length_take];omega) (fun y h=>hy y (List.mem_of_mem_take h))
   rw[af (n:=a+j) (by omega) (by omega),hget j j0 hj]
   refine⟨by omega,by omega,by omega,j+1,_,⟨by omega,by omega,rfl⟩,by omega,rfl,rfl,rfl,?_,af (by omega) (by omega),trivial⟩
   rw[ht,BU,Eu hb.1 (by omega) x0 x1]
  ·have hj:=of_decide_eq_false hj
   rw[List.take_of_length_le (by omega)];exact⟨rfl,rfl⟩
theorem So:av Tryz.prog GL 197 K9.spec:=Ct.okH _ Tryz.func197 (by kernel_rfl) aC ar Y2 (aD (by kernel_rfl) TE)
def Lg:Ct:=⟨[.val (.sl bj),.val cI,.val cI],[.val cI],fun d=>[(d.1.length:Int)<=1099511627776],fun d=>((dL d.1 d.2.1 d.2.2.1,()),())⟩
def X5:ao Lg.ps->az:=(fun _=>{})
theorem as2 :
 ∀(a:List Int)(b c:Int),(nD a)/\ab b/\ab c/\True->(cu a)<=1099511627776->(cu a)<=1099511627776/\dL a b c=dL a b c:=by
  delta cu nD
  intro b n w _ h
  exact⟨h,rfl⟩
theorem TV:av Tryz.prog GL 145 Lg.spec:=Ct.okH _ Tryz.func145 (by kernel_rfl) (ai aC So) ar X5 (aD (by kernel_rfl) as2)
def Pj:Ct:=⟨[.val cI],[.val .bool],fun d=>[],fun d=>((bQ d.1,()),())⟩
def Wn:ao Pj.ps->az:=(fun _=>{})
theorem Yc :
 ∀(a:Int),ab a/\True->True-> ∀(b:Bool),b=decide (0<=a)->(b->(b->b)/\True)/\(b->b)/\(bif b then decide (a<=65535) else false)=bQ a:=by
  rintro n - -
  (repeat (intro (b_:Bool) (hb_:b_=_);(repeat refine⟨(by first|(simp;done)|(rw[hb_];simp;done)|(rw[hb_];simp;omega)|(rw[hb_];simp;intros;omega)|(rw[hb_];simp +contextual;done)),?_⟩);subst hb_))
  unfold bQ
  by_cases h:0<=n <;> simp[h]
theorem af9:av Tryz.prog GL 237 Pj.spec:=Ct.okH _ Tryz.func237 (by kernel_rfl) aC ar Wn (aD (by kernel_rfl) Yc)
def Om:Ct:=⟨[.val cI,.val cI],[.val cI],fun d=>[],fun d=>((if bQ d.1&&bQ d.2.1 then oc (d.1+d.2.1) else 0,()),())⟩
def UQ:ao Om.ps->az:=(fun _=>{})
theorem QH :
 ∀(a b:Int),ab a/\ab b/\True->True-> ∀(c:Bool),c= ! bQ a->((! c)->((! c)->(! c))/\True)/\((! c)->((! c)->(! c))/\True)/\(c=false->(! c))/\ad (bif c then true else ! bQ b) ((0:Int)=if (bQ a&&bQ b)=true then oc (a+b) else (0:Int)) ((0:Int)<=16/\IntKind.wrap .i64 (bits BinOp.and IntKind.i64 (IntKind.wrap .i64 (a+b)) (65535:Int)+cP IntKind.i64 (IntKind.wrap .i64 (a+b)) (16:Int))=if (bQ a&&bQ b)=true then oc (a+b) else (0:Int)):=by
  rintro a b - -
  (repeat (intro (b_:Bool) (hb_:b_=_);(repeat refine⟨(by first|(simp;done)|(rw[hb_];simp;done)|(rw[hb_];simp;omega)|(rw[hb_];simp;intros;omega)|(rw[hb_];simp +contextual;done)),?_⟩);subst hb_))
  refine ae (fun hc=>?_) (fun hc=>?_)
  ·rw[if_neg]
   intro h;simp at h;simp[h] at hc
  ·have hw:bQ a=true/\bQ b=true:=by simpa[Bool.cond_eq_ite] using hc
   rw[if_pos (by simp[hw])]
   have ha:0<=a/\a<=65535:=of_decide_eq_true hw.1
   have hb:0<=b/\b<=65535:=of_decide_eq_true hw.2
   rw[af (n:=a+b) (by omega) (by omega)]
   have e:=u9 (n:=a+b) (k:=2) (by omega) (by omega)
   have e2:(8:Int)*((2:Nat):Int)=16:=rfl
   have e3:(256:Int)^2=65536:=rfl
   rw[e2,e3] at e
   rw[e,yh,af (by omega) (by omega)]
   refine⟨by omega,?_⟩
   unfold oc;split <;> omega
theorem JD:av Tryz.prog GL 196 Om.spec:=Ct.okH _ Tryz.func196 (by kernel_rfl) (ai aC af9) ar UQ (aD (by kernel_rfl) QH)
def II:Ct:=⟨[.val (.sl bj)],[.val cI],fun d=>[(d.1.length:Int)<=1099511627776],fun d=>((oc (aZ true d.1),()),())⟩
def Xz:ao II.ps->az:=(fun d=>{loops:=(fun n=>match n with|3=>some (fun S=>{ι:=Int×Int,qn:=⟨fun k_=>∀(k:Int)(s:Int),k_ (k,s),fun k_ h_ i=>h_ i.1 i.2,fun k_=>∃ (k:Int) (s:Int),k_ (k,s),fun k_ ⟨k,s,h_⟩=>⟨_,h_⟩⟩,μ:=fun i=>(d.1.length+1-2*i.1).toNat,inv:=fun i=>0<=i.1/\2*i.1<=d.1.length+1/\i.2=oc (aZ true (d.1.take (2*i.1).toNat))/\0<=i.2/\i.2<=65535,keep:=[0],slots:=fun i=>[(3,.int .i64 i.2),(4,.int .i64 (2*i.1))],names:=fun i=>[]})|_=>none)})
def Di(a:List Int)(b:Int) :=
 db IntKind.i64 (IntKind.wrap .i64 (a.getD (Int.toNat ((2:Int)*b)) default)) (8:Int)+IntKind.wrap .i64 (a.getD (Int.toNat (IntKind.wrap .i64 ((2:Int)*b+(1:Int)))) default)
def Gf(a:List Int)(d e:Int) :=
 0<=d/\(2:Int)*d<=(cu a)+(1:Int)/\e=oc (aZ true (List.take (Int.toNat ((2:Int)*d)) a))/\0<=e/\e<=65535
theorem Y3 :
 ∀(a:List Int),(qS a)/\True->(cu a)<=1099511627776->(∃(b:Int) (c:Int),(0<=b/\(2:Int)*b<=(cu a)+(1:Int)/\c=oc (aZ true (List.take (Int.toNat ((2:Int)*b)) a))/\0<=c/\c<=65535)/\a=a/\(0:Int)=c/\(0:Int)=2*b/\True)/\ ∀(b c:Int),0<=b/\(2:Int)*b<=(cu a)+(1:Int)/\c=oc (aZ true (List.take (Int.toNat ((2:Int)*b)) a))/\0<=c/\c<=65535->ad (decide ((2:Int)*b<(cu a))) ((0:Int)<=2*b/\(2:Int)*b<(cu a)/\(0:Int)<=8/\ad (decide (IntKind.wrap .i64 ((2:Int)*b+(1:Int))<(cu a))) (0<=IntKind.wrap .i64 ((2:Int)*b+(1:Int))/\IntKind.wrap .i64 ((2:Int)*b+(1:Int))<(cu a)/\ ∃(d:Int) (e:Int),(Gf a d e)/\Int.toNat ((cu a)+(1:Int) -(2:Int)*d)<Int.toNat ((cu a)+(1:Int) -(2:Int)*b)/\a=a/\(if (bQ c&&bQ (IntKind.wrap .i64 (Di a b)))=true then oc (c+IntKind.wrap .i64 (Di a b)) else (0:Int))=e/\IntKind.wrap .i64 ((2:Int)*b+(2:Int))=2*d/\True) (∃(d:Int) (e:Int),(Gf a d e)/\Int.toNat
 ((cu a)+(1:Int) -(2:Int)*d)<Int.toNat ((cu a)+(1:Int) -(2:Int)*b)/\a=a/\(if (bQ c&&bQ (db IntKind.i64 (IntKind.wrap .i64 (a.getD (Int.toNat ((2:Int)*b)) default)) (8:Int)))=true then oc (c+db IntKind.i64 (IntKind.wrap .i64 (a.getD (Int.toNat ((2:Int)*b)) default)) (8:Int)) else (0:Int))=e/\IntKind.wrap .i64 ((2:Int)*b+(2:Int))=2*d/\True)) (c=oc (aZ true a)):=by
  delta cu Di qS Gf
  rintro l ⟨⟨-,hx⟩,-⟩ hl
  refine⟨⟨0,0,⟨by omega,by omega,by simp[aZ,oc],by omega,by omega⟩,(by repeat' first|exact trivial|refine⟨trivial,?_⟩|refine⟨(by with_reducible rfl),?_⟩|refine⟨af (by omega) (by omega),?_⟩|refine⟨rfl,?_⟩)⟩,?_⟩
  rintro k s ⟨k0,k1,rfl,s0,s1⟩
  have hr:=vH true (l.take (2*k).toNat) (fun y h=>hx y (List.mem_of_mem_take h))
  refine ae (fun hk=>?_) (fun hk=>?_)
  ·have hk:=of_decide_eq_true hk
   obtain⟨x0,x1⟩:=hx _ (bH (xs:=l) (i:=2*k) (by omega) hk)
   have ht:=sY (l:=l) (j:=2*k) (by omega) hk
   have hlen:(l.take (2*k).toNat).length%2=0:=by rw[List.length_take];omega
   have hs:=yF true (l.take (2*k).toNat)
   rw[if_pos hlen] at hs
   rw[af (n:=2*k+1) (by omega) (by omega),af (n:=l.getD (2*k).toNat default) (by omega) (by omega),Ew x0 (by omega),af (n:=2*k+2) (by omega) (by omega)]
   refine⟨by omega,hk,by omega,ae (fun hc=>?_) (fun hc=>?_)⟩
   ·have hc:=of_decide_eq_true hc
    obtain⟨y0,y1⟩:=hx _ (bH (xs:=l) (i:=2*k+1) (by omega) hc)
    have ht2:=sY (l:=l) (j:=2*k+1) (by omega) hc
    rw[ht,List.append_assoc] at ht2
    rw[af (n:=l.getD (2*k+1).toNat default) (by omega) (by omega),af (n:=l.getD (2*k).toNat default*256+l.getD (2*k+1).toNat default) (by omega) (by omega)]
    rw[if_pos (by simp only[bQ,Bool.and_eq_true,decide_eq_true_eq];omega),Pi hr.1 (by omega)]
    have he:aZ true (l.take (2*(k+1)).toNat)=aZ true (l.take (2*k).toNat)+(l.getD (2*k).toNat default*256+l.getD (2*k+1).toNat default):=by
     rw[show 2*(k+1)=2*k+1+1 from by omega,ht2,hs]
     simp[aZ]
    refine⟨by omega,hc,k+1,_,⟨by omega,by omega,rfl,?_,?_⟩,by omega,rfl,by rw[he],by omega,trivial⟩
    ·rw[he];exact (sn (by omega)).1
    ·rw[he];exact (sn (by omega)).2
   ·have hc:=of_decide_eq_false hc
    rw[if_pos (by simp only[bQ,Bool.and_eq_true,decide_eq_true_eq];omega),Pi hr.1 (by omega)]
    have he:aZ true (l.take (2*(k+1)).toNat)=aZ true (l.take (2*k).toNat)+l.getD (2*k).toNat default*256:=by
     rw[show l.take (2*(k+1)).toNat=l.take (2*k+1).toNat from by rw[List.take_of_length_le (by omega),List.take_of_length_le (by omega)],ht,hs]
     simp[aZ]
    refine⟨k+1,_,⟨by omega,by omega,rfl,?_,?_⟩,by omega,rfl,by rw[he],by omega,trivial⟩
    ·rw[he];exact (sn (by omega)).1
    ·rw[he];exact (sn (by omega)).2
  ·have hk:=of_decide_eq_false hk
   rw[List.take_of_length_le (by omega)]
theorem VG:av Tryz.prog GL 236 II.spec:=Ct.okH _ Tryz.func236 (by kernel_rfl) (ai aC JD) ar Xz (aD (by kernel_rfl) Y3)
def Ki:Ct:=⟨[.val (.sl bj)],[.val cI],fun d=>[(d.1.length:Int)<=1099511627776],fun d=>((65535-oc (aZ true d.1),()),())⟩
def Xh:ao Ki.ps->az:=(fun _=>{})
theorem Zi :
 ∀(a:List Int),(Ak a):=by
  delta Ak cu qS
  rintro l ⟨⟨-,hx⟩,-⟩ hl
  have:=sn (vH true l hx).1
  exact⟨hl,af (by omega) (by omega)⟩
theorem ED:av Tryz.prog GL 192 Ki.spec:=Ct.okH _ Tryz.func192 (by kernel_rfl) (ai aC VG) ar Xh (aD (by kernel_rfl) Zi)
end Go.RS

/- Transp: messages of three protocols. -/
namespace Go.RS
open Go.SX Go.Proofs
set_option maxRecDepth 100000
set_option linter.unusedVariables false
abbrev F7:CT := .pair .bool (.pair cI (.pair cI (.sl bj)))
abbrev Vr:CT := .pair cI (.pair cI (.sl bj))
abbrev OI:CT := .pair cI (.pair cI (.sl bj))
abbrev wU:CT := .pair cI (.pair cI (.pair cI (.pair cI (.pair cI (.pair cI (.sl bj))))))
abbrev kP:Type:=Bool×Int×Int×List Int
abbrev mA:Type:=Int×Int×List Int
abbrev nP:Type:=Int×Int×List Int
abbrev jC:Type:=Int×Int×Int×Int×Int×Int×List Int
def cz(lim:Int)(l:List Int):Bool:=l.all fun n=>decide (0<=n/\n<=lim)
def w2(n:Int):List Int:=[n/256%256,n%256]
def w4(n:Int):List Int:=[n/16777216%256,n/65536%256,n/256%256,n%256]
def bV(b:List Int):Int:=65535-oc (aZ true b)
def bz(b:List Int)(at':Nat)(n:Int):List Int:=(b.set at' (n/256%256)).set (at'+1) (n%256)
def aG(b:List Int)(at':Nat):Int:=dG ((b.drop at').take 2)
def NZ:Ct:=⟨[.val cI,.box 3 cI],[.val .bool],fun _=>[],fun d=>((decide (d.1<0∨d.2.1<d.1),()),(d.2.1,()))⟩
def Y6:ao NZ.ps->az:=(fun _=>{})
theorem Uq :
 ∀(a b:Int),ab a/\ab b/\True->True-> ∀(c:Bool),c=decide (a<0)->((! c)->((! c)->(! c))/\((! c)->(! c))/\True)/\(c=false->(! c))/\(bif c then true else decide (b<a))=decide (a<0∨b<a)/\b=b:=by
  rintro n lim - -
  rintro b rfl
  refine⟨by simp,by simp,?_,rfl⟩
  rw[Bool.cond_eq_ite]
  by_cases h:n<0 <;> simp[h]
theorem as8:av Tryz.prog GL 263 NZ.spec:=Ct.okH _ Tryz.func263 (by kernel_rfl) aC ar Y6 (aD (by kernel_rfl) Uq)
def Ik:Cn:=⟨[.val (.sl cI),.fn 263 1,.box 3 cI],[.val cI],fun _=>[],fun d y=>y.2.1=d.2.2.1 ∧ -1<=y.1.1/\(y.1.1 = -1↔cz d.2.2.1 d.1=true),fun d h=>⟨((if cz d.2.2.1 d.1=true then -1 else 0,()),(d.2.2.1,())),rfl,by by_cases h:cz d.2.2.1 d.1=true <;> simp[h]⟩⟩
def T0:ao Ik.ps->az:=(fun d=>{loops:=(fun n=>match n with|2=>some (fun S=>{ι:=Int,μ:=fun i=>(d.1.length-i).toNat,inv:=fun i=>0<=i/\i<=d.1.length/\cz d.2.2.1 (d.1.take i.toNat)=true,keep:=[0,1,6,7],slots:=fun i=>[(8,.int .i64 i)],keepN:=[1048576],names:=fun i=>[]})|_=>none)})
def ct(a:List Int) :=
 (a.length:Int)
theorem Un :
 ∀(a:List Int)(b:Int),(a.length<=maxLen/\ ∀(c:Int),c∈a->ab c)/\True/\ab b/\True->True->(∃(c:Int),(0<=c/\c<=(ct a)/\cz b (List.take c.toNat a)=true)/\a=a/\a=a/\(ct a)=(ct a)/\(0:Int)=c/\b=b/\True)/\ ∀(c:Int),0<=c/\c<=(ct a)/\cz b (List.take c.toNat a)=true->ad (decide (c<(ct a))) (0<=c/\c<(ct a)/\ad (decide (a.getD c.toNat default<0∨b<a.getD c.toNat default)) (b=b/\ -1<=c/\(c= -1↔cz b a=true)) (∃(d:Int),(0<=d/\d<=(ct a)/\cz b (List.take d.toNat a)=true)/\Int.toNat ((ct a) -d)<Int.toNat ((ct a) -c)/\a=a/\a=a/\(ct a)=(ct a)/\IntKind.wrap .i64 (c+(1:Int))=d/\b=b/\True)) (b=b/\(-1:Int)<= -1/\((-1:Int)= -1↔cz b a=true)):=by
  delta ct
  rintro l lim ⟨⟨hl,-⟩,-⟩ -
  simp only[maxLen] at hl
  refine⟨⟨0,⟨by omega,by omega,by simp[cz]⟩,(by repeat' first|exact trivial|refine⟨trivial,?_⟩|refine⟨(by with_reducible rfl),?_⟩|refine⟨af (by omega) (by omega),?_⟩|refine⟨rfl,?_⟩)⟩,?_⟩
  rintro j ⟨j0,j1,j2⟩
  refine ae (fun hj=>?_) (fun hj=>?_)
  ·have hj:=of_decide_eq_true hj
   have ht:=sY j0 hj
   have hm:=bH (xs:=l) j0 hj
   generalize l.getD j.toNat default=x at *
   refine⟨j0,hj,ae (fun hb=>?_) (fun hb=>?_)⟩
   ·have hb:=of_decide_eq_true hb
    refine⟨rfl,by omega,⟨fun h=>by omega,fun h=>?_⟩⟩
    unfold cz at h
    have:=of_decide_eq_true (List.all_eq_true.1 h x hm)
    omega
   ·have hb:=of_decide_eq_false hb
    refine⟨j+1,⟨by omega,by omega,?_⟩,by omega,(by repeat' first|exact trivial|refine⟨trivial,?_⟩|refine⟨(by with_reducible rfl),?_⟩|refine⟨af (by omega) (by omega),?_⟩|refine⟨rfl,?_⟩)⟩
    rw[ht];unfold cz at j2 ⊢
    rw[List.all_append,j2];simp;omega
  ·have hj:=of_decide_eq_false hj
   rw[List.take_of_length_le (by omega)] at j2
   simp[j2]
theorem Td:av Tryz.prog GL 282 Ik.spec:=Cn.okH _ Tryz.func282 (by kernel_rfl) (ai aC as8) ar T0 (aD (by kernel_rfl) Un)
def OQ:Ct:=⟨[.val (.sl cI),.fn 263 1,.box 3 cI],[.val .bool],fun _=>[],fun d=>((!cz d.2.2.1 d.1,()),(d.2.2.1,()))⟩
def ZS:ao OQ.ps->az:=(fun _=>{})
theorem Yd :
 ∀(a:List Int)(b:Int),(a.length<=maxLen/\ ∀(c:Int),c∈a->ab c)/\True/\ab b/\True->True-> ∀(c d:Int),d=b/\ -1<=c/\(c= -1↔cz b a=true)->decide (0<=c)= ! cz b a/\d=b:=by
  rintro l lim - - i b ⟨rfl,h1,h2⟩
  refine⟨?_,rfl⟩
  cases h:cz b l with
  | true=>rw[h2.2 h];rfl
  | false =>
   have:¬ i = -1:=fun e=>by rw[h2.1 e] at h;cases h
   simp;omega
theorem Rp:av Tryz.prog GL 262 OQ.spec:=Ct.okH _ Tryz.func262 (by kernel_rfl) (ai aC Td) ar ZS (aD (by kernel_rfl) Yd)
def Ou:Ct:=⟨[.val cI,.val (.sl cI)],[.val .bool],fun _=>[],fun d=>((cz d.1 d.2.1,()),())⟩
def TT:ao Ou.ps->az:=(fun _=>{})
theorem PJ :
 ∀(a:Int)(b:List Int),ab a/\(b.length<=maxLen/\ ∀(c:Int),c∈b->ab c)/\True->True->(!! cz a b)=cz a b:=by
  rintro lim l - -
  simp
theorem AC:av Tryz.prog GL 241 Ou.spec:=Ct.okH _ Tryz.func241 (by kernel_rfl) (ai aC Rp) ar TT (aD (by kernel_rfl) PJ)
theorem an1(l:List Int):(l.flatMap w2).length=2*l.length:=by
 induction l with
 | nil=>rfl
 | cons x l ih=>rw[List.flatMap_cons,List.length_append,ih,List.length_cons];simp[w2];omega
theorem ah3(n:Int):ie n 2 2=w2 n:=by
 simp[ie,w2,List.range,List.range.loop]
theorem R5(n:Int):ie n 4 4=w4 n:=by
 simp[ie,w4,List.range,List.range.loop]
theorem P3(n:Int):ie n 1 1=[n%256]:=by
 simp[ie,List.range,List.range.loop]
theorem gM{b:List Int}{n:Int}(h0:0<=n)(h1:n<=65535):bu b n 2=b++w2 n:=by
 rw[bu,if_neg,← ah3]
 ·rfl
 ·unfold lJ
  have:(256:Int)^(2:Int).toNat=65536:=rfl
  rw[this];omega
theorem rM{b:List Int}{n:Int}(h0:0<=n)(h1:n<=4294967295):bu b n 4=b++w4 n:=by
 rw[bu,if_neg,← R5]
 ·rfl
 ·unfold lJ
  have:(256:Int)^(4:Int).toNat=4294967296:=rfl
  rw[this];omega
theorem pm{b:List Int}{n:Int}(h0:0<=n)(h1:n<=255):bu b n 1=b++[n]:=by
 rw[bu,if_neg,show ie n (1:Int).toNat (1:Int).toNat=[n] from by
  have:=P3 n
  rw[Int.emod_eq_of_lt h0 (by omega)] at this
  exact this]
 unfold lJ
 have:(256:Int)^(1:Int).toNat=256:=rfl
 rw[this];omega
def OR:Ct:=⟨[.nils,.val (.sl cI)],[.own 5 bj],fun d=>[cz 65535 d.2.1=true,(d.2.1.length:Int)<=1073741824],fun d=>((d.2.1.flatMap w2,()),())⟩
def ZV:ao OR.ps->az:=(fun d=>{loops:=(fun n=>match n with|2=>some (fun S=>{ι:=Int×(List Int),qn:=⟨fun k_=>∀(j:Int)(ys:(List Int)),k_ (j,ys),fun k_ h_ i=>h_ i.1 i.2,fun k_=>∃ (j:Int) (ys:(List Int)),k_ (j,ys),fun k_ ⟨j,ys,h_⟩=>⟨_,h_⟩⟩,μ:=fun i=>(d.2.1.length-i.1).toNat,inv:=fun i=>0<=i.1/\i.1<=d.2.1.length/\i.2=(d.2.1.take i.1.toNat).flatMap w2,keep:=[7,8],slots:=fun i=>[(0,.own 524288 1),(9,.int .i64 i.1)],names:=fun i=>[(524288,.live (.row 5 bj i.2))]})|_=>none)})
theorem Qi :
 ∀(a:List Int),True/\(a.length<=maxLen/\ ∀(b:Int),b∈a->ab b)/\True->cz (65535:Int) a=true/\(ct a)<=1073741824->(∃(b:Int) (c:List Int),(0<=b/\b<=(ct a)/\c=List.flatMap w2 (List.take b.toNat a))/\a=a/\(ct a)=(ct a)/\(0:Int)=b/\c=([]:List Int)/\True)/\ ∀(b:Int)(c:List Int),0<=b/\b<=(ct a)/\c=List.flatMap w2 (List.take b.toNat a)->ad (decide (b<(ct a))) (0<=b/\b<(ct a)/\(c.length:Int)<=1099511627776/\ ∃(d:Int) (e:List Int),(0<=d/\d<=(ct a)/\e=List.flatMap w2 (List.take d.toNat a))/\Int.toNat ((ct a) -d)<Int.toNat ((ct a) -b)/\a=a/\(ct a)=(ct a)/\IntKind.wrap .i64 (b+(1:Int))=d/\bu c (a.getD b.toNat default) (2:Int)=e/\True) (c=List.flatMap w2 a):=by
  delta ct
  rintro l ⟨-,⟨hl,-⟩,-⟩⟨ha,hk⟩
  refine⟨⟨0,[],⟨by omega,by omega,by simp⟩,(by repeat' first|exact trivial|refine⟨trivial,?_⟩|refine⟨(by with_reducible rfl),?_⟩|refine⟨af (by omega) (by omega),?_⟩|refine⟨rfl,?_⟩)⟩,?_⟩
  rintro j ys ⟨j0,j1,rfl⟩
  refine ae (fun hj=>?_) (fun hj=>?_)
  ·have hj:=of_decide_eq_true hj
   have ht:=sY j0 hj
   have hm:=bH (xs:=l) j0 hj
   have hlen:((l.take j.toNat).flatMap w2).length=2*j.toNat:=by
    rw[an1,List.length_take];omega
   generalize l.getD j.toNat default=x at *
   have hx:=of_decide_eq_true (List.all_eq_true.1 ha x hm)
   refine⟨j0,hj,by omega,j+1,_,⟨by omega,by omega,rfl⟩,by omega,rfl,rfl,af (by omega) (by omega),?_,trivial⟩
   rw[ht,List.flatMap_append,gM hx.1 hx.2];simp
  ·have hj:=of_decide_eq_false hj
   rw[List.take_of_length_le (by omega)]
theorem zc:av Tryz.prog GL 242 OR.spec:=Ct.okH _ Tryz.func242 (by kernel_rfl) (ai aC O2) ar ZV (aD (by kernel_rfl) Qi)
def Mw:Ct:=⟨[.val (.sl bj),.val cI],[.val cI],fun d=>[0<=d.2.1,d.2.1+2<=d.1.length,(d.1.length:Int)<=1099511627776],fun d=>((aG d.1 d.2.1.toNat,()),())⟩
def ak9:ao Mw.ps->az:=(fun _=>{})
theorem VT :
 ∀(a:List Int)(b:Int),(a.length<=maxLen/\ ∀(c:Int),c∈a->0<=c/\c<=255)/\ab b/\True->0<=b/\b+2<=(ct a)/\(ct a)<=1099511627776->(ct a)<=1099511627776/\dL a b (2:Int)=aG a b.toNat:=by
  delta ct
  rintro b a-⟨h0,h1,h2⟩
  refine⟨h2,?_⟩
  rw[dL,if_neg (by omega)];rfl
theorem BG:av Tryz.prog GL 211 Mw.spec:=Ct.okH _ Tryz.func211 (by kernel_rfl) (ai aC Fz) ar ak9 (aD (by kernel_rfl) VT)
theorem Es{n:Int}(h0:0<=n):cP .i64 n 8=n/256:=by
 have e:=u9 (n:=n) (k:=1) h0 (by omega)
 exact e
def NU:Ct:=⟨[.val (.sl bj),.val cI,.val cI],[.own 5 bj],fun d=>[0<=d.2.1,d.2.1+2<=d.1.length,(d.1.length:Int)<=1099511627776,0<=d.2.2.1,d.2.2.1<=65535],fun d=>((bz d.1 d.2.1.toNat d.2.2.1,()),())⟩
def as1:ao NU.ps->az:=(fun _=>{})
def Bp(a:List Int)(b c:Int) :=
 (0:Int)<=8/\0<=b/\b<(ct a)/\0<=IntKind.wrap .i64 (b+(1:Int))/\IntKind.wrap .i64 (b+(1:Int))<((List.length (List.set a b.toNat (IntKind.wrap .u8 (cP IntKind.i64 c (8:Int))))):Int)/\List.set (List.set a b.toNat (IntKind.wrap .u8 (cP IntKind.i64 c (8:Int)))) (Int.toNat (IntKind.wrap .i64 (b+(1:Int)))) (IntKind.wrap .u8 c)=bz a b.toNat c
theorem ZA :
 ∀(a:List Int)(b c:Int),(a.length<=maxLen/\ ∀(d:Int),d∈a->0<=d/\d<=255)/\ab b/\ab c/\True->0<=b/\b+2<=(ct a)/\(ct a)<=1099511627776/\0<=c/\c<=65535->(ct a)<=1099511627776/\(Bp a b c):=by
  delta Bp ct
  rintro b a n-⟨h0,h1,h2,n0,n1⟩
  rw[af (n:=a+1) (by omega) (by omega),Es n0,IntKind.wrap_u8',IntKind.wrap_u8',List.length_set]
  refine⟨by omega,by omega,by omega,by omega,by omega,by omega,?_⟩
  rw[bz,show (a+1).toNat=a.toNat+1 from by omega]
theorem Jn:av Tryz.prog GL 240 NU.spec:=Ct.okH _ Tryz.func240 (by kernel_rfl) (ai aC pE) ar as1 (aD (by kernel_rfl) ZA)
def JA:Ct:=⟨[.val (.sl bj),.val cI,.val cI],[.own 5 bj,.val cI],fun d=>[0<=d.2.1,d.2.1+2<=d.1.length,(d.1.length:Int)<=1099511627776,0<=d.2.2.1,d.2.2.1<=65535],fun d=>((if (1480:Int)<d.1.length then [] else bz d.1 d.2.1.toNat d.2.2.1,if (1480:Int)<d.1.length then 5 else 0,()),())⟩
def Ra:ao JA.ps->az:=(fun _=>{})
theorem Yh :
 ∀(a:List Int)(b c:Int),(a.length<=maxLen/\ ∀(d:Int),d∈a->0<=d/\d<=255)/\ab b/\ab c/\True->0<=b/\b+2<=(ct a)/\(ct a)<=1099511627776/\0<=c/\c<=65535->ad (decide (1480<(ct a))) ((([]:List Int)=if 1480<(ct a) then ([]:List Int) else bz a b.toNat c)/\(5:Int)=if 1480<(ct a) then (5:Int) else (0:Int)) (0<=b/\b+2<=(ct a)/\(ct a)<=1099511627776/\0<=c/\c<=65535/\(bz a b.toNat c=if 1480<(ct a) then ([]:List Int) else bz a b.toNat c)/\(0:Int)=if 1480<(ct a) then (5:Int) else (0:Int)):=by
  delta ct
  rintro b a n-⟨h0,h1,h2,n0,n1⟩
  refine ae (fun hb=>?_) (fun hb=>?_)
  ·have hb:=of_decide_eq_true hb
   rw[if_pos hb,if_pos hb];exact⟨rfl,rfl⟩
  ·have hb:=of_decide_eq_false hb
   rw[if_neg hb,if_neg hb];exact⟨h0,h1,h2,n0,n1,rfl,rfl⟩
theorem CP:av Tryz.prog GL 283 JA.spec:=Ct.okH _ Tryz.func283 (by kernel_rfl) (ai aC Jn) ar Ra (aD (by kernel_rfl) Yh)
def Ju:Ct:=⟨[.val (.sl bj),.val cI],[.own 5 bj,.val cI],fun d=>[0<=d.2.1,d.2.1+2<=d.1.length,(d.1.length:Int)<=1099511627776],fun d=>((bz d.1 d.2.1.toNat 0,aG d.1 d.2.1.toNat,()),())⟩
def Rc:ao Ju.ps->az:=(fun _=>{})
theorem ad4 :
 ∀(a:List Int)(b:Int),(a.length<=maxLen/\ ∀(c:Int),c∈a->0<=c/\c<=255)/\ab b/\True->0<=b/\b+2<=(ct a)/\(ct a)<=1099511627776->0<=b/\b+2<=(ct a)/\(ct a)<=1099511627776/\(0:Int)<=0/\(0:Int)<=65535/\0<=b/\b+2<=(ct a)/\(ct a)<=1099511627776/\bz a b.toNat (0:Int)=bz a b.toNat (0:Int)/\aG a b.toNat=aG a b.toNat:=by
  delta ct
  rintro b a-⟨h0,h1,h2⟩
  exact⟨h0,h1,h2,by omega,by omega,h0,h1,h2,rfl,rfl⟩
theorem EG:av Tryz.prog GL 210 Ju.spec:=Ct.okH _ Tryz.func210 (by kernel_rfl) (ai (ai aC Jn) BG) ar Rc (aD (by kernel_rfl) ad4)
def Lk:Ct:=⟨[.val (.sl bj),.val cI,.val cI],[.own 5 bj],fun d=>[0<=d.2.1,d.2.1+2<=d.1.length,(d.1.length:Int)<=1099511627776,0<=d.2.2.1,d.2.2.1<=65535],fun d=>((bz d.1 d.2.1.toNat d.2.2.1,()),())⟩
def aa2:ao Lk.ps->az:=(fun _=>{})
def jj :=
 (140737488355328:Nat)
theorem ZZ :
 ∀(a:List Int)(b c:Int),(a.length<=maxLen/\ ∀(d:Int),d∈a->0<=d/\d<=255)/\ab b/\ab c/\True->0<=b/\b+2<=(ct a)/\(ct a)<=1099511627776/\0<=c/\c<=65535->a.length*(1:Nat)<=(jj)/\(Bp a b c):=by
  delta Bp ct jj
  rintro b a n-⟨h0,h1,h2,n0,n1⟩
  rw[af (n:=a+1) (by omega) (by omega),Es n0,IntKind.wrap_u8',IntKind.wrap_u8',List.length_set]
  refine⟨by omega,by omega,by omega,by omega,by omega,by omega,?_⟩
  rw[bz,show (a+1).toNat=a.toNat+1 from by omega]
theorem CO:av Tryz.prog GL 194 Lk.spec:=Ct.okH _ Tryz.func194 (by kernel_rfl) aC ar aa2 (aD (by kernel_rfl) ZZ)
def Kp:Ct:=⟨[.val cI],[.val .bool],fun d=>[],fun d=>((bQ d.1,()),())⟩
def RA:ao Kp.ps->az:=(fun _=>{})
theorem Q9 :
 ∀(a:Int),ab a/\True->True-> ∀(b:Bool),b=decide (0<=a)->(b->(b->b)/\True)/\(b->b)/\(bif b then decide (a<=65535) else false)=bQ a:=by
  rintro n - -
  (repeat (intro (b_:Bool) (hb_:b_=_);(repeat refine⟨(by first|(simp;done)|(rw[hb_];simp;done)|(rw[hb_];simp;omega)|(rw[hb_];simp;intros;omega)|(rw[hb_];simp +contextual;done)),?_⟩);subst hb_))
  unfold bQ
  by_cases h:0<=n <;> simp[h] <;> omega
theorem FN:av Tryz.prog GL 193 Kp.spec:=Ct.okH _ Tryz.func193 (by kernel_rfl) aC ar RA (aD (by kernel_rfl) Q9)
def J9:Ct:=⟨[.val cI],[.val .bool],fun d=>[],fun d=>((decide (0<=d.1/\d.1<=255),()),())⟩
def UV:ao J9.ps->az:=(fun _=>{})
theorem Qo :
 ∀(a:Int),ab a/\True->True-> ∀(b:Bool),b=decide (0<=a)->(b->(b->b)/\True)/\(b->b)/\(bif b then decide (a<=255) else false)=decide (0<=a/\a<=255):=by
  rintro n - -
  (repeat (intro (b_:Bool) (hb_:b_=_);(repeat refine⟨(by first|(simp;done)|(rw[hb_];simp;done)|(rw[hb_];simp;omega)|(rw[hb_];simp;intros;omega)|(rw[hb_];simp +contextual;done)),?_⟩);subst hb_))
  by_cases h:0<=n <;> simp[h] <;> omega
theorem JZ:av Tryz.prog GL 198 J9.spec:=Ct.okH _ Tryz.func198 (by kernel_rfl) aC ar UV (aD (by kernel_rfl) Qo)
def OC:Ct:=⟨[.val cI],[.val .bool],fun d=>[],fun d=>((decide (0<=d.1/\d.1<=4294967295),()),())⟩
def UW:ao OC.ps->az:=(fun _=>{})
theorem Zr :
 ∀(a:Int),ab a/\True->True-> ∀(b:Bool),b=decide (0<=a)->(b->(b->b)/\True)/\(b->b)/\(bif b then decide (a<4294967296) else false)=decide (0<=a/\a<=4294967295):=by
  rintro n - -
  (repeat (intro (b_:Bool) (hb_:b_=_);(repeat refine⟨(by first|(simp;done)|(rw[hb_];simp;done)|(rw[hb_];simp;omega)|(rw[hb_];simp;intros;omega)|(rw[hb_];simp +contextual;done)),?_⟩);subst hb_))
  by_cases h:0<=n <;> simp[h] <;> omega
theorem Sj:av Tryz.prog GL 199 OC.spec:=Ct.okH _ Tryz.func199 (by kernel_rfl) aC ar UW (aD (by kernel_rfl) Zr)
def hY(e:kP):Int:=if ¬ (bQ e.2.1=true/\bQ e.2.2.1=true) then 1 else if (1472:Int)<e.2.2.2.length then 5 else 0
def bG(e:kP):List Int:=[if e.1 then 0 else 8,0,0,0]++(w2 e.2.1++(w2 e.2.2.1++e.2.2.2))
def dh(e:kP):List Int:=if hY e=0 then bz (bG e) 2 (bV (bG e)) else []
def gw(n:mA):Int:=if ¬ ((n.1=3∨n.1=11)/\0<=n.2.1/\n.2.1<=255) then 1 else if (n.2.2.length:Int)<28 then 3 else if (1472:Int)<n.2.2.length then 5 else 0
def jZ(n:mA):List Int:=[n.1,n.2.1,0,0,0,0,0,0]++n.2.2
def fL(n:mA):List Int:=if gw n=0 then bz (jZ n) 2 (bV (jZ n)) else []
def sP(src dst proto:Int)(b:List Int):List Int:=w4 src++(w4 dst++(w2 proto++(w2 b.length++b)))
def dr(src dst proto:Int)(b:List Int):Int:=if ¬ (0<=proto/\proto<=255)∨(65535:Int)<b.length then 0 else bV (sP src dst proto b)
def iO(src dst:Int)(b:List Int):Int:=if dr src dst 17 b=0 then 65535 else dr src dst 17 b
def kK(u:nP):Int:=if ¬ (bQ u.1=true/\bQ u.2.1=true) then 1 else if (1472:Int)<u.2.2.length then 5 else 0
def da(u:nP):List Int:=w2 u.1++(w2 u.2.1++(w2 (8+u.2.2.length)++([0,0]++u.2.2)))
def jN(src dst:Int)(u:nP):List Int:=if kK u=0 then bz (da u) 6 (iO src dst (da u)) else []
def me(s:jC):Prop:=bQ s.1=true/\bQ s.2.1=true/\(0<=s.2.2.1/\s.2.2.1<=4294967295)/\(0<=s.2.2.2.1/\s.2.2.2.1<=4294967295)/\(0<=s.2.2.2.2.1/\s.2.2.2.2.1<=255)/\bQ s.2.2.2.2.2.1=true
instance (s:jC):Decidable (me s):=by unfold me;infer_instance
def iS(s:jC):Int:=if ¬ me s then 1 else if (1460:Int)<s.2.2.2.2.2.2.length then 5 else 0
def iy(s:jC):List Int:=w2 s.1++(w2 s.2.1++(w4 s.2.2.1++(w4 s.2.2.2.1++([80,s.2.2.2.2.1]++(w2 s.2.2.2.2.2.1++([0,0,0,0]++s.2.2.2.2.2.2))))))
def de(src dst:Int)(s:jC):List Int:=if iS s=0 then bz (iy s) 16 (dr src dst 6 (iy s)) else []
def bytes(l:List Int):Prop:=∀ x∈l,0<=x/\x<=255
theorem fP{a b:List Int}(ha:bytes a)(hb:bytes b):bytes (a++b):=fun x h=>(List.mem_append.1 h).elim (ha x) (hb x)
theorem jy(n:Int):bytes (w2 n):=by intro x h;simp[w2] at h;omega
theorem uH(n:Int):bytes (w4 n):=by intro x h;simp[w4] at h;omega
theorem j4{a:Int}{l:List Int}(h0:0<=a)(h1:a<=255)(h:bytes l):bytes (a::l):=by
 intro x hx
 rcases List.mem_cons.1 hx with rfl|hx
 ·exact⟨h0,h1⟩
 ·exact h x hx
theorem kM:bytes []:=by intro x h;cases h
theorem mQ{b:List Int}(h:bytes b):0<=bV b/\bV b<=65535:=by
 have:=sn (vH true b h).1
 unfold bV;omega
theorem zZ{p data B enc:List Int}{a c err:Int}(hp:p++data=B)(ha:0<=a)(h8:a+2<=p.length)(hp1:p.length<=100)(hd:(data.length:Int)<=1073741824)(c0:0<=c)(c1:c<=65535)
  (he:enc=if (1480:Int)<B.length then [] else bz B a.toNat c) (hr:err=if (1480:Int)<B.length then 5 else 0) :
  0<=a/\a+2<=((p++data).length:Int)/\((p++data).length:Int)<=1099511627776/\0<=c/\c<=65535/\(if (1480:Int)<((p++data).length:Int) then [] else bz (p++data) a.toNat c)=enc/\(if (1480:Int)<((p++data).length:Int) then (5:Int) else 0)=err:=by
 have hl:(p++data).length=p.length+data.length:=List.length_append
 rw[hp] at hl ⊢
 exact⟨ha,by omega,by omega,c0,c1,he.symm,hr.symm⟩
theorem lv{p data:List Int}(hp1:p.length<=100)(hd:(data.length:Int)<=1073741824):(p.length+data.length)*1<=140737488355328/\((p++data).length:Int)<=1099511627776:=by
 rw[List.length_append];omega
theorem Ae(lim a b:Int):cz lim [a,b]=true↔(0<=a/\a<=lim)/\0<=b/\b<=lim:=by simp[cz]
theorem sR(lim a:Int):cz lim [a]=true↔0<=a/\a<=lim:=by simp[cz]
theorem gm(n:Int):bQ n=true↔0<=n/\n<=65535:=by simp[bQ]
theorem yL(e:kP):(bG e).length=8+e.2.2.2.length:=by simp[bG,w2];omega
theorem KX{e:kP}(h:¬ (bQ e.2.1=true/\bQ e.2.2.1=true)):[]=dh e/\1=hY e:=by
 have:hY e=1:=by rw[hY,if_pos h]
 rw[dh,this];simp
theorem Io{e:kP}(h:bQ e.2.1=true/\bQ e.2.2.1=true):(dh e=if (1480:Int)<(bG e).length then [] else bz (bG e) 2 (bV (bG e)))/\hY e=if (1480:Int)<(bG e).length then 5 else 0:=by
 have hl:=yL e
 have he:hY e=if (1480:Int)<(bG e).length then 5 else 0:=by
  rw[hY,if_neg (fun k=>k h)]
  by_cases hd:(1472:Int)<e.2.2.2.length
  ·rw[if_pos hd,if_pos (by omega)]
  ·rw[if_neg hd,if_neg (by omega)]
 refine⟨?_,he⟩
 rw[dh,he]
 by_cases hd:(1480:Int)<(bG e).length
 ·rw[if_pos hd,if_pos hd];rfl
 ·rw[if_neg hd,if_neg hd];rfl
theorem sO{e:kP}(h:bytes e.2.2.2):bytes (bG e):=by
 refine fP (j4 ?_ ?_ (j4 (by omega) (by omega) (j4 (by omega) (by omega) (j4 (by omega) (by omega) kM)))) (fP (jy _) (fP (jy _) h))
 ·split <;> omega
 ·split <;> omega
theorem Km(n:Int)(r:List Int):w2 (n/65536)++(w2 (n%65536)++r)=w4 n++r:=by
 unfold w2 w4
 simp only[List.cons_append,List.nil_append]
 have e1:n/65536/256%256=n/16777216%256:=by omega
 have e2:n%65536/256%256=n/256%256:=by omega
 have e3:n%65536%256=n%256:=by omega
 rw[e1,e2,e3]
theorem AD{t k:Int}(t0:0<=t)(t1:t<=255)(k0:0<=k)(k1:k<=255):w2 (t*256+k)=[t,k]:=by
 unfold w2
 have e1:(t*256+k)/256%256=t:=by omega
 have e2:(t*256+k)%256=k:=by omega
 rw[e1,e2]
theorem G4{n x:Int}(h0:0<=n)(h1:n<=65535)(h2:0<=x)(h3:x<=255):bits .or .i64 (db .i64 n 8) x=n*256+x:=by
 have:=Eu h0 (by omega) h2 h3
 rwa [af (n:=x) (by omega) (by omega)] at this
theorem Hp{n:Int}(h0:0<=n):cP .i64 n 16=n/65536:=by
 have e:=u9 (n:=n) (k:=2) h0 (by omega)
 exact e
theorem Ph{n:Int}(h0:0<=n)(h1:n<=4294967295):IntKind.wrap .i64 (cP .u32 n 16)=n/65536:=by
 have:cP .u32 n 16=n/65536:=by
  unfold cP
  rw[Int.fdiv_eq_ediv_of_nonneg _ (by decide)]
  rfl
 rw[this,af (by omega) (by omega)]
theorem Mq{n:Int}(h0:0<=n)(h1:n<=4294967295):IntKind.wrap .i64 (bits .and .u32 n 65535)=n%65536:=by
 rw[u32_and n 65535 h0 (by omega) (by decide) (by decide)]
 have:(n.toNat &&& Int.toNat 65535)=n.toNat%65536:=Nat.and_two_pow_sub_one_eq_mod n.toNat 16
 rw[this,af (by omega) (by omega)];omega
theorem Fo(e:mA):(jZ e).length=8+e.2.2.length:=by simp[jZ];omega
theorem Kk{e:mA}(h:¬ ((e.1=3∨e.1=11)/\0<=e.2.1/\e.2.1<=255)):[]=fL e/\1=gw e:=by
 have:gw e=1:=by rw[gw,if_pos h]
 rw[fL,this];simp
theorem am8{e:mA}(h:(e.1=3∨e.1=11)/\0<=e.2.1/\e.2.1<=255)(h2:(e.2.2.length:Int)<28):[]=fL e/\3=gw e:=by
 have:gw e=3:=by rw[gw,if_neg (fun k=>k h),if_pos h2]
 rw[fL,this];simp
theorem Wr{e:mA}(h:(e.1=3∨e.1=11)/\0<=e.2.1/\e.2.1<=255)(h2:¬ (e.2.2.length:Int)<28):(fL e=if (1480:Int)<(jZ e).length then [] else bz (jZ e) 2 (bV (jZ e)))/\gw e=if (1480:Int)<(jZ e).length then 5 else 0:=by
 have hl:=Fo e
 have he:gw e=if (1480:Int)<(jZ e).length then 5 else 0:=by
  rw[gw,if_neg (fun k=>k h),if_neg h2]
  by_cases hd:(1472:Int)<e.2.2.length
  ·rw[if_pos hd,if_pos (by omega)]
  ·rw[if_neg hd,if_neg (by omega)]
 refine⟨?_,he⟩
 rw[fL,he]
 by_cases hd:(1480:Int)<(jZ e).length
 ·rw[if_pos hd,if_pos hd];rfl
 ·rw[if_neg hd,if_neg hd];rfl
theorem Dr{e:mA}(h:(e.1=3∨e.1=11)/\0<=e.2.1/\e.2.1<=255)(hd:bytes e.2.2):bytes (jZ e):=by
 refine fP (j4 (by omega) (by omega) (j4 h.2.1 h.2.2 ?_)) hd
 intro x hx;simp at hx;omega
theorem Ia(e:nP):(da e).length=8+e.2.2.length:=by simp[da,w2];omega
theorem Wa{a b:Int}{e:nP}(h:¬ (bQ e.1=true/\bQ e.2.1=true)):[]=jN a b e/\1=kK e:=by
 have:kK e=1:=by rw[kK,if_pos h]
 rw[jN,this];simp
theorem V0{a b:Int}{e:nP}(h:bQ e.1=true/\bQ e.2.1=true):(jN a b e=if (1480:Int)<(da e).length then [] else bz (da e) 6 (iO a b (da e)))/\kK e=if (1480:Int)<(da e).length then 5 else 0:=by
 have hl:=Ia e
 have he:kK e=if (1480:Int)<(da e).length then 5 else 0:=by
  rw[kK,if_neg (fun k=>k h)]
  by_cases hd:(1472:Int)<e.2.2.length
  ·rw[if_pos hd,if_pos (by omega)]
  ·rw[if_neg hd,if_neg (by omega)]
 refine⟨?_,he⟩
 rw[jN,he]
 by_cases hd:(1480:Int)<(da e).length
 ·rw[if_pos hd,if_pos hd];rfl
 ·rw[if_neg hd,if_neg hd];rfl
theorem xd{e:nP}(h:bytes e.2.2):bytes (da e) :=
 fP (jy _) (fP (jy _) (fP (jy _) (fP (j4 (by omega) (by omega) (j4 (by omega) (by omega) kM)) h)))
theorem vX(e:jC):(iy e).length=20+e.2.2.2.2.2.2.length:=by simp[iy,w2,w4];omega
theorem Bb{a b:Int}{e:jC}(h:¬ me e):[]=de a b e/\1=iS e:=by
 have:iS e=1:=by rw[iS,if_pos h]
 rw[de,this];simp
theorem HX{a b:Int}{e:jC}(h:me e):(de a b e=if (1480:Int)<(iy e).length then [] else bz (iy e) 16 (dr a b 6 (iy e)))/\iS e=if (1480:Int)<(iy e).length then 5 else 0:=by
 have hl:=vX e
 have he:iS e=if (1480:Int)<(iy e).length then 5 else 0:=by
  rw[iS,if_neg (fun k=>k h)]
  by_cases hd:(1460:Int)<e.2.2.2.2.2.2.length
  ·rw[if_pos hd,if_pos (by omega)]
  ·rw[if_neg hd,if_neg (by omega)]
 refine⟨?_,he⟩
 rw[de,he]
 by_cases hd:(1480:Int)<(iy e).length
 ·rw[if_pos hd,if_pos hd];rfl
 ·rw[if_neg hd,if_neg hd];rfl
theorem vz{e:jC}(h:me e)(hd:bytes e.2.2.2.2.2.2):bytes (iy e):=by
 obtain⟨-,-,-,-,hf,-⟩:=h
 refine fP (jy _) (fP (jy _) (fP (uH _) (fP (uH _) (fP (j4 (by omega) (by omega) (j4 hf.1 hf.2 kM)) (fP (jy _) (fP ?_ hd))))))
 intro x hx;simp at hx;omega
theorem ZI{a b p:Int}{l:List Int}(h:bytes l):bytes (sP a b p l):=fP (uH _) (fP (uH _) (fP (jy _) (fP (jy _) h)))
theorem wc{a b p:Int}{l:List Int}(h:bytes l):0<=dr a b p l/\dr a b p l<=65535:=by
 unfold dr;split
 ·omega
 ·exact mQ (ZI h)
theorem GZ{a b:Int}{l:List Int}(h:bytes l):0<=iO a b l/\iO a b l<=65535:=by
 have:=wc (a:=a) (b:=b) (p:=17) h
 unfold iO;split <;> omega
theorem zf{err n:Int}(h:err=if (1480:Int)<n then 5 else 0)(hn:¬ (1480:Int)<n):0=err:=by rw[h,if_neg hn]
def JL:Ct:=⟨[.agg F7],[.own 5 bj,.val cI],fun d=>[(d.1.2.2.2.length:Int)<=1073741824],fun d=>((dh d.1,hY d.1,()),())⟩
def Vt:ao JL.ps->az:=(fun _=>{})
def EL(a:Bool)(b c:Int)(d e:List Int) :=
 (e.length+d.length)*(1:Nat)<=(jj)/\((List.length (e++d)):Int)<=1099511627776/\ ∀(f:Int),f=65535 -oc (aZ true (e++d))->(0:Int)<=2/\(2:Int)+2<=((List.length (e++d)):Int)/\((List.length (e++d)):Int)<=1099511627776/\0<=f/\f<=65535/\(if 1480<((List.length (e++d)):Int) then ([]:List Int) else bz (e++d) (Int.toNat (2:Int)) f)=dh (a,b,c,d)/\(if 1480<((List.length (e++d)):Int) then (5:Int) else (0:Int))=hY (a,b,c,d)
def sr(d:List Int) :=
 d.length<=maxLen/\ ∀(e:Int),e∈d->0<=e/\e<=255
theorem QV :
 ∀(a:Bool)(b c:Int)(d:List Int),(True/\ab b/\ab c/\(sr d))/\True->(d.length:Int)<=1073741824->ad (! cz (65535:Int) [b,c]) (([]:List Int)=dh (a,b,c,d)/\(1:Int)=hY (a,b,c,d)) (ad a ((0:Int)<=8/\cz (65535:Int) [db IntKind.i64 (0:Int) (8:Int),(0:Int),b,c]=true/\((List.length [db IntKind.i64 (0:Int) (8:Int),(0:Int),b,c]):Int)<=1073741824/\ ∀(e:List Int),e=List.flatMap w2 [db IntKind.i64 (0:Int) (8:Int),(0:Int),b,c]->(EL a b c d e)) ((0:Int)<=8/\cz (65535:Int) [db IntKind.i64 (8:Int) (8:Int),(0:Int),b,c]=true/\((List.length [db IntKind.i64 (8:Int) (8:Int),(0:Int),b,c]):Int)<=1073741824/\ ∀(e:List Int),e=List.flatMap w2 [db IntKind.i64 (8:Int) (8:Int),(0:Int),b,c]->(EL a b c d e))):=by
  delta EL jj sr
  rintro r i q data ⟨⟨-,-,-,-,hd⟩,-⟩ hl
  refine ae (fun h=>?_) (fun h=>?_)
  ·apply KX
   simp only[Bool.not_eq_true',← Bool.not_eq_true,Ae] at h
   simp only[gm];exact h
  have hw:bQ i=true/\bQ q=true:=by
   simp only[Bool.not_eq_false',Ae] at h
   simp only[gm];exact h
  have hw':=hw
  simp only[gm] at hw'
  obtain⟨e1,e2⟩:=Io (e:=(r,i,q,data)) hw
  have hB:=mQ (sO (e:=(r,i,q,data)) hd)
  cases r with
  | true =>
   refine ae (fun _=>?_) (fun hr=>by cases hr)
   refine⟨by omega,by rw[show db .i64 0 8=0 from by decide];simp[cz];omega,by simp,?_⟩
   intro p hpe
   have hp8:p.length=8:=by rw[hpe];simp[w2]
   have hp:p++data=bG (true,i,q,data):=by
    rw[hpe,show db .i64 0 8=0 from by decide];simp[w2,bG]
   refine⟨(lv (by omega) hl).1,(lv (by omega) hl).2,?_⟩
   intro c hc
   have hc:c=bV (bG (true,i,q,data)):=by rw[hc,hp];rfl
   exact zZ (a:=2) hp (by omega) (by omega) (by omega) hl (by rw[hc];exact hB.1) (by rw[hc];exact hB.2) (by rw[hc];exact e1) e2
  | false =>
   refine ae (fun hr=>by cases hr) (fun _=>?_)
   refine⟨by omega,by rw[show db .i64 8 8=2048 from by decide];simp[cz];omega,by simp,?_⟩
   intro p hpe
   have hp8:p.length=8:=by rw[hpe];simp[w2]
   have hp:p++data=bG (false,i,q,data):=by
    rw[hpe,show db .i64 8 8=2048 from by decide];simp[w2,bG]
   refine⟨(lv (by omega) hl).1,(lv (by omega) hl).2,?_⟩
   intro c hc
   have hc:c=bV (bG (false,i,q,data)):=by rw[hc,hp];rfl
   exact zZ (a:=2) hp (by omega) (by omega) (by omega) hl (by rw[hc];exact hB.1) (by rw[hc];exact hB.2) (by rw[hc];exact e1) e2
theorem ar9:av Tryz.prog GL 267 JL.spec:=Ct.okH _ Tryz.func267 (by kernel_rfl) (ai (ai (ai (ai aC AC) (Ct.named zc)) (Ct.named uU)) CP) ar Vt (aD (by kernel_rfl) QV)
def O0:Ct:=⟨[.agg F7],[.own 5 bj,.val cI],fun d=>[(d.1.2.2.2.length:Int)<=1073741824],fun d=>((dh d.1,hY d.1,()),())⟩
def WV:ao O0.ps->az:=(fun _=>{})
def C0(a:Bool)(b c:Int)(d f:List Int) :=
 (f.length:Int)<=1099511627776/\ ∀(g:List Int),g=bu f c (2:Int)->(g.length+d.length)*(1:Nat)<=(jj)/\((List.length (g++d)):Int)<=1099511627776/\ ∀(h:Int),h=65535 -oc (aZ true (g++d))->(0:Int)<=2/\(2:Int)+2<=((List.length (g++d)):Int)/\((List.length (g++d)):Int)<=1099511627776/\0<=h/\h<=65535/\bz (g++d) (Int.toNat (2:Int)) h=dh (a,b,c,d)/\(0:Int)=hY (a,b,c,d)
def jt(e:Bool) :=
 (! e)->((! e)->(! e))/\True
theorem X4 :
 ∀(a:Bool)(b c:Int)(d:List Int),(True/\ab b/\ab c/\(sr d))/\True->(d.length:Int)<=1073741824-> ∀(e:Bool),e= ! bQ b->(jt e)/\(jt e)/\(jt e)/\(e=false->(! e))/\ad (bif e then true else ! bQ c) (([]:List Int)=dh (a,b,c,d)/\(1:Int)=hY (a,b,c,d)) (ad (decide (1480<IntKind.wrap .i64 ((d.length:Int)+(8:Int)))) (([]:List Int)=dh (a,b,c,d)/\(5:Int)=hY (a,b,c,d)) (ad a (((List.length [IntKind.wrap .u8 (0:Int),(0:Int),(0:Int),(0:Int)]):Int)<=1099511627776/\ ∀(f:List Int),f=bu [IntKind.wrap .u8 (0:Int),(0:Int),(0:Int),(0:Int)] b (2:Int)->(C0 a b c d f)) (((List.length [IntKind.wrap .u8 (8:Int),(0:Int),(0:Int),(0:Int)]):Int)<=1099511627776/\ ∀(f:List Int),f=bu [IntKind.wrap .u8 (8:Int),(0:Int),(0:Int),(0:Int)] b (2:Int)->(C0 a b c d f)))):=by
  delta C0 jt jj sr
  rintro r i q data ⟨⟨-,-,-,-,hd⟩,-⟩ hl
  rintro b rfl
  refine⟨by simp,by simp,by simp,by simp,?_⟩
  rw[af (n:=(data.length:Int)+8) (by omega) (by omega)]
  refine ae (fun h=>?_) (fun h=>?_)
  ·apply KX
   rintro⟨h1,h2⟩
   simp at h1 h2
   simp[h1,h2] at h
  have hw:bQ i=true/\bQ q=true:=by
   simp[Bool.cond_eq_ite] at h;exact h
  have hw':=hw
  simp only[gm] at hw'
  obtain⟨e1,e2⟩:=Io (e:=(r,i,q,data)) hw
  have hB:=mQ (sO (e:=(r,i,q,data)) hd)
  have hbl:=yL (r,i,q,data)
  refine ae (fun h5=>?_) (fun h5=>?_)
  ·have h5:=of_decide_eq_true h5
   rw[e1,e2,if_pos (by simp only at hbl;omega),if_pos (by simp only at hbl;omega)];exact⟨rfl,rfl⟩
  have h5:=of_decide_eq_false h5
  have h5:¬ (1480:Int)<(bG (r,i,q,data)).length:=by simp only at hbl;omega
  rw[if_neg h5] at e1
  cases r with
  | true =>
   refine ae (fun _=>?_) (fun hr=>by cases hr)
   refine⟨by simp,?_⟩
   rintro p rfl
   rw[gM hw'.1.1 hw'.1.2]
   refine⟨by simp[w2],?_⟩
   intro p hpe
   rw[gM hw'.2.1 hw'.2.2] at hpe
   have hp8:p.length=8:=by rw[hpe];simp[w2]
   have hp:p++data=bG (true,i,q,data):=by
    rw[hpe,show IntKind.wrap .u8 0=0 from by decide];simp[w2,bG]
   refine⟨(lv (by omega) hl).1,(lv (by omega) hl).2,?_⟩
   intro c hc
   have hc:c=bV (bG (true,i,q,data)):=by rw[hc,hp];rfl
   rw[hp,hc]
   exact⟨by omega,by omega,by omega,hB.1,hB.2,e1.symm,zf e2 h5⟩
  | false =>
   refine ae (fun hr=>by cases hr) (fun _=>?_)
   refine⟨by simp,?_⟩
   rintro p rfl
   rw[gM hw'.1.1 hw'.1.2]
   refine⟨by simp[w2],?_⟩
   intro p hpe
   rw[gM hw'.2.1 hw'.2.2] at hpe
   have hp8:p.length=8:=by rw[hpe];simp[w2]
   have hp:p++data=bG (false,i,q,data):=by
    rw[hpe,show IntKind.wrap .u8 8=8 from by decide];simp[w2,bG]
   refine⟨(lv (by omega) hl).1,(lv (by omega) hl).2,?_⟩
   intro c hc
   have hc:c=bV (bG (false,i,q,data)):=by rw[hc,hp];rfl
   rw[hp,hc]
   exact⟨by omega,by omega,by omega,hB.1,hB.2,e1.symm,zf e2 h5⟩
theorem ZE:av Tryz.prog GL 142 O0.spec:=Ct.okH _ Tryz.func142 (by kernel_rfl) (ai (ai (ai (ai aC FN) (Ct.named uY)) (Ct.named ED)) CO) ar WV (aD (by kernel_rfl) X4)
def MN:Ct:=⟨[.agg Vr],[.own 5 bj,.val cI],fun d=>[(d.1.2.2.length:Int)<=1073741824],fun d=>((fL d.1,gw d.1,()),())⟩
def TG:ao MN.ps->az:=(fun _=>{})
def Dh(a b:Int)(c:List Int) :=
 ad (decide ((c.length:Int)<28)) (([]:List Int)=fL (a,b,c)/\(3:Int)=gw (a,b,c)) ((0:Int)<=8/\cz (65535:Int) [bits BinOp.or IntKind.i64 (db IntKind.i64 a (8:Int)) b,(0:Int),(0:Int),(0:Int)]=true/\((List.length [bits BinOp.or IntKind.i64 (db IntKind.i64 a (8:Int)) b,(0:Int),(0:Int),(0:Int)]):Int)<=1073741824/\ ∀(f:List Int),f=List.flatMap w2 [bits BinOp.or IntKind.i64 (db IntKind.i64 a (8:Int)) b,(0:Int),(0:Int),(0:Int)]->(f.length+c.length)*(1:Nat)<=(jj)/\((List.length (f++c)):Int)<=1099511627776/\ ∀(g:Int),g=65535 -oc (aZ true (f++c))->(0:Int)<=2/\(2:Int)+2<=((List.length (f++c)):Int)/\((List.length (f++c)):Int)<=1099511627776/\0<=g/\g<=65535/\(if 1480<((List.length (f++c)):Int) then ([]:List Int) else bz (f++c) (Int.toNat (2:Int)) g)=fL (a,b,c)/\(if 1480<((List.length (f++c)):Int) then (5:Int) else (0:Int))=gw (a,b,c))
theorem as6 :
 ∀(a b:Int)(c:List Int),(ab a/\ab b/\c.length<=maxLen/\ ∀(d:Int),d∈c->0<=d/\d<=255)/\True->(c.length:Int)<=1073741824-> ∀(d:Bool),d= ! decide (a=3)->(d->(d->d)/\True)/\(d->(d->d)/\True)/\(d->d)/\ ∀(e:Bool),(e=bif d then ! decide (a=11) else false)->(jt e)/\ad (! e) (((! e)->(! e))/\(jt e)/\(e=false->(! e))/\ad (bif e then true else ! cz (255:Int) [b]) (([]:List Int)=fL (a,b,c)/\(1:Int)=gw (a,b,c)) (Dh a b c)) ((! e)=false/\(! e)=false/\(e=false->false=true)/\ad (bif e then true else false) (([]:List Int)=fL (a,b,c)/\(1:Int)=gw (a,b,c)) (Dh a b c)):=by
  delta Dh jt jj
  rintro t k data ⟨⟨-,-,-,hd⟩,-⟩ hl
  rintro b rfl
  refine⟨by simp,by simp,by simp,?_⟩
  intro b hb
  refine⟨by simp,?_⟩
  cases b with
  | true =>
   have ht:¬ (t=3∨t=11):=by
    simp at hb;omega
   refine ae (fun h=>by cases h) (fun _=>⟨rfl,rfl,by simp,ae (fun _=>Kk (fun h=>ht h.1)) (fun h=>by cases h)⟩)
  | false =>
   have ht:t=3∨t=11:=by
    by_cases h3:t=3
    ·exact .inl h3
    ·simp[h3] at hb;exact .inr hb
   refine ae (fun _=>⟨by simp,by simp,by simp,?_⟩) (fun h=>by cases h)
   refine ae (fun h=>?_) (fun h=>?_)
   ·apply Kk
    rintro⟨-,h2⟩
    have:=(sR 255 k).2 h2
    rw[this] at h;cases h
   have hk:0<=k/\k<=255:=by
    apply (sR 255 k).1
    cases hx:cz 255 [k] with
    | true=>rfl
    | false=>rw[hx] at h;cases h
   refine ae (fun h2=>am8 ⟨ht,hk⟩ (of_decide_eq_true h2)) (fun h2=>?_)
   have h2:=of_decide_eq_false h2
   obtain⟨e1,e2⟩:=Wr (e:=(t,k,data)) ⟨ht,hk⟩ h2
   have hB:=mQ (Dr (e:=(t,k,data)) ⟨ht,hk⟩ hd)
   rw[G4 (by omega) (by omega) hk.1 hk.2]
   refine⟨by omega,by simp[cz];omega,by simp,?_⟩
   intro p hpe
   have hp8:p.length=8:=by rw[hpe];simp[w2]
   have hp:p++data=jZ (t,k,data):=by
    rw[hpe]
    simp only[List.flatMap_cons,List.flatMap_nil,AD (show 0<=t by omega) (show t<=255 by omega) hk.1 hk.2,show w2 0=[0,0] from rfl];rfl
   refine⟨(lv (by omega) hl).1,(lv (by omega) hl).2,?_⟩
   intro c hc
   have hc:c=bV (jZ (t,k,data)):=by rw[hc,hp];rfl
   exact zZ (a:=2) hp (by omega) (by omega) (by omega) hl (by rw[hc];exact hB.1) (by rw[hc];exact hB.2) (by rw[hc];exact e1) e2
theorem ac2:av Tryz.prog GL 285 MN.spec:=Ct.okH _ Tryz.func285 (by kernel_rfl) (ai (ai (ai (ai aC AC) (Ct.named zc)) (Ct.named uU)) CP) ar TG (aD (by kernel_rfl) as6)
def Ku:Ct:=⟨[.val ce,.val ce,.val cI,.val (.sl bj)],[.val cI],fun d=>[(d.2.2.2.1.length:Int)<=1073741824],fun d=>((dr d.1 d.2.1 d.2.2.1 d.2.2.2.1,()),())⟩
def UB:ao Ku.ps->az:=(fun _=>{})
theorem PE :
 ∀(a b c:Int)(d:List Int),(0<=a/\a<=4294967295)/\(0<=b/\b<=4294967295)/\ab c/\(sr d)/\True->(d.length:Int)<=1073741824-> ∀(e:Bool),e= ! cz (255:Int) [c]->(jt e)/\(jt e)/\(e=false->(! e))/\ad (bif e then true else decide (65535<(d.length:Int))) ((0:Int)=dr a b c d) ((0:Int)<=16/\(0:Int)<=16/\cz (65535:Int) [IntKind.wrap .i64 (cP IntKind.u32 a (16:Int)),IntKind.wrap .i64 (bits BinOp.and IntKind.u32 a (65535:Int)),IntKind.wrap .i64 (cP IntKind.u32 b (16:Int)),IntKind.wrap .i64 (bits BinOp.and IntKind.u32 b (65535:Int)),c,(d.length:Int)]=true/\((List.length [IntKind.wrap .i64 (cP IntKind.u32 a (16:Int)),IntKind.wrap .i64 (bits BinOp.and IntKind.u32 a (65535:Int)),IntKind.wrap .i64 (cP IntKind.u32 b (16:Int)),IntKind.wrap .i64 (bits BinOp.and IntKind.u32 b (65535:Int)),c,(d.length:Int)]):Int)<=1073741824/\ ∀(f:List Int),f=List.flatMap w2 [IntKind.wrap .i64 (cP
 IntKind.u32 a (16:Int)),IntKind.wrap .i64 (bits BinOp.and IntKind.u32 a (65535:Int)),IntKind.wrap .i64 (cP IntKind.u32 b (16:Int)),IntKind.wrap .i64 (bits BinOp.and IntKind.u32 b (65535:Int)),c,(d.length:Int)]->(f.length+d.length)*(1:Nat)<=(jj)/\((List.length (f++d)):Int)<=1099511627776/\ ∀(g:Int),g=65535 -oc (aZ true (f++d))->g=dr a b c d):=by
  delta jt jj sr
  rintro a b p data ⟨⟨a0,a1⟩,⟨b0,b1⟩,-,⟨-,hd⟩,-⟩ hl
  rintro x rfl
  refine⟨by simp,by simp,by simp,?_⟩
  refine ae (fun h=>?_) (fun h=>?_)
  ·rw[dr,if_pos]
   cases hx:cz 255 [p] with
   | false=>exact .inl (fun k=>by rw[(sR 255 p).2 k] at hx;cases hx)
   | true=>rw[hx] at h;exact .inr (of_decide_eq_true h)
  have hp:0<=p/\p<=255:=by
   apply (sR 255 p).1
   cases hx:cz 255 [p] with
   | true=>rfl
   | false=>rw[hx] at h;cases h
  have hn:¬ (65535:Int)<data.length:=by
   rw[(sR 255 p).2 hp] at h;exact of_decide_eq_false h
  rw[Ph a0 a1,Ph b0 b1,Mq a0 a1,Mq b0 b1]
  refine⟨by omega,by omega,by simp[cz];omega,by simp,?_⟩
  intro q hq
  have hp8:q.length=12:=by rw[hq];simp[w2]
  have hB:q++data=sP a b p data:=by
   rw[hq]
   simp only[List.flatMap_cons,List.flatMap_nil,List.append_nil,List.append_assoc,Km]
   rfl
  refine⟨(lv (by omega) hl).1,(lv (by omega) hl).2,?_⟩
  rintro c rfl
  rw[hB,dr,if_neg (by omega)];rfl
theorem Ff:av Tryz.prog GL 212 Ku.spec:=Ct.okH _ Tryz.func212 (by kernel_rfl) (ai (ai (ai aC AC) (Ct.named zc)) (Ct.named uU)) ar UB (aD (by kernel_rfl) PE)
def MR:Ct:=⟨[.val ce,.val ce,.val cI,.val (.sl bj)],[.val cI],fun d=>[(d.2.2.2.1.length:Int)<=1073741824],fun d=>((dr d.1 d.2.1 d.2.2.1 d.2.2.2.1,()),())⟩
def XD:ao MR.ps->az:=(fun _=>{})
theorem ZW :
 ∀(a b c:Int)(d:List Int),(0<=a/\a<=4294967295)/\(0<=b/\b<=4294967295)/\ab c/\(sr d)/\True->(d.length:Int)<=1073741824-> ∀(e:Bool),e= ! decide (0<=c/\c<=255)->(jt e)/\(jt e)/\(e=false->(! e))/\ad (bif e then true else decide (65535<(d.length:Int))) ((0:Int)=dr a b c d) ((↑(0:Nat):Int)<=1099511627776/\ ∀(f:List Int),f=bu ([]:List Int) (IntKind.wrap .i64 a) (4:Int)->(f.length:Int)<=1099511627776/\ ∀(g:List Int),g=bu f (IntKind.wrap .i64 b) (4:Int)->(g.length:Int)<=1099511627776/\ ∀(h:List Int),h=bu g c (2:Int)->(h.length:Int)<=1099511627776/\ ∀(i:List Int),i=bu h (d.length:Int) (2:Int)->(i.length+d.length)*(1:Nat)<=(jj)/\((List.length (i++d)):Int)<=1099511627776/\ ∀(j:Int),j=65535 -oc (aZ true (i++d))->j=dr a b c d):=by
  delta jt jj sr
  rintro a b p data ⟨⟨a0,a1⟩,⟨b0,b1⟩,-,⟨-,hd⟩,-⟩ hl
  rintro x rfl
  refine⟨by simp,by simp,by simp,?_⟩
  refine ae (fun h=>?_) (fun h=>?_)
  ·rw[dr,if_pos]
   by_cases hx:0<=p/\p<=255
   ·rw[decide_eq_true hx] at h;exact .inr (of_decide_eq_true h)
   ·exact .inl hx
  have hp:0<=p/\p<=255:=Classical.byContradiction fun hk=>by rw[decide_eq_false hk] at h;cases h
  have hn:¬ (65535:Int)<data.length:=by
   rw[decide_eq_true hp] at h;exact of_decide_eq_false h
  refine⟨by simp,?_⟩
  intro q1 h1
  rw[af (n:=a) (by omega) (by omega),rM a0 a1,List.nil_append] at h1
  refine⟨by rw[h1];simp[w4],?_⟩
  intro q2 h2
  rw[af (n:=b) (by omega) (by omega),rM b0 b1] at h2
  refine⟨by rw[h2,h1];simp[w4],?_⟩
  intro q3 h3
  rw[gM hp.1 (by omega)] at h3
  refine⟨by rw[h3,h2,h1];simp[w2,w4],?_⟩
  intro q hq
  rw[gM (by omega) (by omega)] at hq
  have hp8:q.length=12:=by rw[hq,h3,h2,h1];simp[w2,w4]
  have hB:q++data=sP a b p data:=by
   rw[hq,h3,h2,h1]
   simp only[List.append_assoc]
   rfl
  refine⟨(lv (by omega) hl).1,(lv (by omega) hl).2,?_⟩
  rintro c rfl
  rw[hB,dr,if_neg (by omega)];rfl
theorem ES:av Tryz.prog GL 146 MR.spec:=Ct.okH _ Tryz.func146 (by kernel_rfl) (ai (ai (ai aC JZ) (Ct.named uY)) (Ct.named ED)) ar XD (aD (by kernel_rfl) ZW)
def IJ:Ct:=⟨[.val ce,.val ce,.val (.sl bj)],[.val cI],fun d=>[(d.2.2.1.length:Int)<=1073741824],fun d=>((iO d.1 d.2.1 d.2.2.1,()),())⟩
def V2:ao IJ.ps->az:=(fun _=>{})
theorem UT :
 ∀(a b:Int)(c:List Int),(0<=a/\a<=4294967295)/\(0<=b/\b<=4294967295)/\(c.length<=maxLen/\ ∀(d:Int),d∈c->0<=d/\d<=255)/\True->(c.length:Int)<=1073741824->(c.length:Int)<=1073741824/\ad (! decide (dr a b (17:Int) c=0)) (dr a b (17:Int) c=iO a b c) ((65535:Int)=iO a b c):=by
  rintro a b data-hl
  refine⟨hl,ae (fun h=>?_) (fun h=>?_)⟩
  ·rw[iO,if_neg];intro k;rw[decide_eq_true k] at h;cases h
  ·rw[iO,if_pos]
   exact Classical.byContradiction fun k=>by rw[decide_eq_false k] at h;cases h
theorem V7:av Tryz.prog GL 284 IJ.spec:=Ct.okH _ Tryz.func284 (by kernel_rfl) (ai aC Ff) ar V2 (aD (by kernel_rfl) UT)
def G5:Ct:=⟨[.val ce,.val ce,.agg OI],[.own 5 bj,.val cI],fun d=>[(d.2.2.1.2.2.length:Int)<=1073741824],fun d=>((jN d.1 d.2.1 d.2.2.1,kK d.2.2.1,()),())⟩
def SE:ao G5.ps->az:=(fun _=>{})
def uL(e i:List Int) :=
 ((List.length (i++[(0:Int),(0:Int)]++e)):Int)
def r0(f:Bool) :=
 (! f)->((! f)->(! f))/\True
theorem UI :
 ∀(a b c d:Int)(e:List Int),(0<=a/\a<=4294967295)/\(0<=b/\b<=4294967295)/\(ab c/\ab d/\e.length<=maxLen/\ ∀(f:Int),f∈e->0<=f/\f<=255)/\True->(e.length:Int)<=1073741824-> ∀(f:Bool),f= ! bQ c->(r0 f)/\(r0 f)/\(r0 f)/\(f=false->(! f))/\ad (bif f then true else ! bQ d) (([]:List Int)=jN a b (c,d,e)/\(1:Int)=kK (c,d,e)) (ad (decide (1480<IntKind.wrap .i64 ((e.length:Int)+(8:Int)))) (([]:List Int)=jN a b (c,d,e)/\(5:Int)=kK (c,d,e)) ((↑(0:Nat):Int)<=1099511627776/\ ∀(g:List Int),g=bu ([]:List Int) c (2:Int)->(g.length:Int)<=1099511627776/\ ∀(h:List Int),h=bu g d (2:Int)->(h.length:Int)<=1099511627776/\ ∀(i:List Int),i=bu h (IntKind.wrap .i64 ((e.length:Int)+(8:Int))) (2:Int)->(i.length+List.length [(0:Int),(0:Int)])*(1:Nat)<=(jj)/\(List.length (i++[(0:Int),(0:Int)])+e.length)*(1:Nat)<=(jj)/\(uL e i)<=1073741824/\ ∀(j:Int),j=dr a b (17:Int)
 (i++[(0:Int),(0:Int)]++e)->ad (decide (j=0)) ((0:Int)<=6/\(6:Int)+2<=(uL e i)/\(uL e i)<=1099511627776/\(0:Int)<=65535/\(65535:Int)<=65535/\bz (i++[(0:Int),(0:Int)]++e) (Int.toNat (6:Int)) (65535:Int)=jN a b (c,d,e)/\(0:Int)=kK (c,d,e)) ((0:Int)<=6/\(6:Int)+2<=(uL e i)/\(uL e i)<=1099511627776/\0<=j/\j<=65535/\bz (i++[(0:Int),(0:Int)]++e) (Int.toNat (6:Int)) j=jN a b (c,d,e)/\(0:Int)=kK (c,d,e)))):=by
  delta uL r0 jj
  rintro a b sp dp data ⟨-,-,⟨-,-,-,hd⟩,-⟩ hl
  rintro x rfl
  refine⟨by simp,by simp,by simp,by simp,?_⟩
  rw[af (n:=(data.length:Int)+8) (by omega) (by omega)]
  refine ae (fun h=>?_) (fun h=>?_)
  ·apply Wa
   rintro⟨h1,h2⟩
   simp at h1 h2
   simp[h1,h2] at h
  have hw:bQ sp=true/\bQ dp=true:=by
   simp[Bool.cond_eq_ite] at h;exact h
  have hw':=hw
  simp only[gm] at hw'
  obtain⟨e1,e2⟩:=V0 (a:=a) (b:=b) (e:=(sp,dp,data)) hw
  have hB:=GZ (a:=a) (b:=b) (xd (e:=(sp,dp,data)) hd)
  have hbl:=Ia (sp,dp,data)
  refine ae (fun h5=>?_) (fun h5=>?_)
  ·have h5:=of_decide_eq_true h5
   rw[e1,e2,if_pos (by simp only at hbl;omega),if_pos (by simp only at hbl;omega)];exact⟨rfl,rfl⟩
  have h5:=of_decide_eq_false h5
  have h5':¬ (1480:Int)<(da (sp,dp,data)).length:=by simp only at hbl;omega
  rw[if_neg h5'] at e1
  refine⟨by simp,?_⟩
  intro q1 h1
  rw[gM hw'.1.1 hw'.1.2,List.nil_append] at h1
  refine⟨by rw[h1];simp[w2],?_⟩
  intro q2 h2
  rw[gM hw'.2.1 hw'.2.2] at h2
  refine⟨by rw[h2,h1];simp[w2],?_⟩
  intro q3 h3
  rw[gM (by omega) (by omega)] at h3
  have hp8:q3.length=6:=by rw[h3,h2,h1];simp[w2]
  have hp:q3++[0,0]++data=da (sp,dp,data):=by
   rw[h3,h2,h1]
   simp only[List.append_assoc,da]
   rw[Int.add_comm 8]
  rw[hp]
  refine⟨by simp only[List.length_cons,List.length_nil];omega,by simp only[List.length_append,List.length_cons,List.length_nil];omega,by simp only at hbl;omega,?_⟩
  rintro c rfl
  have hs:∀ c,c=iO a b (da (sp,dp,data))->bz (da (sp,dp,data)) (Int.toNat 6) c=jN a b (sp,dp,data)/\0=kK (sp,dp,data):=by
   rintro c rfl;exact⟨e1.symm,zf e2 h5'⟩
  refine ae (fun hz=>?_) (fun hz=>?_)
  ·have hz:=of_decide_eq_true hz
   exact⟨by omega,by simp only at hbl;omega,by simp only at hbl;omega,by omega,by omega,hs _ (by rw[iO,if_pos hz])⟩
  ·have hz:=of_decide_eq_false hz
   have hr:=wc (a:=a) (b:=b) (p:=17) (xd (e:=(sp,dp,data)) hd)
   exact⟨by omega,by simp only at hbl;omega,by simp only at hbl;omega,hr.1,hr.2,hs _ (by rw[iO,if_neg hz])⟩
theorem XW:av Tryz.prog GL 147 G5.spec:=Ct.okH _ Tryz.func147 (by kernel_rfl) (ai (ai (ai (ai aC FN) (Ct.named uY)) (Ct.named ES)) CO) ar SE (aD (by kernel_rfl) UI)
theorem ar6{f:Int}(h0:0<=f)(h1:f<=255):bits .or .i64 20480 f=80*256+f:=by
 have:=G4 (n:=80) (x:=f) (by omega) (by omega) h0 h1
 rwa [show db .i64 80 8=20480 from by decide] at this
theorem YY{f:Int}(h0:0<=f)(h1:f<=255):w2 (80*256+f)=[80,f]:=AD (by omega) (by omega) h0 h1
def M8:Ct:=⟨[.val ce,.val ce,.agg wU],[.own 5 bj,.val cI],fun d=>[(d.2.2.1.2.2.2.2.2.2.length:Int)<=1000000],fun d=>((de d.1 d.2.1 d.2.2.1,iS d.2.2.1,()),())⟩
def ar7:ao M8.ps->az:=(fun _=>{})
def CN(a b:Int)(c:Int×Int×Int×Int×Int×Int×List Int) :=
 (0:Int)<=16/\(0:Int)<=16/\cz (65535:Int) [c.1,c.2.1,cP IntKind.i64 c.2.2.1 (16:Int),bits BinOp.and IntKind.i64 c.2.2.1 (65535:Int),cP IntKind.i64 c.2.2.2.1 (16:Int),bits BinOp.and IntKind.i64 c.2.2.2.1 (65535:Int),bits BinOp.or IntKind.i64 (20480:Int) c.2.2.2.2.1,c.2.2.2.2.2.1,(0:Int),(0:Int)]=true/\((List.length [c.1,c.2.1,cP IntKind.i64 c.2.2.1 (16:Int),bits BinOp.and IntKind.i64 c.2.2.1 (65535:Int),cP IntKind.i64 c.2.2.2.1 (16:Int),bits BinOp.and IntKind.i64 c.2.2.2.1 (65535:Int),bits BinOp.or IntKind.i64 (20480:Int) c.2.2.2.2.1,c.2.2.2.2.2.1,(0:Int),(0:Int)]):Int)<=1073741824/\ ∀(f:List Int),f=List.flatMap w2 [c.1,c.2.1,cP IntKind.i64 c.2.2.1 (16:Int),bits BinOp.and IntKind.i64 c.2.2.1 (65535:Int),cP IntKind.i64 c.2.2.2.1 (16:Int),bits BinOp.and IntKind.i64 c.2.2.2.1 (65535:Int),bits BinOp.or IntKind.i64 (20480:Int)
 c.2.2.2.2.1,c.2.2.2.2.2.1,(0:Int),(0:Int)]->(f.length+c.2.2.2.2.2.2.length)*(1:Nat)<=(jj)/\((List.length (f++c.2.2.2.2.2.2)):Int)<=1073741824/\ ∀(g:Int),g=dr a b (6:Int) (f++c.2.2.2.2.2.2)->(0:Int)<=16/\(16:Int)+2<=((List.length (f++c.2.2.2.2.2.2)):Int)/\((List.length (f++c.2.2.2.2.2.2)):Int)<=1099511627776/\0<=g/\g<=65535/\(if 1480<((List.length (f++c.2.2.2.2.2.2)):Int) then ([]:List Int) else bz (f++c.2.2.2.2.2.2) (Int.toNat (16:Int)) g)=de a b c/\(if 1480<((List.length (f++c.2.2.2.2.2.2)):Int) then (5:Int) else (0:Int))=iS c
def GD(a b:Int)(c:Int×Int×Int×Int×Int×Int×List Int)(e:Bool) :=
 (jt e)/\ad (! e) (((! e)->(! e))/\(jt e)/\(e=false->(! e))/\ad (bif e then true else ! cz (255:Int) [c.2.2.2.2.1]) (([]:List Int)=de a b c/\(1:Int)=iS c) (CN a b c)) ((! e)=false/\(! e)=false/\(e=false->false=true)/\ad (bif e then true else false) (([]:List Int)=de a b c/\(1:Int)=iS c) (CN a b c))
def sg(d:Bool) :=
 (! d)->((! d)->(! d))/\True
theorem XZ :
 ∀(a b:Int)(c:Int×Int×Int×Int×Int×Int×List Int),(0<=a/\a<=4294967295)/\(0<=b/\b<=4294967295)/\CT.wf wU c/\True->(c.2.2.2.2.2.2.length:Int)<=1000000-> ∀(d:Bool),d= ! cz (65535:Int) [c.1,c.2.1,c.2.2.2.2.2.1]->(sg d)/\(sg d)/\ad (! d) (((! d)->(! d))/\((! d)->(! d))/\(sg d)/\(d=false->(! d))/\ ∀(e:Bool),(e=bif d then true else ! cz (4294967295:Int) [c.2.2.1,c.2.2.2.1])->(GD a b c e)) ((! d)=false/\(! d)=false/\(d=false->false=true)/\ ∀(e:Bool),(e=bif d then true else false)->(GD a b c e)):=by
  delta CN GD jt sg jj
  rintro a b e ⟨-,-,⟨-,-,-,-,-,-,-,hd⟩,-⟩ hl
  intro b1 hb1
  refine⟨by simp,by simp,?_⟩
  cases b1 with
  | true =>
   have hbad:¬ me e:=by
    rintro⟨h1,h2,-,-,-,h3⟩
    rw[gm] at h1 h2 h3
    rw[show cz 65535 [e.1,e.2.1,e.2.2.2.2.2.1]=true from by simp[cz];omega] at hb1;cases hb1
   refine ae (fun h=>by cases h) (fun _=>⟨rfl,rfl,by simp,?_⟩)
   intro b2 hb2
   have hb2:b2=true:=hb2
   subst hb2
   exact⟨by simp,ae (fun h=>by cases h) (fun _=>⟨rfl,rfl,by simp,ae (fun _=>Bb hbad) (fun h=>by cases h)⟩)⟩
  | false =>
   have h1:(0<=e.1/\e.1<=65535)/\(0<=e.2.1/\e.2.1<=65535)/\0<=e.2.2.2.2.2.1/\e.2.2.2.2.2.1<=65535:=by
    have:cz 65535 [e.1,e.2.1,e.2.2.2.2.2.1]=true:=by
     cases hx:cz 65535 [e.1,e.2.1,e.2.2.2.2.2.1] with
     | true=>rfl
     | false=>rw[hx] at hb1;cases hb1
    simpa[cz] using this
   refine ae (fun _=>⟨by simp,by simp,by simp,by simp,?_⟩) (fun h=>by cases h)
   intro b2 hb2
   refine⟨by simp,?_⟩
   cases b2 with
   | true =>
    have hbad:¬ me e:=by
     rintro⟨-,-,h3,h4,-,-⟩
     have:cz 4294967295 [e.2.2.1,e.2.2.2.1]=true:=(Ae _ _ _).2 ⟨h3,h4⟩
     rw[this] at hb2;cases hb2
    exact ae (fun h=>by cases h) (fun _=>⟨rfl,rfl,by simp,ae (fun _=>Bb hbad) (fun h=>by cases h)⟩)
   | false =>
    have h2:(0<=e.2.2.1/\e.2.2.1<=4294967295)/\0<=e.2.2.2.1/\e.2.2.2.1<=4294967295:=by
     apply (Ae _ _ _).1
     cases hx:cz 4294967295 [e.2.2.1,e.2.2.2.1] with
     | true=>rfl
     | false=>rw[hx] at hb2;cases hb2
    refine ae (fun _=>⟨by simp,by simp,by simp,ae (fun h=>?_) (fun h=>?_)⟩) (fun h=>by cases h)
    ·apply Bb
     rintro⟨-,-,-,-,h3,-⟩
     rw[(sR _ _).2 h3] at h;cases h
    have h3:0<=e.2.2.2.2.1/\e.2.2.2.2.1<=255:=by
     apply (sR _ _).1
     cases hx:cz 255 [e.2.2.2.2.1] with
     | true=>rfl
     | false=>rw[hx] at h;cases h
    have hok:me e:=⟨(gm _).2 h1.1,(gm _).2 h1.2.1,h2.1,h2.2,h3,(gm _).2 h1.2.2⟩
    obtain⟨e1,e2⟩:=HX (a:=a) (b:=b) hok
    have hB:=wc (a:=a) (b:=b) (p:=6) (vz hok hd)
    have hbl:=vX e
    rw[Hp h2.1.1,Hp h2.2.1,yh,yh,ar6 h3.1 h3.2]
    refine⟨by omega,by omega,by simp[cz];omega,by simp,?_⟩
    intro p hpe
    have hp8:p.length=20:=by rw[hpe];simp[w2]
    have hp:p++e.2.2.2.2.2.2=iy e:=by
     rw[hpe]
     simp only[List.flatMap_cons,List.flatMap_nil,List.append_nil,List.append_assoc,Km,show w2 0=[0,0] from rfl,YY h3.1 h3.2]
     rfl
    refine⟨(lv (by omega) (by omega)).1,by rw[List.length_append];omega,?_⟩
    intro c hc
    have hc:c=dr a b 6 (iy e):=by rw[hc,hp]
    exact zZ (a:=16) hp (by omega) (by omega) (by omega) (by omega) (by rw[hc];exact hB.1) (by rw[hc];exact hB.2) (by rw[hc];exact e1) e2
theorem al1:av Tryz.prog GL 271 M8.spec:=Ct.okH _ Tryz.func271 (by kernel_rfl) (ai (ai (ai (ai aC AC) (Ct.named zc)) (Ct.named Ff)) CP) ar ar7 (aD (by kernel_rfl) XZ)
def O6:Ct:=⟨[.val ce,.val ce,.agg wU],[.own 5 bj,.val cI],fun d=>[(d.2.2.1.2.2.2.2.2.2.length:Int)<=1000000],fun d=>((de d.1 d.2.1 d.2.2.1,iS d.2.2.1,()),())⟩
def Wd:ao O6.ps->az:=(fun _=>{})
def uO(c:Int×Int×Int×Int×Int×Int×List Int)(o:List Int) :=
 o++[(0:Int),(0:Int),(0:Int),(0:Int)]++c.2.2.2.2.2.2
theorem Y1 :
 ∀(a b:Int)(c:Int×Int×Int×Int×Int×Int×List Int),(0<=a/\a<=4294967295)/\(0<=b/\b<=4294967295)/\CT.wf wU c/\True->(c.2.2.2.2.2.2.length:Int)<=1000000-> ∀(d:Bool),d= ! bQ c.1->(sg d)/\(sg d)/\(sg d)/\(d=false->(! d))/\ ∀(e:Bool),(e=bif d then true else ! bQ c.2.1)->(jt e)/\(jt e)/\(jt e)/\(e=false->(! e))/\ ∀(f:Bool),(f=bif e then true else ! decide (0<=c.2.2.1/\c.2.2.1<=4294967295))->(r0 f)/\(r0 f)/\(r0 f)/\(f=false->(! f))/\ ∀(g:Bool),(g=bif f then true else ! decide (0<=c.2.2.2.1/\c.2.2.2.1<=4294967295))->((! g)->((! g)->(! g))/\True)/\((! g)->((! g)->(! g))/\True)/\((! g)->((! g)->(! g))/\True)/\(g=false->(! g))/\ ∀(h:Bool),(h=bif g then true else ! decide (0<=c.2.2.2.2.1/\c.2.2.2.2.1<=255))->((! h)->((! h)->(! h))/\True)/\((! h)->((! h)->(! h))/\True)/\((! h)->((! h)->(! h))/\True)/\(h=false->(! h))/\ad (bif h then true else ! bQ c.2.2.2.2.2.1)
 (([]:List Int)=de a b c/\(1:Int)=iS c) (ad (decide (1480<IntKind.wrap .i64 ((c.2.2.2.2.2.2.length:Int)+(20:Int)))) (([]:List Int)=de a b c/\(5:Int)=iS c) ((↑(0:Nat):Int)<=1099511627776/\ ∀(i:List Int),i=bu ([]:List Int) c.1 (2:Int)->(i.length:Int)<=1099511627776/\ ∀(j:List Int),j=bu i c.2.1 (2:Int)->(j.length:Int)<=1099511627776/\ ∀(k:List Int),k=bu j c.2.2.1 (4:Int)->(k.length:Int)<=1099511627776/\ ∀(l:List Int),l=bu k c.2.2.2.1 (4:Int)->(l.length:Int)<=1099511627776/\ ∀(m:List Int),m=bu l (80:Int) (1:Int)->(m.length:Int)<=1099511627776/\ ∀(n:List Int),n=bu m c.2.2.2.2.1 (1:Int)->(n.length:Int)<=1099511627776/\ ∀(o:List Int),o=bu n c.2.2.2.2.2.1 (2:Int)->(o.length+List.length [(0:Int),(0:Int),(0:Int),(0:Int)])*(1:Nat)<=(jj)/\(List.length (o++[(0:Int),(0:Int),(0:Int),(0:Int)])+c.2.2.2.2.2.2.length)*(1:Nat)<=(jj)/\((List.length (uO c
 o)):Int)<=1073741824/\ ∀(p:Int),p=dr a b (6:Int) (uO c o)->(0:Int)<=16/\(16:Int)+2<=((List.length (uO c o)):Int)/\((List.length (uO c o)):Int)<=1099511627776/\0<=p/\p<=65535/\bz (uO c o) (Int.toNat (16:Int)) p=de a b c/\(0:Int)=iS c)):=by
  delta jt uO r0 sg jj
  rintro a b e ⟨-,-,⟨-,-,-,-,-,-,-,hd⟩,-⟩ hl
  intro b1 h1
  refine⟨by simp,by simp,by simp,by simp,?_⟩
  intro b2 h2
  refine⟨by simp,by simp,by simp,by simp,?_⟩
  intro b3 h3
  refine⟨by simp,by simp,by simp,by simp,?_⟩
  intro b4 h4
  refine⟨by simp,by simp,by simp,by simp,?_⟩
  intro b5 h5
  refine⟨by simp,by simp,by simp,by simp,?_⟩
  rw[af (n:=(e.2.2.2.2.2.2.length:Int)+20) (by omega) (by omega)]
  have hall:(bif b5 then true else !bQ e.2.2.2.2.2.1) = !decide (me e):=by
   rw[h5,h4,h3,h2,h1]
   by_cases w1:bQ e.1=true
   all_goals by_cases w2:bQ e.2.1=true
   all_goals by_cases w3:bQ e.2.2.2.2.2.1=true
   all_goals by_cases q1:0<=e.2.2.1/\e.2.2.1<=4294967295
   all_goals by_cases q2:0<=e.2.2.2.1/\e.2.2.2.1<=4294967295
   all_goals by_cases q3:0<=e.2.2.2.2.1/\e.2.2.2.2.1<=255
   all_goals simp[me,w1,w2,w3,q1,q2,q3]
  rw[hall]
  refine ae (fun h=>Bb (by simpa using h)) (fun h=>?_)
  have hok:me e:=by simpa using h
  obtain⟨e1,e2⟩:=HX (a:=a) (b:=b) hok
  have hB:=wc (a:=a) (b:=b) (p:=6) (vz hok hd)
  have hbl:=vX e
  refine ae (fun h5=>?_) (fun h5=>?_)
  ·have h5:=of_decide_eq_true h5
   rw[e1,e2,if_pos (by omega),if_pos (by omega)];exact⟨rfl,rfl⟩
  have h5:=of_decide_eq_false h5
  have h5':¬ (1480:Int)<(iy e).length:=by omega
  rw[if_neg h5'] at e1
  obtain⟨k1,k2,k3,k4,k5,k6⟩:=hok
  rw[gm] at k1 k2 k6
  refine⟨by simp,?_⟩
  intro q1 h1
  rw[gM k1.1 k1.2,List.nil_append] at h1
  have l1:q1.length=2:=by rw[h1];rfl
  refine⟨by omega,?_⟩
  intro q2 h2
  rw[gM k2.1 k2.2] at h2
  have l2:q2.length=4:=by rw[h2,List.length_append,l1];rfl
  refine⟨by omega,?_⟩
  intro q3 h3
  rw[rM k3.1 k3.2] at h3
  have l3:q3.length=8:=by rw[h3,List.length_append,l2];rfl
  refine⟨by omega,?_⟩
  intro q4 h4
  rw[rM k4.1 k4.2] at h4
  have l4:q4.length=12:=by rw[h4,List.length_append,l3];rfl
  refine⟨by omega,?_⟩
  intro q5 h5
  rw[pm (by omega) (by omega)] at h5
  have l5:q5.length=13:=by rw[h5,List.length_append,l4];rfl
  refine⟨by omega,?_⟩
  intro q6 h6
  rw[pm k5.1 k5.2] at h6
  have l6:q6.length=14:=by rw[h6,List.length_append,l5];rfl
  refine⟨by omega,?_⟩
  intro q7 h7
  rw[gM k6.1 k6.2] at h7
  have l7:q7.length=16:=by rw[h7,List.length_append,l6];rfl
  have hp:q7++[0,0,0,0]++e.2.2.2.2.2.2=iy e:=by
   rw[h7,h6,h5,h4,h3,h2,h1]
   simp only[List.append_assoc]
   rfl
  rw[hp]
  refine⟨by simp only[List.length_cons,List.length_nil];omega,by simp only[List.length_append,List.length_cons,List.length_nil];omega,by omega,?_⟩
  rintro c rfl
  exact⟨by omega,by omega,by omega,hB.1,hB.2,e1.symm,zf e2 h5'⟩
theorem ah6:av Tryz.prog GL 148 O6.spec:=Ct.okH _ Tryz.func148 (by kernel_rfl) (ai (ai (ai (ai (ai (ai aC FN) JZ) Sj) (Ct.named uY)) (Ct.named ES)) CO) ar Wd (aD (by kernel_rfl) Y1)
end Go.RS

/- Trdec: decoding messages. -/
namespace Go.RS
open Go.SX Go.Proofs
set_option maxRecDepth 100000
set_option linter.unusedVariables false
def xH(b:List Int):Prop:=(b.getD (Int.toNat 0) default=8∨b.getD (Int.toNat 0) default=0)/\b.getD (Int.toNat 1) default=0
instance (b:List Int):Decidable (xH b):=by unfold xH;infer_instance
def ix(b:List Int):Int:=if (b.length:Int)<8 then 3 else if ¬ xH b then 2 else if (1480:Int)<b.length then 5 else if bV (bz b (Int.toNat 2) 0)≠aG b (Int.toNat 2) then 4 else 0
def dO(b:List Int):kP:=if ix b=0 then (decide (b.getD (Int.toNat 0) default=0),aG b (Int.toNat 4),aG b (Int.toNat 6),b.drop 8) else (false,0,0,[])
def E4(b:List Int):Prop:=(b.getD (Int.toNat 0) default=3∨b.getD (Int.toNat 0) default=11)/\aG b (Int.toNat 4)=0/\aG b (Int.toNat 6)=0
instance (b:List Int):Decidable (E4 b):=by unfold E4;infer_instance
def wZ(b:List Int):Int:=if (b.length:Int)<36 then 3 else if ¬ E4 b then 2 else if (1480:Int)<b.length then 5 else if bV (bz b (Int.toNat 2) 0)≠aG b (Int.toNat 2) then 4 else 0
def qJ(b:List Int):mA:=if wZ b=0 then (b.getD (Int.toNat 0) default,b.getD (Int.toNat 1) default,b.drop 8) else (0,0,[])
def gW(s d:Int)(b:List Int):Int:=if (b.length:Int)<8 then 3 else if ¬ aG b (Int.toNat 4)=b.length then 2 else if (1480:Int)<b.length then 5 else if iO s d (bz b (Int.toNat 6) 0)≠aG b (Int.toNat 6) then 4 else 0
def nI(s d:Int)(b:List Int):nP:=if gW s d b=0 then (aG b (Int.toNat 0),aG b (Int.toNat 2),b.drop 8) else (0,0,[])
def ya(b:List Int):Prop:=b.getD (Int.toNat 12) default=80/\aG b (Int.toNat 18)=0
instance (b:List Int):Decidable (ya b):=by unfold ya;infer_instance
def gI(s d:Int)(b:List Int):Int:=if (b.length:Int)<20 then 3 else if ¬ ya b then 2 else if (1480:Int)<b.length then 5 else if dr s d 6 (bz b (Int.toNat 16) 0)≠aG b (Int.toNat 16) then 4 else 0
def dE(s d:Int)(b:List Int):jC:=if gI s d b=0 then (aG b (Int.toNat 0),aG b (Int.toNat 2),aG b (Int.toNat 4)*65536+aG b (Int.toNat 6),aG b (Int.toNat 8)*65536+aG b (Int.toNat 10),b.getD (Int.toNat 13) default,aG b (Int.toNat 14),b.drop 20) else (0,0,0,0,0,0,[])
theorem zY{b:List Int}{e:Int}(h:ix b=e)(he:e≠0):(false,0,0,[])=dO b/\e=ix b:=by
 rw[dO,if_neg (by rw[h];exact he),h];exact⟨rfl,rfl⟩
theorem A6{s d:Int}{b:List Int}{e:Int}(h:gW s d b=e)(he:e≠0):(0,0,[])=nI s d b/\e=gW s d b:=by
 rw[nI,if_neg (by rw[h];exact he),h];exact⟨rfl,rfl⟩
theorem y8{s d:Int}{b:List Int}{e:Int}(h:gI s d b=e)(he:e≠0):(0,0,0,0,0,0,[])=dE s d b/\e=gI s d b:=by
 rw[dE,if_neg (by rw[h];exact he),h];exact⟨rfl,rfl⟩
theorem si(b:List Int)(k:Nat):bW b k (Int.toNat (b.length:Int))=b.drop k:=by unfold bW;simp
theorem Je{b:List Int}{i:Nat}{v:Int}(h:bytes b)(h0:0<=v)(h1:v<=255):bytes (b.set i v):=by
 intro x hx
 rcases List.mem_or_eq_of_mem_set hx with hx|rfl
 ·exact h x hx
 ·exact⟨h0,h1⟩
theorem qh{b:List Int}{i:Nat}{v:Int}(h:bytes b):bytes (bz b i v):=Je (Je h (by omega) (by omega)) (by omega) (by omega)
theorem AB{b:List Int}{k:Nat}(h:bytes b):0<=aG b k/\aG b k<=65535:=by
 have:=Bw 2 ((b.drop k).take 2) (by rw[List.length_take];omega) (fun x hx=>h x (List.mem_of_mem_drop (List.mem_of_mem_take hx)))
 have e:(256:Int)^2=65536:=rfl
 unfold aG;omega
theorem jU(b:List Int)(i:Nat)(v:Int):(bz b i v).length=b.length:=by simp[bz]
theorem fB(x y:Int)(r:List Int):aG (x::y::r) 0=x*256+y:=by simp[aG,dG]
theorem Ld{n x:Int}(h0:0<=n)(h1:n<=65535)(h2:0<=x)(h3:x<=65535):bits .or .i64 (db .i64 n 16) x=n*65536+x:=by
 have e:db .i64 n 16=n*65536:=by
  show IntKind.i64.wrap (n*2^(min 16 64))=_
  rw[af (by simp;omega) (by simp;omega)];rfl
 rw[e]
 obtain⟨m,rfl⟩:=Int.eq_ofNat_of_zero_le h0
 obtain⟨y,rfl⟩:=Int.eq_ofNat_of_zero_le h2
 have:=Iu (m*65536) y (by omega) (by omega)
 rw[nat_join 16 (m*65536) y (by omega) (by omega),show ((m*65536:Nat):Int)=(m:Int)*65536 from by omega,show ((m*65536+y:Nat):Int)=(m:Int)*65536+(y:Int) from by omega] at this
 exact this
def G3:Ct:=⟨[.val (.sl bj)],[.agg F7,.val cI],fun d=>[(d.1.length:Int)<=1000000],fun d=>((dO d.1,ix d.1,()),())⟩
def aj7:ao G3.ps->az:=(fun _=>{})
def xU :=
 (false,(0:Int),(0:Int),([]:List Int))
def jB(a:List Int) :=
 (a.length:Int)
theorem ae4 :
 ∀(a:List Int),(a.length<=maxLen/\ ∀(b:Int),b∈a->0<=b/\b<=255)/\True->(jB a)<=1000000->ad (decide ((jB a)<8)) ((xU)=dO a/\(3:Int)=ix a) ((0:Int)<=0/\0<(jB a)/\ ∀(b:Bool),b= ! decide (a.getD (Int.toNat (0:Int)) default=8)->(b->(b->b)/\(0:Int)<=0/\0<(jB a)/\True)/\(b->(b->b)/\True)/\(b->(b->b)/\True)/\(b->b)/\ ∀(c:Bool),(c=bif b then ! decide (a.getD (Int.toNat (0:Int)) default=0) else false)->((! c)->((! c)->(! c))/\(0:Int)<=1/\1<(jB a)/\True)/\((! c)->((! c)->(! c))/\True)/\((! c)->((! c)->(! c))/\True)/\(c=false->(! c))/\ad (bif c then true else ! decide (a.getD (Int.toNat (1:Int)) default=0)) ((xU)=dO a/\(2:Int)=ix a) (ad (decide (1480<(jB a))) ((xU)=dO a/\(5:Int)=ix a) ((0:Int)<=2/\(2:Int)+2<=(jB a)/\(jB a)<=1099511627776/\ ∀(d:List Int)(e:Int),d=bz a (Int.toNat (2:Int)) (0:Int)/\e=aG a (Int.toNat
 (2:Int))->(d.length:Int)<=1099511627776/\ ∀(f:Int),f=65535 -oc (aZ true d)->ad (! decide (f=e)) ((xU)=dO a/\(4:Int)=ix a) ((0:Int)<=0/\0<(jB a)/\(0:Int)<=4/\(4:Int)+2<=(jB a)/\(jB a)<=1099511627776/\(0:Int)<=6/\(6:Int)+2<=(jB a)/\(jB a)<=1099511627776/\(0:Int)<=8/\8<=(jB a)/\(jB a)<=(jB a)/\((List.length (bW a (Int.toNat (8:Int)) (Int.toNat (jB a)))):Int)<=1099511627776/\ ∀(g:List Int),g=bW a (Int.toNat (8:Int)) (Int.toNat (jB a))->(decide (a.getD (Int.toNat (0:Int)) default=0),aG a (Int.toNat (4:Int)),aG a (Int.toNat (6:Int)),g)=dO a/\(0:Int)=ix a)))):=by
  delta xU jB
  rintro b ⟨⟨-,hb⟩,-⟩ hl
  refine ae (fun h=>?_) (fun h8=>?_)
  ·exact zY (by rw[ix,if_pos (of_decide_eq_true h)]) (by decide)
  have h8:=of_decide_eq_false h8
  refine⟨by omega,by omega,?_⟩
  (repeat (intro (b_:Bool) (hb_:b_=_);(repeat refine⟨(by first|(simp;done)|(rw[hb_];simp;done)|(rw[hb_];simp;omega)|(rw[hb_];simp;intros;omega)|(rw[hb_];simp +contextual;done)),?_⟩);subst hb_))
  refine ae (fun h=>?_) (fun hf=>?_)
  ·refine zY (by rw[ix,if_neg h8,if_pos];rintro⟨f0,f1⟩;rw[decide_eq_true f1] at h;rcases f0 with f0|f0 <;> rw[f0] at h <;> simp at h) (by decide)
  have hf:xH b:=by
   unfold xH
   by_cases k1:b.getD (Int.toNat 1) default=0
   ·by_cases k2:b.getD (Int.toNat 0) default=8
    ·exact⟨.inl k2,k1⟩
    ·by_cases k3:b.getD (Int.toNat 0) default=0
     ·exact⟨.inr k3,k1⟩
     ·rw[decide_eq_false k2,decide_eq_false k3] at hf;simp at hf
   ·rw[decide_eq_false k1] at hf;simp[Bool.cond_eq_ite] at hf
  refine ae (fun h=>?_) (fun h5=>?_)
  ·exact zY (by rw[ix,if_neg h8,if_neg (fun k=>k hf),if_pos (of_decide_eq_true h)]) (by decide)
  have h5:=of_decide_eq_false h5
  refine⟨by omega,by omega,by omega,?_⟩
  rintro x w ⟨rfl,rfl⟩
  refine⟨by simp[bz];omega,?_⟩
  rintro c rfl
  refine ae (fun h=>?_) (fun h=>?_)
  ·refine zY (by rw[ix,if_neg h8,if_neg (fun k=>k hf),if_neg h5,if_pos];intro k;rw[bV] at k;rw[decide_eq_true k] at h;cases h) (by decide)
  have h0:ix b=0:=by
   rw[ix,if_neg h8,if_neg (fun k=>k hf),if_neg h5,if_neg]
   intro k;rw[bV] at k;rw[decide_eq_false k] at h;cases h
  refine⟨by omega,by omega,by omega,by omega,by omega,by omega,by omega,by omega,by omega,by omega,by omega,by rw[si,List.length_drop];omega,?_⟩
  rintro y rfl
  rw[dO,if_pos h0,h0,si];exact⟨rfl,rfl⟩
theorem af1:av Tryz.prog GL 162 G3.spec:=Ct.okH _ Tryz.func162 (by kernel_rfl) (ai (ai (ai (ai aC (Ct.named EG)) (Ct.named uU)) BG) (Ct.named pE)) ar aj7 (aD (by kernel_rfl) ae4)
theorem Fu{b:List Int}{k:Nat}(h:k+2<=b.length):aG b k=b.getD k default*256+b.getD (k+1) default:=by
 have h0:k<b.length:=by omega
 have h1:k+1<b.length:=by omega
 have e:b.drop k=b[k]::b[k+1]::b.drop (k+1+1):=by rw[List.drop_eq_getElem_cons h0,List.drop_eq_getElem_cons h1]
 unfold aG
 rw[e,List.getD_eq_getElem?_getD,List.getD_eq_getElem?_getD,List.getElem?_eq_getElem h0,List.getElem?_eq_getElem h1]
 generalize b.drop (k+1+1)=r
 generalize b[k]=u
 generalize b[k+1]=v
 simp[dG]
theorem ZY(p r:Prop) [Decidable p] [Decidable r]:(bif !decide p then true else !decide r) = !decide (p/\r):=by
 by_cases p <;> by_cases r <;> simp[*]
def JK:Ct:=⟨[.val ce,.val ce,.val (.sl bj)],[.agg OI,.val cI],fun d=>[(d.2.2.1.length:Int)<=1000000],fun d=>((nI d.1 d.2.1 d.2.2.1,gW d.1 d.2.1 d.2.2.1,()),())⟩
def WQ:ao JK.ps->az:=(fun _=>{})
def cK(c:List Int) :=
 (c.length:Int)
def xq :=
 ((0:Int),(0:Int),([]:List Int))
theorem VN :
 ∀(a b:Int)(c:List Int),(0<=a/\a<=4294967295)/\(0<=b/\b<=4294967295)/\(c.length<=maxLen/\ ∀(d:Int),d∈c->0<=d/\d<=255)/\True->(cK c)<=1000000->ad (decide ((cK c)<8)) ((xq)=nI a b c/\(3:Int)=gW a b c) ((0:Int)<=4/\(4:Int)+2<=(cK c)/\(cK c)<=1099511627776/\ad (! decide (aG c (Int.toNat (4:Int))=(cK c))) ((xq)=nI a b c/\(2:Int)=gW a b c) (ad (decide (1480<(cK c))) ((xq)=nI a b c/\(5:Int)=gW a b c) ((0:Int)<=6/\(6:Int)+2<=(cK c)/\(cK c)<=1099511627776/\ ∀(d:List Int)(e:Int),d=bz c (Int.toNat (6:Int)) (0:Int)/\e=aG c (Int.toNat (6:Int))->(d.length:Int)<=1073741824/\ ∀(f:Int),f=iO a b d->ad (! decide (f=e)) ((xq)=nI a b c/\(4:Int)=gW a b c) ((0:Int)<=0/\(0:Int)+2<=(cK c)/\(cK c)<=1099511627776/\(0:Int)<=2/\(2:Int)+2<=(cK c)/\(cK c)<=1099511627776/\(0:Int)<=8/\8<=(cK c)/\(cK c)<=(cK c)/\((List.length (bW
 c (Int.toNat (8:Int)) (Int.toNat (cK c)))):Int)<=1099511627776/\ ∀(g:List Int),g=bW c (Int.toNat (8:Int)) (Int.toNat (cK c))->(aG c (Int.toNat (0:Int)),aG c (Int.toNat (2:Int)),g)=nI a b c/\(0:Int)=gW a b c)))):=by
  delta cK xq
  rintro s d b ⟨-,-,⟨-,hb⟩,-⟩ hl
  refine ae (fun h=>?_) (fun h8=>?_)
  ·exact A6 (by rw[gW,if_pos (of_decide_eq_true h)]) (by decide)
  have h8:=of_decide_eq_false h8
  repeat refine⟨by omega,?_⟩
  refine ae (fun h=>?_) (fun hf=>?_)
  ·exact A6 (by rw[gW,if_neg h8,if_pos];simpa using h) (by decide)
  have hf:aG b (Int.toNat 4)=b.length:=by simpa using hf
  refine ae (fun h=>?_) (fun h5=>?_)
  ·exact A6 (by rw[gW,if_neg h8,if_neg (fun k=>k hf),if_pos (of_decide_eq_true h)]) (by decide)
  have h5:=of_decide_eq_false h5
  repeat refine⟨by omega,?_⟩
  rintro x w ⟨rfl,rfl⟩
  refine⟨by rw[jU];omega,?_⟩
  rintro c rfl
  refine ae (fun h=>?_) (fun h=>?_)
  ·refine A6 (by rw[gW,if_neg h8,if_neg (fun k=>k hf),if_neg h5,if_pos];intro k;rw[decide_eq_true k] at h;cases h) (by decide)
  have h0:gW s d b=0:=by
   rw[gW,if_neg h8,if_neg (fun k=>k hf),if_neg h5,if_neg]
   intro k;rw[decide_eq_false k] at h;cases h
  rw[si]
  repeat refine⟨by omega,?_⟩
  refine⟨by rw[List.length_drop];omega,?_⟩
  rintro y rfl
  rw[nI,if_pos h0,h0];exact⟨rfl,rfl⟩
theorem X9:av Tryz.prog GL 269 JK.spec:=Ct.okH _ Tryz.func269 (by kernel_rfl) (ai (ai (ai (ai aC (Ct.named EG)) (Ct.named V7)) BG) (Ct.named pE)) ar WQ (aD (by kernel_rfl) VN)
def KD:Ct:=⟨[.val ce,.val ce,.val (.sl bj)],[.agg wU,.val cI],fun d=>[(d.2.2.1.length:Int)<=1000000],fun d=>((dE d.1 d.2.1 d.2.2.1,gI d.1 d.2.1 d.2.2.1,()),())⟩
def XK:ao KD.ps->az:=(fun _=>{})
def wY :=
 ((0:Int),(0:Int),(0:Int),(0:Int),(0:Int),(0:Int),([]:List Int))
theorem Sq :
 ∀(a b:Int)(c:List Int),(0<=a/\a<=4294967295)/\(0<=b/\b<=4294967295)/\(c.length<=maxLen/\ ∀(d:Int),d∈c->0<=d/\d<=255)/\True->(cK c)<=1000000->ad (decide ((cK c)<20)) ((wY)=dE a b c/\(3:Int)=gI a b c) ((0:Int)<=12/\12<(cK c)/\ ∀(d:Bool),d= ! decide (c.getD (Int.toNat (12:Int)) default=80)->((! d)->((! d)->(! d))/\(0:Int)<=18/\(18:Int)+2<=(cK c)/\(cK c)<=1099511627776/\True)/\((! d)->((! d)->(! d))/\True)/\(d=false->(! d))/\ad (bif d then true else ! decide (aG c (Int.toNat (18:Int))=0)) ((wY)=dE a b c/\(2:Int)=gI a b c) (ad (decide (1480<(cK c))) ((wY)=dE a b c/\(5:Int)=gI a b c) ((0:Int)<=16/\(16:Int)+2<=(cK c)/\(cK c)<=1099511627776/\ ∀(e:List Int)(f:Int),e=bz c (Int.toNat (16:Int)) (0:Int)/\f=aG c (Int.toNat (16:Int))->(e.length:Int)<=1073741824/\ ∀(g:Int),g=dr a b (6:Int) e->ad (! decide (g=f)) ((wY)=dE a b
 c/\(4:Int)=gI a b c) ((0:Int)<=0/\(0:Int)+2<=(cK c)/\(cK c)<=1099511627776/\(0:Int)<=2/\(2:Int)+2<=(cK c)/\(cK c)<=1099511627776/\(0:Int)<=4/\(4:Int)+2<=(cK c)/\(cK c)<=1099511627776/\(0:Int)<=16/\(0:Int)<=6/\(6:Int)+2<=(cK c)/\(cK c)<=1099511627776/\(0:Int)<=8/\(8:Int)+2<=(cK c)/\(cK c)<=1099511627776/\(0:Int)<=16/\(0:Int)<=10/\(10:Int)+2<=(cK c)/\(cK c)<=1099511627776/\(0:Int)<=13/\13<(cK c)/\(0:Int)<=14/\(14:Int)+2<=(cK c)/\(cK c)<=1099511627776/\(0:Int)<=20/\20<=(cK c)/\(cK c)<=(cK c)/\((List.length (bW c (Int.toNat (20:Int)) (Int.toNat (cK c)))):Int)<=1099511627776/\ ∀(h:List Int),h=bW c (Int.toNat (20:Int)) (Int.toNat (cK c))->(aG c (Int.toNat (0:Int)),aG c (Int.toNat (2:Int)),bits BinOp.or IntKind.i64 (db IntKind.i64 (aG c (Int.toNat (4:Int))) (16:Int)) (aG c (Int.toNat (6:Int))),bits BinOp.or IntKind.i64 (db
 IntKind.i64 (aG c (Int.toNat (8:Int))) (16:Int)) (aG c (Int.toNat (10:Int))),IntKind.wrap .i64 (c.getD (Int.toNat (13:Int)) default),aG c (Int.toNat (14:Int)),h)=dE a b c/\(0:Int)=gI a b c)))):=by
  delta cK wY
  rintro s d b ⟨-,-,⟨-,hb⟩,-⟩ hl
  refine ae (fun h=>?_) (fun h8=>?_)
  ·exact y8 (by rw[gI,if_pos (of_decide_eq_true h)]) (by decide)
  have h8:=of_decide_eq_false h8
  refine⟨by omega,by omega,?_⟩
  (repeat (intro (b_:Bool) (hb_:b_=_);(repeat refine⟨(by first|(simp;done)|(rw[hb_];simp;done)|(rw[hb_];simp;omega)|(rw[hb_];simp;intros;omega)|(rw[hb_];simp +contextual;done)),?_⟩);subst hb_))
  rw[show (bif !decide (b.getD (Int.toNat 12) default=80) then true else !decide (aG b (Int.toNat 18)=0)) = !decide (ya b) from (ZY _ _).trans (congrArg (fun x => !x) (decide_eq_decide.2 Iff.rfl))]
  refine ae (fun h=>?_) (fun hf=>?_)
  ·exact y8 (by rw[gI,if_neg h8,if_pos];simpa using h) (by decide)
  have hf:ya b:=by simpa using hf
  refine ae (fun h=>?_) (fun h5=>?_)
  ·exact y8 (by rw[gI,if_neg h8,if_neg (fun k=>k hf),if_pos (of_decide_eq_true h)]) (by decide)
  have h5:=of_decide_eq_false h5
  repeat refine⟨by omega,?_⟩
  rintro x w ⟨rfl,rfl⟩
  refine⟨by rw[jU];omega,?_⟩
  rintro c rfl
  refine ae (fun h=>?_) (fun h=>?_)
  ·exact y8 (by rw[gI,if_neg h8,if_neg (fun k=>k hf),if_neg h5,if_pos];intro k;rw[decide_eq_true k] at h;cases h) (by decide)
  have h0:gI s d b=0:=by
   rw[gI,if_neg h8,if_neg (fun k=>k hf),if_neg h5,if_neg]
   intro k;rw[decide_eq_false k] at h;cases h
  rw[si]
  repeat refine⟨by omega,?_⟩
  refine⟨by rw[List.length_drop];omega,?_⟩
  rintro y rfl
  have g:=hb _ (bH (xs:=b) (i:=13) (by omega) (by omega))
  have v4:=AB (k:=Int.toNat 4) hb
  have v6:=AB (k:=Int.toNat 6) hb
  have v8:=AB (k:=Int.toNat 8) hb
  have v10:=AB (k:=Int.toNat 10) hb
  rw[dE,if_pos h0,h0,af (by omega) (by omega),Ld v4.1 v4.2 v6.1 v6.2,Ld v8.1 v8.2 v10.1 v10.2];exact⟨rfl,rfl⟩
theorem Yi:av Tryz.prog GL 166 KD.spec:=Ct.okH _ Tryz.func166 (by kernel_rfl) (ai (ai (ai (ai aC (Ct.named EG)) (Ct.named Ff)) BG) (Ct.named pE)) ar XK (aD (by kernel_rfl) Sq)
end Go.RS

/- Trback: messages are decoded from their encodings; what damage does. -/
namespace Go.RS
open Go.SX Go.Proofs
set_option maxRecDepth 100000
set_option linter.unusedVariables false
def Am(data:List Int)(e:kP):Prop:=(bQ e.2.1=true/\bQ e.2.2.1=true)/\e.2.2.2=data
def Ec(data:List Int)(u:nP):Prop:=(bQ u.1=true/\bQ u.2.1=true)/\u.2.2=data
def zq(data:List Int)(s:jC):Prop:=me s/\s.2.2.2.2.2.2=data
theorem jw{n:Int}(h0:0<=n)(h1:n<=65535):n/256%256*256+n%256=n:=by omega
theorem ad6{e:kP}(h:hY e=0):dh e=(if e.1 then 0 else 8)::0::(bV (bG e)/256%256)::(bV (bG e)%256)::(e.2.1/256%256)::(e.2.1%256)::(e.2.2.1/256%256)::(e.2.2.1%256)::e.2.2.2:=by
 rw[dh,if_pos h];rfl
theorem BH{data:List Int}{e:kP}(h:Am data e)(hl:(data.length:Int)<=1472):hY e=0:=by
 rw[hY,if_neg (fun k=>k h.1),if_neg (by rw[h.2];omega)]
theorem H0{data:List Int}{e:kP}(h:Am data e)(hd:bytes data)(hl:(data.length:Int)<=1472):ix (dh e)=0/\dO (dh e)=e:=by
 have h0:=BH h hl
 rw[ad6 h0]
 obtain⟨⟨h1,h2⟩,h3⟩:=h
 rw[gm] at h1 h2
 have hc:=mQ (sO (e:=e) (by rw[h3];exact hd))
 have hb:bG e=(if e.1 then 0 else 8)::0::0::0::(e.2.1/256%256)::(e.2.1%256)::(e.2.2.1/256%256)::(e.2.2.1%256)::e.2.2.2:=rfl
 obtain⟨r,i,q,l⟩:=e
 simp only at h1 h2 h3 hc hb ⊢
 subst h3
 have he:ix ((if r then 0 else 8)::0::(bV (bG (r,i,q,l))/256%256)::(bV (bG (r,i,q,l))%256)::(i/256%256)::(i%256)::(q/256%256)::(q%256)::l)=0:=by
  rw[ix,if_neg (by simp only[List.length_cons];omega),if_neg,if_neg (by simp only[List.length_cons];omega),if_neg]
  ·have e2:aG ((if r then 0 else 8)::0::(bV (bG (r,i,q,l))/256%256)::(bV (bG (r,i,q,l))%256)::(i/256%256)::(i%256)::(q/256%256)::(q%256)::l) (Int.toNat 2)=bV (bG (r,i,q,l))/256%256*256+bV (bG (r,i,q,l))%256:=fB _ _ _
   rw[e2,jw hc.1 hc.2]
   have e3:bz ((if r then 0 else 8)::0::(bV (bG (r,i,q,l))/256%256)::(bV (bG (r,i,q,l))%256)::(i/256%256)::(i%256)::(q/256%256)::(q%256)::l) (Int.toNat 2) 0=bG (r,i,q,l):=rfl
   rw[e3];exact fun k=>k rfl
  ·intro k;apply k
   refine⟨?_,rfl⟩
   cases r
   ·exact .inl rfl
   ·exact .inr rfl
 refine⟨he,?_⟩
 rw[dO,if_pos he]
 have e4:aG ((if r then 0 else 8)::0::(bV (bG (r,i,q,l))/256%256)::(bV (bG (r,i,q,l))%256)::(i/256%256)::(i%256)::(q/256%256)::(q%256)::l) (Int.toNat 4)=i/256%256*256+i%256:=fB _ _ _
 have e6:aG ((if r then 0 else 8)::0::(bV (bG (r,i,q,l))/256%256)::(bV (bG (r,i,q,l))%256)::(i/256%256)::(i%256)::(q/256%256)::(q%256)::l) (Int.toNat 6)=q/256%256*256+q%256:=fB _ _ _
 rw[e4,e6,jw h1.1 h1.2,jw h2.1 h2.2]
 cases r <;> rfl
theorem Kn{data:List Int}{u:nP}(h:Ec data u)(hl:(data.length:Int)<=1472):kK u=0:=by
 rw[kK,if_neg (fun k=>k h.1),if_neg (by rw[h.2];omega)]
theorem an5{s d:Int}{data:List Int}{u:nP}(h:Ec data u)(hd:bytes data)(hl:(data.length:Int)<=1472):gW s d (jN s d u)=0/\nI s d (jN s d u)=u:=by
 have h0:=Kn h hl
 obtain⟨⟨h1,h2⟩,h3⟩:=h
 rw[gm] at h1 h2
 have hc:=GZ (a:=s) (b:=d) (xd (e:=u) (by rw[h3];exact hd))
 obtain⟨sp,dp,l⟩:=u
 simp only at h1 h2 h3 hc
 subst h3
 generalize hB:jN s d (sp,dp,l)=B
 have hs:B=(sp/256%256)::(sp%256)::(dp/256%256)::(dp%256)::((8+l.length:Int)/256%256)::((8+l.length:Int)%256)::(iO s d (da (sp,dp,l))/256%256)::(iO s d (da (sp,dp,l))%256)::l:=by rw[← hB,jN,if_pos h0];rfl
 have i0:aG B (Int.toNat 0)=sp/256%256*256+sp%256:=by rw[hs];exact fB _ _ _
 have i2:aG B (Int.toNat 2)=dp/256%256*256+dp%256:=by rw[hs];exact fB _ _ _
 have i4:aG B (Int.toNat 4)=(8+l.length:Int)/256%256*256+(8+l.length:Int)%256:=by rw[hs];exact fB _ _ _
 have i6:aG B (Int.toNat 6)=iO s d (da (sp,dp,l))/256%256*256+iO s d (da (sp,dp,l))%256:=by rw[hs];exact fB _ _ _
 have hset:bz B (Int.toNat 6) 0=da (sp,dp,l):=by rw[hs];rfl
 have hlen:(B.length:Int)=8+l.length:=by rw[hs];simp only[List.length_cons];omega
 have g8:B.drop 8=l:=by rw[hs];rfl
 have he:gW s d B=0:=by
  rw[gW,if_neg (by omega),if_neg (fun q=>q (by rw[i4];omega)),if_neg (by omega),if_neg]
  rw[hset,i6,jw hc.1 hc.2];exact fun q=>q rfl
 refine⟨he,?_⟩
 rw[nI,if_pos he,i0,i2,g8,jw h1.1 h1.2,jw h2.1 h2.2]
theorem Fw{data:List Int}{s:jC}(h:zq data s)(hl:(data.length:Int)<=1460):iS s=0:=by
 rw[iS,if_neg (fun k=>k h.1),if_neg (by rw[h.2];omega)]
theorem NN{n:Int}(h0:0<=n)(h1:n<=4294967295):(n/16777216%256*256+n/65536%256)*65536+(n/256%256*256+n%256)=n:=by omega
theorem Pd{s d:Int}{data:List Int}{u:jC}(h:zq data u)(hd:bytes data)(hl:(data.length:Int)<=1460):gI s d (de s d u)=0/\dE s d (de s d u)=u:=by
 have h0:=Fw h hl
 obtain⟨hok,h3⟩:=h
 have hc:=wc (a:=s) (b:=d) (p:=6) (vz hok (by rw[h3];exact hd))
 obtain⟨h1,h2,k3,k4,k5,k6⟩:=hok
 rw[gm] at h1 h2 k6
 obtain⟨sp,dp,sq,ak,fl,wi,l⟩:=u
 simp only at h1 h2 h3 hc k3 k4 k5 k6
 subst h3
 generalize hC:dr s d 6 (iy (sp,dp,sq,ak,fl,wi,l))=c at hc
 generalize hB:de s d (sp,dp,sq,ak,fl,wi,l)=B
 have hs:B=(sp/256%256)::(sp%256)::(dp/256%256)::(dp%256)::(sq/16777216%256)::(sq/65536%256)::(sq/256%256)::(sq%256)::(ak/16777216%256)::(ak/65536%256)::(ak/256%256)::(ak%256)::80::fl::(wi/256%256)::(wi%256)::(c/256%256)::(c%256)::0::0::l:=by rw[← hB,de,if_pos h0,hC];rfl
 have i0:aG B (Int.toNat 0)=sp/256%256*256+sp%256:=by rw[hs];exact fB _ _ _
 have i2:aG B (Int.toNat 2)=dp/256%256*256+dp%256:=by rw[hs];exact fB _ _ _
 have i4:aG B (Int.toNat 4)=sq/16777216%256*256+sq/65536%256:=by rw[hs];exact fB _ _ _
 have i6:aG B (Int.toNat 6)=sq/256%256*256+sq%256:=by rw[hs];exact fB _ _ _
 have i8:aG B (Int.toNat 8)=ak/16777216%256*256+ak/65536%256:=by rw[hs];exact fB _ _ _
 have i10:aG B (Int.toNat 10)=ak/256%256*256+ak%256:=by rw[hs];exact fB _ _ _
 have i14:aG B (Int.toNat 14)=wi/256%256*256+wi%256:=by rw[hs];exact fB _ _ _
 have i16:aG B (Int.toNat 16)=c/256%256*256+c%256:=by rw[hs];exact fB _ _ _
 have i18:aG B (Int.toNat 18)=0:=by rw[hs];exact fB 0 0 _
 have hset:bz B (Int.toNat 16) 0=iy (sp,dp,sq,ak,fl,wi,l):=by rw[hs];rfl
 have hlen:(B.length:Int)=20+l.length:=by rw[hs];simp only[List.length_cons];omega
 have g12:B.getD (Int.toNat 12) default=80:=by rw[hs];rfl
 have g13:B.getD (Int.toNat 13) default=fl:=by rw[hs];rfl
 have g20:B.drop 20=l:=by rw[hs];rfl
 have he:gI s d B=0:=by
  rw[gI,if_neg (by omega),if_neg (fun q=>q ⟨g12,i18⟩),if_neg (by omega),if_neg]
  rw[hset,hC,i16,jw hc.1 hc.2];exact fun q=>q rfl
 refine⟨he,?_⟩
 rw[dE,if_pos he,i0,i2,i4,i6,i8,i10,g13,i14,g20,jw h1.1 h1.2,jw h2.1 h2.2,jw k6.1 k6.2,NN k3.1 k3.2,NN k4.1 k4.2]
def oZ(s d p n:Int):List Int:=w4 s++(w4 d++(w2 p++w2 n))
theorem EN(s d p:Int)(X:List Int):aZ true (sP s d p X)=aZ true (oZ s d p X.length)+aZ true X:=by
 have e:sP s d p X=oZ s d p X.length++X:=by simp[sP,oZ]
 have hl:(oZ s d p X.length).length=12:=by simp[oZ,w4,w2]
 rw[e,yF,hl];rfl
theorem Wp(s d p n:Int):aZ true (oZ s d p n)=aZ true (w4 s)+aZ true (w4 d)+aZ true (w2 p)+aZ true (w2 n):=by
 have h4:∀ n r,aZ true (w4 n++r)=aZ true (w4 n)+aZ true r:=fun n r=>by rw[yF,show (w4 n).length=4 from rfl];rfl
 have h2:∀ n r,aZ true (w2 n++r)=aZ true (w2 n)+aZ true r:=fun n r=>by rw[yF,show (w2 n).length=2 from rfl];rfl
 rw[oZ,h4,h4,h2]
 omega
theorem T3(e:kP):((dh e).length:Int)<=1480:=by
 unfold dh
 split
 ·rename_i h
  rw[jU,yL]
  unfold hY at h
  split at h
  ·cases h
  ·split at h
   ·cases h
   ·omega
 ·simp
theorem Gj(e:mA):((fL e).length:Int)<=1480:=by
 unfold fL
 split
 ·rename_i h
  rw[jU,Fo]
  unfold gw at h
  split at h
  ·cases h
  ·split at h
   ·cases h
   ·split at h
    ·cases h
    ·omega
 ·simp
theorem Ur(s d:Int)(e:jC):((de s d e).length:Int)<=1480:=by
 unfold de
 split
 ·rename_i h
  rw[jU,vX]
  unfold iS at h
  split at h
  ·cases h
  ·split at h
   ·cases h
   ·omega
 ·simp
theorem K2{l:List Int}{i:Nat}{v:Int}(h:i<l.length):(l.set i v).getD i default=v:=by
 rw[List.getD_eq_getElem?_getD,List.getElem?_set_self h,Option.getD_some]
theorem yz{l:List Int}{i j:Nat}{v:Int}(h:i≠j):(l.set i v).getD j default=l.getD j default:=by
 rw[List.getD_eq_getElem?_getD,List.getElem?_set_ne h,← List.getD_eq_getElem?_getD]
theorem Ng(s d p n:Int):p%256<=aZ true (oZ s d p n):=by
 rw[Wp];simp[aZ,w4,w2];omega
end Go.RS
