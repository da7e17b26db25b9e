/- Wire: numbers in bytes, the Internet checksum. -/
import Derived.Test.YtffciochlkcjbaaIdent
import Derived.Laws.CopyRow
import Derived.LaidMore
import Derived.Stop.Joined
import Derived.FnData
import Derived.MakeChecks
import Derived.Lib.AppendZerosOnto
import Derived.Lib.Overlaps
import Derived.Laws.Externs
import Derived.Lib.Walk
import Derived.Lib.SliceRun
import Derived.Shelf.RegionOpenPlain
import Derived.Laws.BitsAllLaws
namespace Go.RS
open Go.SX Go.Proofs
set_option maxRecDepth 100000
set_option linter.unusedVariables false
def cj(n:Int)(w k:Nat):List Int:=(List.range k).map fun j=>n/256^(w-1-j)%256
def iw(n w:Int):Prop:=w<1∨7<w∨n<0∨256^w.toNat<=n
instance (n w:Int):Decidable (iw n w):=by unfold iw;infer_instance
def ec(b:List Int)(n w:Int):List Int:=if iw n w then [] else b++cj n w.toNat w.toNat
def lG(n w:Int):Int:=if iw n w then 1 else 0
def cN(l:List Int):Int:=l.foldl (fun n x=>n*256+x) 0
def bH(b:List Int)(at' w:Int):Int:=if w<1∨7<w∨at'<0∨b.length-w<at' then 0 else cN ((b.drop at'.toNat).take w.toNat)
def gq(b:List Int)(at' w:Int):Int:=if w<1∨7<w∨at'<0 then 1 else if b.length-w<at' then 3 else 0
theorem xF(a b:Nat)(ha:a<9223372036854775808)(hb:b<9223372036854775808):bits .or .i64 (a:Int) (b:Int)=((a ||| b:Nat):Int):=by
 have h:a ||| b<2^63:=Nat.or_lt_two_pow (by omega) (by omega)
 have key:(BitVec.ofInt 64 (a:Int) ||| BitVec.ofInt 64 (b:Int)).toNat=a ||| b:=by
  rw[BitVec.toNat_or,BitVec.toNat_ofInt,BitVec.toNat_ofInt]
  have e1:((a:Int)%((2^64:Nat):Int)).toNat=a:=by omega
  have e2:((b:Int)%((2^64:Nat):Int)).toNat=b:=by omega
  rw[e1,e2]
 show IntKind.i64.wrap ((BitVec.ofInt 64 (a:Int) ||| BitVec.ofInt 64 (b:Int)).toNat:Nat)=_
 rw[key,ad (by omega) (by omega)]
theorem A9{n:Int}(h0:0<=n)(h1:n<=36028797018963967):gW .i64 n 8=n*256:=by
 show IntKind.i64.wrap (n*2^(min 8 64))=_
 rw[ad (by simp;omega) (by simp;omega)];rfl
theorem sA{n x:Int}(h0:0<=n)(h1:n<=36028797018963966)(h2:0<=x)(h3:x<=255):bits .or .i64 (gW .i64 n 8) (IntKind.wrap .i64 x)=n*256+x:=by
 rw[A9 h0 (by omega),ad (n:=x) (by omega) (by omega)]
 obtain⟨m,rfl⟩:=Int.eq_ofNat_of_zero_le h0
 obtain⟨y,rfl⟩:=Int.eq_ofNat_of_zero_le h2
 have:=xF (m*256) y (by omega) (by omega)
 rw[nat_join 8 (m*256) y (by omega) (by omega)] at this
 push_cast at this
 exact this
theorem rO{n:Int}{k:Nat}(h0:0<=n)(hk:k<8):dN .i64 n (8*k)=n/256^k:=by
 unfold dN
 have hm:min ((8*(k:Int))).toNat IntKind.i64.bits=8*k:=by simp only[IntKind.bits];omega
 rw[hm,Int.fdiv_eq_ediv_of_nonneg _ (Int.le_of_lt (Int.pow_pos (by decide))),Int.pow_mul]
 rfl
theorem xk{w:Int}(h0:1<=w)(h1:w<=7):gW .i64 1 (IntKind.wrap .i64 (8*w))=256^w.toNat:=by
 have:w=1∨w=2∨w=3∨w=4∨w=5∨w=6∨w=7:=by omega
 rcases this with rfl|rfl|rfl|rfl|rfl|rfl|rfl <;> decide
theorem Bz(n:Int)(w k:Nat):cj n w (k+1)=cj n w k++[n/256^(w-1-k)%256]:=by
 unfold cj;rw[List.range_succ,List.map_append];rfl
theorem ju(n:Int)(w k:Nat):(cj n w k).length=k:=by unfold cj;simp
theorem qQ(l:List Int)(x:Int):cN (l++[x])=cN l*256+x:=by unfold cN;rw[List.foldl_append];rfl
theorem Eg:∀(k:Nat)(l:List Int),l.length<=k->(∀ x∈l,0<=x/\x<=255)->0<=cN l/\cN l<256^k:=by
 intro k
 induction k with
 | zero =>
  intro l hl _
  have:l=[]:=List.eq_nil_of_length_eq_zero (by omega)
  subst this;exact⟨by decide,by decide⟩
 | succ k ih =>
  intro l hl hx
  rcases List.eq_nil_or_concat l with rfl|⟨m,x,rfl⟩
  ·exact⟨by decide,Int.pow_pos (by decide)⟩
  ·rw[List.concat_eq_append] at hl hx ⊢
   have h1:=ih m (by simp at hl;omega) (fun y hy=>hx y (List.mem_append_left _ hy))
   have h2:=hx x (by simp)
   rw[qQ,Int.pow_succ]
   generalize (256:Int)^k=P at h1 ⊢
   omega
theorem pg{l:List Int}(hl:l.length<=6)(hx:∀ x∈l,0<=x/\x<=255):0<=cN l/\cN l<=281474976710655:=by
 have:=Eg 6 l hl hx
 have e:(256:Int)^6=281474976710656:=by decide
 omega
theorem nC{l:List Int}{j:Int}(h0:0<=j)(h1:j<l.length):l.take (j+1).toNat=l.take j.toNat++[l.getD j.toNat default]:=by
 have hj:j.toNat<l.length:=by omega
 rw[show (j+1).toNat=j.toNat+1 from by omega,List.take_succ_eq_append_getElem hj,List.getD_eq_getElem?_getD,List.getElem?_eq_getElem hj,Option.getD_some]
def sk:Ct:=⟨[.val (.sl aT)],[.own 5 aT],fun d=>[(d.1.length:Int)<=1099511627776],fun d=>((d.1,()),())⟩
def zb:az sk.ps->aI:=(fun _=>{})
theorem CM :
 ∀(a:List Int),(a.length<=maxLen/\ ∀(b:Int),b∈a->0<=b/\b<=255)/\True->(a.length:Int)<=1099511627776-> ∀(b:Bool),(b=true->a.length=(0:Nat))->ah b (([]:List Int)=a) (((0:Nat)+a.length)*(1:Nat)<=(140737488355328:Nat)/\a=a):=by
  rintro x ⟨⟨hl,-⟩,-⟩ h b hb
  refine ar (fun h1=>?_) (fun h1=>⟨by omega,rfl⟩)
  have:=hb h1
  exact (List.eq_nil_of_length_eq_zero this).symm
theorem kO:aC Try.prog GL 37 sk.spec:=Ct.okH _ Try.func37 (by kernel_rfl) aP ay zb (aO (by kernel_rfl) CM)
def wU:Ct:=⟨[.val (.sl aT),.val cI,.val cI],[.val cI,.val cI],fun d=>[(d.1.length:Int)<=9223372036854775807],fun d=>((bH d.1 d.2.1 d.2.2.1,gq d.1 d.2.1 d.2.2.1,()),())⟩
def CN:az wU.ps->aI:=(fun d=>{loops:=(fun n=>match n with|7=>some (fun S=>{ι:=Int×Int,qn:=⟨fun k_=>∀(j:Int)(n:Int),k_ (j,n),fun k_ h_ i=>h_ i.1 i.2,fun k_=>∃ (j:Int) (n:Int),k_ (j,n),fun k_ ⟨j,n,h_⟩=>⟨_,h_⟩⟩,μ:=fun i=>(d.2.2.1-i.1).toNat,inv:=fun i=>0<=i.1/\i.1<=d.2.2.1/\i.2=cN (((d.1.drop d.2.1.toNat).take d.2.2.1.toNat).take i.1.toNat),keep:=[34,35],slots:=fun i=>[(8,.int .i64 i.2),(36,.int .i64 i.1)],names:=fun i=>[]})|_=>none)})
def jJ(b c:Int) :=
 Int.toNat (IntKind.wrap .i64 (b+c))
def jX(a:List Int)(b c:Int) :=
 ((List.length (bi a b.toNat (jJ b c))):Int)
def gR(a:List Int) :=
 a.length<=maxLen/\ ∀(d:Int),d∈a->0<=d/\d<=255
def ji(a:List Int)(b c:Int) :=
 List.take c.toNat (List.drop b.toNat a)
theorem AD :
 ∀(a:List Int)(b c:Int),(gR a)/\ak b/\ak c/\True->(a.length:Int)<=9223372036854775807-> ∀(d:Bool),d=decide (c<1)->((! d)->((! d)->(! d))/\True)/\(d=false->(! d))/\ ∀(e:Bool),(e=bif d then true else decide (7<c))->((! e)->((! e)->(! e))/\True)/\(e=false->(! e))/\ah (bif e then true else decide (b<0)) ((0:Int)=bH a b c/\(1:Int)=gq a b c) (ah (decide (IntKind.wrap .i64 ((a.length:Int) -c)<b)) ((0:Int)=bH a b c/\(3:Int)=gq a b c) (0<=b/\b<=IntKind.wrap .i64 (b+c)/\IntKind.wrap .i64 (b+c)<=(a.length:Int)/\(∃(f:Int) (g:Int),(0<=f/\f<=c/\g=cN (List.take f.toNat (ji a b c)))/\(0:Int)=g/\bi a b.toNat (jJ b c)=bi a b.toNat (jJ b c)/\(jX a b c)=(jX a b c)/\(0:Int)=f/\True)/\ ∀(f g:Int),0<=f/\f<=c/\g=cN (List.take f.toNat (ji a b c))->ah (decide (f<(jX a b c))) (0<=f/\f<(jX a b c)/\(0:Int)<=8/\ ∃(h:Int) (i:Int),(0<=h/\h<=c/\i=cN (List.take h.toNat (ji a b
 c)))/\Int.toNat (c -h)<Int.toNat (c -f)/\bits BinOp.or IntKind.i64 (gW IntKind.i64 g (8:Int)) (IntKind.wrap .i64 (List.getD (bi a b.toNat (jJ b c)) f.toNat default))=i/\bi a b.toNat (jJ b c)=bi a b.toNat (jJ b c)/\(jX a b c)=(jX a b c)/\IntKind.wrap .i64 (f+(1:Int))=h/\True) (g=bH a b c/\(0:Int)=gq a b c))):=by
  delta jX jJ gR ji
  rintro b a w ⟨⟨hl0,hx⟩,⟨a0,a1⟩,⟨w0,w1⟩,-⟩ hl
  (repeat (intro (b_:Bool) (hb_:b_=_);(repeat refine⟨(by first|(simp;done)|(rw[hb_];simp;done)|(rw[hb_];simp;omega)|(rw[hb_];simp;intros;omega)|(rw[hb_];simp +contextual;done)),?_⟩);subst hb_))
  unfold bH gq
  refine ar (fun hc=>?_) (fun hc=>?_)
  ·have h:w<1∨7<w∨a<0:=by simp[Bool.cond_eq_ite] at hc;omega
   rw[if_pos (by omega),if_pos h];exact⟨rfl,rfl⟩
  have h:¬ (w<1∨7<w∨a<0):=by simp[Bool.cond_eq_ite] at hc;omega
  rw[ad (n:=(b.length:Int)-w) (by omega) (by omega),if_neg h]
  refine ar (fun hd=>?_) (fun hd=>?_)
  ·have hd:=of_decide_eq_true hd
   rw[if_pos (by omega),if_pos hd];exact⟨rfl,rfl⟩
  have hd:=of_decide_eq_false hd
  rw[if_neg (by omega),if_neg hd,ad (n:=a+w) (by omega) (by omega)]
  have hsub:bi b a.toNat (a+w).toNat=(b.drop a.toNat).take w.toNat:=by
   unfold bi;rw[List.drop_take,show (a+w).toNat-a.toNat=w.toNat from by omega]
  rw[hsub]
  have hlen:((b.drop a.toNat).take w.toNat).length=w.toNat:=by rw[List.length_take,List.length_drop];omega
  have hy:∀ y∈(b.drop a.toNat).take w.toNat,0<=y/\y<=255:=fun y hy=>hx y (List.mem_of_mem_drop (List.mem_of_mem_take hy))
  generalize (b.drop a.toNat).take w.toNat=m at *
  rw[hlen]
  refine⟨by omega,by omega,by omega,⟨0,0,⟨by omega,by omega,by simp[cN]⟩,(by repeat' first|exact trivial|refine⟨trivial,?_⟩|refine⟨(by with_reducible rfl),?_⟩|refine⟨ad (by omega) (by omega),?_⟩|refine⟨rfl,?_⟩)⟩,?_⟩
  rintro j n ⟨j0,j1,rfl⟩
  refine ar (fun hj=>?_) (fun hj=>?_)
  ·have hj:=of_decide_eq_true hj
   have ht:=nC (l:=m) j0 (by omega)
   obtain⟨x0,x1⟩:=hy _ (cE (xs:=m) j0 (by omega))
   have hb:=pg (l:=m.take j.toNat) (by rw[List.length_take];omega) (fun y h=>hy y (List.mem_of_mem_take h))
   refine⟨j0,hj,by omega,j+1,_,⟨by omega,by omega,rfl⟩,by omega,?_,rfl,rfl,ad (by omega) (by omega),trivial⟩
   rw[ht,qQ,sA hb.1 (by omega) x0 x1]
  ·have hj:=of_decide_eq_false hj
   rw[List.take_of_length_le (by omega)];exact⟨rfl,rfl⟩
theorem Av:aC Try.prog GL 92 wU.spec:=Ct.okH _ Try.func92 (by kernel_rfl) aP ay CN (aO (by kernel_rfl) AD)
def t9:Ct:=⟨[.val (.sl aT),.val cI,.val cI],[.own 5 aT,.val cI],fun d=>[(d.1.length:Int)<=1099511627776],fun d=>((ec d.1 d.2.1 d.2.2.1,lG d.2.1 d.2.2.1,()),())⟩
def CX:az t9.ps->aI:=(fun d=>{loops:=(fun n=>match n with|5=>some (fun S=>{ι:=Int×(List Int),qn:=⟨fun k_=>∀(k:Int)(ys:(List Int)),k_ (k,ys),fun k_ h_ i=>h_ i.1 i.2,fun k_=>∃ (k:Int) (ys:(List Int)),k_ (k,ys),fun k_ ⟨k,ys,h_⟩=>⟨_,h_⟩⟩,μ:=fun i=>(d.2.2.1-i.1).toNat,inv:=fun i=>0<=i.1/\i.1<=d.2.2.1/\i.2=d.1++cj d.2.1 d.2.2.1.toNat i.1.toNat,keep:=[1,2],slots:=fun i=>[(8,.own 524288 1),(9,.int .i64 (d.2.2.1-1-i.1))],names:=fun i=>[(524288,.live (.row 5 aT i.2))]})|_=>none)})
theorem BT :
 ∀(a:List Int)(b c:Int),(gR a)/\ak b/\ak c/\True->(a.length:Int)<=1099511627776-> ∀(d:Bool),d=decide (c<1)->((! d)->((! d)->(! d))/\True)/\(d=false->(! d))/\ ∀(e:Bool),(e=bif d then true else decide (7<c))->((! e)->((! e)->(! e))/\True)/\(e=false->(! e))/\ ∀(f:Bool),(f=bif e then true else decide (b<0))->((! f)->((! f)->(! f))/\True)/\((! f)->((! f)->(! f))/\0<=IntKind.wrap .i64 ((8:Int)*c)/\True)/\((! f)->((! f)->(! f))/\((! f)->(! f))/\True)/\(f=false->(! f))/\ah (bif f then true else decide (gW IntKind.i64 (1:Int) (IntKind.wrap .i64 ((8:Int)*c))<=b)) (([]:List Int)=ec a b c/\(1:Int)=lG b c) (a.length*(1:Nat)<=(140737488355328:Nat)/\(∃(g:Int) (h:List Int),(0<=g/\g<=c/\h=a++cj b c.toNat g.toNat)/\b=b/\c=c/\IntKind.wrap .i64 (c -(1:Int))=c -(1:Int) -g/\a=h/\True)/\ ∀(g:Int)(h:List Int),0<=g/\g<=c/\h=a++cj b c.toNat g.toNat->ah (decide (0<=c -(1:Int) -g)) (0<=IntKind.wrap
 .i64 ((8:Int)*(c -(1:Int) -g))/\(h.length+List.length [IntKind.wrap .u8 (dN IntKind.i64 b (IntKind.wrap .i64 ((8:Int)*(c -(1:Int) -g))))])*(1:Nat)<=(140737488355328:Nat)/\ ∃(i:Int) (j:List Int),(0<=i/\i<=c/\j=a++cj b c.toNat i.toNat)/\Int.toNat (c -i)<Int.toNat (c -g)/\b=b/\c=c/\IntKind.wrap .i64 (c -(1:Int) -g -(1:Int))=c -(1:Int) -i/\h++[IntKind.wrap .u8 (dN IntKind.i64 b (IntKind.wrap .i64 ((8:Int)*(c -(1:Int) -g))))]=j/\True) (h=ec a b c/\(0:Int)=lG b c)):=by
  delta gR
  rintro b n w ⟨-,⟨n0,n1⟩,⟨w0,w1⟩,-⟩ hl
  rintro b1 rfl
  refine⟨by simp,by simp,?_⟩
  rintro b1 rfl
  refine⟨by simp,by simp,?_⟩
  rintro b1 rfl
  have hpre:(!(bif (bif decide (w<1) then true else decide (7<w)) then true else decide (n<0)))=true->1<=w/\w<=7/\0<=n:=by
   simp[Bool.cond_eq_ite];omega
  refine⟨by simp,fun h=>⟨fun _=>h,by have:=hpre h;rw[ad (by omega) (by omega)];omega,trivial⟩,fun h=>⟨fun _=>h,fun _=>h,trivial⟩,by simp,?_⟩
  refine ar (fun hc=>?_) (fun hc=>?_)
  ·have hbad:iw n w:=by
    unfold iw
    by_cases h:1<=w/\w<=7
    ·rw[xk h.1 h.2] at hc
     simp[Bool.cond_eq_ite] at hc;omega
    ·omega
   rw[ec,lG,if_pos hbad,if_pos hbad];exact⟨rfl,rfl⟩
  ·have hw:1<=w/\w<=7/\0<=n:=hpre (by
    cases h:(bif (bif decide (w<1) then true else decide (7<w)) then true else decide (n<0)) with
    | false=>rfl
    | true=>rw[h] at hc;simp at hc)
   obtain⟨h1,h7,hn⟩:=hw
   rw[xk h1 h7] at hc
   have hgood:¬ iw n w:=by
    unfold iw
    simp[Bool.cond_eq_ite] at hc;omega
   rw[ec,lG,if_neg hgood,if_neg hgood]
   refine⟨by omega,⟨0,b,⟨by omega,by omega,by simp[cj]⟩,rfl,rfl,by rw[ad (by omega) (by omega)];omega,rfl,trivial⟩,?_⟩
   rintro k ys ⟨k0,k1,rfl⟩
   refine ar (fun hk=>?_) (fun hk=>?_)
   ·have hk:=of_decide_eq_true hk
    rw[ad (n:=8*(w-1-k)) (by omega) (by omega)]
    obtain⟨j,hj⟩:=Int.eq_ofNat_of_zero_le (show 0<=w-1-k by omega)
    rw[hj,rO hn (by omega),IntKind.wrap_u8']
    have hbl:=ju n w.toNat k.toNat
    refine⟨by omega,by simp only[List.length_append,List.length_singleton,hbl];omega,k+1,_,⟨by omega,by omega,rfl⟩,by omega,rfl,rfl,by rw[ad (by omega) (by omega)];omega,?_,trivial⟩
    rw[show (k+1).toNat=k.toNat+1 from by omega,Bz,List.append_assoc,show w.toNat-1-k.toNat=j from by omega]
   ·have hk:=of_decide_eq_false hk
    rw[show k=w from by omega];exact⟨rfl,rfl⟩
theorem Dm:aC Try.prog GL 87 t9.spec:=Ct.okH _ Try.func87 (by kernel_rfl) aP ay CX (aO (by kernel_rfl) BT)
def wR:Ct:=⟨[.val (.sl aT),.val cI,.val cI],[.own 5 aT],fun d=>[(d.1.length:Int)<=1099511627776],fun d=>((ec d.1 d.2.1 d.2.2.1,()),())⟩
def zt:az wR.ps->aI:=(fun _=>{})
theorem zY :
 ∀(a:List Int)(b c:Int),(gR a)/\ak b/\ak c/\True->(a.length:Int)<=1099511627776->(a.length:Int)<=1099511627776/\ec a b c=ec a b c:=by
  delta gR
  intro b n w _ h
  exact⟨h,rfl⟩
theorem vU:aC Try.prog GL 71 wR.spec:=Ct.okH _ Try.func71 (by kernel_rfl) (av aP Dm) ay zt (aO (by kernel_rfl) zY)
def vA:Ct:=⟨[.val (.sl aT),.val cI,.val cI],[.val cI,.val cI],fun d=>[(d.1.length:Int)<=9223372036854775807],fun d=>((bH d.1 d.2.1 d.2.2.1,gq d.1 d.2.1 d.2.2.1,()),())⟩
def C8:az vA.ps->aI:=(fun d=>{loops:=(fun n=>match n with|7=>some (fun S=>{ι:=Int×Int,qn:=⟨fun k_=>∀(j:Int)(n:Int),k_ (j,n),fun k_ h_ i=>h_ i.1 i.2,fun k_=>∃ (j:Int) (n:Int),k_ (j,n),fun k_ ⟨j,n,h_⟩=>⟨_,h_⟩⟩,μ:=fun i=>(d.2.2.1-i.1).toNat,inv:=fun i=>0<=i.1/\i.1<=d.2.2.1/\i.2=cN (((d.1.drop d.2.1.toNat).take d.2.2.1.toNat).take i.1.toNat),keep:=[0,1,2],slots:=fun i=>[(8,.int .i64 i.2),(9,.int .i64 i.1)],names:=fun i=>[]})|_=>none)})
theorem xJ :
 ∀(a:List Int)(b c:Int),(gR a)/\ak b/\ak c/\True->(a.length:Int)<=9223372036854775807-> ∀(d:Bool),d=decide (c<1)->((! d)->((! d)->(! d))/\True)/\(d=false->(! d))/\ ∀(e:Bool),(e=bif d then true else decide (7<c))->((! e)->((! e)->(! e))/\True)/\(e=false->(! e))/\ah (bif e then true else decide (b<0)) ((0:Int)=bH a b c/\(1:Int)=gq a b c) (∀(f:Bool),f=decide ((a.length:Int)<b)->((! f)->((! f)->(! f))/\True)/\((! f)->((! f)->(! f))/\((! f)->(! f))/\True)/\((! f)->((! f)->(! f))/\((! f)->(! f))/\True)/\(f=false->(! f))/\ah (bif f then true else decide (IntKind.wrap .i64 ((a.length:Int) -b)<c)) ((0:Int)=bH a b c/\(3:Int)=gq a b c) ((∃(g:Int) (h:Int),(0<=g/\g<=c/\h=cN (List.take g.toNat (ji a b c)))/\a=a/\b=b/\c=c/\(0:Int)=h/\(0:Int)=g/\True)/\ ∀(g h:Int),0<=g/\g<=c/\h=cN (List.take g.toNat (ji a b c))->ah (decide (g<c)) ((0:Int)<=8/\0<=IntKind.wrap .i64
 (b+g)/\IntKind.wrap .i64 (b+g)<(a.length:Int)/\ ∃(i:Int) (j:Int),(0<=i/\i<=c/\j=cN (List.take i.toNat (ji a b c)))/\Int.toNat (c -i)<Int.toNat (c -g)/\a=a/\b=b/\c=c/\bits BinOp.or IntKind.i64 (gW IntKind.i64 h (8:Int)) (IntKind.wrap .i64 (a.getD (Int.toNat (IntKind.wrap .i64 (b+g))) default))=j/\IntKind.wrap .i64 (g+(1:Int))=i/\True) (h=bH a b c/\(0:Int)=gq a b c))):=by
  delta gR ji
  rintro b a w ⟨⟨hl0,hx⟩,⟨a0,a1⟩,⟨w0,w1⟩,-⟩ hl
  rintro b1 rfl
  refine⟨by simp,by simp,?_⟩
  rintro b1 rfl
  refine⟨by simp,by simp,?_⟩
  unfold bH gq
  refine ar (fun hc=>?_) (fun hc=>?_)
  ·have h:w<1∨7<w∨a<0:=by simp[Bool.cond_eq_ite] at hc;omega
   rw[if_pos (by omega),if_pos h];exact⟨rfl,rfl⟩
  have h:¬ (w<1∨7<w∨a<0):=by simp[Bool.cond_eq_ite] at hc;omega
  rintro b1 rfl
  refine⟨by simp,by simp,by simp,by simp,?_⟩
  rw[ad (n:=(b.length:Int)-a) (by omega) (by omega),if_neg h]
  refine ar (fun hd=>?_) (fun hd=>?_)
  ·have hd:b.length<a∨b.length-a<w:=by simp[Bool.cond_eq_ite] at hd;omega
   rw[if_pos (by omega),if_pos (by omega)];exact⟨rfl,rfl⟩
  have hd:¬ (b.length<a∨b.length-a<w):=by simp[Bool.cond_eq_ite] at hd;omega
  rw[if_neg (by omega),if_neg (by omega)]
  have hlen:((b.drop a.toNat).take w.toNat).length=w.toNat:=by rw[List.length_take,List.length_drop];omega
  have hy:∀ y∈(b.drop a.toNat).take w.toNat,0<=y/\y<=255:=fun y hy=>hx y (List.mem_of_mem_drop (List.mem_of_mem_take hy))
  have hget:∀ j:Int,0<=j->j<w->b.getD (a+j).toNat default=((b.drop a.toNat).take w.toNat).getD j.toNat default:=by
   intro j j0 j1
   rw[List.getD_eq_getElem?_getD,List.getD_eq_getElem?_getD,List.getElem?_take,if_pos (by omega),List.getElem?_drop]
   congr 2;omega
  generalize (b.drop a.toNat).take w.toNat=m at *
  refine⟨⟨0,0,⟨by omega,by omega,by simp[cN]⟩,(by repeat' first|exact trivial|refine⟨trivial,?_⟩|refine⟨(by with_reducible rfl),?_⟩|refine⟨ad (by omega) (by omega),?_⟩|refine⟨rfl,?_⟩)⟩,?_⟩
  rintro j n ⟨j0,j1,rfl⟩
  refine ar (fun hj=>?_) (fun hj=>?_)
  ·have hj:=of_decide_eq_true hj
   have ht:=nC (l:=m) j0 (by omega)
   obtain⟨x0,x1⟩:=hy _ (cE (xs:=m) j0 (by omega))
   have hb:=pg (l:=m.take j.toNat) (by rw[List.length_take];omega) (fun y h=>hy y (List.mem_of_mem_take h))
   rw[ad (n:=a+j) (by omega) (by omega),hget j j0 hj]
   refine⟨by omega,by omega,by omega,j+1,_,⟨by omega,by omega,rfl⟩,by omega,rfl,rfl,rfl,?_,ad (by omega) (by omega),trivial⟩
   rw[ht,qQ,sA hb.1 (by omega) x0 x1]
  ·have hj:=of_decide_eq_false hj
   rw[List.take_of_length_le (by omega)];exact⟨rfl,rfl⟩
theorem zc:aC Try.prog GL 72 vA.spec:=Ct.okH _ Try.func72 (by kernel_rfl) aP ay C8 (aO (by kernel_rfl) xJ)
def r5:Ct:=⟨[.val (.sl aT),.val cI,.val cI],[.val cI],fun d=>[(d.1.length:Int)<=9223372036854775807],fun d=>((bH d.1 d.2.1 d.2.2.1,()),())⟩
def yg:az r5.ps->aI:=(fun _=>{})
theorem Dq :
 ∀(a:List Int)(b c:Int),(gR a)/\ak b/\ak c/\True->(a.length:Int)<=9223372036854775807->(a.length:Int)<=9223372036854775807/\bH a b c=bH a b c:=by
  delta gR
  intro b n w _ h
  exact⟨h,rfl⟩
theorem rQ:aC Try.prog GL 49 r5.spec:=Ct.okH _ Try.func49 (by kernel_rfl) (av aP zc) ay yg (aO (by kernel_rfl) Dq)
def uU:Ct:=⟨[.val (.sl aT),.val (.sl aT)],[.val .bool],fun d=>[],fun d=>((decide (d.1=d.2.1),()),())⟩
def A5:az uU.ps->aI:=(fun d=>{loops:=(fun n=>match n with|4=>some (fun S=>{ι:=Int,μ:=fun i=>(d.1.length-i).toNat,inv:=fun i=>0<=i/\i<=d.1.length/\d.1.take i.toNat=d.2.1.take i.toNat,keep:=[0,1],slots:=fun i=>[(5,.int .i64 i)],names:=fun i=>[]})|_=>none)})
theorem Af :
 ∀(a b:List Int),(a.length<=maxLen/\ ∀(c:Int),c∈a->0<=c/\c<=255)/\(b.length<=maxLen/\ ∀(c:Int),c∈b->0<=c/\c<=255)/\True->True->ah (! decide ((a.length:Int)=(b.length:Int))) (false=decide (a=b)) ((∃(c:Int),(0<=c/\c<=(a.length:Int)/\List.take c.toNat a=List.take c.toNat b)/\a=a/\b=b/\(0:Int)=c/\True)/\ ∀(c:Int),0<=c/\c<=(a.length:Int)/\List.take c.toNat a=List.take c.toNat b->ah (decide (c<(a.length:Int))) (0<=c/\c<(a.length:Int)/\0<=c/\c<(b.length:Int)/\ah (! decide (a.getD c.toNat default=b.getD c.toNat default)) (false=decide (a=b)) (∃(d:Int),(0<=d/\d<=(a.length:Int)/\List.take d.toNat a=List.take d.toNat b)/\Int.toNat ((a.length:Int) -d)<Int.toNat ((a.length:Int) -c)/\a=a/\b=b/\IntKind.wrap .i64 (c+(1:Int))=d/\True)) (true=decide (a=b))):=by
  rintro l m ⟨⟨hl,-⟩,⟨hm,-⟩,-⟩ -
  simp only[maxLen] at hl hm
  refine ar (fun hc=>?_) (fun hc=>?_)
  ·symm;apply decide_eq_false
   intro h;cases h;simp at hc
  ·have hc:l.length=m.length:=by simp at hc;omega
   refine⟨⟨0,⟨by omega,by omega,by simp⟩,(by repeat' first|exact trivial|refine⟨trivial,?_⟩|refine⟨(by with_reducible rfl),?_⟩|refine⟨ad (by omega) (by omega),?_⟩|refine⟨rfl,?_⟩)⟩,?_⟩
   rintro i ⟨h0,h1,h2⟩
   refine ar (fun hi=>?_) (fun hi=>?_)
   ·have hi:=of_decide_eq_true hi
    refine⟨h0,hi,h0,by omega,ar (fun hq=>?_) (fun hq=>?_)⟩
    ·symm;apply decide_eq_false
     intro h;cases h;simp at hq
    ·simp only[Bool.not_eq_false',decide_eq_true_eq] at hq
     refine⟨i+1,⟨by omega,by omega,?_⟩,by omega,(by repeat' first|exact trivial|refine⟨trivial,?_⟩|refine⟨(by with_reducible rfl),?_⟩|refine⟨ad (by omega) (by omega),?_⟩|refine⟨rfl,?_⟩)⟩
     rw[nC h0 hi,nC h0 (by omega),h2,hq]
   ·have hi:=of_decide_eq_false hi
    rw[List.take_of_length_le (by omega),List.take_of_length_le (by omega)] at h2
    symm;apply decide_eq_true;rw[h2]
theorem qh:aC Try.prog GL 36 uU.spec:=Ct.okH _ Try.func36 (by kernel_rfl) aP ay A5 (aO (by kernel_rfl) Af)
end Go.RS

/- Xch0: what an exchange does: messages under way, what the receiver takes, a tick. -/
namespace Go.RS
open Go.SX Go.Proofs
set_option maxRecDepth 100000
set_option linter.unusedVariables false
abbrev af:=Int×Int×List Int
abbrev aw:=Int×List Int
abbrev bd:=Bool×Int×Int
abbrev ai:=Int×Int×Int×List (List Int)×Int×List (List Int)×List aw×List af×List af
abbrev a9:CT := .pair cI (.pair cI (.sl aT))
abbrev dY:CT := .pair cI (.sl aT)
abbrev dI:CT := .pair .bool (.pair cI cI)
abbrev aQ:CT := .pair cI (.pair cI (.pair cI (.pair (.sl (.sl aT)) (.pair cI (.pair (.sl (.sl aT)) (.pair (.sl dY) (.pair (.sl a9) (.sl a9))))))))
def ab(c:ai):Int:=c.1
def a7(c:ai):Int:=c.2.1
def am(c:ai):Int:=c.2.2.1
def ae(c:ai):List (List Int):=c.2.2.2.1
def aA(c:ai):Int:=c.2.2.2.2.1
def aG(c:ai):List (List Int):=c.2.2.2.2.2.1
def aF(c:ai):List aw:=c.2.2.2.2.2.2.1
def aJ(c:ai):List af:=c.2.2.2.2.2.2.2.1
def ba(c:ai):List af:=c.2.2.2.2.2.2.2.2
def aH(b:List Int)(at':Int):Int:=bH b at' 2
def bF(i:Int)(it:List Int):List Int:=68::(cj i 2 2++it)
def dD:List Int->List Int
 | []=>[]
 | i::r=>cj i 2 2++dD r
def bq(g:Int)(es:List Int):List Int:=65::(cj g 2 2++dD es)
def cK:List Int->List Int
 | a::b::r=>(a*256+b)::cK r
 | _=>[]
def u16(i:Int):Prop:=0<=i/\i<=65535
theorem fJ(i:Int):cj i 2 2=[i/256%256,i%256]:=by
 unfold cj
 simp[List.range_succ]
theorem uc(a b:Int):cN [a,b]=a*256+b:=by unfold cN;simp
theorem vn{i:Int}(h:u16 i):cN (cj i 2 2)=i:=by
 unfold u16 at h
 rw[fJ,uc];omega
theorem qP{b:List Int}{n:Nat}(h:n+2<=b.length):aH b n=cN ((b.drop n).take 2):=by
 unfold aH bH
 rw[if_neg (by omega)]
 rfl
theorem rF{i:Int}(h:u16 i)(it:List Int):aH (bF i it) 1=i:=by
 rw[show (1:Int)=((1:Nat):Int) from rfl,qP (by unfold bF;rw[List.length_cons,List.length_append,ju];omega)]
 unfold bF
 rw[fJ]
 show cN [i/256%256,i%256]=i
 rw[← fJ,vn h]
theorem zS(i:Int)(it:List Int):(bF i it).drop 3=it:=by
 unfold bF;rw[fJ];rfl
theorem nZ(i:Int)(it:List Int):(bF i it).length=it.length+3:=by
 unfold bF;rw[fJ];rfl
theorem uC:∀ es:List Int,(dD es).length=2*es.length
 | []=>rfl
 | i::r=>by rw[dD,List.length_append,ju,uC r,List.length_cons];omega
theorem kV(g:Int)(es:List Int):(bq g es).length=3+2*es.length:=by
 unfold bq;rw[List.length_cons,List.length_append,ju,uC];omega
theorem od{g:Int}(h:u16 g)(es:List Int):aH (bq g es) 1=g:=by
 rw[show (1:Int)=((1:Nat):Int) from rfl,qP (by rw[kV];omega)]
 unfold bq
 rw[fJ]
 show cN [g/256%256,g%256]=g
 rw[← fJ,vn h]
theorem qU(g:Int)(es:List Int):(bq g es).drop 3=dD es:=by
 unfold bq;rw[fJ];rfl
theorem wj:∀{es:List Int},(∀ e∈es,u16 e)->cK (dD es)=es
 | [],_=>rfl
 | i::r,h=>by
  have h0:=h i List.mem_cons_self
  unfold u16 at h0
  rw[dD,fJ]
  show (i/256%256*256+i%256)::cK (dD r)=_
  rw[wj fun e he=>h e (List.mem_cons_of_mem _ he),show i/256%256*256+i%256=i by omega]
def bY(l:List af)(t:af):List af:=(l.takeWhile fun x=>decide (x.1<=t.1))++t::l.dropWhile fun x=>decide (x.1<=t.1)
def bv(now d:Int)(b:List Int):Nat->Int->Int×List af->Int×List af
 | 0,_,s=>s
 | n+1,k,s=>if s.2.length<4096 then bv now d b n (k+1) (s.1+1,bY s.2 (now+1+d+k,s.1,b)) else s
def bf(now:Int)(b:List Int)(f:bd)(s:Int×List af):Int×List af:=if f.1=true then s else bv now f.2.1 b (f.2.2+1).toNat 0 s
def bj(l:List bd)(i:Nat):bd:=l.getD i (false,0,0)
def dC(l:List bd):Prop:=∀ f∈l,(0<=f.2.1/\f.2.1<=1000)/\0<=f.2.2/\f.2.2<=8
def bZ:List aw->List (List Int)->List (List Int)×List aw
 | [],g=>(g,[])
 | x::r,g=>if x.1=g.length then bZ r (g++[x.2]) else (g,x::r)
def cW(l:List aw)(x:aw):List aw:=(l.takeWhile fun y=>decide (y.1<x.1))++x::l.dropWhile fun y=>decide (y.1<x.1)
def bW(lim:Int)(s:List (List Int)×List aw)(i:Int)(it:List Int):List (List Int)×List aw :=
 if i=s.1.length then bZ s.2 (s.1++[it]) else if i<s.1.length∨lim<=i∨(s.2.any fun x=>decide (x.1=i))=true then s else (s.1,cW s.2 (i,it))
def ao(now:Int)(l:List af):List af:=l.takeWhile fun t=>decide (t.1<=now)
def aV(now:Int)(l:List af):List af:=l.dropWhile fun t=>decide (t.1<=now)
def bV(lim:Int)(l:List af)(s:List (List Int)×List aw):List (List Int)×List aw:=l.foldl (fun s t=>bW lim s (aH t.2.2 1) (t.2.2.drop 3)) s
def bT(now:Int)(log:List (List Int))(down:List bd):List Int->Nat->Int×List af->Int×List af
 | [],_,s=>s
 | i::r,j,s=>bT now log down r (j+1) (bf now (bF i (log.getD i.toNat default)) (bj down j) s)
def dU(a b:Int):List Int:=(List.range (b-a).toNat).map fun k:Nat=>a+(k:Int)
def bz(k:Int)(l:List af):Int:=l.foldl (fun k t=>max k (aH t.2.2 1)) k
def bG(l:List af):List Int:=l.flatMap fun t=>cK (t.2.2.drop 3)
def aM(c:ai):List (List Int)×List aw:=bV (aA c+am c) (ao (ab c+1) (aJ c)) (aG c,aF c)
def aq(c:ai)(up:List bd):Int×List af:=if ao (ab c+1) (aJ c)=[] then (a7 c,ba c) else bf (ab c+1) (bq ((aM c).1.length:Int) ((aM c).2.map (·.1))) (bj up 0) (a7 c,ba c)
def dq(c:ai)(up:List bd):List af:=ao (ab c+1) (aq c up).2
def aB(c:ai)(up:List bd):Int:=bz (aA c) (dq c up)
def dQ(c:ai)(up:List bd):List Int:=(dU (aB c up) (min ((ae c).length:Int) (aB c up+am c))).filter fun i => !(bG (dq c up)).contains i
def cF(c:ai)(down up:List bd):Int×List af:=bT (ab c+1) (ae c) down (dQ c up) 0 ((aq c up).1,aV (ab c+1) (aJ c))
def bh(c:ai)(down up:List bd):ai :=
 (ab c+1,(cF c down up).1,am c,ae c,aB c up,(aM c).1,(aM c).2,(cF c down up).2,aV (ab c+1) (aq c up).2)
def a8:Nat->ai->ai
 | 0,c=>c
 | n+1,c=>a8 n (bh c [] [])
theorem wY:∀(m n:Nat)(c:ai),a8 n (a8 m c)=a8 (m+n) c
 | 0,n,c=>by rw[Nat.zero_add];rfl
 | m+1,n,c=>by rw[Nat.succ_add];exact wY m n (bh c [] [])
theorem gm:∀(n:Nat)(c:ai),a8 (n+1) c=bh (a8 n c) [] []
 | 0,c=>rfl
 | n+1,c=>gm n (bh c [] [])
def jc(c:ai)(it:List Int):ai:=(ab c,a7 c,am c,ae c++[it],aA c,aG c,aF c,aJ c,ba c)
def fU(w:Int):ai:=(0,0,w,[],0,[],[],[],[])
def fL(c:ai):Bool:=decide ((aG c).length=(ae c).length)&&decide (aA c=(ae c).length)
theorem mem_range{a b i:Int}:i∈dU a b↔a<=i/\i<b:=by
 unfold dU
 rw[List.mem_map]
 constructor
 ·rintro⟨k,hk,rfl⟩
  have:=List.mem_range.1 hk
  omega
 ·intro h
  exact⟨(i-a).toNat,List.mem_range.2 (by omega),by omega⟩
end Go.RS

/- Xch1: what holds of a channel that items and ticks lead to. -/
namespace Go.RS
open Go.SX Go.Proofs
set_option maxRecDepth 100000
set_option linter.unusedVariables false
structure cH (now ord:Int) (l:List af):Prop where
 s:l.Pairwise fun a b=>a.1<b.1∨a.1=b.1/\a.2.1<b.2.1
 r:∀ t∈l,(now<t.1/\t.1<=now+2000)/\0<=t.2.1/\t.2.1<ord
 n:l.length<=4096
theorem jl{l:List af}{t x:af}:x∈bY l t↔x=t∨x∈l:=by
 have e:∀ y,y∈l↔y∈(l.takeWhile fun x=>decide (x.1<=t.1))∨y∈(l.dropWhile fun x=>decide (x.1<=t.1)):=fun y=>by
  rw[← List.mem_append,List.takeWhile_append_dropWhile]
 rw[e x]
 unfold bY
 rw[List.mem_append,List.mem_cons]
 constructor
 ·rintro (h|h|h)
  ·exact .inr (.inl h)
  ·exact .inl h
  ·exact .inr (.inr h)
 ·rintro (h|h|h)
  ·exact .inr (.inl h)
  ·exact .inl h
  ·exact .inr (.inr h)
theorem lz(l:List af)(t:af):(bY l t).length=l.length+1:=by
 have e:l.length=((l.takeWhile fun x=>decide (x.1<=t.1))++(l.dropWhile fun x=>decide (x.1<=t.1))).length:=by rw[List.takeWhile_append_dropWhile]
 rw[List.length_append] at e
 unfold bY
 rw[List.length_append,List.length_cons]
 omega
theorem m6{α:Type}{p:α->Bool}:∀{l:List α}{y:α}{r:List α},l.dropWhile p=y::r->p y=false
 | a::l,y,r,h=>by
  cases ha:p a with
  | true=>rw[List.dropWhile_cons_of_pos ha] at h;exact m6 h
  | false =>
   rw[List.dropWhile_cons_of_neg (by simp[ha]),List.cons.injEq] at h
   rw[← h.1];exact ha
theorem nA{α:Type}{p:α->Bool}:∀{l:List α}{x:α},x∈l.takeWhile p->p x=true
 | a::l,x,h=>by
  cases ha:p a with
  | true =>
   rw[List.takeWhile_cons_of_pos ha] at h
   rcases List.mem_cons.1 h with rfl|h
   ·exact ha
   ·exact nA h
  | false=>rw[List.takeWhile_cons_of_neg (by simp[ha])] at h;cases h
theorem wv{l:List af}{t:af}(h:l.Pairwise fun a b=>a.1<b.1∨a.1=b.1/\a.2.1<b.2.1)(ho:∀ x∈l,x.2.1<t.2.1) :
  (bY l t).Pairwise fun a b=>a.1<b.1∨a.1=b.1/\a.2.1<b.2.1:=by
 have e:=List.takeWhile_append_dropWhile (p:=fun x:af=>decide (x.1<=t.1)) (l:=l)
 rw[← e,List.pairwise_append] at h
 obtain⟨h1,h2,h3⟩:=h
 have hd:∀ y∈(l.dropWhile fun x=>decide (x.1<=t.1)),t.1<y.1:=by
  intro y hy
  cases q:(l.dropWhile fun x=>decide (x.1<=t.1)) with
  | nil=>rw[q] at hy;cases hy
  | cons z r =>
   have hz:¬ z.1<=t.1:=of_decide_eq_false (m6 (p:=fun x:af=>decide (x.1<=t.1)) q)
   rw[q] at hy h2
   rcases List.mem_cons.1 hy with rfl|hy
   ·omega
   ·rcases (List.pairwise_cons.1 h2).1 y hy with k|k <;> omega
 unfold bY
 rw[List.pairwise_append]
 refine⟨h1,List.pairwise_cons.2 ⟨fun y hy=>.inl (hd y hy),h2⟩,fun a ha b hb=>?_⟩
 rcases List.mem_cons.1 hb with rfl|hb
 ·have h4:a.1<=b.1:=of_decide_eq_true (nA (p:=fun x:af=>decide (x.1<=b.1)) ha)
  have h5:=ho a (by rw[← e];exact List.mem_append_left _ ha)
  by_cases k:a.1<b.1
  ·exact .inl k
  ·exact .inr ⟨by omega,h5⟩
 ·exact h3 a ha b hb
theorem ur{n0 now d:Int}{b:List Int}(h0:n0<=now/\now<=n0+1)(hd:0<=d/\d<=1000):∀(n:Nat)(k:Int){o:Int}{l:List af},0<=k->k+n<=900->0<=o->cH n0 o l →
  cH n0 (bv now d b n k (o,l)).1 (bv now d b n k (o,l)).2/\o<=(bv now d b n k (o,l)).1/\(bv now d b n k (o,l)).1<=o+n/\(∀ t∈(bv now d b n k (o,l)).2,t∈l∨t.2.2=b)∧∀ t∈l,t∈(bv now d b n k (o,l)).2
 | 0,k,o,l,hk,hn,ho,h=>⟨h,Int.le_refl _,by simp[bv],fun t ht=>.inl ht,fun t ht=>ht⟩
 | n+1,k,o,l,hk,hn,ho,h=>by
  rw[bv]
  dsimp only
  split
  ·rename_i hl
   have hl:l.length<4096:=hl
   have h2:cH n0 (o+1) (bY l (now+1+d+k,o,b)):=by
    refine⟨wv h.s fun x hx=>(h.r x hx).2.2,fun t ht=>?_,by rw[lz];omega⟩
    rcases jl.1 ht with rfl|ht
    ·exact⟨⟨by show n0<now+1+d+k;omega,by show now+1+d+k<=_;omega⟩,by show 0<=o;omega,by show o<o+1;omega⟩
    ·obtain⟨q1,q2,q3⟩:=h.r t ht
     exact⟨q1,q2,by omega⟩
   obtain⟨i1,i2,i3,i4,i5⟩:=ur h0 hd n (k+1) (by omega) (by omega) (by omega) h2
   refine⟨i1,by omega,by omega,fun t ht=>?_,fun t ht=>i5 t (jl.2 (.inr ht))⟩
   rcases i4 t ht with q|q
   ·rcases jl.1 q with rfl|q
    ·exact .inr rfl
    ·exact .inl q
   ·exact .inr q
  ·exact⟨h,Int.le_refl _,by show o<=_;omega,fun t ht=>.inl ht,fun t ht=>ht⟩
def f7(f:bd):Prop:=(0<=f.2.1/\f.2.1<=1000)/\0<=f.2.2/\f.2.2<=8
theorem nX{n0 now:Int}{b:List Int}(h0:n0<=now/\now<=n0+1){f:bd}(hf:f7 f){o:Int}{l:List af}(ho:0<=o)(h:cH n0 o l) :
  cH n0 (bf now b f (o,l)).1 (bf now b f (o,l)).2/\o<=(bf now b f (o,l)).1/\(bf now b f (o,l)).1<=o+9/\(∀ t∈(bf now b f (o,l)).2,t∈l∨t.2.2=b)∧∀ t∈l,t∈(bf now b f (o,l)).2:=by
 unfold bf
 obtain⟨f1,f2⟩:=hf
 split
 ·exact⟨h,Int.le_refl _,by show o<=_;omega,fun t ht=>.inl ht,fun t ht=>ht⟩
 ·obtain⟨i1,i2,i3,i4,i5⟩:=ur (b:=b) h0 f1 (f.2.2+1).toNat 0 (Int.le_refl _) (by omega) ho h
  exact⟨i1,i2,by omega,i4,i5⟩
theorem iW{l:List bd}(h:dC l)(i:Nat):f7 (bj l i):=by
 unfold bj
 by_cases hi:i<l.length
 ·rw[List.getD_eq_getElem?_getD,List.getElem?_eq_getElem hi]
  exact h _ (List.getElem_mem hi)
 ·rw[List.getD_eq_getElem?_getD,List.getElem?_eq_none (by omega)]
  exact⟨by decide,by decide,by decide⟩
structure lP (log:List (List Int)) (lim g:Int) (l:List aw):Prop where
 s:l.Pairwise fun a b=>a.1<b.1
 r:∀ x∈l,(g<x.1/\x.1<log.length)/\x.1<lim/\x.2=log.getD x.1.toNat default
structure iB (log:List (List Int)) (lim:Int) (s:List (List Int)×List aw):Prop where
 n:s.1.length<=log.length
 g:s.1=log.take s.1.length
 e:lP log lim s.1.length s.2
def fk(s:List (List Int)×List aw)(i:Int):Prop:=i<s.1.length∨∃ x∈s.2,x.1=i
theorem wq{log g:List (List Int)}(hn:g.length<log.length)(hg:g=log.take g.length):g++[log.getD g.length default]=log.take (g.length+1):=by
 have e:log.getD g.length default=log[g.length]:=by rw[List.getD_eq_getElem?_getD,List.getElem?_eq_getElem hn];rfl
 rw[e,List.take_add_one,List.getElem?_eq_getElem hn,← hg];rfl
theorem tP{log:List (List Int)}{lim:Int}:∀{l:List aw}{g:List (List Int)},g.length<=log.length->g=log.take g.length->lP log lim (g.length-1) l →
  iB log lim (bZ l g)/\g.length<=(bZ l g).1.length∧∀ i,fk (g,l) i->fk (bZ l g) i
 | [],g,hn,hg,he=>⟨⟨hn,hg,⟨List.Pairwise.nil,fun x hx=>(by cases hx)⟩⟩,Nat.le_refl _,fun i h=>h⟩
 | x::r,g,hn,hg,he=>by
  have hx:=he.r x List.mem_cons_self
  have hs:=List.pairwise_cons.1 he.s
  rw[bZ]
  split
  ·rename_i e
   have hl:g.length<log.length:=by omega
   have ed:x.2=log.getD g.length default:=by rw[hx.2.2,e];rfl
   have e2:g++[x.2]=log.take (g++[x.2]).length:=by rw[List.length_append,ed];exact wq hl hg
   have en:(g++[x.2]).length=g.length+1:=by rw[List.length_append];rfl
   obtain⟨i1,i2,i3⟩:=tP (l:=r) (g:=g++[x.2]) (by omega) e2 ⟨hs.2,fun y hy=>by
    have h1:=hs.1 y hy
    obtain⟨⟨q1,q2⟩,q3⟩:=he.r y (List.mem_cons_of_mem _ hy)
    exact⟨⟨by omega,q2⟩,q3⟩⟩
   refine⟨i1,by omega,fun i h=>i3 i ?_⟩
   rcases h with h|⟨y,hy,h⟩
   ·exact .inl (by show i<((g++[x.2]).length:Int);have h:i<(g.length:Int):=h;omega)
   ·rcases List.mem_cons.1 hy with rfl|hy
    ·exact .inl (by show i<((g++[y.2]).length:Int);omega)
    ·exact .inr ⟨y,hy,h⟩
  ·rename_i e
   refine⟨⟨hn,hg,⟨he.s,fun y hy=>?_⟩⟩,Nat.le_refl _,fun i h=>h⟩
   obtain⟨⟨q1,q2⟩,q3⟩:=he.r y hy
   refine⟨⟨?_,q2⟩,q3⟩
   show (g.length:Int)<y.1
   rcases List.mem_cons.1 hy with rfl|hy
   ·omega
   ·have:=hs.1 y hy;omega
theorem qB{l:List aw}{t x:aw}:x∈cW l t↔x=t∨x∈l:=by
 have e:∀ y,y∈l↔y∈(l.takeWhile fun x=>decide (x.1<t.1))∨y∈(l.dropWhile fun x=>decide (x.1<t.1)):=fun y=>by
  rw[← List.mem_append,List.takeWhile_append_dropWhile]
 rw[e x]
 unfold cW
 rw[List.mem_append,List.mem_cons]
 constructor
 ·rintro (h|h|h)
  ·exact .inr (.inl h)
  ·exact .inl h
  ·exact .inr (.inr h)
 ·rintro (h|h|h)
  ·exact .inr (.inl h)
  ·exact .inl h
  ·exact .inr (.inr h)
theorem Db{l:List aw}{t:aw}(h:l.Pairwise fun a b=>a.1<b.1)(hn:∀ x∈l,x.1≠t.1):(cW l t).Pairwise fun a b=>a.1<b.1:=by
 have e:=List.takeWhile_append_dropWhile (p:=fun x:aw=>decide (x.1<t.1)) (l:=l)
 have hm:∀ y∈(l.dropWhile fun x=>decide (x.1<t.1)),y∈l:=fun y hy=>by rw[← e];exact List.mem_append_right _ hy
 rw[← e,List.pairwise_append] at h
 obtain⟨h1,h2,h3⟩:=h
 have hd:∀ y∈(l.dropWhile fun x=>decide (x.1<t.1)),t.1<y.1:=by
  intro y hy
  have h0:=hn y (hm y hy)
  cases q:(l.dropWhile fun x=>decide (x.1<t.1)) with
  | nil=>rw[q] at hy;cases hy
  | cons z r =>
   have hz:¬ z.1<t.1:=of_decide_eq_false (m6 (p:=fun x:aw=>decide (x.1<t.1)) q)
   rw[q] at hy h2
   rcases List.mem_cons.1 hy with rfl|hy
   ·omega
   ·have:=(List.pairwise_cons.1 h2).1 y hy;omega
 unfold cW
 rw[List.pairwise_append]
 refine⟨h1,List.pairwise_cons.2 ⟨fun y hy=>hd y hy,h2⟩,fun a ha b hb=>?_⟩
 rcases List.mem_cons.1 hb with rfl|hb
 ·exact of_decide_eq_true (nA (p:=fun x:aw=>decide (x.1<b.1)) ha)
 ·exact h3 a ha b hb
theorem BF{log:List (List Int)}{lim:Int}{s:List (List Int)×List aw}(h:iB log lim s){i:Int}(hi:0<=i/\i<log.length) :
  iB log lim (bW lim s i (log.getD i.toNat default))/\s.1.length<=(bW lim s i (log.getD i.toNat default)).1.length/\(∀ j,fk s j->fk (bW lim s i (log.getD i.toNat default)) j)/\(i<lim->fk (bW lim s i (log.getD i.toNat default)) i):=by
 obtain⟨g,l⟩:=s
 obtain⟨hn,hg,he⟩:=h
 have hn:g.length<=log.length:=hn
 have hg:g=log.take g.length:=hg
 have he:lP log lim g.length l:=he
 unfold bW
 dsimp only
 split
 ·rename_i e
  have hl:g.length<log.length:=by omega
  have ei:log.getD i.toNat default=log.getD g.length default:=by rw[e];rfl
  rw[ei]
  have en:(g++[log.getD g.length default]).length=g.length+1:=by rw[List.length_append];rfl
  have e2:g++[log.getD g.length default]=log.take (g++[log.getD g.length default]).length:=by rw[en];exact wq hl hg
  obtain⟨i1,i2,i3⟩:=tP (lim:=lim) (l:=l) (by omega) e2 ⟨he.s,fun y hy=>by
   obtain⟨⟨q1,q2⟩,q3⟩:=he.r y hy
   exact⟨⟨by omega,q2⟩,q3⟩⟩
  refine⟨i1,by omega,fun j h=>i3 j ?_,fun _=>.inl (by omega)⟩
  rcases h with h|h
  ·exact .inl (by show j<((g++[log.getD g.length default]).length:Int);have h:j<(g.length:Int):=h;omega)
  ·exact .inr h
 ·rename_i e
  split
  ·rename_i k
   refine⟨⟨hn,hg,he⟩,Nat.le_refl _,fun j h=>h,fun hl=>?_⟩
   rcases k with k|k|k
   ·exact .inl k
   ·omega
   ·obtain⟨x,hx,q⟩:=List.any_eq_true.1 k
    exact .inr ⟨x,hx,of_decide_eq_true q⟩
  ·rename_i k
   have k1:¬ i<g.length:=fun q=>k (.inl q)
   have k2:¬ lim<=i:=fun q=>k (.inr (.inl q))
   have k3:∀ x∈l,x.1≠i:=fun x hx q=>k (.inr (.inr (List.any_eq_true.2 ⟨x,hx,decide_eq_true q⟩)))
   refine⟨⟨hn,hg,Db he.s k3,fun x hx=>?_⟩,Nat.le_refl _,fun j h=>?_,fun _=>.inr ⟨_,qB.2 (.inl rfl),rfl⟩⟩
   ·rcases qB.1 hx with rfl|hx
    ·exact⟨⟨by show (g.length:Int)<i;omega,hi.2⟩,by show i<lim;omega,rfl⟩
    ·exact he.r x hx
   ·rcases h with h|⟨x,hx,h⟩
    ·exact .inl h
    ·exact .inr ⟨x,qB.2 (.inr hx),h⟩
end Go.RS

/- Xch2: a tick keeps a channel in order. -/
namespace Go.RS
open Go.SX Go.Proofs
set_option maxRecDepth 100000
set_option linter.unusedVariables false
def hX(log:List (List Int))(t:af):Prop:=∃ i:Int,(0<=i/\i<log.length)/\t.2.2=bF i (log.getD i.toNat default)
def fc(log:List (List Int))(s:List (List Int)×List aw)(t:af):Prop :=
 ∃ (g:Int) (es:List Int),t.2.2=bq g es/\(0<=g/\g<=s.1.length)/\es.Pairwise (fun a b=>a<b)∧∀ e∈es,(g<e/\e<log.length)/\fk s e
structure XI (c:ai):Prop where
 now:0<=ab c
 ord:0<=a7 c
 win:1<=am c/\am c<=64
 log:(ae c).length<=1024
 it:∀ b∈ae c,(b.length:Int)<=6000
 kn:0<=aA c/\aA c<=(aG c).length
 rc:iB (ae c) (aA c+am c) (aG c,aF c)
 dn:cH (ab c) (a7 c) (aJ c)
 dd:∀ t∈aJ c,hX (ae c) t
 up:cH (ab c) (a7 c) (ba c)
 ud:∀ t∈ba c,fc (ae c) (aG c,aF c) t
theorem fc.more{log:List (List Int)}{s s':List (List Int)×List aw}{t:af}(h:fc log s t)(h1:s.1.length<=s'.1.length)(h2:∀ j,fk s j->fk s' j):fc log s' t:=by
 obtain⟨g,es,a,b,c,d⟩:=h
 exact⟨g,es,a,⟨b.1,by omega⟩,c,fun e he=>⟨(d e he).1,h2 e (d e he).2⟩⟩
theorem cH.more{now ord ord':Int}{l:List af}(h:cH now ord l)(ho:ord<=ord'):cH now ord' l:=⟨h.s,fun t ht=>by
 obtain⟨a,b,c⟩:=h.r t ht
 exact⟨a,b,by omega⟩,h.n⟩
theorem jz{now:Int}{l:List af}{t:af}(h:t∈ao now l):t∈l/\t.1<=now:=by
 refine⟨?_,of_decide_eq_true (nA (p:=fun x:af=>decide (x.1<=now)) h)⟩
 rw[← List.takeWhile_append_dropWhile (p:=fun x:af=>decide (x.1<=now)) (l:=l)]
 exact List.mem_append_left _ h
theorem mj{now ord n0:Int}{l:List af}(h:cH n0 ord l){t:af}:t∈aV now l↔t∈l/\now<t.1:=by
 have e:=List.takeWhile_append_dropWhile (p:=fun x:af=>decide (x.1<=now)) (l:=l)
 constructor
 ·intro ht
  have hs:=h.s
  refine⟨by rw[← e];exact List.mem_append_right _ ht,?_⟩
  rw[← e,List.pairwise_append] at hs
  unfold aV at ht
  cases q:(l.dropWhile fun x=>decide (x.1<=now)) with
  | nil=>rw[q] at ht;cases ht
  | cons z r =>
   have hz:¬ z.1<=now:=of_decide_eq_false (m6 (p:=fun x:af=>decide (x.1<=now)) q)
   have h2:=hs.2.1
   rw[q] at ht h2
   rcases List.mem_cons.1 ht with rfl|ht
   ·omega
   ·rcases (List.pairwise_cons.1 h2).1 t ht with k|k <;> omega
 ·rintro⟨h1,h2⟩
  rw[← e] at h1
  rcases List.mem_append.1 h1 with k|k
  ·have:=(jz (now:=now) k).2;omega
  ·exact k
theorem nE{now ord n0:Int}(hn:n0<=now){l:List af}(h:cH n0 ord l):cH now ord (aV now l):=by
 refine⟨?_,fun t ht=>?_,?_⟩
 ·have hs:=h.s
  rw[← List.takeWhile_append_dropWhile (p:=fun x:af=>decide (x.1<=now)) (l:=l),List.pairwise_append] at hs
  exact hs.2.1
 ·obtain⟨a,b⟩:=(mj h).1 ht
  obtain⟨c,d⟩:=h.r t a
  exact⟨⟨b,by omega⟩,d⟩
 ·have:=(List.dropWhile_sublist (l:=l) (fun x:af=>decide (x.1<=now))).length_le
  have hn:=h.n
  show (l.dropWhile _).length<=4096
  omega
theorem j7{log:List (List Int)}{lim:Int}(hl:log.length<=1024):∀{l:List af}{s:List (List Int)×List aw},iB log lim s->(∀ t∈l,hX log t) →
  iB log lim (bV lim l s)/\s.1.length<=(bV lim l s).1.length/\(∀ j,fk s j->fk (bV lim l s) j)∧∀ t∈l,aH t.2.2 1<lim->fk (bV lim l s) (aH t.2.2 1)
 | [],s,h,_=>⟨h,Nat.le_refl _,fun j q=>q,fun t ht=>(by cases ht)⟩
 | t::r,s,h,hd=>by
  obtain⟨i,hi,e⟩:=hd t List.mem_cons_self
  have e1:aH t.2.2 1=i:=by rw[e];exact rF ⟨by omega,by omega⟩ _
  have e2:t.2.2.drop 3=log.getD i.toNat default:=by rw[e];exact zS _ _
  obtain⟨k1,k2,k3,k4⟩:=BF h hi
  have er:bV lim (t::r) s=bV lim r (bW lim s i (log.getD i.toNat default)):=by
   show bV lim r (bW lim s (aH t.2.2 1) (t.2.2.drop 3))=_
   rw[e1,e2]
  obtain⟨m1,m2,m3,m4⟩:=j7 hl (l:=r) k1 fun x hx=>hd x (List.mem_cons_of_mem _ hx)
  rw[er]
  refine⟨m1,by omega,fun j q=>m3 j (k3 j q),fun x hx hlx=>?_⟩
  rcases List.mem_cons.1 hx with rfl|hx
  ·rw[e1] at hlx ⊢
   exact m3 i (k4 hlx)
  ·exact m4 x hx hlx
theorem xj{now:Int}{log:List (List Int)}{down:List bd}(hv:dC down):∀(todo:List Int)(j:Nat){o:Int}{l:List af},(∀ i∈todo,0<=i/\i<log.length)->0<=o->cH now o l->(∀ t∈l,hX log t) →
  cH now (bT now log down todo j (o,l)).1 (bT now log down todo j (o,l)).2/\o<=(bT now log down todo j (o,l)).1/\(bT now log down todo j (o,l)).1<=o+9*todo.length/\(∀ t∈(bT now log down todo j (o,l)).2,hX log t)∧∀ t∈l,t∈(bT now log down todo j (o,l)).2
 | [],j,o,l,_,ho,h,hd=>⟨h,Int.le_refl _,by show o<=_;omega,hd,fun t ht=>ht⟩
 | i::r,j,o,l,hi,ho,h,hd=>by
  obtain⟨k1,k2,k3,k4,k5⟩:=nX (b:=bF i (log.getD i.toNat default)) ⟨Int.le_refl _,by omega⟩ (iW hv j) ho h
  rw[bT]
  generalize bf now (bF i (log.getD i.toNat default)) (bj down j) (o,l)=s at *
  obtain⟨o2,l2⟩:=s
  obtain⟨m1,m2,m3,m4,m5⟩:=xj hv r (j+1) (o:=o2) (l:=l2) (fun x hx=>hi x (List.mem_cons_of_mem _ hx)) (by have k2:o<=o2:=k2;omega) k1 (fun t ht=>by
   rcases k4 t ht with q|q
   ·exact hd t q
   ·exact⟨i,hi i List.mem_cons_self,q⟩)
  have k2:o<=o2:=k2
  have k3:o2<=o+9:=k3
  exact⟨m1,by omega,by rw[List.length_cons];omega,m4,fun t ht=>m5 t (k5 t ht)⟩
theorem oT{log:List (List Int)}{s:List (List Int)×List aw}(hs:s.1.length<=1024):∀{l:List af}{k:Int},0<=k->k<=s.1.length->(∀ t∈l,fc log s t)->k<=bz k l/\bz k l<=s.1.length
 | [],k,h0,h1,_=>⟨Int.le_refl _,h1⟩
 | t::r,k,h0,h1,h=>by
  obtain⟨g,es,e,hg,-⟩:=h t List.mem_cons_self
  have em:aH t.2.2 1=g:=by rw[e];exact od ⟨by omega,by omega⟩ _
  obtain⟨a,b⟩:=oT hs (l:=r) (k:=max k g) (by omega) (by omega) fun x hx=>h x (List.mem_cons_of_mem _ hx)
  show k<=bz (max k (aH t.2.2 1)) r/\bz (max k (aH t.2.2 1)) r<=s.1.length
  rw[em]
  exact⟨by omega,b⟩
theorem XI.tick{c:ai}(h:XI c){down up:List bd}(hd:dC down)(hu:dC up) :
  XI (bh c down up)/\(aG c).length<=(aG (bh c down up)).length/\aA c<=aA (bh c down up)/\a7 (bh c down up)<=a7 c+585:=by
 obtain⟨r1,r2,r3,r4⟩:=j7 h.log (l:=ao (ab c+1) (aJ c)) h.rc fun t ht=>h.dd t (jz ht).1
 have eG:aM c=bV (aA c+am c) (ao (ab c+1) (aJ c)) (aG c,aF c):=rfl
 rw[← eG] at r1 r2 r3 r4
 have r2:(aG c).length<=(aM c).1.length:=r2
 have hgl:=r1.n
 have hlog:=h.log
 have hwin:=h.win
 have hkn:=h.kn
 have aU:cH (ab c) (aq c up).1 (aq c up).2/\a7 c<=(aq c up).1/\(aq c up).1<=a7 c+9∧∀ t∈(aq c up).2,fc (ae c) (aM c) t:=by
  have old:∀ t∈ba c,fc (ae c) (aM c) t:=fun t ht=>(h.ud t ht).more r2 r3
  unfold aq
  split
  ·exact⟨h.up,Int.le_refl _,by show a7 c<=_;omega,old⟩
  ·obtain⟨k1,k2,k3,k4,-⟩:=nX (n0:=ab c) (now:=ab c+1) (b:=bq ((aM c).1.length:Int) ((aM c).2.map (·.1))) ⟨by omega,by omega⟩ (iW hu 0) h.ord h.up
   refine⟨k1,k2,k3,fun t ht=>?_⟩
   rcases k4 t ht with q|q
   ·exact old t q
   ·refine⟨_,_,q,⟨by omega,Int.le_refl _⟩,?_,fun e he=>?_⟩
    ·rw[List.pairwise_map];exact r1.e.s
    ·obtain⟨x,hx,rfl⟩:=List.mem_map.1 he
     exact⟨(r1.e.r x hx).1,.inr ⟨x,hx,rfl⟩⟩
 obtain⟨u1,u2,u3,u4⟩:=aU
 obtain⟨n1,n2⟩:=oT (log:=ae c) (s:=aM c) (by omega) (l:=dq c up) (k:=aA c) hkn.1 (by omega) fun t ht=>u4 t (jz ht).1
 have n1:aA c<=aB c up:=n1
 have n2:aB c up<=(aM c).1.length:=n2
 have hT:∀ i∈dQ c up,0<=i/\i<(ae c).length:=fun i hi=>by
  have:=mem_range.1 (List.mem_filter.1 hi).1
  omega
 have hTl:(dQ c up).length<=64:=by
  have h1:(dQ c up).length<=(dU (aB c up) (min ((ae c).length:Int) (aB c up+am c))).length:=List.length_filter_le _ _
  have h2:(dU (aB c up) (min ((ae c).length:Int) (aB c up+am c))).length=(min ((ae c).length:Int) (aB c up+am c)-aB c up).toNat:=by unfold dU;rw[List.length_map,List.length_range]
  omega
 have hnow:=h.now
 have hord:=h.ord
 obtain⟨d1,d2,d3,d4,d5⟩:=xj (now:=ab c+1) (log:=ae c) hd (dQ c up) 0 (o:=(aq c up).1) (l:=aV (ab c+1) (aJ c)) hT (by omega) ((nE (by omega) h.dn).more u2) (fun t ht=>h.dd t ((mj h.dn).1 ht).1)
 have eD:cF c down up=bT (ab c+1) (ae c) down (dQ c up) 0 ((aq c up).1,aV (ab c+1) (aJ c)):=rfl
 rw[← eD] at d1 d2 d3 d4 d5
 refine⟨⟨by show 0<=ab c+1;omega,by show 0<=(cF c down up).1;omega,hwin,hlog,h.it,⟨by show 0<=aB c up;omega,n2⟩,?_,d1,d4,?_,fun t ht=>?_⟩,r2,n1,by show (cF c down up).1<=_;omega⟩
 ·refine⟨r1.n,r1.g,r1.e.s,fun x hx=>?_⟩
  obtain⟨q1,q2,q3⟩:=r1.e.r x hx
  exact⟨q1,by show x.1<aB c up+am c;omega,q3⟩
 ·show cH (ab c+1) (cF c down up).1 (aV (ab c+1) (aq c up).2)
  exact (nE (by omega) u1).more d2
 ·exact u4 t ((mj u1).1 ht).1
theorem XI.push{c:ai}(h:XI c){it:List Int}(hl:(ae c).length<1024)(hi:(it.length:Int)<=6000):XI (jc c it):=by
 have hg:∀ i:Int,0<=i->i<(ae c).length->(ae c++[it]).getD i.toNat default=(ae c).getD i.toNat default:=fun i h0 h1=>by
  rw[List.getD_eq_getElem?_getD,List.getElem?_append_left (by omega),← List.getD_eq_getElem?_getD]
 have hn:(ae c++[it]).length=(ae c).length+1:=by rw[List.length_append];rfl
 refine⟨h.now,h.ord,h.win,by show (ae c++[it]).length<=_;omega,fun b hb=>?_,h.kn,⟨?_,?_,h.rc.e.s,fun x hx=>?_⟩,h.dn,fun t ht=>?_,h.up,fun t ht=>?_⟩
 ·rcases List.mem_append.1 hb with hb|hb
  ·exact h.it b hb
  ·rw[List.mem_singleton.1 hb];exact hi
 ·show (aG c).length<=(ae c++[it]).length
  have:(aG c).length<=(ae c).length:=h.rc.n
  omega
 ·show aG c=(ae c++[it]).take (aG c).length
  rw[List.take_append_of_le_length (show (aG c).length<=(ae c).length from h.rc.n)]
  exact h.rc.g
 ·obtain⟨⟨q1,q2⟩,q3,q4⟩:=h.rc.e.r x hx
  have q1:((aG c).length:Int)<x.1:=q1
  refine⟨⟨q1,by show x.1<((ae c++[it]).length:Int);omega⟩,q3,?_⟩
  show x.2=(ae c++[it]).getD x.1.toNat default
  rw[hg _ (by omega) q2];exact q4
 ·obtain⟨i,hi,e⟩:=h.dd t ht
  refine⟨i,⟨hi.1,by show i<((ae c++[it]).length:Int);omega⟩,?_⟩
  show t.2.2=bF i ((ae c++[it]).getD i.toNat default)
  rw[hg _ hi.1 hi.2];exact e
 ·obtain⟨g,es,a,b,d,e⟩:=h.ud t ht
  exact⟨g,es,a,b,d,fun x hx=>⟨⟨(e x hx).1.1,by have:=(e x hx).1.2;show x<((ae c++[it]).length:Int);omega⟩,(e x hx).2⟩⟩
theorem XI.new{w:Int}(h0:1<=w)(h1:w<=64):XI (fU w):=by
 refine⟨Int.le_refl _,Int.le_refl _,⟨h0,h1⟩,Nat.zero_le _,fun b hb=>(by cases hb),⟨Int.le_refl _,Int.le_refl _⟩,⟨Nat.zero_le _,rfl,List.Pairwise.nil,fun x hx=>(by cases hx)⟩,⟨List.Pairwise.nil,fun x hx=>(by cases hx),Nat.zero_le _⟩,fun x hx=>(by cases hx),⟨List.Pairwise.nil,fun x hx=>(by cases hx),Nat.zero_le _⟩,fun x hx=>(by cases hx)⟩
theorem eQ:dC []:=fun f hf=>by cases hf
end Go.RS

/- SX: copying rows whose elements have several cells (for slices.Insert). -/
namespace Go.SX
open Go
variable {P:Program}
theorem jg(w:World)(dT sT ty cD:TypeId)(z g o dLen dCap:Nat)(a:Addr)(eP ig:Nat)(cur:Array Value)(t:TypeId)(cs:List Value)
  (hu:P.underlying dT=some (.slice cD)) (hs:(P.info? cD).map (·.size)=some z)
  (hg:w.heap[g]? = some (.cells cur t (0,0))) (hn:cs.length=Nat.min eP dLen*z)
  (hsrc:∀ j v,cs[j]? = some v->w.cell? (a.add j)=some v) (hfit:o+cs.length<=cur.size) (h1:∀ v∈cs,v.oneCell'=true) :
  (Builtin.copy_ #[dT,sT] ty #[.slice (some ⟨g,o,none⟩) dLen dCap,.slice (some a) eP ig]).run P w =
   .ok (goInt (Nat.min eP dLen)) (w.setRow g (cur.toList.take o++cs++cur.toList.drop (o+cs.length)).toArray):=by
 have hl:=run_loadCells_list (P:=P) w a cs hsrc
 have hst:=run_storeCells_at P g o t cs 0 cur w hg (by simpa using hfit) h1
 cases hq:P.info? cD with
 | none=>simp[hq] at hs
 | some i =>
  have hi:i.size=z:=by simpa[hq] using hs
  simp[Builtin.copy_,run_underlying hu,Builtin.lenOf,Builtin.firstCells,sizeOf,typeInfo,hq,hi,← hn,hl,hst]
end Go.SX

/- SX, part 25: package-level variables that hold known data. -/
namespace Go.SX
open Go.ChangeShapes Go.WideShapes Go.ChangeAt Go.RowKit
set_option linter.unusedVariables false
def kF{H:Type}(f:(t:CT)->TypeId->t.D->DataW H):List Field->(t:CT)->t.D->List (DataW H)
 | [],_,_=>[]
 | [fd],t,d=>[f t fd.type d]
 | fd::g::r,.pair a b,(x,y)=>f a fd.type x::kF f (g::r) b y
 | _::_::_,_,_=>[]
def kS{H:Type}(f:(t:CT)->TypeId->t.D->DataW H)(e:TypeId):Nat->(t:CT)->t.D->List (DataW H)
 | 0,_,_=>[]
 | 1,t,d=>[f t e d]
 | n+2,.pair a b,(x,y)=>f a e x::kS f e (n+1) b y
 | _+2,_,_=>[]
def fh{H:Type}(P:Program):Nat->(t:CT)->TypeId->t.D->DataW H
 | 0,_,_,_ => .agg []
 | n+1,t,τ,d=>match P.underlying τ,t,d with
  | some (.int k),.int _,d => .lit (.int k d)
  | some .bool,.bool,d => .lit (.bool d)
  | some (.struct fs),t,d => .agg (kF (fh P n) fs.toList t d)
  | some (.array k e),t,d => .agg (kS (fh P n) e k t d)
  | _,_,_ => .agg []
def gg:CT->Bool
 | .int _=>true
 | .bool=>true
 | .pair a b=>gg a&&gg b
 | _=>false
section
variable {H:Type} {enc:TypeId×Value->H} {P:Program} {w:World} {base:Nat} {held:Bool}
theorem sg{A:Nat->Prop}{f:CT->TypeId->Bool}{F:(t:CT)->TypeId->t.D->DataW H}{cs:List Value}{n:Nat}
  (hf:∀ t τ cs d p,f t τ=true->gg t=true->DataW.trod enc P w base (fun _=>true) held n τ cs=some (F t τ d,p)->Rd A w t (fun j=>cs[j]?) 0 d) :
  ∀(fs:List Field)(t:CT)(o:Nat)(d:t.D)(xs:List (DataW H×List MemPlace)),g9 P f fs t o=true->gg t=true->xs.length=fs.length->xs.map (·.1)=kF F fs t d →
   (∀ i (h1:i<fs.length) (h2:i<xs.length),DataW.trod enc P w base (fun _=>true) held n fs[i].type ((cs.drop fs[i].offset).take (P.cellsOf fs[i].type))=some xs[i])->Rd A w t (fun j=>cs[j]?) o d
 | [],t,o,d,xs,h,_,_,_,_=>by cases h
 | [fd],t,o,d,xs,h,ht,hl,he,hx=>by
  simp only[g9,Bool.and_eq_true] at h
  obtain⟨⟨h1,h2⟩,h3⟩:=h
  have h2:=Nat.eq_of_beq_eq_true h2
  have h3:=Nat.eq_of_beq_eq_true h3
  match xs,hl with
  | [x],_ =>
   have:=hx 0 (by simp) (by simp)
   simp only[List.getElem_cons_zero] at this
   simp only[List.map_cons,List.map_nil,kF,List.cons.injEq,and_true] at he
   have hd:=hf t fd.type _ d x.2 h1 ht (by rw[this,← he])
   rw[h2] at hd
   exact iU h3 hd
 | fd::g::r,.pair a b,o,(d1,d2),xs,h,ht,hl,he,hx=>by
  simp only[g9,Bool.and_eq_true] at h
  obtain⟨⟨⟨h1,h2⟩,h3⟩,h4⟩:=h
  simp only[gg,Bool.and_eq_true] at ht
  have h2:=Nat.eq_of_beq_eq_true h2
  have h3:=Nat.eq_of_beq_eq_true h3
  match xs,hl with
  | x::ys,hl =>
   simp only[List.map_cons,kF,List.cons.injEq] at he
   have:=hx 0 (by simp) (by simp)
   simp only[List.getElem_cons_zero] at this
   have hd:=hf a fd.type _ d1 x.2 h1 ht.1 (by rw[this,← he.1])
   rw[h2] at hd
   have hd':=sg hf (g::r) b (o+a.size) d2 ys h4 ht.2 (by simpa using hl) he.2 (fun i k1 k2=>by
    have:=hx (i+1) (by simpa using k1) (by simpa using k2)
    simpa only[List.getElem_cons_succ] using this)
   exact⟨iU h3 hd,hd'⟩
 | _::_::_,.int _,_,_,_,h,_,_,_,_=>by cases h
 | _::_::_,.bool,_,_,_,h,_,_,_,_=>by cases h
 | _::_::_,.str,_,_,_,h,_,_,_,_=>by cases h
 | _::_::_,.sl _,_,_,_,h,_,_,_,_=>by cases h
theorem uu{A:Nat->Prop}{f:CT->TypeId->Bool}{F:(t:CT)->TypeId->t.D->DataW H}{cs:List Value}{n:Nat}{e:TypeId}
  (hf:∀ t τ cs d p,f t τ=true->gg t=true->DataW.trod enc P w base (fun _=>true) held n τ cs=some (F t τ d,p)->Rd A w t (fun j=>cs[j]?) 0 d) :
  ∀(k:Nat)(t:CT)(i:Nat)(d:t.D)(xs:List (DataW H×List MemPlace)),ie P f e k t=true->gg t=true->xs.length=k->xs.map (·.1)=kS F e k t d →
   (∀ j (h2:j<xs.length),DataW.trod enc P w base (fun _=>true) held n e ((cs.drop ((i+j)*P.cellsOf e)).take (P.cellsOf e))=some xs[j])->Rd A w t (fun j=>cs[j]?) (i*P.cellsOf e) d
 | 0,t,i,d,xs,h,_,_,_,_=>by cases h
 | 1,t,i,d,xs,h,ht,hl,he,hx=>by
  simp only[ie,Bool.and_eq_true] at h
  obtain⟨h1,h2⟩:=h
  have h2:=Nat.eq_of_beq_eq_true h2
  match xs,hl with
  | [x],_ =>
   have:=hx 0 (by simp)
   simp only[List.getElem_cons_zero] at this
   simp only[List.map_cons,List.map_nil,kS,List.cons.injEq,and_true] at he
   have hd:=hf t e _ d x.2 h1 ht (by rw[this,← he])
   exact iU h2 hd
 | k+2,.pair a b,i,(d1,d2),xs,h,ht,hl,he,hx=>by
  simp only[ie,Bool.and_eq_true] at h
  obtain⟨⟨h1,h2⟩,h4⟩:=h
  simp only[gg,Bool.and_eq_true] at ht
  have h2:=Nat.eq_of_beq_eq_true h2
  match xs,hl with
  | x::ys,hl =>
   simp only[List.map_cons,kS,List.cons.injEq] at he
   have:=hx 0 (by simp)
   simp only[List.getElem_cons_zero] at this
   have hd:=hf a e _ d1 x.2 h1 ht.1 (by rw[this,← he.1])
   have hd':=uu hf (k+1) b (i+1) d2 ys h4 ht.2 (by simpa using hl) he.2 (fun j k2=>by
    have:=hx (j+1) (by simpa using k2)
    simp only[List.getElem_cons_succ] at this
    rw[← this];congr 4;omega)
   refine⟨iU h2 hd,?_⟩
   rw[Nat.add_mul,Nat.one_mul] at hd'
   rw[← h2];exact hd'
 | _+2,.int _,_,_,_,h,_,_,_,_=>by cases h
 | _+2,.bool,_,_,_,h,_,_,_,_=>by cases h
 | _+2,.str,_,_,_,h,_,_,_,_=>by cases h
 | _+2,.sl _,_,_,_,h,_,_,_,_=>by cases h
theorem oL:∀(n:Nat)(t:CT)(τ:TypeId)(fuel:Nat)(cs:List Value)(d:t.D)(p:List MemPlace),dG P n t τ=true->gg t=true->DataW.trod enc P w base (fun _=>true) held fuel τ cs=some (fh P n t τ d,p) →
  Rd (fun b=>b<w.heap.size) w t (fun j=>cs[j]?) 0 d
 | 0,t,τ,fuel,cs,d,p,h,_,_=>by cases h
 | n+1,t,τ,fuel,cs,d,p,h,ht,hx=>by
  cases hu:P.underlying τ with
  | none=>cases t <;> simp[dG,hu] at h
  | some ty =>
   cases ty with
   | int k =>
    cases t with
    | int k' =>
     simp only[dG,hu] at h
     cases de h
     obtain⟨m,rfl,e,hw⟩:=DataW.trod_int hu hx
     unfold fh at e
     rw[hu] at e
     simp only[Prod.mk.injEq,DataW.lit.injEq,Lit.int.injEq,true_and] at e
     obtain⟨rfl,-⟩:=e
     exact⟨by simp,uF hw⟩
    | _=>simp[dG,hu] at h
   | bool =>
    cases t with
    | bool =>
     obtain⟨b,rfl,e⟩:=DataW.trod_bool hu hx
     unfold fh at e
     rw[hu] at e
     simp only[Prod.mk.injEq,DataW.lit.injEq,Lit.bool.injEq] at e
     obtain⟨rfl,-⟩:=e
     simp[Rd]
    | _=>simp[dG,hu] at h
   | struct fs =>
    have h':g9 P (dG P n) fs.toList t 0=true:=by cases t <;> simpa[dG,hu] using h
    have ed:fh (H:=H) P (n+1) t τ d = .agg (kF (fh P n) fs.toList t d):=by
     cases t <;> first|(cases ht;done)|(unfold fh;rw[hu])
    obtain⟨xs,m,_,e,hl,hlen,hf⟩:=DataW.trod_struct hu hx
    rw[ed] at e
    simp only[Prod.mk.injEq,DataW.agg.injEq] at e
    refine sg (F:=fh P n) (n:=m) (fun t τ cs d p h1 h2 h3=>oL n t τ m cs d p h1 h2 h3) fs.toList _ 0 d xs h' ht (by simpa using hlen) e.1.symm fun i h1 h2=>?_
    have:=hf i fs[i] (Array.getElem?_eq_getElem (by simpa using h1))
    rw[List.getElem?_eq_getElem h2] at this
    simpa using this
   | array k e' =>
    have h':ie P (dG P n) e' k t=true:=by cases t <;> simpa[dG,hu] using h
    have ed:fh (H:=H) P (n+1) t τ d = .agg (kS (fh P n) e' k t d):=by
     cases t <;> first|(cases ht;done)|(unfold fh;rw[hu])
    obtain⟨xs,m,_,e,hl,hlen,hf⟩:=DataW.trod_array hu hx
    rw[ed] at e
    simp only[Prod.mk.injEq,DataW.agg.injEq] at e
    have:=uu (F:=fh P n) (n:=m) (cs:=cs) (e:=e') (fun t τ cs d p h1 h2 h3=>oL n t τ m cs d p h1 h2 h3) k _ 0 d xs h' ht hlen e.1.symm fun j h2=>by
     have:=hf j (by omega)
     rw[List.getElem?_eq_getElem h2] at this
     simpa using this
    simpa using this
   | _=>cases t <;> first|(cases ht;done)|(simp[dG,hu] at h;done)
end
theorem globs_one{P:Program}{w:World}{name:String}{t:CT}{v:t.D}{g n:Nat}{τ:TypeId}{d:DataW Unit}(h:laidMetH P [(name,d)] w)(hh:([(name,d)].all fun x=>x.2.handleName?.isNone)=true)
  (hg:P.globalNamed name=some g) (hτ:(P.globals[g]?).map (·.type)=some τ) (hf:dG P n t τ=true) (hs:gg t=true) (hd:d=fh P n t τ v) :
  g<w.heap.size/\Rd (fun b=>b<w.heap.size) w t (fun o=>w.cell? ⟨g,o,none⟩) 0 v:=by
 rw[MakeChecks.laidMetH_plain _ _ _ hh] at h
 obtain⟨ps,⟨g0,t0,cs0,f0,p0,q0,hg0,ht0,hv0,hd0,_,_⟩,_,_⟩:=h
 obtain rfl:=Option.some.inj (hg.symm.trans hg0)
 obtain rfl:=Option.some.inj (hτ.symm.trans ht0)
 rw[hd] at hd0
 have hr:=oL n t τ f0 cs0.toList v p0 hf hs hd0
 have hlt:g<w.heap.size:=by
  have hv:=hv0
  simp only[World.var?,hg,Option.bind_some] at hv
  split at hv
  ·rename_i hb;exact (Array.getElem?_eq_some_iff.1 hb).1
  ·cases hv
 refine⟨hlt,?_⟩
 refine bQ (fun _ h=>h) (fun _ _ _=>rfl) t _ _ _ _ (fun j hj=>?_) hr
 have:=World.var?_cell hg hv0 j
 rw[Nat.zero_add,this];simp
end Go.SX

/- SX, part 29: slices.Insert of one element into a slice that owns its row: its contract, off what its code does with values. -/
namespace Go.SX
set_option linter.unusedVariables false
def bR(cur:Array Value)(o:Nat)(cs:List Value):Array Value:=(cur.toList.take o++cs++cur.toList.drop (o+cs.length)).toArray
theorem iO{cur:Array Value}{o:Nat}{cs:List Value}(h:o+cs.length<=cur.size):(bR cur o cs).size=cur.size:=by
 simp only[bR,List.size_toArray,List.length_append,List.length_take,List.length_drop,Array.length_toList];omega
theorem gf{cur:Array Value}{o:Nat}{cs:List Value}(h:o+cs.length<=cur.size)(j:Nat) :
  (bR cur o cs)[j]? = if j<o then cur[j]? else if j<o+cs.length then cs[j-o]? else cur[j]? := by
 unfold bR
 rw[List.getElem?_toArray]
 have hl:(cur.toList.take o).length=o:=by rw[List.length_take,Array.length_toList];omega
 by_cases h1:j<o
 ·rw[if_pos h1,List.append_assoc,List.getElem?_append_left (by omega),List.getElem?_take,if_pos h1,Array.getElem?_toList]
 ·rw[if_neg h1]
  by_cases h2:j<o+cs.length
  ·rw[if_pos h2,List.append_assoc,List.getElem?_append_right (by omega),List.getElem?_append_left (by omega),hl]
  ·rw[if_neg h2,List.getElem?_append_right (by rw[List.length_append,hl];omega),List.length_append,hl,List.getElem?_drop,Array.getElem?_toList]
   congr 1;omega
def bp(cur:Array Value)(o n:Nat):List Value:=(cur.toList.drop o).take n
theorem g8{cur:Array Value}{o n:Nat}(h:o+n<=cur.size):(bp cur o n).length=n:=by
 unfold bp;rw[List.length_take,List.length_drop,Array.length_toList];omega
theorem gV{cur:Array Value}{o n j:Nat}(h:j<n):(bp cur o n)[j]? = cur[o+j]? := by
 unfold bp;rw[List.getElem?_take,if_pos h,List.getElem?_drop,Array.getElem?_toList]
def gA(cur:Array Value)(off n i z:Nat)(vs:List Value):Array Value:=bR (bR cur (off+(i+1)*z) (bp cur (off+i*z) ((n-i)*z))) (off+i*z) vs
def fb(cur:Array Value)(off n i z G:Nat)(zr:Array Value):Array Value:=(bp cur off (i*z)).toArray++Builtin.zeroCells zr (n+1-i)++Builtin.zeroCells zr (G-(n+1))
def fY(cur:Array Value)(off n i z G:Nat)(zr:Array Value)(vs:List Value):Array Value:=bR (bR (fb cur off n i z G zr) (i*z) vs) ((i+1)*z) (bp cur (off+i*z) ((n-i)*z))
structure qO (P:Program) (F:FuncId) (tS E:TypeId) (z bs:Nat) (zr:Array Value) (ty:TypeId):Prop where
 last:∀(w w':World)(p q:Option Addr)(n c vc:Nat)(v:Value),n<=c->c<=maxLen->(Builtin.append_ #[tS,tS] ty #[.slice p n c,.slice q 1 vc]).run P w = .ok v w' →
  Calls P F #[.slice p n c,.int .i64 n,.slice q 1 vc] w fun e w2=>e = .returned v/\w2=w'
 shift:∀(w:World)(b off n c i vb voff vc:Nat)(cur vcur:Array Value)(E':TypeId)(vs:List Value),i<n->n+1<=c->c<=maxLen->vb≠b->w.heap[b]? = some (.cells cur E (0,0))->off+c*z<=cur.size →
  w.heap[vb]? = some (.cells vcur E' (0,0))->vs.length=z->(∀ j v,vs[j]? = some v->w.cell? ⟨vb,voff+j,none⟩=some v)->(∀ v∈vs,v.oneCell'=true)->(∀ v∈bp cur (off+i*z) ((n-i)*z),v.oneCell'=true) →
  Calls P F #[.slice (some ⟨b,off,none⟩) n c,.int .i64 i,.slice (some ⟨vb,voff,none⟩) 1 vc] w fun e w'=>e = .returned (.slice (some ⟨b,off,none⟩) (n+1) c)/\w'=w.drew.setRow b (gA cur off n i z vs)
 grow:∀(w:World)(b off n i vb voff vc:Nat)(cur vcur:Array Value)(E':TypeId)(vs:List Value),i<n->n+1<=maxLen->(n+1)*bs<=140737488355328->w.heap[b]? = some (.cells cur E (0,0))->off+n*z<=cur.size →
  w.heap[vb]? = some (.cells vcur E' (0,0))->vs.length=z->(∀ j v,vs[j]? = some v->w.cell? ⟨vb,voff+j,none⟩=some v)->(∀ v∈vs,v.oneCell'=true)->(∀ v∈bp cur off (n*z),v.oneCell'=true) →
  Calls P F #[.slice (some ⟨b,off,none⟩) n n,.int .i64 i,.slice (some ⟨vb,voff,none⟩) 1 vc] w fun e w'=>e = .returned (.slice (some ⟨w.heap.size,0,none⟩) (n+1) (grownCap w (n+1) n E)) ∧
   ∃ w1:World,aS w.drew w1 (fun _=>False)/\w1.heap.size=w.heap.size+1/\w1.heap[w.heap.size]? = some (.cells (fb cur off n i z (grownCap w (n+1) n E) zr) E (0,0))/\w'=w1.setRow w.heap.size (fY cur off n i z (grownCap w (n+1) n E) zr vs)
def kY(u:CT)(E:TypeId)(bs:Nat):Spec:=fun base svs=>match svs with
 | [.own n sz,.int .i64 i,.own q sq]=>match Nat.beq q n with
  | true => .fail
  | false => .ask n fun
   | .live (.row E' u' xs)=>match Nat.beq E' E,Nat.beq sz u.size,bO u' u xs with
    | true,true,some ys=>(ir u (.own q sq)).bind fun vs=>.ask base fun
     | .un => .ret (.det [vs.length=1,0<=i,i<=ys.length,(ys.length+1)*bs<=140737488355328] (.own base u.size) [(base,.live (.row E u (ys.take i.toNat++(vs++ys.drop i.toNat)))),(n,.dead)])
     | _ => .fail
    | _,_,_ => .fail
   | _ => .fail
 | _ => .fail
section
variable {P:Program} {w0:World} {N0:bu} {A:Nat->Prop} {env:aj} {h:aK} {w:World}
theorem zq(m:ax w0 N0 A env h w){t:CT}{n sz:Nat}{v:Value}{ys:List t.D}{r:List Nat}(e:(ir t (.own n sz)).run h=some (ys,r))(hd:aa A env w (.own n sz) v)(h1:ys.length=1) :
  ∃ k l c vcur E',env n = .blk k l/\v = .slice (some ⟨k,l.1,none⟩) 1 c/\w.heap[k]? = some (.cells vcur E' (0,0))/\(∀ n' k' l' b,n'≠n->h n' = .live b->b.mut=true->env n' = .blk k' l'→k≠k') ∧
   Rd A w t (fun o=>w.cell? ⟨k,o,none⟩) l.1 (cD t ys 0):=by
 simp only[ir,Q.run] at e
 simp only[aa] at hd
 have fin:∀{b:cU}{E':TypeId}{zs:List t.D},h n = .live b->(b = .row E' t zs∨b = .frz E' t zs)->zs.length=1 →
   ∃ k l c vcur E',env n = .blk k l/\v = .slice (some ⟨k,l.1,none⟩) 1 c/\w.heap[k]? = some (.cells vcur E' (0,0))/\(∀ n' k' l' b,n'≠n->h n' = .live b->b.mut=true->env n' = .blk k' l'→k≠k') ∧
    Rd A w t (fun o=>w.cell? ⟨k,o,none⟩) l.1 (cD t zs 0):=by
  intro b E' zs hl hb hz
  rcases hd with⟨hnil,_⟩|⟨k,l,E2,c,hk,hsh,rfl⟩
  ·have:=m.nm n
   rw[hl] at this
   rcases this with⟨k',l',he',_⟩|⟨_,E3,t3,hb3⟩
   ·rw[hnil] at he';cases he'
   ·rcases hb with rfl|rfl <;> rcases hb3 with hb3|hb3 <;> cases hb3 <;> cases hz
  ·have hbd:=m.live_blk hl hk
   have hrow:d7 A w k l E' t zs:=by
    rcases hb with rfl|rfl
    ·exact hbd.1
    ·exact hbd.1.2
   have hlen:l.2=1:=by obtain⟨_,_,_,_,h3,_⟩:=hrow;omega
   have hrd:=kA hrow (i:=0) (by omega)
   obtain⟨vcur,cap,hh,_⟩:=hrow
   refine⟨k,l,(c-l.1)/sz,vcur,E',hk,by rw[hlen],hh,?_,by simpa using hrd⟩
   intro n' k' l' b' hne hl' hm' he' hkk
   subst hkk
   rcases hb with rfl|rfl
   ·exact hne (m.inj n' n b' _ k l' l hl' hl hm' rfl he' hk)
   ·exact (m.live_blk hl' he').2 hm' hbd.1.1
 split at e
 ·rename_i p q hk
  simp only[Option.some.injEq,Prod.mk.injEq] at e
  obtain⟨rfl,rfl⟩:=e
  split at hk
  ·rename_i E' u zs hl
   split at hk
   ·rename_i zs' _ hc
    simp only[Q.run,Option.some.injEq,Prod.mk.injEq] at hk
    obtain⟨rfl,_⟩:=hk
    obtain⟨et,ey⟩:=cA hc
    subst et
    simp only at ey
    subst ey
    exact fin hl (.inl rfl) h1
   ·cases hk
  ·rename_i E' u zs hl
   split at hk
   ·rename_i zs' _ hc
    simp only[Q.run,Option.some.injEq,Prod.mk.injEq] at hk
    obtain⟨rfl,_⟩:=hk
    obtain⟨et,ey⟩:=cA hc
    subst et
    simp only at ey
    subst ey
    exact fin hl (.inr rfl) h1
   ·cases hk
  ·cases hk
 ·cases e
theorem vS{u:CT}{xs:List u.D}{y:u.D}{i o:Nat}{row:Nat->Option Value}{cur:Nat->Option Value}{off:Nat}(hi:i<=xs.length)
  (hx:∀ k (hk:k<xs.length),Rd A w u cur (off+k*u.size) xs[k]) {news:Nat->Option Value} (hy:Rd A w u news 0 y)
  (h1:∀ j,j<i*u.size->row (o+j)=cur (off+j)) (h2:∀ j,j<u.size->row (o+i*u.size+j)=news j) (h3:∀ j,j<(xs.length-i)*u.size->row (o+(i+1)*u.size+j)=cur (off+i*u.size+j)) :
  ∀ k (hk:k<(xs.take i++([y]++xs.drop i)).length),Rd A w u row (o+k*u.size) (xs.take i++([y]++xs.drop i))[k]:=by
 intro k hk
 have hl:(xs.take i).length=i:=by rw[List.length_take];omega
 by_cases hki:k<i
 ·rw[List.getElem_append_left (by omega)]
  simp only[List.getElem_take]
  have hm:(k+1)*u.size<=i*u.size:=Nat.mul_le_mul_right _ hki
  rw[Nat.add_mul,Nat.one_mul] at hm
  refine gM (hx k (by omega)) fun j hj=>?_
  rw[Nat.add_assoc,h1 _ (by omega),Nat.add_assoc]
 ·rw[List.getElem_append_right (by omega)]
  simp only[hl]
  by_cases hke:k=i
  ·subst hke
   simp only[Nat.sub_self,List.cons_append,List.nil_append,List.getElem_cons_zero]
   refine gM hy fun j hj=>?_
   rw[h2 j hj,Nat.zero_add]
  ·obtain⟨q,rfl⟩:∃ q,k=i+1+q:=⟨k-i-1,by omega⟩
   have hq:i+q<xs.length:=by simp at hk;omega
   have hg:([y]++xs.drop i)[i+1+q-i]'(by simp;omega)=xs[i+q]:=by
    simp only[show i+1+q-i=q+1 from by omega,List.cons_append,List.nil_append,List.getElem_cons_succ,List.getElem_drop]
   rw[hg]
   have hm:(q+1)*u.size<=(xs.length-i)*u.size:=Nat.mul_le_mul_right _ (by omega)
   rw[Nat.add_mul,Nat.one_mul] at hm
   refine gM (hx (i+q) hq) fun j hj=>?_
   rw[show o+(i+1+q)*u.size+j=o+(i+1)*u.size+(q*u.size+j) from by rw[Nat.add_mul (i+1)];omega,h3 _ (by omega)]
   congr 1
   rw[Nat.add_mul i q];omega
theorem D1(m:ax w0 N0 A env h w){tS E ty:TypeId}{zv:Value}{z bs base n sz q sq:Nat}{u:CT}{xs ys:List u.D}{r:List Nat}{sv xv:Value}(hu:P.underlying tS=some (.slice E))(hi:(P.info? E).map (fun i=>(i.zero,i.size,i.bytes))=some (some zv,z,bs))(hzr:zv.cells.size=z)(hbs:1<=bs)(hz:z=u.size)
  (hl:h n = .live (.row E u xs)) (hsz:sz=u.size) (hs:(ir u (.own q sq)).run h=some (ys,r)) (hun:h base = .un) (hby:(xs.length+ys.length)*bs<=140737488355328)
  (ds:aa A env w (.own n sz) sv) (dx:aa A env w (.own q sq) xv) :
  ∃ v w',(Builtin.append_ #[tS,tS] ty #[sv,xv]).run P w = .ok v w'∧bA w0 N0 A env h w (.det [] (.own base u.size) [(base,.live (.row E u (xs++ys))),(n,.dead)]) v w':=by
 obtain⟨i0,hi0⟩:∃ i0,P.info? E=some i0:=by
  cases hh:P.info? E with
  | none=>rw[hh] at hi;cases hi
  | some i0=>exact⟨i0,rfl⟩
 rw[hi0] at hi
 simp only[Option.map_some,Option.some.injEq,Prod.mk.injEq] at hi
 obtain⟨hz0,hzs,hzb⟩:=hi
 subst hz hzb hsz
 have run:(lL P tS base (.own n u.size) (.own q sq)).run h=some (.det [(xs.length+ys.length)*i0.bytes<=140737488355328] (.own base u.size) [(base,.live (.row E u (xs++ys))),(n,.dead)],n::(r++[base])):=by
  have he:fS P tS=some (E,u.size):=by unfold fS;rw[hu];simp[bK,hi0,hzs]
  unfold lL
  rw[he]
  simp only[hi0,Nat.ble_eq_true_of_le hbs,hz0,hzr,Nat.beq_refl]
  simp only[Q.run,hl,Nat.beq_refl]
  rw[Q.bind_run1 _ _ hs (b := .det [(xs.length+ys.length)*i0.bytes<=140737488355328] (.own base u.size) [(base,.live (.row E u (xs++ys))),(n,.dead)]) (r2:=[base]) (by simp only[Q.run,hun])]
 let o : Oper := { dst := none, op := .call { callee := .builtin .append, args := #[.tmp 0, .tmp 1], argTypes := #[tS, tS] }, type := ty, pos := "", after := #[], guard := none }
 let a:Act:={tmps := #[sv,xv],defers:=[]}
 have fd:FD A env w (fun i=>if i=0 then .own n u.size else if i=1 then .own q sq else .junk) a:=by
  intro i
  by_cases h0:i=0
  ·subst h0;exact ds
  ·by_cases h1:i=1
   ·subst h1;exact dx
   ·simp only[h0,h1,if_false,aa]
 obtain⟨v,w',hr,g⟩:=tv (P:=P) (o:=o) (a:=a) (nm:=base) (s := .tmp 0) (x := .tmp 1) (t:=tS) m fd rfl run (by simp only[Dl.pre,aD,and_true];exact hby)
 have he:(execOp a.eval o).run P w=((Builtin.append_ #[tS,tS] ty #[sv,xv]).run P w).andThen fun v w'=>.ok (.value v) w':=by
  unfold execOp
  simp only[o,resolve,invoke,builtin,Sem.run_bind,Sem.run_pure,Result.andThen_ok,List.map_toArray,List.map_cons,List.map_nil]
  rfl
 rw[he] at hr
 cases hb:(Builtin.append_ #[tS,tS] ty #[sv,xv]).run P w with
 | ok v1 w1 =>
  rw[hb] at hr
  rcases hr with hr|⟨hr,_⟩
  ·cases hr
   exact⟨v,w',rfl,g⟩
  ·cases hr
 | _=>rw[hb] at hr;rcases hr with hr|⟨hr,_⟩ <;> cases hr
theorem um{t:CT}{ys:List t.D}(h:ys.length=1):ys=[cD t ys 0]:=by
 match ys,h with
 | [y],_=>rfl
theorem sG{u:CT}{cv:Nat->Option Value}{o:Nat}{xs:List u.D}(hx:∀ i (hi:i<xs.length),Rd A w u cv (o+i*u.size) xs[i]){cur:Array Value}(hc:∀ j,cv j=cur[j]?){a n:Nat}(ha:a+n<=xs.length)(hs:o+(a+n)*u.size<=cur.size) :
  ∀ v∈bp cur (o+a*u.size) (n*u.size),v.oneCell'=true:=by
 obtain⟨news,hl,hcv,h1⟩:=ou (A:=A) (w:=w) ((xs.drop a).take n) (o+a*u.size) (cv:=cv) (fun i hi=>by
  simp only[List.length_take,List.length_drop] at hi
  have:=hx (a+i) (by omega)
  simp only[List.getElem_take,List.getElem_drop]
  rw[Nat.add_assoc,← Nat.add_mul];exact this)
 have hln:((xs.drop a).take n).length=n:=by rw[List.length_take,List.length_drop];omega
 rw[hln] at hl
 intro v hv
 obtain⟨j,hj,rfl⟩:=List.mem_iff_getElem.1 hv
 have hcl:(bp cur (o+a*u.size) (n*u.size)).length=n*u.size:=g8 (by rw[Nat.add_assoc,← Nat.add_mul];exact hs)
 have e1:(bp cur (o+a*u.size) (n*u.size))[j]? = news[j]? := by
  rw[gV (by omega),← hc,hcv j (by omega)]
 rw[List.getElem?_eq_getElem hj] at e1
 exact h1 _ (List.mem_iff_getElem?.2 ⟨j,e1.symm⟩)
theorem vg{G:gS}{F:FuncId}{tS E ty:TypeId}{zv:Value}{z bs:Nat}{u:CT}(raw:qO P F tS E z bs zv.cells ty)(hu:P.underlying tS=some (.slice E))(hi:(P.info? E).map (fun i=>(i.zero,i.size,i.bytes))=some (some zv,z,bs))
  (hzr:zv.cells.size=z) (hbs:1<=bs) (hz:z=u.size):aC P G F (kY u E bs):=by
 intro base svs h d r e hp w0 N0 A env w vs hg m hd
 unfold kY at e
 split at e
 case h_2=>cases e
 rename_i n sz i q sq
 split at e
 ·cases e
 rename_i hqn
 have hqn:q≠n:=fun e=>by rw[e,Nat.beq_refl] at hqn;cases hqn
 simp only[Q.run] at e
 split at e
 case h_2=>cases e
 rename_i p0 q0 hk
 simp only[Option.some.injEq,Prod.mk.injEq] at e
 obtain⟨rfl,rfl⟩:=e
 split at hk
 case h_2=>cases hk
 rename_i E' u xs hl
 split at hk
 case h_2=>cases hk
 rename_i ys hE hsz hc
 have hE:E'=E:=Nat.eq_of_beq_eq_true hE
 have hsz:=Nat.eq_of_beq_eq_true hsz
 obtain⟨et,ey⟩:=cA hc
 subst et hE hsz
 simp only at ey
 subst ey
 obtain⟨vs1,q1,q2,e1,e2,rfl⟩:=Q.run_bind _ _ _ hk
 simp only[Q.run] at e2
 split at e2
 case h_2=>cases e2
 rename_i p' q' hk'
 simp only[Option.some.injEq,Prod.mk.injEq] at e2
 obtain⟨rfl,rfl⟩:=e2
 split at hk'
 case h_2=>cases hk'
 rename_i hun
 cases aN hk'
 simp only[Dl.pre,aD,and_true] at hp
 obtain⟨hp1,hp2,hp3,hp4⟩:=hp
 simp only[ac] at hd
 obtain⟨sv,r1,rfl,ds,iv,r2,rfl,di,xv,r3,rfl,dx,rfl⟩:=hd
 have di':=di
 simp only[aa] at di'
 obtain⟨rfl,hii⟩:=di'
 obtain⟨k,l,c,vcur,E2,hkq,rfl,hkc,hkne,hrd⟩:=zq m e1 dx hp1
 subst hz
 have hlen:∀{ii:Nat},ii=ys.length->ys.take ii++(vs1++ys.drop ii)=ys++vs1:=by
  rintro _ rfl
  rw[List.take_length,List.drop_length,List.append_nil]
 obtain⟨ii,rfl⟩:=Int.eq_ofNat_of_zero_le hp2
 have hii2:ii<=ys.length:=by omega
 simp only[Int.toNat_natCast]
 have hlast:∀ nn cc pp,ii=ys.length->sv = .slice pp nn cc->nn=ys.length->nn<=cc->cc<=maxLen →
   Calls P F #[sv,.int .i64 (ii:Int),.slice (some ⟨k,l.1,none⟩) 1 c] w fun e w'=>∃ v,e = .returned v/\bA w0 N0 A env h w (.det [vs1.length=1,(0:Int)<=(ii:Int),(ii:Int)<=(ys.length:Int),(ys.length+1)*bs<=140737488355328] (.own base u.size) [(base,.live (.row E' u (ys.take ii++(vs1++ys.drop ii)))),(n,.dead)]) v w':=by
  rintro nn cc pp rfl rfl rfl hle hmx
  obtain⟨v,w',hr,g⟩:=D1 (ty:=ty) m hu hi hzr hbs rfl hl rfl e1 hun (by rw[hp1];exact hp4) ds dx
  refine (raw.last w w' pp (some ⟨k,l.1,none⟩) ys.length cc c v hle hmx hr).mono ?_
  rintro e w2 ⟨rfl,rfl⟩
  refine⟨v,rfl,?_⟩
  rw[hlen rfl]
  exact g
 have hdn:∀ n'∈[n],∃ b,h n' = .live b/\b.mut=true:=by simp[hl,cU.mut]
 have ds':=ds
 simp only[aa] at ds'
 rcases ds' with⟨hnil,pa,rfl⟩|⟨b,⟨β,len⟩,E3,cc,hb,hsh,rfl⟩
 ·have hx:ys=[]:=by
   have:=m.nm n
   rw[hl] at this
   rcases this with⟨k',l',he',_⟩|⟨_,E3,t3,hb⟩
   ·rw[hnil] at he';cases he'
   ·rcases hb with hb|hb <;> cases hb;rfl
  subst hx
  exact hlast 0 0 pa (by simpa using hii2) rfl rfl (Nat.le_refl _) (by simp[maxLen])
 ·obtain⟨cur,cap,hh,hcs,hxl,hlc,hcm,hrdx⟩:=(m.live_blk hl hb).1
  simp only at hcs hxl hlc hrdx
  have hcc:cc=cur.size/\E3=E':=by
   unfold World.shape? at hsh;rw[hh] at hsh
   simp only[Option.some.injEq,Prod.mk.injEq] at hsh;exact⟨hsh.2.symm,hsh.1.symm⟩
  obtain⟨rfl,rfl⟩:=hcc
  have hcap:(cur.size-β)/u.size=cap:=by rw[hcs,Nat.add_sub_cancel_left];exact Nat.mul_div_cancel _ u.size_pos
  have hnA:=(m.live_blk hl hb).2 rfl
  simp only[hcap] at hlast ⊢
  rcases Nat.lt_or_ge ii ys.length with hlt|hge
  case inr=>exact hlast len cap _ (by omega) rfl hxl.symm hlc hcm
  obtain⟨news,hnl,hnc,hnd⟩:=hV (env:=env) u _ _ _ hrd
  have hn1:=lg hnd (nI _ _)
  have hnews:∀ j v,news[j]? = some v->w.cell? ⟨k,l.1+j,none⟩=some v:=fun j v hj=>by
   rw[hnc j (by rw[← hnl];exact (List.getElem?_eq_some_iff.1 hj).1)];exact hj
  have hry:Rd A w u (fun j=>news[j]?) 0 (cD u vs1 0):=gM hrd fun j hj=>by rw[Nat.zero_add,hnc j hj]
  have hkb:k≠b:=hkne n b _ _ (Ne.symm hqn) hl rfl hb
  have hlz:(len-ii)*u.size+(ii+1)*u.size=(len+1)*u.size:=by rw[← Nat.add_mul];congr 1;omega
  have hiz:(ii+1)*u.size=ii*u.size+u.size:=by rw[Nat.add_mul,Nat.one_mul]
  have hlcz:len*u.size<=cap*u.size:=Nat.mul_le_mul_right _ hlc
  have hlz1:(len+1)*u.size=len*u.size+u.size:=by rw[Nat.add_mul,Nat.one_mul]
  have hnlen:(ys.take ii++(vs1++ys.drop ii)).length=len+1:=by simp;omega
  have hcutl:(bp cur (β+ii*u.size) ((len-ii)*u.size)).length=(len-ii)*u.size:=g8 (by omega)
  by_cases hroom:len+1<=cap
  ·have hroomz:(len+1)*u.size<=cap*u.size:=Nat.mul_le_mul_right _ hroom
   refine (raw.shift w b β len cap ii k l.1 c cur vcur E2 news (by omega) hroom hcm hkb hh (by omega) hkc hnl hnews hn1 (sG hrdx (fun _=>rfl) (by omega) (by rw[show ii+(len-ii)=len from by omega];omega))).mono ?_
   rintro e w' ⟨rfl,rfl⟩
   refine⟨_,rfl,?_⟩
   have s1:(bR cur (β+(ii+1)*u.size) (bp cur (β+ii*u.size) ((len-ii)*u.size))).size=cur.size:=iO (by rw[hcutl];omega)
   have s2:(gA cur β len ii u.size news).size=cur.size:=by unfold gA;rw[iO (by rw[s1,hnl];omega),s1]
   have cg:aS w (w.drew.setRow b (gA cur β len ii u.size news)) fun j=>j=b:=(aS.drew w _).trans (aS.setRow w.drew b cur _ E3 hh s2)
   have g:=ek (pre:=[vs1.length=1,(0:Int)<=(ii:Int),(ii:Int)<=(ys.length:Int),(ys.length+1)*bs<=140737488355328]) (v := .slice (some ⟨b,β,none⟩) (len+1) cap) (E:=E3) (t:=u) (zs:=ys.take ii++(vs1++ys.drop ii)) m hun [n] hdn (W:=fun j=>j=b) (ev := .blk b (β,len+1)) cg
    (fun k hk=>⟨n,(β,len),by simp,hk▸hb⟩) (by simp) (fun k l e=>by cases e;exact .inr ⟨n,(β,len),by simp,hb⟩) (fun x=>.inr ⟨b,(β,len+1),cur.size,rfl,?_,?_,?_⟩)
   ·exact g
   ·refine⟨_,cap,setRow_heap w.drew b cur _ E3 _ hh,by rw[s2];exact hcs,hnlen,hroom,hcm,?_⟩
    intro k' hk'
    refine bQ (fun _ h=>h) x.keep u _ _ _ _ (fun j _=>rfl) ?_
    have hv1:=um hp1
    have key:=vS (A:=A) (w:=w) (u:=u) (xs:=ys) (y:=cD u vs1 0) (i:=ii) (o:=β) (off:=β) (row:=fun o=>(gA cur β len ii u.size news)[o]?) (cur:=fun o=>cur[o]?) hii2 hrdx hry ?_ ?_ ?_ k' (by rw[← hv1];exact hk')
    ·simp only[← hv1] at key;exact key
    ·intro j hj
     unfold gA
     try simp only
     rw[gf (by rw[s1,hnl];omega),if_pos (by omega),gf (by rw[hcutl];omega),if_pos (by omega)]
    ·intro j hj
     unfold gA
     try simp only
     rw[gf (by rw[s1,hnl];omega),if_neg (by omega),if_pos (by rw[hnl];omega)]
     congr 1;omega
    ·intro j hj
     rw[hxl] at hj
     unfold gA
     try simp only
     rw[gf (by rw[s1,hnl];omega),if_neg (by omega),if_neg (by rw[hnl];omega),gf (by rw[hcutl];omega),if_neg (by omega),if_pos (by rw[hcutl];omega),show β+(ii+1)*u.size+j-(β+(ii+1)*u.size)=j from by omega,gV hj]
   ·unfold World.shape?;rw[setRow_heap w.drew b cur _ E3 _ hh];simp only[s2]
   ·show _=Value.slice _ _ ((cur.size-β)/u.size)
    rw[hcap]
  ·have hcl:cap=len:=by omega
   subst hcl
   have hsum:cap+1<=maxLen:=by
    have:(cap+1)*1<=(ys.length+1)*bs:=by rw[hxl];exact Nat.mul_le_mul_left _ hbs
    simp only[maxLen];omega
   refine (raw.grow w b β cap ii k l.1 c cur vcur E2 news (by omega) hsum (by rw[← hxl];exact hp4) hh (by omega) hkc hnl hnews hn1 (by
    have:=sG hrdx (fun _=>rfl) (a:=0) (n:=cap) (cur:=cur) (by omega) (by rw[Nat.zero_add];omega)
    simpa using this)).mono ?_
   rintro e w' ⟨rfl,w1,cg1,hs1,hh1,rfl⟩
   refine⟨_,rfl,?_⟩
   have hge:=grownCap_ge w (cap+1) cap E3
   have hcm':=grownCap_le_maxLen w (cap+1) cap E3 hsum
   generalize grownCap w (cap+1) cap E3=G' at *
   have hGz:(cap+1)*u.size<=G'*u.size:=Nat.mul_le_mul_right _ hge
   have hcut0:(bp cur β (ii*u.size)).length=ii*u.size:=g8 (by omega)
   have s0:(fb cur β cap ii u.size G' zv.cells).size=G'*u.size:=by
    unfold fb
    simp only[Array.size_append,List.size_toArray,hcut0,size_zeroCells,hzr,← Nat.add_mul];congr 1;omega
   have s1:(bR (fb cur β cap ii u.size G' zv.cells) (ii*u.size) news).size=G'*u.size:=by rw[iO (by rw[s0,hnl];omega),s0]
   have s2:(fY cur β cap ii u.size G' zv.cells news).size=G'*u.size:=by unfold fY;rw[iO (by rw[s1,hcutl];omega),s1]
   have cg:aS w (w1.setRow w.heap.size (fY cur β cap ii u.size G' zv.cells news)) fun _=>False:=by
    have c2:=aS.setRow w1 w.heap.size _ (fY cur β cap ii u.size G' zv.cells news) E3 hh1 (by rw[s2,s0])
    have c3:=(aS.drew w fun _=>False).trans cg1
    exact⟨c2.os.trans c3.os,c2.tape.trans c3.tape,c2.output.trans c3.output,Nat.le_trans c3.size c2.size,
     fun i hi hw=>(c2.blk i (Nat.lt_of_lt_of_le hi c3.size) (fun e=>by omega)).trans (c3.blk i hi hw),fun i s hs=>c2.shape i s (c3.shape i s hs)⟩
   have g:=ek (pre:=[vs1.length=1,(0:Int)<=(ii:Int),(ii:Int)<=(ys.length:Int),(ys.length+1)*bs<=140737488355328]) (v := .slice (some ⟨w.heap.size,0,none⟩) (cap+1) G') (E:=E3) (t:=u) (zs:=ys.take ii++(vs1++ys.drop ii)) m hun [n] hdn (W:=fun _=>False) (ev := .blk w.heap.size (0,cap+1)) cg
    (fun _ h=>h.elim) (by simp) (fun k l e=>by cases e;exact .inl (Nat.le_refl _)) (fun x=>.inr ⟨w.heap.size,(0,cap+1),G'*u.size,rfl,?_,?_,?_⟩)
   ·exact g
   ·refine⟨_,G',setRow_heap w1 w.heap.size _ _ E3 _ hh1,by rw[s2,Nat.zero_add],hnlen,hge,hcm',?_⟩
    intro k' hk'
    refine bQ (fun _ h=>h) x.keep u _ _ _ _ (fun j _=>rfl) ?_
    have hv1:=um hp1
    have key:=vS (A:=A) (w:=w) (u:=u) (xs:=ys) (y:=cD u vs1 0) (i:=ii) (o:=0) (off:=β) (row:=fun o=>(fY cur β cap ii u.size G' zv.cells news)[o]?) (cur:=fun o=>cur[o]?) hii2 hrdx hry ?_ ?_ ?_ k' (by rw[← hv1];exact hk')
    ·simp only[← hv1] at key;exact key
    ·intro j hj
     unfold fY
     try simp only
     rw[gf (by rw[s1,hcutl];omega),if_pos (by omega),gf (by rw[s0,hnl];omega),if_pos (by omega)]
     unfold fb
     rw[Array.append_assoc,Array.getElem?_append_left (by simp only[List.size_toArray,hcut0];omega),List.getElem?_toArray,Nat.zero_add,gV hj]
    ·intro j hj
     unfold fY
     try simp only
     rw[gf (by rw[s1,hcutl];omega),if_pos (by omega),gf (by rw[s0,hnl];omega),if_neg (by omega),if_pos (by rw[hnl];omega)]
     congr 1;omega
    ·intro j hj
     rw[hxl] at hj
     unfold fY
     try simp only
     rw[gf (by rw[s1,hcutl];omega),if_neg (by omega),if_pos (by rw[hcutl];omega),show 0+(ii+1)*u.size+j-(ii+1)*u.size=j from by omega,gV hj]
   ·unfold World.shape?;rw[setRow_heap w1 w.heap.size _ _ E3 _ hh1];simp only[s2]
   ·show _=Value.slice _ _ ((G'*u.size-0)/u.size)
    rw[Nat.sub_zero,Nat.mul_div_cancel _ u.size_pos]
end
end Go.SX

/- Insx: a message put into a list of messages, an item into a list of items (slices.Insert). -/
namespace Go.RS
open Go.SX Go.Proofs
set_option maxRecDepth 100000
set_option maxHeartbeats 4000000
set_option linter.unusedVariables false
def jo:Value := .agg #[.int .i64 0,.int .i64 0,.slice none 0 0]
section
variable {w:World}
theorem EJ:qO Try.prog 81 26 53 3 40 jo.cells 26:=by
 refine⟨?_,?_,?_⟩
 ·intro w w' p q n c vc v hn hc hr
  have hz:(Go.sizeOf 53).run Try.prog w = .ok 3 w:=cw (by kernel_rfl) w
  unfold maxLen at hc
  cases p <;> go_enter Try.func81,Try.ntmps81 <;>
  go_wp2_with (at_builtin;refine Lib.wpList_append_run _ rfl _ _ _ _ rfl _ _ rfl rfl _ _ hr ?_)
  all_goals (go_ret;exact⟨rfl,rfl⟩)
 ·intro w b off n c i vb voff vc cur vcur E' vs hi hn hc hvb hb hf hv hvl hvs h1v h1c
  have hz:∀ w,(Go.sizeOf 53).run Try.prog w = .ok 3 w:=fun w=>cw (by kernel_rfl) w
  have mixed:Try.prog.follows .mixedOrders=true:=ay
  unfold maxLen at hc
  have hsa:w.shape? vb=some (E',vcur.size):=by unfold World.shape?;rw[hv]
  have hsb:w.shape? b=some (53,cur.size):=by unfold World.shape?;rw[hb]
  have hfa:w.frozen? ⟨vb,voff,none⟩=false:=by simp[World.frozen?,hv]
  have hfe:w.frozen? ⟨vb,vcur.size,none⟩=false:=by simp[World.frozen?,hv]
  have hov:∀ lb cb o,(callFunc 94 #[.slice (some ⟨vb,voff,none⟩) 1 vc,.slice (some ⟨b,o,none⟩) lb cb]).run Try.prog w = .ok (.value (.bool false)) w:=fun lb cb o=>by
   rw[run_callFunc_extern Try.func94 (by kernel_rfl) (by kernel_rfl) (by kernel_rfl) (e:=Extern.SlicesOverlaps.overlaps #[26,26] #[4]) (by kernel_rfl),
    Lib.run_overlaps_apart w 26 4 53 Try.underlying26 3 hz ⟨vb,voff,none⟩ ⟨b,o,none⟩ 1 vc lb cb hvb E' 53 vcur.size cur.size hsa hsb (by omega) hfa hfe]
   rfl
  have hw1:IntKind.i64.wrap ((i:Int)+1)=(i:Int)+1:=by rw[IntKind.wrap_i64];omega
  have hw2:IntKind.i64.wrap ((n:Int)+1)=(n:Int)+1:=by rw[IntKind.wrap_i64];omega
  have hz2:¬ ((i:Int)=(n:Int)):=by omega
  have htn:((i:Int)+1).toNat=i+1:=by omega
  have htm:((n:Int)+1).toNat=n+1:=by omega
  have hb1:(0:Int)<=(i:Int)+1:=by omega
  have hb2:¬ (c=i+1):=by omega
  have hb3:(i:Int)<=(n:Int)+1:=by omega
  have hb4:¬ (c=i):=by omega
  have hin:i<=n:=by omega
  have e1:(i+1)*3=i*3+3:=by omega
  have hcl:(bp cur (off+i*3) ((n-i)*3)).length=(n-i)*3:=g8 (by omega)
  have hsz:(Try.prog.info? 53).map (·.size)=some 3:=by kernel_rfl
  have hcp1:(Builtin.copy_ #[26,26] 3 #[.slice (some ⟨b,off+(i+1)*3,none⟩) (n-i) (c-(i+1)),.slice (some ⟨b,off+i*3,none⟩) (n+1-i) (c-i)]).run Try.prog w.drew =
    .ok (goInt ((n-i:Nat):Int)) (w.drew.setRow b (bR cur (off+(i+1)*3) (bp cur (off+i*3) ((n-i)*3)))):=by
   have h:=jg (P:=Try.prog) w.drew 26 26 3 53 3 b (off+(i+1)*3) (n-i) (c-(i+1)) ⟨b,off+i*3,none⟩ (n+1-i) (c-i) cur 53 (bp cur (off+i*3) ((n-i)*3)) Try.underlying26 hsz hb
    (by rw[hcl];simp only[Nat.min_def];split <;> omega)
    (fun j v hj=>by
     have hj':=(List.getElem?_eq_some_iff.1 hj).1
     rw[hcl] at hj'
     rw[gV hj'] at hj
     rw[Addr.add_lit,cell_of_row w.drew b _ cur 53 (0,0) hb];exact hj)
    (by rw[hcl];omega) h1c
   have hm:Nat.min (n+1-i) (n-i)=n-i:=by simp only[Nat.min_def];split <;> omega
   rw[hm] at h
   exact h
  have hr1:(bR cur (off+(i+1)*3) (bp cur (off+i*3) ((n-i)*3))).size=cur.size:=iO (by rw[hcl];omega)
  have hcp2:(Builtin.copy_ #[26,26] 3 #[.slice (some ⟨b,off+i*3,none⟩) (n+1-i) (c-i),.slice (some ⟨vb,voff,none⟩) 1 vc]).run Try.prog (w.drew.setRow b (bR cur (off+(i+1)*3) (bp cur (off+i*3) ((n-i)*3)))) =
    .ok (goInt 1) (w.drew.setRow b (gA cur off n i 3 vs)):=by
   have h:=jg (P:=Try.prog) (w.drew.setRow b (bR cur (off+(i+1)*3) (bp cur (off+i*3) ((n-i)*3)))) 26 26 3 53 3 b (off+i*3) (n+1-i) (c-i) ⟨vb,voff,none⟩ 1 vc _ 53 vs Try.underlying26 hsz
    (setRow_heap w.drew b cur _ 53 (0,0) hb)
    (by rw[hvl];simp only[Nat.min_def];split <;> omega)
    (fun j v hj=>by
     rw[Addr.add_lit,cell_setRow_other _ _ _ _ hvb]
     exact hvs j v hj)
    (by rw[hr1,hvl];omega) h1v
   have hm:Nat.min 1 (n+1-i)=1:=by simp only[Nat.min_def];split <;> omega
   rw[hm,setRow_setRow] at h
   exact h
  clear e1 hcl hr1
  go_enter Try.func81,Try.ntmps81
  go_wp2_with (simp only[hov])
  go_region
  go_wp2
  all_goals (go_ret;exact⟨rfl,rfl⟩)
 ·intro w b off n i vb voff vc cur vcur E' vs hi hn hby hb hf hv hvl hvs h1v h1c
  have hz:∀ w,(Go.sizeOf 53).run Try.prog w = .ok 3 w:=fun w=>cw (by kernel_rfl) w
  have mixed:Try.prog.follows .mixedOrders=true:=ay
  have hx:(Try.prog.info? 53).map (fun i=>(i.zero,i.size,i.bytes))=some (some jo,3,40):=by kernel_rfl
  obtain⟨i0,hi0⟩:∃ i0,Try.prog.info? 53=some i0:=by
   cases hh:Try.prog.info? 53 with
   | none=>rw[hh] at hx;cases hx
   | some i0=>exact⟨i0,rfl⟩
  rw[hi0] at hx
  simp only[Option.map_some,Option.some.injEq,Prod.mk.injEq] at hx
  obtain⟨hz0,hzs,hzb⟩:=hx
  have hsz:(Try.prog.info? 53).map (·.size)=some 3:=by kernel_rfl
  have hbw:b<w.heap.size:=(Array.getElem?_eq_some_iff.1 hb).1
  have hvw:vb<w.heap.size:=(Array.getElem?_eq_some_iff.1 hv).1
  have hni:i*3+(n-i)*3=n*3:=by rw[← Nat.add_mul];congr 1;omega
  have hil:(bp cur off (i*3)).length=i*3:=g8 (by omega)
  have hcl:(bp cur (off+i*3) ((n-i)*3)).length=(n-i)*3:=g8 (by omega)
  have hold:(Builtin.firstCells i0.size i (.slice (some ⟨b,off,none⟩) i n)).run Try.prog w.drew = .ok (bp cur off (i*3)).toArray w.drew:=by
   rw[hzs]
   exact run_firstCells_some w.drew 3 i ⟨b,off,none⟩ i n (bp cur off (i*3)) hil (fun j v hj=>by
    have hj':=(List.getElem?_eq_some_iff.1 hj).1
    rw[hil] at hj'
    rw[gV hj'] at hj
    rw[Addr.add_lit,cell_of_row w.drew b _ cur 53 (0,0) hb];exact hj)
  have hGn:n+1<=grownCap w (n+1) n 53:=grownCap_ge w _ _ _
  have hG63:=grownCap_le_maxLen w (n+1) n 53 hn
  have hrz:(Builtin.append_ #[26,3] 26 #[.slice (some ⟨b,off,none⟩) i n,.int .i64 ((n:Int)+1-(i:Int))]).run Try.prog w =
    .ok (.slice (some ⟨w.heap.size,0,none⟩) (n+1) (grownCap w (n+1) n 53)) (w.drew.alloc (.cells (fb cur off n i 3 (grownCap w (n+1) n 53) jo.cells) 53)):=by
   have h:=Lib.run_append_grow_zeros w 26 3 26 53 i0 _ .i64 .i64 Try.underlying26 Try.underlying3 hi0 hz0 (some ⟨b,off,none⟩) i n (bp cur off (i*3)) hold (n+1-i) (by omega) (by omega) (by omega) (by unfold maxLen at hn;omega) (by rw[hzb];omega)
    (by rw[show i+(n+1-i)=n+1 from by omega];exact growslice_fits (by omega) (by rw[hzb];exact hby))
   rw[show i+(n+1-i)=n+1 from by omega] at h
   rw[show (n:Int)+1-(i:Int)=((n+1-i:Nat):Int) from by omega]
   exact h
  generalize hG:grownCap w (n+1) n 53=G at *
  have hrs:(fb cur off n i 3 G jo.cells).size=G*3:=by
   unfold fb
   simp only[Array.size_append,List.size_toArray,hil,size_zeroCells]
   have:jo.cells.size=3:=rfl
   rw[this,← Nat.add_mul,← Nat.add_mul];congr 1;omega
  generalize hROW:fb cur off n i 3 G jo.cells=ROW at *
  have hgN:(w.drew.alloc (.cells ROW 53)).heap[w.heap.size]? = some (.cells ROW 53 (0,0)):=heap_alloc_new w.drew _
  have hG6:(n+1)*3<=G*3:=Nat.mul_le_mul_right _ hGn
  have e1:(i+1)*3=i*3+3:=by omega
  have hr1:(bR ROW (i*3) vs).size=G*3:=by rw[iO (by rw[hrs,hvl];omega),hrs]
  have hcp1:(Builtin.copy_ #[26,26] 3 #[.slice (some ⟨w.heap.size,i*3,none⟩) (n+1-i) (G-i),.slice (some ⟨vb,voff,none⟩) 1 vc]).run Try.prog (w.alloc (.cells ROW 53)).drew =
    .ok (goInt 1) ((w.alloc (.cells ROW 53)).drew.setRow w.heap.size (bR ROW (i*3) vs)):=by
   have h:=jg (P:=Try.prog) (w.drew.alloc (.cells ROW 53)) 26 26 3 53 3 w.heap.size (i*3) (n+1-i) (G-i) ⟨vb,voff,none⟩ 1 vc _ 53 vs Try.underlying26 hsz hgN
    (by rw[hvl];simp only[Nat.min_def];split <;> omega)
    (fun j v hj=>by
     rw[Addr.add_lit,World.cell?_alloc_past (w:=w.drew) _ vb _ hvw]
     exact hvs j v hj)
    (by rw[hrs,hvl];omega) h1v
   have hm:Nat.min 1 (n+1-i)=1:=by simp only[Nat.min_def];split <;> omega
   rw[hm] at h
   exact h
  have hcp2:(Builtin.copy_ #[26,26] 3 #[.slice (some ⟨w.heap.size,(i+1)*3,none⟩) (n-i) (G-(i+1)),.slice (some ⟨b,off+i*3,none⟩) (n-i) (n-i)]).run Try.prog ((w.alloc (.cells ROW 53)).drew.setRow w.heap.size (bR ROW (i*3) vs)).drew =
    .ok (goInt ((n-i:Nat):Int)) ((w.alloc (.cells ROW 53)).drew.drew.setRow w.heap.size (bR (bR ROW (i*3) vs) ((i+1)*3) (bp cur (off+i*3) ((n-i)*3)))):=by
   have h:=jg (P:=Try.prog) ((w.alloc (.cells ROW 53)).drew.setRow w.heap.size (bR ROW (i*3) vs)).drew 26 26 3 53 3 w.heap.size ((i+1)*3) (n-i) (G-(i+1)) ⟨b,off+i*3,none⟩ (n-i) (n-i) _ 53 (bp cur (off+i*3) ((n-i)*3)) Try.underlying26 hsz
    (setRow_heap _ w.heap.size _ _ 53 (0,0) hgN)
    (by rw[hcl];simp only[Nat.min_def];split <;> omega)
    (fun j v hj=>by
     have hj':=(List.getElem?_eq_some_iff.1 hj).1
     rw[hcl] at hj'
     rw[gV hj'] at hj
     show World.cell? ((w.drew.alloc (.cells ROW 53)).setRow w.heap.size (bR ROW (i*3) vs)) _=_
     rw[Addr.add_lit,cell_setRow_other _ _ _ _ (by show b≠w.heap.size;omega),World.cell?_alloc_past (w:=w.drew) _ b _ hbw,cell_of_row w.drew b _ cur 53 (0,0) hb];exact hj)
    (by rw[hr1,hcl];omega) (fun v hv=>h1c v (by
     unfold bp at hv ⊢
     rw[← List.drop_drop] at hv
     have e2:List.take ((n-i)*3) (List.drop (i*3) (List.drop off cur.toList))=List.drop (i*3) (List.take (n*3) (List.drop off cur.toList)):=by
      rw[List.drop_take];congr 1;omega
     rw[e2] at hv
     exact List.mem_of_mem_drop hv))
   have hm:Nat.min (n-i) (n-i)=n-i:=by simp only[Nat.min_def];split <;> omega
   rw[hm] at h
   have hs2:∀(W:World)(g:Nat)(a b:Array Value),(W.setRow g a).drew.setRow g b=W.drew.setRow g b:=fun W g a b=>setRow_setRow W.drew g a b
   rw[hs2] at h
   exact h
  have hz2:¬ ((i:Int)=(n:Int)):=by omega
  have hw1:IntKind.i64.wrap ((i:Int)+1)=(i:Int)+1:=by rw[IntKind.wrap_i64];unfold maxLen at hn;omega
  have hw2:IntKind.i64.wrap ((n:Int)+1)=(n:Int)+1:=by rw[IntKind.wrap_i64];unfold maxLen at hn;omega
  have hz3:(n:Int)<(n:Int)+1:=by omega
  have hGi:¬ (G=i):=by omega
  have hGim:¬ (G=i+1):=by omega
  have hci:¬ (n=i):=by omega
  have hb1:(0:Int)<=(i:Int)+1:=by omega
  have hin:i<=n:=by omega
  have htn:((i:Int)+1).toNat=i+1:=by omega
  have hb3:(i:Int)<=(n:Int):=by omega
  have hiG:i<=n+1:=by omega
  unfold maxLen at hn hG63
  clear e1 hr1 hG6 hil hcl hni hrs hgN hold hGn
  go_enter Try.func81,Try.ntmps81
  go_wp2_with (at_builtin;refine Lib.wpList_append_run _ rfl _ _ _ _ rfl _ _ rfl rfl _ _ hrz ?_)
  go_region
  go_wp2
  all_goals (go_ret;exact⟨rfl,(w.alloc (.cells ROW 53)).drew.drew,((aS.alloc w.drew _ _).trans (aS.drew _ _)),by simp,heap_alloc_new w.drew _,by unfold fY;rw[hROW]⟩)
end
def zT:Go.SX.Spec:=kY a9 53 40
theorem yu:aC Try.prog GL 81 zT:=by
 show aC Try.prog GL 81 (kY a9 53 40)
 exact vg (u:=a9) (zv:=jo) EJ Try.underlying26 (by kernel_rfl) rfl (by decide) rfl
def jS:Value := .agg #[.int .i64 0,.slice none 0 0]
section
variable {w:World}
theorem yZ:qO Try.prog 91 25 51 2 32 jS.cells 25:=by
 refine⟨?_,?_,?_⟩
 ·intro w w' p q n c vc v hn hc hr
  have hz:(Go.sizeOf 51).run Try.prog w = .ok 2 w:=cw (by kernel_rfl) w
  unfold maxLen at hc
  cases p <;> go_enter Try.func91,Try.ntmps91 <;>
  go_wp2_with (at_builtin;refine Lib.wpList_append_run _ rfl _ _ _ _ rfl _ _ rfl rfl _ _ hr ?_)
  all_goals (go_ret;exact⟨rfl,rfl⟩)
 ·intro w b off n c i vb voff vc cur vcur E' vs hi hn hc hvb hb hf hv hvl hvs h1v h1c
  have hz:∀ w,(Go.sizeOf 51).run Try.prog w = .ok 2 w:=fun w=>cw (by kernel_rfl) w
  have mixed:Try.prog.follows .mixedOrders=true:=ay
  unfold maxLen at hc
  have hsa:w.shape? vb=some (E',vcur.size):=by unfold World.shape?;rw[hv]
  have hsb:w.shape? b=some (51,cur.size):=by unfold World.shape?;rw[hb]
  have hfa:w.frozen? ⟨vb,voff,none⟩=false:=by simp[World.frozen?,hv]
  have hfe:w.frozen? ⟨vb,vcur.size,none⟩=false:=by simp[World.frozen?,hv]
  have hov:∀ lb cb o,(callFunc 98 #[.slice (some ⟨vb,voff,none⟩) 1 vc,.slice (some ⟨b,o,none⟩) lb cb]).run Try.prog w = .ok (.value (.bool false)) w:=fun lb cb o=>by
   rw[run_callFunc_extern Try.func98 (by kernel_rfl) (by kernel_rfl) (by kernel_rfl) (e:=Extern.SlicesOverlaps.overlaps #[25,25] #[4]) (by kernel_rfl),
    Lib.run_overlaps_apart w 25 4 51 Try.underlying25 2 hz ⟨vb,voff,none⟩ ⟨b,o,none⟩ 1 vc lb cb hvb E' 51 vcur.size cur.size hsa hsb (by omega) hfa hfe]
   rfl
  have hw1:IntKind.i64.wrap ((i:Int)+1)=(i:Int)+1:=by rw[IntKind.wrap_i64];omega
  have hw2:IntKind.i64.wrap ((n:Int)+1)=(n:Int)+1:=by rw[IntKind.wrap_i64];omega
  have hz2:¬ ((i:Int)=(n:Int)):=by omega
  have htn:((i:Int)+1).toNat=i+1:=by omega
  have htm:((n:Int)+1).toNat=n+1:=by omega
  have hb1:(0:Int)<=(i:Int)+1:=by omega
  have hb2:¬ (c=i+1):=by omega
  have hb3:(i:Int)<=(n:Int)+1:=by omega
  have hb4:¬ (c=i):=by omega
  have hin:i<=n:=by omega
  have e1:(i+1)*2=i*2+2:=by omega
  have hcl:(bp cur (off+i*2) ((n-i)*2)).length=(n-i)*2:=g8 (by omega)
  have hsz:(Try.prog.info? 51).map (·.size)=some 2:=by kernel_rfl
  have hcp1:(Builtin.copy_ #[25,25] 3 #[.slice (some ⟨b,off+(i+1)*2,none⟩) (n-i) (c-(i+1)),.slice (some ⟨b,off+i*2,none⟩) (n+1-i) (c-i)]).run Try.prog w.drew =
    .ok (goInt ((n-i:Nat):Int)) (w.drew.setRow b (bR cur (off+(i+1)*2) (bp cur (off+i*2) ((n-i)*2)))):=by
   have h:=jg (P:=Try.prog) w.drew 25 25 3 51 2 b (off+(i+1)*2) (n-i) (c-(i+1)) ⟨b,off+i*2,none⟩ (n+1-i) (c-i) cur 51 (bp cur (off+i*2) ((n-i)*2)) Try.underlying25 hsz hb
    (by rw[hcl];simp only[Nat.min_def];split <;> omega)
    (fun j v hj=>by
     have hj':=(List.getElem?_eq_some_iff.1 hj).1
     rw[hcl] at hj'
     rw[gV hj'] at hj
     rw[Addr.add_lit,cell_of_row w.drew b _ cur 51 (0,0) hb];exact hj)
    (by rw[hcl];omega) h1c
   have hm:Nat.min (n+1-i) (n-i)=n-i:=by simp only[Nat.min_def];split <;> omega
   rw[hm] at h
   exact h
  have hr1:(bR cur (off+(i+1)*2) (bp cur (off+i*2) ((n-i)*2))).size=cur.size:=iO (by rw[hcl];omega)
  have hcp2:(Builtin.copy_ #[25,25] 3 #[.slice (some ⟨b,off+i*2,none⟩) (n+1-i) (c-i),.slice (some ⟨vb,voff,none⟩) 1 vc]).run Try.prog (w.drew.setRow b (bR cur (off+(i+1)*2) (bp cur (off+i*2) ((n-i)*2)))) =
    .ok (goInt 1) (w.drew.setRow b (gA cur off n i 2 vs)):=by
   have h:=jg (P:=Try.prog) (w.drew.setRow b (bR cur (off+(i+1)*2) (bp cur (off+i*2) ((n-i)*2)))) 25 25 3 51 2 b (off+i*2) (n+1-i) (c-i) ⟨vb,voff,none⟩ 1 vc _ 51 vs Try.underlying25 hsz
    (setRow_heap w.drew b cur _ 51 (0,0) hb)
    (by rw[hvl];simp only[Nat.min_def];split <;> omega)
    (fun j v hj=>by
     rw[Addr.add_lit,cell_setRow_other _ _ _ _ hvb]
     exact hvs j v hj)
    (by rw[hr1,hvl];omega) h1v
   have hm:Nat.min 1 (n+1-i)=1:=by simp only[Nat.min_def];split <;> omega
   rw[hm,setRow_setRow] at h
   exact h
  clear e1 hcl hr1
  go_enter Try.func91,Try.ntmps91
  go_wp2_with (simp only[hov])
  go_region
  go_wp2
  all_goals (go_ret;exact⟨rfl,rfl⟩)
 ·intro w b off n i vb voff vc cur vcur E' vs hi hn hby hb hf hv hvl hvs h1v h1c
  have hz:∀ w,(Go.sizeOf 51).run Try.prog w = .ok 2 w:=fun w=>cw (by kernel_rfl) w
  have mixed:Try.prog.follows .mixedOrders=true:=ay
  have hx:(Try.prog.info? 51).map (fun i=>(i.zero,i.size,i.bytes))=some (some jS,2,32):=by kernel_rfl
  obtain⟨i0,hi0⟩:∃ i0,Try.prog.info? 51=some i0:=by
   cases hh:Try.prog.info? 51 with
   | none=>rw[hh] at hx;cases hx
   | some i0=>exact⟨i0,rfl⟩
  rw[hi0] at hx
  simp only[Option.map_some,Option.some.injEq,Prod.mk.injEq] at hx
  obtain⟨hz0,hzs,hzb⟩:=hx
  have hsz:(Try.prog.info? 51).map (·.size)=some 2:=by kernel_rfl
  have hbw:b<w.heap.size:=(Array.getElem?_eq_some_iff.1 hb).1
  have hvw:vb<w.heap.size:=(Array.getElem?_eq_some_iff.1 hv).1
  have hni:i*2+(n-i)*2=n*2:=by rw[← Nat.add_mul];congr 1;omega
  have hil:(bp cur off (i*2)).length=i*2:=g8 (by omega)
  have hcl:(bp cur (off+i*2) ((n-i)*2)).length=(n-i)*2:=g8 (by omega)
  have hold:(Builtin.firstCells i0.size i (.slice (some ⟨b,off,none⟩) i n)).run Try.prog w.drew = .ok (bp cur off (i*2)).toArray w.drew:=by
   rw[hzs]
   exact run_firstCells_some w.drew 2 i ⟨b,off,none⟩ i n (bp cur off (i*2)) hil (fun j v hj=>by
    have hj':=(List.getElem?_eq_some_iff.1 hj).1
    rw[hil] at hj'
    rw[gV hj'] at hj
    rw[Addr.add_lit,cell_of_row w.drew b _ cur 51 (0,0) hb];exact hj)
  have hGn:n+1<=grownCap w (n+1) n 51:=grownCap_ge w _ _ _
  have hG63:=grownCap_le_maxLen w (n+1) n 51 hn
  have hrz:(Builtin.append_ #[25,3] 25 #[.slice (some ⟨b,off,none⟩) i n,.int .i64 ((n:Int)+1-(i:Int))]).run Try.prog w =
    .ok (.slice (some ⟨w.heap.size,0,none⟩) (n+1) (grownCap w (n+1) n 51)) (w.drew.alloc (.cells (fb cur off n i 2 (grownCap w (n+1) n 51) jS.cells) 51)):=by
   have h:=Lib.run_append_grow_zeros w 25 3 25 51 i0 _ .i64 .i64 Try.underlying25 Try.underlying3 hi0 hz0 (some ⟨b,off,none⟩) i n (bp cur off (i*2)) hold (n+1-i) (by omega) (by omega) (by omega) (by unfold maxLen at hn;omega) (by rw[hzb];omega)
    (by rw[show i+(n+1-i)=n+1 from by omega];exact growslice_fits (by omega) (by rw[hzb];exact hby))
   rw[show i+(n+1-i)=n+1 from by omega] at h
   rw[show (n:Int)+1-(i:Int)=((n+1-i:Nat):Int) from by omega]
   exact h
  generalize hG:grownCap w (n+1) n 51=G at *
  have hrs:(fb cur off n i 2 G jS.cells).size=G*2:=by
   unfold fb
   simp only[Array.size_append,List.size_toArray,hil,size_zeroCells]
   have:jS.cells.size=2:=rfl
   rw[this,← Nat.add_mul,← Nat.add_mul];congr 1;omega
  generalize hROW:fb cur off n i 2 G jS.cells=ROW at *
  have hgN:(w.drew.alloc (.cells ROW 51)).heap[w.heap.size]? = some (.cells ROW 51 (0,0)):=heap_alloc_new w.drew _
  have hG6:(n+1)*2<=G*2:=Nat.mul_le_mul_right _ hGn
  have e1:(i+1)*2=i*2+2:=by omega
  have hr1:(bR ROW (i*2) vs).size=G*2:=by rw[iO (by rw[hrs,hvl];omega),hrs]
  have hcp1:(Builtin.copy_ #[25,25] 3 #[.slice (some ⟨w.heap.size,i*2,none⟩) (n+1-i) (G-i),.slice (some ⟨vb,voff,none⟩) 1 vc]).run Try.prog (w.alloc (.cells ROW 51)).drew =
    .ok (goInt 1) ((w.alloc (.cells ROW 51)).drew.setRow w.heap.size (bR ROW (i*2) vs)):=by
   have h:=jg (P:=Try.prog) (w.drew.alloc (.cells ROW 51)) 25 25 3 51 2 w.heap.size (i*2) (n+1-i) (G-i) ⟨vb,voff,none⟩ 1 vc _ 51 vs Try.underlying25 hsz hgN
    (by rw[hvl];simp only[Nat.min_def];split <;> omega)
    (fun j v hj=>by
     rw[Addr.add_lit,World.cell?_alloc_past (w:=w.drew) _ vb _ hvw]
     exact hvs j v hj)
    (by rw[hrs,hvl];omega) h1v
   have hm:Nat.min 1 (n+1-i)=1:=by simp only[Nat.min_def];split <;> omega
   rw[hm] at h
   exact h
  have hcp2:(Builtin.copy_ #[25,25] 3 #[.slice (some ⟨w.heap.size,(i+1)*2,none⟩) (n-i) (G-(i+1)),.slice (some ⟨b,off+i*2,none⟩) (n-i) (n-i)]).run Try.prog ((w.alloc (.cells ROW 51)).drew.setRow w.heap.size (bR ROW (i*2) vs)).drew =
    .ok (goInt ((n-i:Nat):Int)) ((w.alloc (.cells ROW 51)).drew.drew.setRow w.heap.size (bR (bR ROW (i*2) vs) ((i+1)*2) (bp cur (off+i*2) ((n-i)*2)))):=by
   have h:=jg (P:=Try.prog) ((w.alloc (.cells ROW 51)).drew.setRow w.heap.size (bR ROW (i*2) vs)).drew 25 25 3 51 2 w.heap.size ((i+1)*2) (n-i) (G-(i+1)) ⟨b,off+i*2,none⟩ (n-i) (n-i) _ 51 (bp cur (off+i*2) ((n-i)*2)) Try.underlying25 hsz
    (setRow_heap _ w.heap.size _ _ 51 (0,0) hgN)
    (by rw[hcl];simp only[Nat.min_def];split <;> omega)
    (fun j v hj=>by
     have hj':=(List.getElem?_eq_some_iff.1 hj).1
     rw[hcl] at hj'
     rw[gV hj'] at hj
     show World.cell? ((w.drew.alloc (.cells ROW 51)).setRow w.heap.size (bR ROW (i*2) vs)) _=_
     rw[Addr.add_lit,cell_setRow_other _ _ _ _ (by show b≠w.heap.size;omega),World.cell?_alloc_past (w:=w.drew) _ b _ hbw,cell_of_row w.drew b _ cur 51 (0,0) hb];exact hj)
    (by rw[hr1,hcl];omega) (fun v hv=>h1c v (by
     unfold bp at hv ⊢
     rw[← List.drop_drop] at hv
     have e2:List.take ((n-i)*2) (List.drop (i*2) (List.drop off cur.toList))=List.drop (i*2) (List.take (n*2) (List.drop off cur.toList)):=by
      rw[List.drop_take];congr 1;omega
     rw[e2] at hv
     exact List.mem_of_mem_drop hv))
   have hm:Nat.min (n-i) (n-i)=n-i:=by simp only[Nat.min_def];split <;> omega
   rw[hm] at h
   have hs2:∀(W:World)(g:Nat)(a b:Array Value),(W.setRow g a).drew.setRow g b=W.drew.setRow g b:=fun W g a b=>setRow_setRow W.drew g a b
   rw[hs2] at h
   exact h
  have hz2:¬ ((i:Int)=(n:Int)):=by omega
  have hw1:IntKind.i64.wrap ((i:Int)+1)=(i:Int)+1:=by rw[IntKind.wrap_i64];unfold maxLen at hn;omega
  have hw2:IntKind.i64.wrap ((n:Int)+1)=(n:Int)+1:=by rw[IntKind.wrap_i64];unfold maxLen at hn;omega
  have hz3:(n:Int)<(n:Int)+1:=by omega
  have hGi:¬ (G=i):=by omega
  have hGim:¬ (G=i+1):=by omega
  have hci:¬ (n=i):=by omega
  have hb1:(0:Int)<=(i:Int)+1:=by omega
  have hin:i<=n:=by omega
  have htn:((i:Int)+1).toNat=i+1:=by omega
  have hb3:(i:Int)<=(n:Int):=by omega
  have hiG:i<=n+1:=by omega
  unfold maxLen at hn hG63
  clear e1 hr1 hG6 hil hcl hni hrs hgN hold hGn
  go_enter Try.func91,Try.ntmps91
  go_wp2_with (at_builtin;refine Lib.wpList_append_run _ rfl _ _ _ _ rfl _ _ rfl rfl _ _ hrz ?_)
  go_region
  go_wp2
  all_goals (go_ret;exact⟨rfl,(w.alloc (.cells ROW 51)).drew.drew,((aS.alloc w.drew _ _).trans (aS.drew _ _)),by simp,heap_alloc_new w.drew _,by unfold fY;rw[hROW]⟩)
end
def xP:Go.SX.Spec:=kY dY 51 32
theorem zI:aC Try.prog GL 91 xP:=by
 show aC Try.prog GL 91 (kY dY 51 32)
 exact vg (u:=dY) (zv:=jS) yZ Try.underlying25 (by kernel_rfl) rfl (by decide) rfl
end Go.RS

/- Addr: prefixes, and functions of Go's library over numbers. -/
namespace Go.RS
open Go.SX Go.Proofs
set_option maxRecDepth 100000
set_option linter.unusedVariables false
def bm(a b:Int):Int:=if a<b then -1 else if b<a then 1 else 0
abbrev fV:Type:=Int×Int
def lh(p q:fV):Int:=if bm p.1 q.1≠0 then bm p.1 q.1 else bm p.2 q.2
def ep:List Int->Int
 | []=>0
 | x::xs=>if x≠0 then x else ep xs
theorem xX{l:List Int}{j:Int}(h0:0<=j)(h1:j<l.length):l.drop j.toNat=l.getD j.toNat default::l.drop (j+1).toNat:=by
 have hj:j.toNat<l.length:=by omega
 rw[List.drop_eq_getElem_cons hj,List.getD_eq_getElem?_getD,List.getElem?_eq_getElem hj,Option.getD_some]
 congr 2;omega
theorem D5{α:Type} [Inhabited α] {l:List α} {j:Int} (h0:0<=j) (h1:j<l.length) {y:α} (hy:y∈l.take (j+1).toNat):y∈l.take j.toNat∨y=l.getD j.toNat default:=by
 have hj:j.toNat<l.length:=by omega
 have e:(j+1).toNat=j.toNat+1:=by omega
 rw[e,List.take_succ_eq_append_getElem hj] at hy
 rcases List.mem_append.1 hy with hy|hy
 ·exact .inl hy
 ·right
  simp at hy
  rw[List.getD_eq_getElem?_getD,List.getElem?_eq_getElem hj,Option.getD_some];exact hy
theorem De{l:List Int}{v j:Int}(h0:0<=j)(h1:j<l.length)(hv:l.getD j.toNat default=v)(h2:∀ y∈l.take j.toNat,y≠v):l.idxOf v=j.toNat:=by
 have hj:j.toNat<l.length:=by omega
 rw[List.getD_eq_getElem?_getD,List.getElem?_eq_getElem hj,Option.getD_some] at hv
 have e:l=l.take j.toNat++l[j.toNat]::l.drop (j.toNat+1):=by
  rw[← List.drop_eq_getElem_cons hj,List.take_append_drop]
 rw[e,List.idxOf_append,if_neg (fun hm=>h2 v hm rfl),hv,List.idxOf_cons_self]
 simp;omega
def rW:Ct:=⟨[.val cI],[.val .bool],fun _=>[],fun _=>((false,()),())⟩
def zP:az rW.ps->aI:=(fun _=>{})
theorem Dr :
 ∀(a:Int),ak a/\True->True->(! decide (a=a))=false:=by
  rintro x - -
  simp
theorem BY:aC Try.prog GL 97 rW.spec:=Ct.okH _ Try.func97 (by kernel_rfl) aP ay zP (aO (by kernel_rfl) Dr)
def wZ:Ct:=⟨[.val cI,.val cI],[.val cI],fun _=>[],fun d=>((bm d.1 d.2.1,()),())⟩
def B4:az wZ.ps->aI:=(fun _=>{})
theorem zp :
 ∀(a b:Int),ak a/\ak b/\True->True->ah (decide (a<b)) ((-1:Int)=bm a b) (ah (decide (b<a)) ((1:Int)=bm a b) ((0:Int)=bm a b)):=by
  rintro x y - -
  unfold bm
  refine ar (fun h=>?_) (fun h=>ar (fun h2=>?_) (fun h2=>?_))
  ·rw[if_pos (of_decide_eq_true h)]
  ·rw[if_neg (of_decide_eq_false h),if_pos (of_decide_eq_true h2)]
  ·rw[if_neg (of_decide_eq_false h),if_neg (of_decide_eq_false h2)]
theorem wi:aC Try.prog GL 90 wZ.spec:=Ct.okH _ Try.func90 (by kernel_rfl) (av aP BY) ay B4 (aO (by kernel_rfl) zp)
def xp:Ct:=⟨[.val (.sl cI)],[.val cI],fun _=>[],fun d=>((ep d.1,()),())⟩
def AY:az xp.ps->aI:=(fun d=>{loops:=(fun n=>match n with|3=>some (fun S=>{ι:=Int,μ:=fun i=>(d.1.length-i).toNat,inv:=fun i=>0<=i/\i<=d.1.length/\ep d.1=ep (d.1.drop i.toNat),keep:=[3,6,7],slots:=fun i=>[(8,.int .i64 i)],names:=fun i=>[]})|_=>none)})
def cM(a:List Int) :=
 (a.length:Int)
theorem Cw :
 ∀(a:List Int),(a.length<=maxLen/\ ∀(b:Int),b∈a->ak b)/\True->True->(∃(b:Int),(0<=b/\b<=(cM a)/\ep a=ep (List.drop b.toNat a))/\(0:Int)=0/\a=a/\(cM a)=(cM a)/\(0:Int)=b/\True)/\ ∀(b:Int),0<=b/\b<=(cM a)/\ep a=ep (List.drop b.toNat a)->ah (decide (b<(cM a))) (0<=b/\b<(cM a)/\ah (! decide (a.getD b.toNat default=0)) (a.getD b.toNat default=ep a) (∃(c:Int),(0<=c/\c<=(cM a)/\ep a=ep (List.drop c.toNat a))/\Int.toNat ((cM a) -c)<Int.toNat ((cM a) -b)/\(0:Int)=0/\a=a/\(cM a)=(cM a)/\IntKind.wrap .i64 (b+(1:Int))=c/\True)) ((0:Int)=ep a):=by
  delta cM
  rintro x ⟨⟨hl,-⟩,-⟩ -
  simp only[maxLen] at hl
  refine⟨⟨0,⟨by omega,by omega,rfl⟩,(by repeat' first|exact trivial|refine⟨trivial,?_⟩|refine⟨(by with_reducible rfl),?_⟩|refine⟨ad (by omega) (by omega),?_⟩|refine⟨rfl,?_⟩)⟩,?_⟩
  rintro j ⟨h0,h1,h2⟩
  refine ar (fun hj=>?_) (fun hj=>?_)
  ·have hj:=of_decide_eq_true hj
   have e:=xX (l:=x) h0 hj
   rw[e] at h2
   refine⟨h0,hj,ar (fun hz=>?_) (fun hz=>?_)⟩
   ·have hz:x.getD j.toNat default≠0:=by simpa only[Bool.not_eq_true',decide_eq_false_iff_not] using hz
    rw[h2,ep,if_pos hz]
   ·have hz:¬ x.getD j.toNat default≠0:=by simpa only[Bool.not_eq_false',decide_eq_true_eq,ne_eq,Decidable.not_not] using hz
    rw[ep,if_neg hz] at h2
    exact⟨j+1,⟨by omega,by omega,h2⟩,by omega,(by repeat' first|exact trivial|refine⟨trivial,?_⟩|refine⟨(by with_reducible rfl),?_⟩|refine⟨ad (by omega) (by omega),?_⟩|refine⟨rfl,?_⟩)⟩
  ·have hj:=of_decide_eq_false hj
   rw[h2,List.drop_eq_nil_of_le (by omega)];rfl
theorem BI:aC Try.prog GL 93 xp.spec:=Ct.okH _ Try.func93 (by kernel_rfl) aP ay AY (aO (by kernel_rfl) Cw)
def sz(n:Int):Int:=2^(32-n).toNat
def tH(p:fV):Bool:=decide (0<=p.2/\p.2<=32/\p.1%sz p.2=0)
def contains(p:fV)(a:Int):Bool:=tH p&&decide (p.1<=a/\a<p.1+sz p.2)
def sJ:Ct:=⟨[.val (.sl cI),.val cI],[.val cI],fun _=>[],fun d=>((if d.2.1∈d.1 then (d.1.idxOf d.2.1:Int) else -1,()),())⟩
def Ec:az sJ.ps->aI:=(fun d=>{loops:=(fun n=>match n with|2=>some (fun S=>{ι:=Int,μ:=fun i=>(d.1.length-i).toNat,inv:=fun i=>0<=i/\i<=d.1.length∧∀ y∈d.1.take i.toNat,y≠d.2.1,keep:=[0,1,6,7],slots:=fun i=>[(8,.int .i64 i)],names:=fun i=>[]})|_=>none)})
theorem DH :
 ∀(a:List Int)(b:Int),(a.length<=maxLen/\ ∀(c:Int),c∈a->ak c)/\ak b/\True->True->(∃(c:Int),(0<=c/\c<=(cM a)/\ ∀(d:Int),d∈List.take c.toNat a->d≠b)/\a=a/\b=b/\a=a/\(cM a)=(cM a)/\(0:Int)=c/\True)/\ ∀(c:Int),(0<=c/\c<=(cM a)/\ ∀(d:Int),d∈List.take c.toNat a->d≠b)->ah (decide (c<(cM a))) (0<=c/\c<(cM a)/\ah (decide (b=a.getD c.toNat default)) (c=if b∈a then (↑(List.idxOf b a):Int) else (-1:Int)) (∃(d:Int),(0<=d/\d<=(cM a)/\ ∀(e:Int),e∈List.take d.toNat a->e≠b)/\Int.toNat ((cM a) -d)<Int.toNat ((cM a) -c)/\a=a/\b=b/\a=a/\(cM a)=(cM a)/\IntKind.wrap .i64 (c+(1:Int))=d/\True)) ((-1:Int)=if b∈a then (↑(List.idxOf b a):Int) else (-1:Int)):=by
  delta cM
  rintro x v ⟨⟨hl,-⟩,-⟩ -
  simp only[maxLen] at hl
  refine⟨⟨0,⟨by omega,by omega,by simp⟩,(by repeat' first|exact trivial|refine⟨trivial,?_⟩|refine⟨(by with_reducible rfl),?_⟩|refine⟨ad (by omega) (by omega),?_⟩|refine⟨rfl,?_⟩)⟩,?_⟩
  rintro j ⟨h0,h1,h2⟩
  refine ar (fun hj=>?_) (fun hj=>?_)
  ·have hj:=of_decide_eq_true hj
   refine⟨h0,hj,ar (fun hz=>?_) (fun hz=>?_)⟩
   ·have hz:=of_decide_eq_true hz
    have hm:v∈x:=by rw[hz];exact cE h0 hj
    rw[if_pos hm]
    have:=De (l:=x) (v:=v) h0 hj hz.symm h2
    omega
   ·have hz:=of_decide_eq_false hz
    refine⟨j+1,⟨by omega,by omega,fun y hy=>?_⟩,by omega,(by repeat' first|exact trivial|refine⟨trivial,?_⟩|refine⟨(by with_reducible rfl),?_⟩|refine⟨ad (by omega) (by omega),?_⟩|refine⟨rfl,?_⟩)⟩
    rcases D5 h0 hj hy with hy|rfl
    ·exact h2 y hy
    ·exact fun e=>hz e.symm
  ·have hj:=of_decide_eq_false hj
   rw[List.take_of_length_le (by omega)] at h2
   rw[if_neg (fun hm=>h2 v hm rfl)]
theorem yT:aC Try.prog GL 78 sJ.spec:=Ct.okH _ Try.func78 (by kernel_rfl) aP ay Ec (aO (by kernel_rfl) DH)
def uw:Ct:=⟨[.val (.sl cI),.val cI],[.val .bool],fun _=>[],fun d=>((decide (d.2.1∈d.1),()),())⟩
def AM:az uw.ps->aI:=(fun _=>{})
theorem zy :
 ∀(a:List Int)(b:Int),(a.length<=maxLen/\ ∀(c:Int),c∈a->ak c)/\ak b/\True->True->decide (0<=if b∈a then (↑(List.idxOf b a):Int) else (-1:Int))=decide (b∈a):=by
  rintro x v - -
  by_cases h:v∈x
  ·rw[if_pos h];simp[h];
  ·rw[if_neg h];simp[h]
theorem BP:aC Try.prog GL 56 uw.spec:=Ct.okH _ Try.func56 (by kernel_rfl) (av aP yT) ay AM (aO (by kernel_rfl) zy)
end Go.RS

/- Fib: forwarding tables. -/
namespace Go.RS
open Go.SX Go.Proofs
set_option maxRecDepth 100000
set_option linter.unusedVariables false
abbrev Rt:Type:=fV×List Int×Int
def fq(p q:fV):Prop:=p.1<q.1∨p.1=q.1/\p.2<q.2
instance (p q:fV):Decidable (fq p q):=by unfold fq;infer_instance
theorem tL{a b:Int}(h:a<b):bm a b = -1:=by unfold bm;rw[if_pos h]
theorem uM{a b:Int}(h:b<a):bm a b=1:=by unfold bm;rw[if_neg (by omega),if_pos h]
theorem pf(a:Int):bm a a=0:=by unfold bm;simp
theorem xt(p q:fV):(fq p q/\lh p q = -1)∨(p=q/\lh p q=0)∨(fq q p/\lh p q=1):=by
 obtain⟨a,b⟩:=p;obtain⟨c,e⟩:=q
 unfold lh fq
 rcases Int.lt_trichotomy a c with h|rfl|h
 ·left;simp[tL h,h]
 ·rcases Int.lt_trichotomy b e with h|rfl|h
  ·left;simp[pf,tL h,h]
  ·right;left;simp[pf]
  ·right;right;simp[pf,uM h,h]
 ·right;right;simp[uM h,h]
theorem Bv{p q r:fV}(h:fq p q)(k:fq q r):fq p r:=by unfold fq at *;omega
theorem zV{p q:fV}(h:¬ fq p q):p=q∨fq q p:=by rcases xt p q with⟨k,-⟩|⟨k,-⟩|⟨k,-⟩ <;> simp_all
def uL(l:List Rt):Prop:=l.Pairwise fun a b=>fq a.1 b.1
theorem sm{i j:Int}(h0:0<=i)(h1:i<=j)(h2:j<=9223372036854775807):IntKind.wrap IntKind.i64 (dN IntKind.u64 (IntKind.wrap IntKind.u64 (IntKind.wrap IntKind.i64 (i+j))) (1:Int))=(i+j)/2:=by
 have hw:IntKind.wrap IntKind.u64 (IntKind.wrap IntKind.i64 (i+j))=i+j:=by
  rw[IntKind.wrap_i64,IntKind.wrap_u64];omega
 rw[hw]
 have:dN IntKind.u64 (i+j) 1=(i+j)/2:=by
  unfold dN
  rw[Int.fdiv_eq_ediv_of_nonneg _ (by decide)]
  rfl
 rw[this,ad (by omega) (by omega)]
theorem ut{α:Type}{l:List (List α)}{j:Int}(h0:0<=j)(h1:j<l.length):(l.take (j+1).toNat).flatten=(l.take j.toNat).flatten++l.getD j.toNat default:=by
 have hj:j.toNat<l.length:=by omega
 have e:(j+1).toNat=j.toNat+1:=by omega
 rw[e,List.take_succ_eq_append_getElem hj,List.flatten_append,List.getD_eq_getElem?_getD,List.getElem?_eq_getElem hj,Option.getD_some]
 simp
theorem rt{α:Type}(l:List (List α))(k:Nat):(l.take k).flatten.length<=l.flatten.length:=by
 conv=>rhs;rw[← List.take_append_drop k l,List.flatten_append,List.length_append]
 omega
theorem v3{α:Type} [Inhabited α] {l:List α} {j:Int} (h0:0<=j) (h1:j<l.length):l.set j.toNat (l.getD j.toNat default)=l:=by
 have hj:j.toNat<l.length:=by omega
 rw[List.getD_eq_getElem?_getD,List.getElem?_eq_getElem hj,Option.getD_some,List.set_getElem_self]
def AO(a:Int)(b:Option Rt)(r:Rt):Option Rt:=if contains r.1 a then match b with|none=>some r|some q=>if q.1.2<r.1.2 then some r else some q else b
def D9(l:List Rt)(a:Int):Option Rt:=l.foldl (AO a) none
def aX(l:List Rt)(a:Int):Rt:=match D9 l a with|none=>((0,0),[],0)|some r=>r
theorem Bp{l:List Rt}{i:Int}(h0:0<=i)(h1:i<l.length):l=l.take i.toNat++l.getD i.toNat default::l.drop (i+1).toNat:=by
 have hj:i.toNat<l.length:=by omega
 rw[List.getD_eq_getElem?_getD,List.getElem?_eq_getElem hj,Option.getD_some,show (i+1).toNat=i.toNat+1 from by omega,← List.drop_eq_getElem_cons hj,List.take_append_drop]
def qF(l links:List Int)(j:Nat):Prop:=(0<j->l.getD (j-1) default<l.getD j default)/\l.getD j default∈links
instance (l links:List Int) (j:Nat):Decidable (qF l links j):=by unfold qF;infer_instance
def rk(l links:List Int):Prop:=l.length<=16∧∀ j:Nat,j<l.length->qF l links j
instance (l links:List Int):Decidable (rk l links):=by unfold rk;infer_instance
def pl(r:Rt)(links:List Int):Prop:=rk r.2.1 links/\1<=r.2.2/\r.2.2<=3
instance (r:Rt) (links:List Int):Decidable (pl r links):=by unfold pl;infer_instance
def chk(links:List Int):Option fV->List Rt->Int
 | _,[]=>0
 | q,r::rs=>if tH r.1=false then 10 else if q.any (fun q=>decide (0<=lh q r.1)) then 6 else if ¬ pl r links then 12 else chk links (some r.1) rs
def rb(l:List Rt)(links:List Int):Int:=if (64:Int)<l.length then 5 else chk links none l
theorem later{l:List Rt}{p:fV}{i:Int}(hs:uL l)(h0:0<=i)(h1:i<l.length){z:Rt}(hz:z∈l.take i.toNat)(hp:¬ fq z.1 p):fq p (l.getD i.toNat default).1:=by
 have hsp:=Bp h0 h1
 unfold uL at hs
 rw[hsp] at hs
 have:=(List.pairwise_append.1 hs).2.2 z hz _ List.mem_cons_self
 rcases zV hp with e|h
 ·rw[← e];exact this
 ·exact Bv h this
end Go.RS

/- Xw1: the program's exchange: copies of channels, messages. -/
namespace Go.RS
open Go.SX Go.Proofs
set_option maxRecDepth 100000
set_option linter.unusedVariables false
def tm:Ct:=⟨[.val (.sl dY)],[.own 51 dY],fun d=>[(d.1.length:Int)<=1000000],fun d=>((d.1,()),())⟩
def CD:az tm.ps->aI:=(fun _=>{})
theorem Bi :
 ∀(a:List (Int×List Int)),(a.length<=maxLen/\ ∀(b:Int×List Int),b∈a->ak b.1/\b.2.length<=maxLen/\ ∀(c:Int),c∈b.2->0<=c/\c<=255)/\True->(a.length:Int)<=1000000-> ∀(b:Bool),(b=true->a.length=(0:Nat))->ah b (([]:List (Int×List Int))=a) (((0:Nat)+a.length)*(32:Nat)<=(140737488355328:Nat)/\a=a):=by
  rintro x ⟨⟨hl,-⟩,-⟩ h b hb
  refine ar (fun h1=>?_) (fun h1=>⟨by simp;omega,by simp⟩)
  have:=hb h1
  exact (List.eq_nil_of_length_eq_zero this).symm
theorem Ds:aC Try.prog GL 52 tm.spec:=Ct.okH _ Try.func52 (by kernel_rfl) aP ay CD (aO (by kernel_rfl) Bi)
def u7:Ct:=⟨[.val (.sl a9)],[.own 53 a9],fun d=>[(d.1.length:Int)<=1000000],fun d=>((d.1,()),())⟩
def CP:az u7.ps->aI:=(fun _=>{})
def nV(a:List (Int×Int×List Int)) :=
 a.length<=maxLen/\ ∀(b:Int×Int×List Int),b∈a->ak b.1/\ak b.2.1/\b.2.2.length<=maxLen/\ ∀(c:Int),c∈b.2.2->0<=c/\c<=255
theorem C3 :
 ∀(a:List (Int×Int×List Int)),(nV a)/\True->(a.length:Int)<=1000000-> ∀(b:Bool),(b=true->a.length=(0:Nat))->ah b (([]:List (Int×Int×List Int))=a) (((0:Nat)+a.length)*(40:Nat)<=(140737488355328:Nat)/\a=a):=by
  delta nV
  rintro x ⟨⟨hl,-⟩,-⟩ h b hb
  refine ar (fun h1=>?_) (fun h1=>⟨by simp;omega,by simp⟩)
  have:=hb h1
  exact (List.eq_nil_of_length_eq_zero this).symm
theorem yD:aC Try.prog GL 73 u7.spec:=Ct.okH _ Try.func73 (by kernel_rfl) aP ay CP (aO (by kernel_rfl) C3)
def jD(l:List (List Int)):Prop:=(l.length:Int)<=1000000∧∀ b∈l,(b.length:Int)<=1099511627776
def jH(l:List af):Prop:=(l.length:Int)<=1000000∧∀ t∈l,(t.2.2.length:Int)<=1099511627776
def rZ(l:List aw):Prop:=(l.length:Int)<=1000000∧∀ t∈l,(t.2.length:Int)<=1099511627776
def v4:Ct:=⟨[.val (.sl (.sl aT))],[.own 22 (.sl aT)],fun d=>[jD d.1],fun d=>((d.1,()),())⟩
def xV:az v4.ps->aI:=(fun d=>{loops:=(fun n=>match n with|3=>some (fun S=>{ι:=Int×(List (List Int)),qn:=⟨fun k_=>∀(j:Int)(ys:(List (List Int))),k_ (j,ys),fun k_ h_ i=>h_ i.1 i.2,fun k_=>∃ (j:Int) (ys:(List (List Int))),k_ (j,ys),fun k_ ⟨j,ys,h_⟩=>⟨_,h_⟩⟩,μ:=fun i=>(d.1.length-i.1).toNat,inv:=fun i=>0<=i.1/\i.1<=d.1.length/\i.2.length=d.1.length/\i.2.take i.1.toNat=d.1.take i.1.toNat,keep:=[0,9,10],slots:=fun i=>[(3,.own 524288 1),(11,.int .i64 i.1)],names:=fun i=>[(524288,.live (.row 22 (.sl aT) i.2))]})|_=>none)})
def br(a:List (List Int)) :=
 (a.length:Int)
theorem zK :
 ∀(a:List (List Int)),(a.length<=maxLen/\ ∀(b:List Int),b∈a->b.length<=maxLen/\ ∀(c:Int),c∈b->0<=c/\c<=255)/\True->((br a)<=1000000/\ ∀(b:List Int),b∈a->(b.length:Int)<=1099511627776)->0<=(br a)/\(br a)<=(br a)/\(↑(24:Nat):Int)*(br a)<=281474976710656/\(∃(b:Int) (c:List (List Int)),(0<=b/\b<=(br a)/\c.length=a.length/\List.take b.toNat c=List.take b.toNat a)/\a=a/\a=a/\(br a)=(br a)/\(0:Int)=b/\List.replicate (Int.toNat (br a)) ([]:List Int)=c/\True)/\ ∀(b:Int)(c:List (List Int)),0<=b/\b<=(br a)/\c.length=a.length/\List.take b.toNat c=List.take b.toNat a->ah (decide (b<(br a))) (0<=b/\b<(br a)/\((List.length (a.getD b.toNat default)):Int)<=1099511627776/\0<=b/\b<(c.length:Int)/\ ∃(d:Int) (e:List (List Int)),(0<=d/\d<=(br a)/\e.length=a.length/\List.take d.toNat e=List.take d.toNat a)/\Int.toNat ((br a) -d)<Int.toNat ((br a) -b)/\a=a/\a=a/\(br a)=(br
 a)/\IntKind.wrap .i64 (b+(1:Int))=d/\List.set c b.toNat (a.getD b.toNat default)=e/\True) (c=a):=by
  delta br
  rintro x ⟨⟨hl,-⟩,-⟩⟨hn,hx⟩
  simp only[maxLen] at hl
  refine⟨by omega,by omega,by omega,⟨0,List.replicate x.length [],⟨by omega,by omega,by simp,by simp⟩,(by repeat' first|exact trivial|refine⟨trivial,?_⟩|refine⟨(by with_reducible rfl),?_⟩|refine⟨ad (by omega) (by omega),?_⟩|refine⟨rfl,?_⟩)⟩,?_⟩
  rintro j ys ⟨j0,j1,h1,h2⟩
  refine ar (fun hj=>?_) (fun hj=>?_)
  ·have hj:=of_decide_eq_true hj
   refine⟨j0,hj,hx _ (cE j0 hj),j0,by omega,j+1,ys.set j.toNat (x.getD j.toNat default),⟨by omega,by omega,?_,?_⟩,by omega,?_⟩
   ·rw[List.length_set];exact h1
   ·rw[cZ j0 hj,cZ j0 (by rw[List.length_set];omega),B1 (by omega),← h2,List.take_set_of_le (Nat.le_refl _)]
   ·(repeat first|refine⟨trivial,?_⟩|refine⟨(by with_reducible rfl),?_⟩|refine⟨ad (by omega) (by omega),?_⟩)
    trivial
  ·have hj:=of_decide_eq_false hj
   have e:j.toNat=x.length:=by omega
   rw[e,List.take_length,List.take_of_length_le (by omega)] at h2
   exact h2
theorem yl:aC Try.prog GL 51 v4.spec:=Ct.okH _ Try.func51 (by kernel_rfl) (av aP kO) ay xV (aO (by kernel_rfl) zK)
def wV:Ct:=⟨[.val (.sl a9)],[.own 53 a9],fun d=>[jH d.1],fun d=>((d.1,()),())⟩
def Bo:az wV.ps->aI:=(fun d=>{loops:=(fun n=>match n with|3=>some (fun S=>{ι:=Int,μ:=fun i=>(d.1.length-i).toNat,inv:=fun i=>0<=i/\i<=d.1.length,keep:=[3,8,9],slots:=fun i=>[(10,.int .i64 i)],keepN:=[128],names:=fun i=>[]})|_=>none)})
theorem EE :
 ∀(a:List (Int×Int×List Int)),(nV a)/\True->((a.length:Int)<=1000000/\ ∀(b:af),b∈a->(b.2.2.length:Int)<=1099511627776)->(a.length:Int)<=1000000/\(∃(b:Int),(0<=b/\b<=(a.length:Int))/\(a.length:Int)=(a.length:Int)/\(0:Int)=b/\a=a/\True)/\ ∀(b:Int),0<=b/\b<=(a.length:Int)->ah (decide (b<(a.length:Int))) (0<=b/\b<(a.length:Int)/\((List.length (a.getD b.toNat default).2.2):Int)<=1099511627776/\0<=b/\b<(a.length:Int)/\ ∃(c:Int),(0<=c/\c<=(a.length:Int))/\Int.toNat ((a.length:Int) -c)<Int.toNat ((a.length:Int) -b)/\(a.length:Int)=(a.length:Int)/\IntKind.wrap .i64 (b+(1:Int))=c/\List.set a b.toNat (a.getD b.toNat default)=a/\True) (a=a):=by
  delta nV
  rintro x ⟨⟨hl,-⟩,-⟩⟨hn,hx⟩
  refine⟨hn,⟨0,⟨by omega,by omega⟩,(by repeat' first|exact trivial|refine⟨trivial,?_⟩|refine⟨(by with_reducible rfl),?_⟩|refine⟨ad (by omega) (by omega),?_⟩|refine⟨rfl,?_⟩)⟩,?_⟩
  rintro j ⟨j0,j1⟩
  refine ar (fun hj=>?_) (fun hj=>rfl)
  have hj:=of_decide_eq_true hj
  refine⟨j0,hj,hx _ (cE j0 hj),j0,hj,j+1,⟨by omega,by omega⟩,by omega,?_⟩
  (repeat first|refine⟨trivial,?_⟩|refine⟨(by with_reducible rfl),?_⟩|refine⟨ad (by omega) (by omega),?_⟩)
  exact⟨v3 j0 hj,trivial⟩
theorem Dc:aC Try.prog GL 53 wV.spec:=Ct.okH _ Try.func53 (by kernel_rfl) (av (av aP yD) kO) ay Bo (aO (by kernel_rfl) EE)
abbrev sr:OT := .pair cI (.pair cI (.pair cI (.pair (.row 22 (.sl aT)) (.pair cI (.pair (.row 22 (.sl aT)) (.pair (.row 51 dY) (.pair (.row 53 a9) (.row 53 a9))))))))
def ll(c:ai):Prop:=jD (ae c)/\jD (aG c)/\rZ (aF c)/\jH (aJ c)/\jH (ba c)
def uB:Ct:=⟨[.agg aQ],[.agg sr],fun d=>[ll d.1],fun d=>((d.1,()),())⟩
def yK:az uB.ps->aI:=(fun d=>{loops:=(fun n=>match n with|4=>some (fun S=>{ι:=Int,μ:=fun i=>((aF d.1).length-i).toNat,inv:=fun i=>0<=i/\i<=(aF d.1).length,keep:=[1,2,18,19],slots:=fun i=>[(20,.int .i64 i)],keepN:=[32,48,128,176,256],names:=fun i=>[]})|_=>none)})
theorem Bf :
 ∀(a:Int×Int×Int×List (List Int)×Int×List (List Int)×List (Int×List Int)×List (Int×Int×List Int)×List (Int×Int×List Int)),CT.wf aQ a/\True->jD (ae a)/\jD (aG a)/\rZ (aF a)/\jH (aJ a)/\jH (ba a)->jD a.2.2.2.1/\jD a.2.2.2.2.2.1/\(a.2.2.2.2.2.2.1.length:Int)<=1000000/\(∃(b:Int),(0<=b/\b<=((List.length (aF a)):Int))/\(a.2.2.2.2.2.2.1.length:Int)=(a.2.2.2.2.2.2.1.length:Int)/\(0:Int)=b/\a.1=a.1/\a.2.1=a.2.1/\a.2.2.1=a.2.2.1/\a.2.2.2.2.1=a.2.2.2.2.1/\a.2.2.2.2.2.2.2.1=a.2.2.2.2.2.2.2.1/\a.2.2.2.2.2.2.2.2=a.2.2.2.2.2.2.2.2/\(0:Int)=0/\(0:Int)=0/\(0:Int)=0/\(0:Int)=0/\a.2.2.2.1=a.2.2.2.1/\a.2.2.2.2.2.1=a.2.2.2.2.2.1/\a.2.2.2.2.2.2.1=a.2.2.2.2.2.2.1/\True)/\ ∀(b:Int),0<=b/\b<=((List.length (aF a)):Int)->ah (decide (b<(a.2.2.2.2.2.2.1.length:Int))) (0<=b/\b<(a.2.2.2.2.2.2.1.length:Int)/\((List.length (List.getD a.2.2.2.2.2.2.1 b.toNat
 default).2):Int)<=1099511627776/\0<=b/\b<(a.2.2.2.2.2.2.1.length:Int)/\ ∃(c:Int),(0<=c/\c<=((List.length (aF a)):Int))/\Int.toNat (((List.length (aF a)):Int) -c)<Int.toNat (((List.length (aF a)):Int) -b)/\(a.2.2.2.2.2.2.1.length:Int)=(a.2.2.2.2.2.2.1.length:Int)/\IntKind.wrap .i64 (b+(1:Int))=c/\a.1=a.1/\a.2.1=a.2.1/\a.2.2.1=a.2.2.1/\a.2.2.2.2.1=a.2.2.2.2.1/\a.2.2.2.2.2.2.2.1=a.2.2.2.2.2.2.2.1/\a.2.2.2.2.2.2.2.2=a.2.2.2.2.2.2.2.2/\(0:Int)=0/\(0:Int)=0/\(0:Int)=0/\(0:Int)=0/\a.2.2.2.1=a.2.2.2.1/\a.2.2.2.2.2.1=a.2.2.2.2.2.1/\List.set a.2.2.2.2.2.2.1 b.toNat (List.getD a.2.2.2.2.2.2.1 b.toNat default)=a.2.2.2.2.2.2.1/\True) (jH a.2.2.2.2.2.2.2.1/\jH a.2.2.2.2.2.2.2.2/\a=a):=by
  rintro d-⟨h1,h2,h3,h4,h5⟩
  have eE:aF d=d.2.2.2.2.2.2.1:=rfl
  rw[eE] at h3 ⊢
  obtain⟨e1,e2⟩:=h3
  refine⟨h1,h2,e1,⟨0,⟨by omega,by omega⟩,(by repeat' first|exact trivial|refine⟨trivial,?_⟩|refine⟨(by with_reducible rfl),?_⟩|refine⟨ad (by omega) (by omega),?_⟩|refine⟨rfl,?_⟩)⟩,?_⟩
  rintro j ⟨j0,j1⟩
  refine ar (fun hj=>?_) (fun hj=>⟨h4,h5,rfl⟩)
  have hj:=of_decide_eq_true hj
  refine⟨j0,hj,e2 _ (cE j0 hj),j0,hj,j+1,⟨by omega,by omega⟩,by omega,?_⟩
  (repeat first|refine⟨trivial,?_⟩|refine⟨(by with_reducible rfl),?_⟩|refine⟨ad (by omega) (by omega),?_⟩)
  exact⟨v3 j0 hj,trivial⟩
theorem qk:aC Try.prog GL 32 uB.spec:=Ct.okH _ Try.func32 (by kernel_rfl) (av (av (av (av aP yl) Dc) Ds) kO) ay yK (aO (by kernel_rfl) Bf)
def vG:Ct:=⟨[.val cI],[.own 5 aT],fun d=>[0<=d.1],fun d=>((cj d.1 2 2,()),())⟩
def yV:az vG.ps->aI:=(fun _=>{})
theorem yx :
 ∀(a:Int),ak a/\True->0<=a->(0:Int)<=8/\[IntKind.wrap .u8 (dN IntKind.i64 a (8:Int)),IntKind.wrap .u8 a]=cj a (2:Nat) (2:Nat):=by
  rintro n-h0
  have e:=rO (n:=n) (k:=1) h0 (by omega)
  refine⟨by decide,?_⟩
  rw[fJ,show dN .i64 n 8=n/256 from e,IntKind.wrap_u8',IntKind.wrap_u8']
theorem uR:aC Try.prog GL 77 vG.spec:=Ct.okH _ Try.func77 (by kernel_rfl) aP ay yV (aO (by kernel_rfl) yx)
def sI:Ct:=⟨[.nils,.val cI],[.own 5 aT],fun d=>[0<=d.2.1,d.2.1<=1073741824],fun d=>(([],()),())⟩
def x5:az sI.ps->aI:=(fun _=>{})
def kK(a:Int) :=
 a -IntKind.wrap .i64 ((0:Int) -(0:Int))
theorem Cv :
 ∀(a:Int),True/\ak a/\True->0<=a/\a<=1073741824->ah (decide (a<0)) False (ah (decide (0<IntKind.wrap .i64 (kK a))) ((0:Int)=0/\(0:Int)=0/\0<=IntKind.wrap .i64 (kK a)/\IntKind.wrap .i64 (kK a)*(↑(1:Nat):Int)<=140737488355328/\(0:Int)<=0/\0<=((List.length (List.replicate (Int.toNat (IntKind.wrap .i64 (kK a))) (0:Int))):Int)/\List.take (Int.toNat (0:Int)) (List.replicate (Int.toNat (IntKind.wrap .i64 (kK a))) (0:Int))=([]:List Int)) (([]:List Int)=([]:List Int))):=by
  delta kK
  rintro x-⟨h0,h1⟩
  rw[ad (n:=(0:Int)-0) (by omega) (by omega),ad (by omega) (by omega)]
  refine ar (fun hb=>?_) (fun hb=>ar (fun hb=>?_) (fun hb=>rfl))
  ·have:=of_decide_eq_true hb;omega
  ·refine⟨rfl,rfl,by omega,by omega,by omega,by simp only[List.length_replicate];omega,by simp⟩
theorem BW:aC Try.prog GL 96 sI.spec:=Ct.okH _ Try.func96 (by kernel_rfl) (vm aP (d:=25)) ay x5 (aO (by kernel_rfl) Cv)
def tZ:Ct:=⟨[.val (.sl (.sl aT))],[.own 5 aT],fun d=>[(d.1.flatten.length:Int)<=1073741824],fun d=>((d.1.flatten,()),())⟩
def yi:az tZ.ps->aI:=(fun d=>{loops:=(fun n=>match n with|3=>some (fun S=>{ι:=Int×Int,qn:=⟨fun k_=>∀(j:Int)(s:Int),k_ (j,s),fun k_ h_ i=>h_ i.1 i.2,fun k_=>∃ (j:Int) (s:Int),k_ (j,s),fun k_ ⟨j,s,h_⟩=>⟨_,h_⟩⟩,μ:=fun i=>(d.1.length-i.1).toNat,inv:=fun i=>0<=i.1/\i.1<=d.1.length/\i.2=((d.1.take i.1.toNat).flatten.length:Int),keep:=[0,9,10],slots:=fun i=>[(3,.int .i64 i.2),(11,.int .i64 i.1)],names:=fun i=>[]})|11=>some (fun S=>{ι:=Int×(List Int),qn:=⟨fun k_=>∀(j:Int)(ys:(List Int)),k_ (j,ys),fun k_ h_ i=>h_ i.1 i.2,fun k_=>∃ (j:Int) (ys:(List Int)),k_ (j,ys),fun k_ ⟨j,ys,h_⟩=>⟨_,h_⟩⟩,μ:=fun i=>(d.1.length-i.1).toNat,inv:=fun i=>0<=i.1/\i.1<=d.1.length/\i.2=(d.1.take i.1.toNat).flatten,keep:=[25,26],slots:=fun i=>[(6,.own 524288 1),(27,.int .i64 i.1)],names:=fun i=>[(524288,.live (.row 5 aT i.2))]})|_=>none)})
theorem Bt :
 ∀(a:List (List Int)),(a.length<=maxLen/\ ∀(b:List Int),b∈a->b.length<=maxLen/\ ∀(c:Int),c∈b->0<=c/\c<=255)/\True->((List.length (List.flatten a)):Int)<=1073741824->(∃(b:Int) (c:Int),(0<=b/\b<=(br a)/\c=((List.length (List.flatten (List.take b.toNat a))):Int))/\a=a/\(0:Int)=c/\a=a/\(br a)=(br a)/\(0:Int)=b/\True)/\ ∀(b c:Int),0<=b/\b<=(br a)/\c=((List.length (List.flatten (List.take b.toNat a))):Int)->ah (decide (b<(br a))) (0<=b/\b<(br a)/\ah (decide (IntKind.wrap .i64 (c+((List.length (a.getD b.toNat default)):Int))<0)) False (∃(d:Int) (e:Int),(0<=d/\d<=(br a)/\e=((List.length (List.flatten (List.take d.toNat a))):Int))/\Int.toNat ((br a) -d)<Int.toNat ((br a) -b)/\a=a/\IntKind.wrap .i64 (c+((List.length (a.getD b.toNat default)):Int))=e/\a=a/\(br a)=(br a)/\IntKind.wrap .i64 (b+(1:Int))=d/\True)) (0<=c/\c<=1073741824/\(∃(d:Int) (e:List Int),(0<=d/\d<=(br
 a)/\e=List.flatten (List.take d.toNat a))/\a=a/\(br a)=(br a)/\(0:Int)=d/\([]:List Int)=e/\True)/\ ∀(d:Int)(e:List Int),0<=d/\d<=(br a)/\e=List.flatten (List.take d.toNat a)->ah (decide (d<(br a))) (0<=d/\d<(br a)/\(e.length+List.length (a.getD d.toNat default))*(1:Nat)<=(140737488355328:Nat)/\ ∃(f:Int) (g:List Int),(0<=f/\f<=(br a)/\g=List.flatten (List.take f.toNat a))/\Int.toNat ((br a) -f)<Int.toNat ((br a) -d)/\a=a/\(br a)=(br a)/\IntKind.wrap .i64 (d+(1:Int))=f/\e++a.getD d.toNat default=g/\True) (e=List.flatten a)):=by
  delta br
  rintro x ⟨⟨hl,-⟩,-⟩ ht
  simp only[maxLen] at hl
  refine⟨⟨0,0,⟨by omega,by omega,by simp⟩,(by repeat' first|exact trivial|refine⟨trivial,?_⟩|refine⟨(by with_reducible rfl),?_⟩|refine⟨ad (by omega) (by omega),?_⟩|refine⟨rfl,?_⟩)⟩,?_⟩
  rintro j s ⟨h0,h1,h2⟩
  have hle:=rt x j.toNat
  refine ar (fun hb=>?_) (fun hb=>?_)
  ·have hb:=of_decide_eq_true hb
   have e:=ut h0 hb
   have hle2:=rt x (j+1).toNat
   have el:((x.take (j+1).toNat).flatten.length:Int)=s+(x.getD j.toNat default).length:=by rw[e,List.length_append];omega
   rw[ad (n:=s+_) (by omega) (by omega)]
   refine⟨h0,hb,ar (fun hc=>?_) (fun hc=>?_)⟩
   ·have:=of_decide_eq_true hc;omega
   ·exact⟨j+1,_,⟨by omega,by omega,el.symm⟩,by omega,(by repeat' first|exact trivial|refine⟨trivial,?_⟩|refine⟨(by with_reducible rfl),?_⟩|refine⟨ad (by omega) (by omega),?_⟩|refine⟨rfl,?_⟩)⟩
  ·refine⟨by omega,by omega,⟨0,[],⟨by omega,by omega,by simp⟩,(by repeat' first|exact trivial|refine⟨trivial,?_⟩|refine⟨(by with_reducible rfl),?_⟩|refine⟨ad (by omega) (by omega),?_⟩|refine⟨rfl,?_⟩)⟩,?_⟩
   rintro k ys ⟨k0,k1,rfl⟩
   refine ar (fun hb=>?_) (fun hb=>?_)
   ·have hb:=of_decide_eq_true hb
    have e:=ut k0 hb
    have hle2:=rt x (k+1).toNat
    refine⟨k0,hb,?_,k+1,_,⟨by omega,by omega,e.symm⟩,by omega,(by repeat' first|exact trivial|refine⟨trivial,?_⟩|refine⟨(by with_reducible rfl),?_⟩|refine⟨ad (by omega) (by omega),?_⟩|refine⟨rfl,?_⟩)⟩
    rw[← List.length_append,← e];omega
   ·have hb:=of_decide_eq_false hb
    rw[List.take_of_length_le (by omega)]
theorem yI:aC Try.prog GL 82 tZ.spec:=Ct.okH _ Try.func82 (by kernel_rfl) (av aP BW) ay yi (aO (by kernel_rfl) Bt)
def vK:Ct:=⟨[.val cI,.val (.sl aT)],[.val (.sl aT)],fun d=>[0<=d.1,(d.2.1.length:Int)<=1000000],fun d=>((bF d.1 d.2.1,()),())⟩
def Dj:az vK.ps->aI:=(fun _=>{})
theorem xB :
 ∀(a:Int)(b:List Int),ak a/\(b.length<=maxLen/\ ∀(c:Int),c∈b->0<=c/\c<=255)/\True->0<=a/\(b.length:Int)<=1000000->0<=a/\((List.length (List.flatten [[(68:Int)],cj a (2:Nat) (2:Nat),b])):Int)<=1073741824/\List.flatten [[(68:Int)],cj a (2:Nat) (2:Nat),b]=bF a b:=by
  rintro n it-⟨h0,h1⟩
  have e:List.flatten [[(68:Int)],cj n 2 2,it]=bF n it:=by simp[bF]
  rw[e]
  refine⟨h0,?_,rfl⟩
  rw[nZ];omega
theorem vx:aC Try.prog GL 58 vK.spec:=Ct.okH _ Try.func58 (by kernel_rfl) (av (av aP uR) yI) ay Dj (aO (by kernel_rfl) xB)
def sQ:Ct:=⟨[.val (.sl aT),.val cI],[.val cI],fun d=>[(d.1.length:Int)<=9223372036854775807],fun d=>((aH d.1 d.2.1,()),())⟩
def CZ:az sQ.ps->aI:=(fun _=>{})
theorem Aj :
 ∀(a:List Int)(b:Int),(a.length<=maxLen/\ ∀(c:Int),c∈a->0<=c/\c<=255)/\ak b/\True->(a.length:Int)<=9223372036854775807->(a.length:Int)<=9223372036854775807/\bH a b (2:Int)=aH a b:=by
  rintro b a-h
  exact⟨h,rfl⟩
theorem mL:aC Try.prog GL 76 sQ.spec:=Ct.okH _ Try.func76 (by kernel_rfl) (av aP Av) ay CZ (aO (by kernel_rfl) Aj)
end Go.RS
