/- Balance: mixing, hashing, choosing; the law's draws. -/
import Derived.Test.YtffciochlkcjbaaMix
import Derived.Laws.Bits128
import Derived.Laws.BitsAllLaws
import Derived.Laws.CopyRow
import Derived.LaidMore
import Derived.Stop.Joined
import Derived.FnData
import Derived.MakeChecks
import Derived.Lib.AppendZerosOnto
import Derived.Lib.Overlaps
import Derived.Laws.Externs
import Derived.Lib.Walk
import Derived.Lib.SliceRun
import Derived.Shelf.RegionOpenPlain
namespace Go.RS
open Go.SX Go.Proofs
set_option maxRecDepth 100000
set_option linter.unusedVariables false
def xn:Cn:=⟨[.box 58 gh],[.val cI],fun d=>[ar d.1],fun d y=>ar y.2.1 ∧ -9223372036854775808<=y.1.1/\y.1.1<=9223372036854775807,fun d h=>⟨((0,()),(d.1,())),h.1,by simp,by simp⟩⟩
def x4:aC xn.ps->aN:=(fun _=>{})
theorem yU :
 ∀(a:List Int)(b:Int),((a.length<=maxLen/\ ∀(c:Int),c∈a->0<=c/\c<=255)/\ao b)/\True->0<=b/\b<= ↑a.length->ar (a,b)/\ ∀(c:Int)(d:List Int)(e:Int),0<=c/\(c<10∨c=0)/\ar (d,e)->ah (decide (c=0)) (ar (d,e)/\ ∀(f:Int)(g:List Int)(h:Int),0<=f/\(f<3∨f=0)/\ar (g,h)->ar (g,h)/\ -9223372036854775808<=IntKind.wrap .i64 ((-1:Int) -f)/\IntKind.wrap .i64 ((-1:Int) -f)<=9223372036854775807) (ah (decide (c=1)) (ar (d,e)/\ ∀(f:Int)(g:List Int)(h:Int),0<=f/\(f<14∨f=0)/\ar (g,h)->0<=f/\f< ↑(List.length [(9223372036854775807:Int),(-9223372036854775808:Int),(1125899906842624:Int),(1125899906842625:Int),(65535:Int),(65536:Int),(255:Int),(256:Int),(1023:Int),(1024:Int),(65534:Int),(65535:Int),(4294967296:Int),(4611686018427387905:Int)])/\ar (g,h)/\ -9223372036854775808<=List.getD
 [(9223372036854775807:Int),(-9223372036854775808:Int),(1125899906842624:Int),(1125899906842625:Int),(65535:Int),(65536:Int),(255:Int),(256:Int),(1023:Int),(1024:Int),(65534:Int),(65535:Int),(4294967296:Int),(4611686018427387905:Int)] f.toNat default/\List.getD [(9223372036854775807:Int),(-9223372036854775808:Int),(1125899906842624:Int),(1125899906842625:Int),(65535:Int),(65536:Int),(255:Int),(256:Int),(1023:Int),(1024:Int),(65534:Int),(65535:Int),(4294967296:Int),(4611686018427387905:Int)] f.toNat default<=9223372036854775807) (ah (decide (c=2)) (ar (d,e)/\ ∀(f:Int)(g:List Int)(h:Int),0<=f/\(f<256∨f=0)/\ar (g,h)->ar (g,h)/\ ∀(i:Int)(j:List Int)(k:Int),0<=i/\(i<256∨i=0)/\ar (j,k)->ar (j,k)/\ -9223372036854775808<=IntKind.wrap .i64 (IntKind.wrap .i64 ((256:Int)*f)+i)/\IntKind.wrap .i64 (IntKind.wrap .i64 ((256:Int)*f)+i)<=9223372036854775807) (ar (d,e)/\ ∀(f:Int)(g:List Int)
 (h:Int),0<=f/\(f<40∨f=0)/\ar (g,h)->ar (g,h)/\ao f))):=by
  rintro l p-h
  refine⟨h,?_⟩
  rintro r l2 p2 ⟨h1,h2,h3⟩
  refine aq (fun hb=>⟨h3,?_⟩) (fun hb=>aq (fun hb=>⟨h3,?_⟩) (fun hb=>aq (fun hb=>⟨h3,?_⟩) (fun hb=>⟨h3,?_⟩)))
  ·rintro a l4 p4 ⟨h4,h5,h6⟩
   exact⟨h6,vY _⟩
  ·rintro a l4 p4 ⟨h4,h5,h6⟩
   refine⟨h4,by simp;omega,h6,?_⟩
   exact BL (p:=fun v => -9223372036854775808<=v/\v<=9223372036854775807) (by simp) h4 (by simp;omega)
  ·rintro a l4 p4 ⟨h4,h5,h6⟩
   refine⟨h6,?_⟩
   rintro a l4 p4 ⟨h4,h5,h6⟩
   exact⟨h6,vY _⟩
  ·rintro a l4 p4 ⟨h4,h5,h6⟩
   exact⟨h6,by omega,by omega⟩
theorem wF:aG Try.prog GL 22 xn.spec:=Cn.okH _ Try.func22 (by kernel_rfl) (ay aP lx) aD x4 (aQ (by kernel_rfl) yU)
def iq(x n:Int):Int:=(IntKind.wrap .i64 (x.tmod n+n)).tmod n
def xu:Ct:=⟨[.val cI,.val cI],[.val cI],fun d=>[d.2.1≠0],fun d=>((iq d.1 d.2.1,()),())⟩
def Cu:aC xu.ps->aN:=(fun _=>{})
theorem Cq :
 ∀(a b:Int),ao a/\ao b/\True->(b=0->False)->b≠(0:Int)/\b≠(0:Int)/\Int.tmod (IntKind.wrap .i64 (Int.tmod a b+b)) b=iq a b:=by
  rintro x n-h
  exact⟨h,h,rfl⟩
theorem DR:aG Try.prog GL 39 xu.spec:=Ct.okH _ Try.func39 (by kernel_rfl) aP aD Cu (aQ (by kernel_rfl) Cq)
end Go.RS

/- Ident: identifiers of answers. -/
namespace Go.RS
open Go.SX Go.Proofs
set_option maxRecDepth 100000
set_option linter.unusedVariables false
end Go.RS

/- Wire: numbers in bytes, the Internet checksum. -/
namespace Go.RS
open Go.SX Go.Proofs
set_option maxRecDepth 100000
set_option linter.unusedVariables false
def ch(n:Int)(w k:Nat):List Int:=(List.range k).map fun j=>n/256^(w-1-j)%256
def ik(n w:Int):Prop:=w<1∨7<w∨n<0∨256^w.toNat<=n
instance (n w:Int):Decidable (ik n w):=by unfold ik;infer_instance
def eC(b:List Int)(n w:Int):List Int:=if ik n w then [] else b++ch n w.toNat w.toNat
def lC(n w:Int):Int:=if ik n w then 1 else 0
def cO(l:List Int):Int:=l.foldl (fun n x=>n*256+x) 0
def bj(b:List Int)(at' w:Int):Int:=if w<1∨7<w∨at'<0∨b.length-w<at' then 0 else cO ((b.drop at'.toNat).take w.toNat)
def gt(b:List Int)(at' w:Int):Int:=if w<1∨7<w∨at'<0 then 1 else if b.length-w<at' then 3 else 0
theorem Db(a b:Nat)(ha:a<9223372036854775808)(hb:b<9223372036854775808):bits .or .i64 (a:Int) (b:Int)=((a ||| b:Nat):Int):=by
 have h:a ||| b<2^63:=Nat.or_lt_two_pow (by omega) (by omega)
 have key:(BitVec.ofInt 64 (a:Int) ||| BitVec.ofInt 64 (b:Int)).toNat=a ||| b:=by
  rw[BitVec.toNat_or,BitVec.toNat_ofInt,BitVec.toNat_ofInt]
  have e1:((a:Int)%((2^64:Nat):Int)).toNat=a:=by omega
  have e2:((b:Int)%((2^64:Nat):Int)).toNat=b:=by omega
  rw[e1,e2]
 show IntKind.i64.wrap ((BitVec.ofInt 64 (a:Int) ||| BitVec.ofInt 64 (b:Int)).toNat:Nat)=_
 rw[key,ad (by omega) (by omega)]
theorem BU{n:Int}(h0:0<=n)(h1:n<=36028797018963967):gu .i64 n 8=n*256:=by
 show IntKind.i64.wrap (n*2^(min 8 64))=_
 rw[ad (by simp;omega) (by simp;omega)];rfl
theorem xr{n x:Int}(h0:0<=n)(h1:n<=36028797018963966)(h2:0<=x)(h3:x<=255):bits .or .i64 (gu .i64 n 8) (IntKind.wrap .i64 x)=n*256+x:=by
 rw[BU h0 (by omega),ad (n:=x) (by omega) (by omega)]
 obtain⟨m,rfl⟩:=Int.eq_ofNat_of_zero_le h0
 obtain⟨y,rfl⟩:=Int.eq_ofNat_of_zero_le h2
 have:=Db (m*256) y (by omega) (by omega)
 rw[nat_join 8 (m*256) y (by omega) (by omega)] at this
 push_cast at this
 exact this
theorem tE{n:Int}{k:Nat}(h0:0<=n)(hk:k<8):dR .i64 n (8*k)=n/256^k:=by
 unfold dR
 have hm:min ((8*(k:Int))).toNat IntKind.i64.bits=8*k:=by simp only[IntKind.bits];omega
 rw[hm,Int.fdiv_eq_ediv_of_nonneg _ (Int.le_of_lt (Int.pow_pos (by decide))),Int.pow_mul]
 rfl
theorem w5{w:Int}(h0:1<=w)(h1:w<=7):gu .i64 1 (IntKind.wrap .i64 (8*w))=256^w.toNat:=by
 have:w=1∨w=2∨w=3∨w=4∨w=5∨w=6∨w=7:=by omega
 rcases this with rfl|rfl|rfl|rfl|rfl|rfl|rfl <;> decide
theorem Ei(n:Int)(w k:Nat):ch n w (k+1)=ch n w k++[n/256^(w-1-k)%256]:=by
 unfold ch;rw[List.range_succ,List.map_append];rfl
theorem jY(n:Int)(w k:Nat):(ch n w k).length=k:=by unfold ch;simp
theorem rl(l:List Int)(x:Int):cO (l++[x])=cO l*256+x:=by unfold cO;rw[List.foldl_append];rfl
theorem DL:∀(k:Nat)(l:List Int),l.length<=k->(∀ x∈l,0<=x/\x<=255)->0<=cO l/\cO l<256^k:=by
 intro k
 induction k with
 | zero =>
  intro l hl _
  have:l=[]:=List.eq_nil_of_length_eq_zero (by omega)
  subst this;exact⟨by decide,by decide⟩
 | succ k ih =>
  intro l hl hx
  rcases List.eq_nil_or_concat l with rfl|⟨m,x,rfl⟩
  ·exact⟨by decide,Int.pow_pos (by decide)⟩
  ·rw[List.concat_eq_append] at hl hx ⊢
   have h1:=ih m (by simp at hl;omega) (fun y hy=>hx y (List.mem_append_left _ hy))
   have h2:=hx x (by simp)
   rw[rl,Int.pow_succ]
   generalize (256:Int)^k=P at h1 ⊢
   omega
theorem r5{l:List Int}(hl:l.length<=6)(hx:∀ x∈l,0<=x/\x<=255):0<=cO l/\cO l<=281474976710655:=by
 have:=DL 6 l hl hx
 have e:(256:Int)^6=281474976710656:=by decide
 omega
theorem nq{l:List Int}{j:Int}(h0:0<=j)(h1:j<l.length):l.take (j+1).toNat=l.take j.toNat++[l.getD j.toNat default]:=by
 have hj:j.toNat<l.length:=by omega
 rw[show (j+1).toNat=j.toNat+1 from by omega,List.take_succ_eq_append_getElem hj,List.getD_eq_getElem?_getD,List.getElem?_eq_getElem hj,Option.getD_some]
def sK:Ct:=⟨[.val (.sl aV)],[.own 5 aV],fun d=>[(d.1.length:Int)<=1099511627776],fun d=>((d.1,()),())⟩
def zm:aC sK.ps->aN:=(fun _=>{})
theorem Bb :
 ∀(a:List Int),(a.length<=maxLen/\ ∀(b:Int),b∈a->0<=b/\b<=255)/\True->(a.length:Int)<=1099511627776-> ∀(b:Bool),(b=true->a.length=(0:Nat))->ah b (([]:List Int)=a) (((0:Nat)+a.length)*(1:Nat)<=(140737488355328:Nat)/\a=a):=by
  rintro x ⟨⟨hl,-⟩,-⟩ h b hb
  refine aq (fun h1=>?_) (fun h1=>⟨by omega,rfl⟩)
  have:=hb h1
  exact (List.eq_nil_of_length_eq_zero this).symm
theorem kY:aG Try.prog GL 37 sK.spec:=Ct.okH _ Try.func37 (by kernel_rfl) aP aD zm (aQ (by kernel_rfl) Bb)
def ul:Ct:=⟨[.val (.sl aV),.val cI,.val cI],[.val cI,.val cI],fun d=>[(d.1.length:Int)<=9223372036854775807],fun d=>((bj d.1 d.2.1 d.2.2.1,gt d.1 d.2.1 d.2.2.1,()),())⟩
def AD:aC ul.ps->aN:=(fun d=>{loops:=(fun n=>match n with|7=>some (fun S=>{ι:=Int×Int,qn:=⟨fun k_=>∀(j:Int)(n:Int),k_ (j,n),fun k_ h_ i=>h_ i.1 i.2,fun k_=>∃ (j:Int) (n:Int),k_ (j,n),fun k_ ⟨j,n,h_⟩=>⟨_,h_⟩⟩,μ:=fun i=>(d.2.2.1-i.1).toNat,inv:=fun i=>0<=i.1/\i.1<=d.2.2.1/\i.2=cO (((d.1.drop d.2.1.toNat).take d.2.2.1.toNat).take i.1.toNat),keep:=[34,35],slots:=fun i=>[(8,.int .i64 i.2),(36,.int .i64 i.1)],names:=fun i=>[]})|_=>none)})
def jx(b c:Int) :=
 Int.toNat (IntKind.wrap .i64 (b+c))
def j8(a:List Int)(b c:Int) :=
 ((List.length (bf a b.toNat (jx b c))):Int)
def gV(a:List Int) :=
 a.length<=maxLen/\ ∀(d:Int),d∈a->0<=d/\d<=255
def je(a:List Int)(b c:Int) :=
 List.take c.toNat (List.drop b.toNat a)
theorem z8 :
 ∀(a:List Int)(b c:Int),(gV a)/\ao b/\ao c/\True->(a.length:Int)<=9223372036854775807-> ∀(d:Bool),d=decide (c<1)->((! d)->((! d)->(! d))/\True)/\(d=false->(! d))/\ ∀(e:Bool),(e=bif d then true else decide (7<c))->((! e)->((! e)->(! e))/\True)/\(e=false->(! e))/\ah (bif e then true else decide (b<0)) ((0:Int)=bj a b c/\(1:Int)=gt a b c) (ah (decide (IntKind.wrap .i64 ((a.length:Int) -c)<b)) ((0:Int)=bj a b c/\(3:Int)=gt a b c) (0<=b/\b<=IntKind.wrap .i64 (b+c)/\IntKind.wrap .i64 (b+c)<=(a.length:Int)/\(∃(f:Int) (g:Int),(0<=f/\f<=c/\g=cO (List.take f.toNat (je a b c)))/\(0:Int)=g/\bf a b.toNat (jx b c)=bf a b.toNat (jx b c)/\(j8 a b c)=(j8 a b c)/\(0:Int)=f/\True)/\ ∀(f g:Int),0<=f/\f<=c/\g=cO (List.take f.toNat (je a b c))->ah (decide (f<(j8 a b c))) (0<=f/\f<(j8 a b c)/\(0:Int)<=8/\ ∃(h:Int) (i:Int),(0<=h/\h<=c/\i=cO (List.take h.toNat (je a b
 c)))/\Int.toNat (c -h)<Int.toNat (c -f)/\bits BinOp.or IntKind.i64 (gu IntKind.i64 g (8:Int)) (IntKind.wrap .i64 (List.getD (bf a b.toNat (jx b c)) f.toNat default))=i/\bf a b.toNat (jx b c)=bf a b.toNat (jx b c)/\(j8 a b c)=(j8 a b c)/\IntKind.wrap .i64 (f+(1:Int))=h/\True) (g=bj a b c/\(0:Int)=gt a b c))):=by
  delta j8 jx gV je
  rintro b a w ⟨⟨hl0,hx⟩,⟨a0,a1⟩,⟨w0,w1⟩,-⟩ hl
  (repeat (intro (b_:Bool) (hb_:b_=_);(repeat refine⟨(by first|(simp;done)|(rw[hb_];simp;done)|(rw[hb_];simp;omega)|(rw[hb_];simp;intros;omega)|(rw[hb_];simp +contextual;done)),?_⟩);subst hb_))
  unfold bj gt
  refine aq (fun hc=>?_) (fun hc=>?_)
  ·have h:w<1∨7<w∨a<0:=by simp[Bool.cond_eq_ite] at hc;omega
   rw[if_pos (by omega),if_pos h];exact⟨rfl,rfl⟩
  have h:¬ (w<1∨7<w∨a<0):=by simp[Bool.cond_eq_ite] at hc;omega
  rw[ad (n:=(b.length:Int)-w) (by omega) (by omega),if_neg h]
  refine aq (fun hd=>?_) (fun hd=>?_)
  ·have hd:=of_decide_eq_true hd
   rw[if_pos (by omega),if_pos hd];exact⟨rfl,rfl⟩
  have hd:=of_decide_eq_false hd
  rw[if_neg (by omega),if_neg hd,ad (n:=a+w) (by omega) (by omega)]
  have hsub:bf b a.toNat (a+w).toNat=(b.drop a.toNat).take w.toNat:=by
   unfold bf;rw[List.drop_take,show (a+w).toNat-a.toNat=w.toNat from by omega]
  rw[hsub]
  have hlen:((b.drop a.toNat).take w.toNat).length=w.toNat:=by rw[List.length_take,List.length_drop];omega
  have hy:∀ y∈(b.drop a.toNat).take w.toNat,0<=y/\y<=255:=fun y hy=>hx y (List.mem_of_mem_drop (List.mem_of_mem_take hy))
  generalize (b.drop a.toNat).take w.toNat=m at *
  rw[hlen]
  refine⟨by omega,by omega,by omega,⟨0,0,⟨by omega,by omega,by simp[cO]⟩,(by repeat' first|exact trivial|refine⟨trivial,?_⟩|refine⟨(by with_reducible rfl),?_⟩|refine⟨ad (by omega) (by omega),?_⟩|refine⟨rfl,?_⟩)⟩,?_⟩
  rintro j n ⟨j0,j1,rfl⟩
  refine aq (fun hj=>?_) (fun hj=>?_)
  ·have hj:=of_decide_eq_true hj
   have ht:=nq (l:=m) j0 (by omega)
   obtain⟨x0,x1⟩:=hy _ (ce (xs:=m) j0 (by omega))
   have hb:=r5 (l:=m.take j.toNat) (by rw[List.length_take];omega) (fun y h=>hy y (List.mem_of_mem_take h))
   refine⟨j0,hj,by omega,j+1,_,⟨by omega,by omega,rfl⟩,by omega,?_,rfl,rfl,ad (by omega) (by omega),trivial⟩
   rw[ht,rl,xr hb.1 (by omega) x0 x1]
  ·have hj:=of_decide_eq_false hj
   rw[List.take_of_length_le (by omega)];exact⟨rfl,rfl⟩
theorem D4:aG Try.prog GL 92 ul.spec:=Ct.okH _ Try.func92 (by kernel_rfl) aP aD AD (aQ (by kernel_rfl) z8)
def wD:Ct:=⟨[.val (.sl aV),.val cI,.val cI],[.own 5 aV,.val cI],fun d=>[(d.1.length:Int)<=1099511627776],fun d=>((eC d.1 d.2.1 d.2.2.1,lC d.2.1 d.2.2.1,()),())⟩
def Cj:aC wD.ps->aN:=(fun d=>{loops:=(fun n=>match n with|5=>some (fun S=>{ι:=Int×(List Int),qn:=⟨fun k_=>∀(k:Int)(ys:(List Int)),k_ (k,ys),fun k_ h_ i=>h_ i.1 i.2,fun k_=>∃ (k:Int) (ys:(List Int)),k_ (k,ys),fun k_ ⟨k,ys,h_⟩=>⟨_,h_⟩⟩,μ:=fun i=>(d.2.2.1-i.1).toNat,inv:=fun i=>0<=i.1/\i.1<=d.2.2.1/\i.2=d.1++ch d.2.1 d.2.2.1.toNat i.1.toNat,keep:=[1,2],slots:=fun i=>[(8,.own 524288 1),(9,.int .i64 (d.2.2.1-1-i.1))],names:=fun i=>[(524288,.live (.row 5 aV i.2))]})|_=>none)})
theorem Ez :
 ∀(a:List Int)(b c:Int),(gV a)/\ao b/\ao c/\True->(a.length:Int)<=1099511627776-> ∀(d:Bool),d=decide (c<1)->((! d)->((! d)->(! d))/\True)/\(d=false->(! d))/\ ∀(e:Bool),(e=bif d then true else decide (7<c))->((! e)->((! e)->(! e))/\True)/\(e=false->(! e))/\ ∀(f:Bool),(f=bif e then true else decide (b<0))->((! f)->((! f)->(! f))/\True)/\((! f)->((! f)->(! f))/\0<=IntKind.wrap .i64 ((8:Int)*c)/\True)/\((! f)->((! f)->(! f))/\((! f)->(! f))/\True)/\(f=false->(! f))/\ah (bif f then true else decide (gu IntKind.i64 (1:Int) (IntKind.wrap .i64 ((8:Int)*c))<=b)) (([]:List Int)=eC a b c/\(1:Int)=lC b c) (a.length*(1:Nat)<=(140737488355328:Nat)/\(∃(g:Int) (h:List Int),(0<=g/\g<=c/\h=a++ch b c.toNat g.toNat)/\b=b/\c=c/\IntKind.wrap .i64 (c -(1:Int))=c -(1:Int) -g/\a=h/\True)/\ ∀(g:Int)(h:List Int),0<=g/\g<=c/\h=a++ch b c.toNat g.toNat->ah (decide (0<=c -(1:Int) -g)) (0<=IntKind.wrap
 .i64 ((8:Int)*(c -(1:Int) -g))/\(h.length+List.length [IntKind.wrap .u8 (dR IntKind.i64 b (IntKind.wrap .i64 ((8:Int)*(c -(1:Int) -g))))])*(1:Nat)<=(140737488355328:Nat)/\ ∃(i:Int) (j:List Int),(0<=i/\i<=c/\j=a++ch b c.toNat i.toNat)/\Int.toNat (c -i)<Int.toNat (c -g)/\b=b/\c=c/\IntKind.wrap .i64 (c -(1:Int) -g -(1:Int))=c -(1:Int) -i/\h++[IntKind.wrap .u8 (dR IntKind.i64 b (IntKind.wrap .i64 ((8:Int)*(c -(1:Int) -g))))]=j/\True) (h=eC a b c/\(0:Int)=lC b c)):=by
  delta gV
  rintro b n w ⟨-,⟨n0,n1⟩,⟨w0,w1⟩,-⟩ hl
  rintro b1 rfl
  refine⟨by simp,by simp,?_⟩
  rintro b1 rfl
  refine⟨by simp,by simp,?_⟩
  rintro b1 rfl
  have hpre:(!(bif (bif decide (w<1) then true else decide (7<w)) then true else decide (n<0)))=true->1<=w/\w<=7/\0<=n:=by
   simp[Bool.cond_eq_ite];omega
  refine⟨by simp,fun h=>⟨fun _=>h,by have:=hpre h;rw[ad (by omega) (by omega)];omega,trivial⟩,fun h=>⟨fun _=>h,fun _=>h,trivial⟩,by simp,?_⟩
  refine aq (fun hc=>?_) (fun hc=>?_)
  ·have hbad:ik n w:=by
    unfold ik
    by_cases h:1<=w/\w<=7
    ·rw[w5 h.1 h.2] at hc
     simp[Bool.cond_eq_ite] at hc;omega
    ·omega
   rw[eC,lC,if_pos hbad,if_pos hbad];exact⟨rfl,rfl⟩
  ·have hw:1<=w/\w<=7/\0<=n:=hpre (by
    cases h:(bif (bif decide (w<1) then true else decide (7<w)) then true else decide (n<0)) with
    | false=>rfl
    | true=>rw[h] at hc;simp at hc)
   obtain⟨h1,h7,hn⟩:=hw
   rw[w5 h1 h7] at hc
   have hgood:¬ ik n w:=by
    unfold ik
    simp[Bool.cond_eq_ite] at hc;omega
   rw[eC,lC,if_neg hgood,if_neg hgood]
   refine⟨by omega,⟨0,b,⟨by omega,by omega,by simp[ch]⟩,rfl,rfl,by rw[ad (by omega) (by omega)];omega,rfl,trivial⟩,?_⟩
   rintro k ys ⟨k0,k1,rfl⟩
   refine aq (fun hk=>?_) (fun hk=>?_)
   ·have hk:=of_decide_eq_true hk
    rw[ad (n:=8*(w-1-k)) (by omega) (by omega)]
    obtain⟨j,hj⟩:=Int.eq_ofNat_of_zero_le (show 0<=w-1-k by omega)
    rw[hj,tE hn (by omega),IntKind.wrap_u8']
    have hbl:=jY n w.toNat k.toNat
    refine⟨by omega,by simp only[List.length_append,List.length_singleton,hbl];omega,k+1,_,⟨by omega,by omega,rfl⟩,by omega,rfl,rfl,by rw[ad (by omega) (by omega)];omega,?_,trivial⟩
    rw[show (k+1).toNat=k.toNat+1 from by omega,Ei,List.append_assoc,show w.toNat-1-k.toNat=j from by omega]
   ·have hk:=of_decide_eq_false hk
    rw[show k=w from by omega];exact⟨rfl,rfl⟩
theorem CF:aG Try.prog GL 87 wD.spec:=Ct.okH _ Try.func87 (by kernel_rfl) aP aD Cj (aQ (by kernel_rfl) Ez)
def tJ:Ct:=⟨[.val (.sl aV),.val cI,.val cI],[.own 5 aV],fun d=>[(d.1.length:Int)<=1099511627776],fun d=>((eC d.1 d.2.1 d.2.2.1,()),())⟩
def Di:aC tJ.ps->aN:=(fun _=>{})
theorem AN :
 ∀(a:List Int)(b c:Int),(gV a)/\ao b/\ao c/\True->(a.length:Int)<=1099511627776->(a.length:Int)<=1099511627776/\eC a b c=eC a b c:=by
  delta gV
  intro b n w _ h
  exact⟨h,rfl⟩
theorem wZ:aG Try.prog GL 71 tJ.spec:=Ct.okH _ Try.func71 (by kernel_rfl) (ay aP CF) aD Di (aQ (by kernel_rfl) AN)
def xl:Ct:=⟨[.val (.sl aV),.val cI,.val cI],[.val cI,.val cI],fun d=>[(d.1.length:Int)<=9223372036854775807],fun d=>((bj d.1 d.2.1 d.2.2.1,gt d.1 d.2.1 d.2.2.1,()),())⟩
def Be:aC xl.ps->aN:=(fun d=>{loops:=(fun n=>match n with|7=>some (fun S=>{ι:=Int×Int,qn:=⟨fun k_=>∀(j:Int)(n:Int),k_ (j,n),fun k_ h_ i=>h_ i.1 i.2,fun k_=>∃ (j:Int) (n:Int),k_ (j,n),fun k_ ⟨j,n,h_⟩=>⟨_,h_⟩⟩,μ:=fun i=>(d.2.2.1-i.1).toNat,inv:=fun i=>0<=i.1/\i.1<=d.2.2.1/\i.2=cO (((d.1.drop d.2.1.toNat).take d.2.2.1.toNat).take i.1.toNat),keep:=[0,1,2],slots:=fun i=>[(8,.int .i64 i.2),(9,.int .i64 i.1)],names:=fun i=>[]})|_=>none)})
theorem B8 :
 ∀(a:List Int)(b c:Int),(gV a)/\ao b/\ao c/\True->(a.length:Int)<=9223372036854775807-> ∀(d:Bool),d=decide (c<1)->((! d)->((! d)->(! d))/\True)/\(d=false->(! d))/\ ∀(e:Bool),(e=bif d then true else decide (7<c))->((! e)->((! e)->(! e))/\True)/\(e=false->(! e))/\ah (bif e then true else decide (b<0)) ((0:Int)=bj a b c/\(1:Int)=gt a b c) (∀(f:Bool),f=decide ((a.length:Int)<b)->((! f)->((! f)->(! f))/\True)/\((! f)->((! f)->(! f))/\((! f)->(! f))/\True)/\((! f)->((! f)->(! f))/\((! f)->(! f))/\True)/\(f=false->(! f))/\ah (bif f then true else decide (IntKind.wrap .i64 ((a.length:Int) -b)<c)) ((0:Int)=bj a b c/\(3:Int)=gt a b c) ((∃(g:Int) (h:Int),(0<=g/\g<=c/\h=cO (List.take g.toNat (je a b c)))/\a=a/\b=b/\c=c/\(0:Int)=h/\(0:Int)=g/\True)/\ ∀(g h:Int),0<=g/\g<=c/\h=cO (List.take g.toNat (je a b c))->ah (decide (g<c)) ((0:Int)<=8/\0<=IntKind.wrap .i64
 (b+g)/\IntKind.wrap .i64 (b+g)<(a.length:Int)/\ ∃(i:Int) (j:Int),(0<=i/\i<=c/\j=cO (List.take i.toNat (je a b c)))/\Int.toNat (c -i)<Int.toNat (c -g)/\a=a/\b=b/\c=c/\bits BinOp.or IntKind.i64 (gu IntKind.i64 h (8:Int)) (IntKind.wrap .i64 (a.getD (Int.toNat (IntKind.wrap .i64 (b+g))) default))=j/\IntKind.wrap .i64 (g+(1:Int))=i/\True) (h=bj a b c/\(0:Int)=gt a b c))):=by
  delta gV je
  rintro b a w ⟨⟨hl0,hx⟩,⟨a0,a1⟩,⟨w0,w1⟩,-⟩ hl
  rintro b1 rfl
  refine⟨by simp,by simp,?_⟩
  rintro b1 rfl
  refine⟨by simp,by simp,?_⟩
  unfold bj gt
  refine aq (fun hc=>?_) (fun hc=>?_)
  ·have h:w<1∨7<w∨a<0:=by simp[Bool.cond_eq_ite] at hc;omega
   rw[if_pos (by omega),if_pos h];exact⟨rfl,rfl⟩
  have h:¬ (w<1∨7<w∨a<0):=by simp[Bool.cond_eq_ite] at hc;omega
  rintro b1 rfl
  refine⟨by simp,by simp,by simp,by simp,?_⟩
  rw[ad (n:=(b.length:Int)-a) (by omega) (by omega),if_neg h]
  refine aq (fun hd=>?_) (fun hd=>?_)
  ·have hd:b.length<a∨b.length-a<w:=by simp[Bool.cond_eq_ite] at hd;omega
   rw[if_pos (by omega),if_pos (by omega)];exact⟨rfl,rfl⟩
  have hd:¬ (b.length<a∨b.length-a<w):=by simp[Bool.cond_eq_ite] at hd;omega
  rw[if_neg (by omega),if_neg (by omega)]
  have hlen:((b.drop a.toNat).take w.toNat).length=w.toNat:=by rw[List.length_take,List.length_drop];omega
  have hy:∀ y∈(b.drop a.toNat).take w.toNat,0<=y/\y<=255:=fun y hy=>hx y (List.mem_of_mem_drop (List.mem_of_mem_take hy))
  have hget:∀ j:Int,0<=j->j<w->b.getD (a+j).toNat default=((b.drop a.toNat).take w.toNat).getD j.toNat default:=by
   intro j j0 j1
   rw[List.getD_eq_getElem?_getD,List.getD_eq_getElem?_getD,List.getElem?_take,if_pos (by omega),List.getElem?_drop]
   congr 2;omega
  generalize (b.drop a.toNat).take w.toNat=m at *
  refine⟨⟨0,0,⟨by omega,by omega,by simp[cO]⟩,(by repeat' first|exact trivial|refine⟨trivial,?_⟩|refine⟨(by with_reducible rfl),?_⟩|refine⟨ad (by omega) (by omega),?_⟩|refine⟨rfl,?_⟩)⟩,?_⟩
  rintro j n ⟨j0,j1,rfl⟩
  refine aq (fun hj=>?_) (fun hj=>?_)
  ·have hj:=of_decide_eq_true hj
   have ht:=nq (l:=m) j0 (by omega)
   obtain⟨x0,x1⟩:=hy _ (ce (xs:=m) j0 (by omega))
   have hb:=r5 (l:=m.take j.toNat) (by rw[List.length_take];omega) (fun y h=>hy y (List.mem_of_mem_take h))
   rw[ad (n:=a+j) (by omega) (by omega),hget j j0 hj]
   refine⟨by omega,by omega,by omega,j+1,_,⟨by omega,by omega,rfl⟩,by omega,rfl,rfl,rfl,?_,ad (by omega) (by omega),trivial⟩
   rw[ht,rl,xr hb.1 (by omega) x0 x1]
  ·have hj:=of_decide_eq_false hj
   rw[List.take_of_length_le (by omega)];exact⟨rfl,rfl⟩
theorem BD:aG Try.prog GL 72 xl.spec:=Ct.okH _ Try.func72 (by kernel_rfl) aP aD Be (aQ (by kernel_rfl) B8)
def ta:Ct:=⟨[.val (.sl aV),.val cI,.val cI],[.val cI],fun d=>[(d.1.length:Int)<=9223372036854775807],fun d=>((bj d.1 d.2.1 d.2.2.1,()),())⟩
def Au:aC ta.ps->aN:=(fun _=>{})
theorem yu :
 ∀(a:List Int)(b c:Int),(gV a)/\ao b/\ao c/\True->(a.length:Int)<=9223372036854775807->(a.length:Int)<=9223372036854775807/\bj a b c=bj a b c:=by
  delta gV
  intro b n w _ h
  exact⟨h,rfl⟩
theorem nX:aG Try.prog GL 49 ta.spec:=Ct.okH _ Try.func49 (by kernel_rfl) (ay aP BD) aD Au (aQ (by kernel_rfl) yu)
def uf:Ct:=⟨[.val (.sl aV),.val (.sl aV)],[.val .bool],fun d=>[],fun d=>((decide (d.1=d.2.1),()),())⟩
def z3:aC uf.ps->aN:=(fun d=>{loops:=(fun n=>match n with|4=>some (fun S=>{ι:=Int,μ:=fun i=>(d.1.length-i).toNat,inv:=fun i=>0<=i/\i<=d.1.length/\d.1.take i.toNat=d.2.1.take i.toNat,keep:=[0,1],slots:=fun i=>[(5,.int .i64 i)],names:=fun i=>[]})|_=>none)})
theorem BA :
 ∀(a b:List Int),(a.length<=maxLen/\ ∀(c:Int),c∈a->0<=c/\c<=255)/\(b.length<=maxLen/\ ∀(c:Int),c∈b->0<=c/\c<=255)/\True->True->ah (! decide ((a.length:Int)=(b.length:Int))) (false=decide (a=b)) ((∃(c:Int),(0<=c/\c<=(a.length:Int)/\List.take c.toNat a=List.take c.toNat b)/\a=a/\b=b/\(0:Int)=c/\True)/\ ∀(c:Int),0<=c/\c<=(a.length:Int)/\List.take c.toNat a=List.take c.toNat b->ah (decide (c<(a.length:Int))) (0<=c/\c<(a.length:Int)/\0<=c/\c<(b.length:Int)/\ah (! decide (a.getD c.toNat default=b.getD c.toNat default)) (false=decide (a=b)) (∃(d:Int),(0<=d/\d<=(a.length:Int)/\List.take d.toNat a=List.take d.toNat b)/\Int.toNat ((a.length:Int) -d)<Int.toNat ((a.length:Int) -c)/\a=a/\b=b/\IntKind.wrap .i64 (c+(1:Int))=d/\True)) (true=decide (a=b))):=by
  rintro l m ⟨⟨hl,-⟩,⟨hm,-⟩,-⟩ -
  simp only[maxLen] at hl hm
  refine aq (fun hc=>?_) (fun hc=>?_)
  ·symm;apply decide_eq_false
   intro h;cases h;simp at hc
  ·have hc:l.length=m.length:=by simp at hc;omega
   refine⟨⟨0,⟨by omega,by omega,by simp⟩,(by repeat' first|exact trivial|refine⟨trivial,?_⟩|refine⟨(by with_reducible rfl),?_⟩|refine⟨ad (by omega) (by omega),?_⟩|refine⟨rfl,?_⟩)⟩,?_⟩
   rintro i ⟨h0,h1,h2⟩
   refine aq (fun hi=>?_) (fun hi=>?_)
   ·have hi:=of_decide_eq_true hi
    refine⟨h0,hi,h0,by omega,aq (fun hq=>?_) (fun hq=>?_)⟩
    ·symm;apply decide_eq_false
     intro h;cases h;simp at hq
    ·simp only[Bool.not_eq_false',decide_eq_true_eq] at hq
     refine⟨i+1,⟨by omega,by omega,?_⟩,by omega,(by repeat' first|exact trivial|refine⟨trivial,?_⟩|refine⟨(by with_reducible rfl),?_⟩|refine⟨ad (by omega) (by omega),?_⟩|refine⟨rfl,?_⟩)⟩
     rw[nq h0 hi,nq h0 (by omega),h2,hq]
   ·have hi:=of_decide_eq_false hi
    rw[List.take_of_length_le (by omega),List.take_of_length_le (by omega)] at h2
    symm;apply decide_eq_true;rw[h2]
theorem ur:aG Try.prog GL 36 uf.spec:=Ct.okH _ Try.func36 (by kernel_rfl) aP aD z3 (aQ (by kernel_rfl) BA)
end Go.RS

/- Xch0: what an exchange does: messages under way, what the receiver takes, a tick. -/
namespace Go.RS
open Go.SX Go.Proofs
set_option maxRecDepth 100000
set_option linter.unusedVariables false
abbrev af:=Int×Int×List Int
abbrev ax:=Int×List Int
abbrev a7:=Bool×Int×Int
abbrev aj:=Int×Int×Int×List (List Int)×Int×List (List Int)×List ax×List af×List af
abbrev a9:CT := .pair cI (.pair cI (.sl aV))
abbrev eh:CT := .pair cI (.sl aV)
abbrev fe:CT := .pair .bool (.pair cI cI)
abbrev aS:CT := .pair cI (.pair cI (.pair cI (.pair (.sl (.sl aV)) (.pair cI (.pair (.sl (.sl aV)) (.pair (.sl eh) (.pair (.sl a9) (.sl a9))))))))
def ab(c:aj):Int:=c.1
def a8(c:aj):Int:=c.2.1
def ak(c:aj):Int:=c.2.2.1
def ae(c:aj):List (List Int):=c.2.2.2.1
def az(c:aj):Int:=c.2.2.2.2.1
def aF(c:aj):List (List Int):=c.2.2.2.2.2.1
def aH(c:aj):List ax:=c.2.2.2.2.2.2.1
def aJ(c:aj):List af:=c.2.2.2.2.2.2.2.1
def ba(c:aj):List af:=c.2.2.2.2.2.2.2.2
def aA(b:List Int)(at':Int):Int:=bj b at' 2
def bF(i:Int)(it:List Int):List Int:=68::(ch i 2 2++it)
def dA:List Int->List Int
 | []=>[]
 | i::r=>ch i 2 2++dA r
def br(g:Int)(es:List Int):List Int:=65::(ch g 2 2++dA es)
def cJ:List Int->List Int
 | a::b::r=>(a*256+b)::cJ r
 | _=>[]
def u16(i:Int):Prop:=0<=i/\i<=65535
theorem fN(i:Int):ch i 2 2=[i/256%256,i%256]:=by
 unfold ch
 simp[List.range_succ]
theorem qo(a b:Int):cO [a,b]=a*256+b:=by unfold cO;simp
theorem wB{i:Int}(h:u16 i):cO (ch i 2 2)=i:=by
 unfold u16 at h
 rw[fN,qo];omega
theorem mE{b:List Int}{n:Nat}(h:n+2<=b.length):aA b n=cO ((b.drop n).take 2):=by
 unfold aA bj
 rw[if_neg (by omega)]
 rfl
theorem re{i:Int}(h:u16 i)(it:List Int):aA (bF i it) 1=i:=by
 rw[show (1:Int)=((1:Nat):Int) from rfl,mE (by unfold bF;rw[List.length_cons,List.length_append,jY];omega)]
 unfold bF
 rw[fN]
 show cO [i/256%256,i%256]=i
 rw[← fN,wB h]
theorem EE(i:Int)(it:List Int):(bF i it).drop 3=it:=by
 unfold bF;rw[fN];rfl
theorem mI(i:Int)(it:List Int):(bF i it).length=it.length+3:=by
 unfold bF;rw[fN];rfl
theorem uE:∀ es:List Int,(dA es).length=2*es.length
 | []=>rfl
 | i::r=>by rw[dA,List.length_append,jY,uE r,List.length_cons];omega
theorem kB(g:Int)(es:List Int):(br g es).length=3+2*es.length:=by
 unfold br;rw[List.length_cons,List.length_append,jY,uE];omega
theorem mH{g:Int}(h:u16 g)(es:List Int):aA (br g es) 1=g:=by
 rw[show (1:Int)=((1:Nat):Int) from rfl,mE (by rw[kB];omega)]
 unfold br
 rw[fN]
 show cO [g/256%256,g%256]=g
 rw[← fN,wB h]
theorem rz(g:Int)(es:List Int):(br g es).drop 3=dA es:=by
 unfold br;rw[fN];rfl
theorem v6:∀{es:List Int},(∀ e∈es,u16 e)->cJ (dA es)=es
 | [],_=>rfl
 | i::r,h=>by
  have h0:=h i List.mem_cons_self
  unfold u16 at h0
  rw[dA,fN]
  show (i/256%256*256+i%256)::cJ (dA r)=_
  rw[v6 fun e he=>h e (List.mem_cons_of_mem _ he),show i/256%256*256+i%256=i by omega]
def bX(l:List af)(t:af):List af:=(l.takeWhile fun x=>decide (x.1<=t.1))++t::l.dropWhile fun x=>decide (x.1<=t.1)
def bA(now d:Int)(b:List Int):Nat->Int->Int×List af->Int×List af
 | 0,_,s=>s
 | n+1,k,s=>if s.2.length<4096 then bA now d b n (k+1) (s.1+1,bX s.2 (now+1+d+k,s.1,b)) else s
def bg(now:Int)(b:List Int)(f:a7)(s:Int×List af):Int×List af:=if f.1=true then s else bA now f.2.1 b (f.2.2+1).toNat 0 s
def bi(l:List a7)(i:Nat):a7:=l.getD i (false,0,0)
def dQ(l:List a7):Prop:=∀ f∈l,(0<=f.2.1/\f.2.1<=1000)/\0<=f.2.2/\f.2.2<=8
def bZ:List ax->List (List Int)->List (List Int)×List ax
 | [],g=>(g,[])
 | x::r,g=>if x.1=g.length then bZ r (g++[x.2]) else (g,x::r)
def cW(l:List ax)(x:ax):List ax:=(l.takeWhile fun y=>decide (y.1<x.1))++x::l.dropWhile fun y=>decide (y.1<x.1)
def cd(lim:Int)(s:List (List Int)×List ax)(i:Int)(it:List Int):List (List Int)×List ax :=
 if i=s.1.length then bZ s.2 (s.1++[it]) else if i<s.1.length∨lim<=i∨(s.2.any fun x=>decide (x.1=i))=true then s else (s.1,cW s.2 (i,it))
def am(now:Int)(l:List af):List af:=l.takeWhile fun t=>decide (t.1<=now)
def aX(now:Int)(l:List af):List af:=l.dropWhile fun t=>decide (t.1<=now)
def bU(lim:Int)(l:List af)(s:List (List Int)×List ax):List (List Int)×List ax:=l.foldl (fun s t=>cd lim s (aA t.2.2 1) (t.2.2.drop 3)) s
def bV(now:Int)(log:List (List Int))(down:List a7):List Int->Nat->Int×List af->Int×List af
 | [],_,s=>s
 | i::r,j,s=>bV now log down r (j+1) (bg now (bF i (log.getD i.toNat default)) (bi down j) s)
def dU(a b:Int):List Int:=(List.range (b-a).toNat).map fun k:Nat=>a+(k:Int)
def bD(k:Int)(l:List af):Int:=l.foldl (fun k t=>max k (aA t.2.2 1)) k
def bK(l:List af):List Int:=l.flatMap fun t=>cJ (t.2.2.drop 3)
def aO(c:aj):List (List Int)×List ax:=bU (az c+ak c) (am (ab c+1) (aJ c)) (aF c,aH c)
def au(c:aj)(up:List a7):Int×List af:=if am (ab c+1) (aJ c)=[] then (a8 c,ba c) else bg (ab c+1) (br ((aO c).1.length:Int) ((aO c).2.map (·.1))) (bi up 0) (a8 c,ba c)
def dq(c:aj)(up:List a7):List af:=am (ab c+1) (au c up).2
def aE(c:aj)(up:List a7):Int:=bD (az c) (dq c up)
def dV(c:aj)(up:List a7):List Int:=(dU (aE c up) (min ((ae c).length:Int) (aE c up+ak c))).filter fun i => !(bK (dq c up)).contains i
def cV(c:aj)(down up:List a7):Int×List af:=bV (ab c+1) (ae c) down (dV c up) 0 ((au c up).1,aX (ab c+1) (aJ c))
def bh(c:aj)(down up:List a7):aj :=
 (ab c+1,(cV c down up).1,ak c,ae c,aE c up,(aO c).1,(aO c).2,(cV c down up).2,aX (ab c+1) (au c up).2)
def bm:Nat->aj->aj
 | 0,c=>c
 | n+1,c=>bm n (bh c [] [])
theorem um:∀(m n:Nat)(c:aj),bm n (bm m c)=bm (m+n) c
 | 0,n,c=>by rw[Nat.zero_add];rfl
 | m+1,n,c=>by rw[Nat.succ_add];exact um m n (bh c [] [])
theorem iy:∀(n:Nat)(c:aj),bm (n+1) c=bh (bm n c) [] []
 | 0,c=>rfl
 | n+1,c=>iy n (bh c [] [])
def hY(c:aj)(it:List Int):aj:=(ab c,a8 c,ak c,ae c++[it],az c,aF c,aH c,aJ c,ba c)
def fx(w:Int):aj:=(0,0,w,[],0,[],[],[],[])
def u6(c:aj):Bool:=decide ((aF c).length=(ae c).length)&&decide (az c=(ae c).length)
theorem mem_range{a b i:Int}:i∈dU a b↔a<=i/\i<b:=by
 unfold dU
 rw[List.mem_map]
 constructor
 ·rintro⟨k,hk,rfl⟩
  have:=List.mem_range.1 hk
  omega
 ·intro h
  exact⟨(i-a).toNat,List.mem_range.2 (by omega),by omega⟩
end Go.RS

/- Xch1: what holds of a channel that items and ticks lead to. -/
namespace Go.RS
open Go.SX Go.Proofs
set_option maxRecDepth 100000
set_option linter.unusedVariables false
structure cF (now ord:Int) (l:List af):Prop where
 s:l.Pairwise fun a b=>a.1<b.1∨a.1=b.1/\a.2.1<b.2.1
 r:∀ t∈l,(now<t.1/\t.1<=now+2000)/\0<=t.2.1/\t.2.1<ord
 n:l.length<=4096
theorem i7{l:List af}{t x:af}:x∈bX l t↔x=t∨x∈l:=by
 have e:∀ y,y∈l↔y∈(l.takeWhile fun x=>decide (x.1<=t.1))∨y∈(l.dropWhile fun x=>decide (x.1<=t.1)):=fun y=>by
  rw[← List.mem_append,List.takeWhile_append_dropWhile]
 rw[e x]
 unfold bX
 rw[List.mem_append,List.mem_cons]
 constructor
 ·rintro (h|h|h)
  ·exact .inr (.inl h)
  ·exact .inl h
  ·exact .inr (.inr h)
 ·rintro (h|h|h)
  ·exact .inr (.inl h)
  ·exact .inl h
  ·exact .inr (.inr h)
theorem lX(l:List af)(t:af):(bX l t).length=l.length+1:=by
 have e:l.length=((l.takeWhile fun x=>decide (x.1<=t.1))++(l.dropWhile fun x=>decide (x.1<=t.1))).length:=by rw[List.takeWhile_append_dropWhile]
 rw[List.length_append] at e
 unfold bX
 rw[List.length_append,List.length_cons]
 omega
theorem nC{α:Type}{p:α->Bool}:∀{l:List α}{y:α}{r:List α},l.dropWhile p=y::r->p y=false
 | a::l,y,r,h=>by
  cases ha:p a with
  | true=>rw[List.dropWhile_cons_of_pos ha] at h;exact nC h
  | false =>
   rw[List.dropWhile_cons_of_neg (by simp[ha]),List.cons.injEq] at h
   rw[← h.1];exact ha
theorem ol{α:Type}{p:α->Bool}:∀{l:List α}{x:α},x∈l.takeWhile p->p x=true
 | a::l,x,h=>by
  cases ha:p a with
  | true =>
   rw[List.takeWhile_cons_of_pos ha] at h
   rcases List.mem_cons.1 h with rfl|h
   ·exact ha
   ·exact ol h
  | false=>rw[List.takeWhile_cons_of_neg (by simp[ha])] at h;cases h
theorem uv{l:List af}{t:af}(h:l.Pairwise fun a b=>a.1<b.1∨a.1=b.1/\a.2.1<b.2.1)(ho:∀ x∈l,x.2.1<t.2.1) :
  (bX l t).Pairwise fun a b=>a.1<b.1∨a.1=b.1/\a.2.1<b.2.1:=by
 have e:=List.takeWhile_append_dropWhile (p:=fun x:af=>decide (x.1<=t.1)) (l:=l)
 rw[← e,List.pairwise_append] at h
 obtain⟨h1,h2,h3⟩:=h
 have hd:∀ y∈(l.dropWhile fun x=>decide (x.1<=t.1)),t.1<y.1:=by
  intro y hy
  cases q:(l.dropWhile fun x=>decide (x.1<=t.1)) with
  | nil=>rw[q] at hy;cases hy
  | cons z r =>
   have hz:¬ z.1<=t.1:=of_decide_eq_false (nC (p:=fun x:af=>decide (x.1<=t.1)) q)
   rw[q] at hy h2
   rcases List.mem_cons.1 hy with rfl|hy
   ·omega
   ·rcases (List.pairwise_cons.1 h2).1 y hy with k|k <;> omega
 unfold bX
 rw[List.pairwise_append]
 refine⟨h1,List.pairwise_cons.2 ⟨fun y hy=>.inl (hd y hy),h2⟩,fun a ha b hb=>?_⟩
 rcases List.mem_cons.1 hb with rfl|hb
 ·have h4:a.1<=b.1:=of_decide_eq_true (ol (p:=fun x:af=>decide (x.1<=b.1)) ha)
  have h5:=ho a (by rw[← e];exact List.mem_append_left _ ha)
  by_cases k:a.1<b.1
  ·exact .inl k
  ·exact .inr ⟨by omega,h5⟩
 ·exact h3 a ha b hb
theorem wz{n0 now d:Int}{b:List Int}(h0:n0<=now/\now<=n0+1)(hd:0<=d/\d<=1000):∀(n:Nat)(k:Int){o:Int}{l:List af},0<=k->k+n<=900->0<=o->cF n0 o l →
  cF n0 (bA now d b n k (o,l)).1 (bA now d b n k (o,l)).2/\o<=(bA now d b n k (o,l)).1/\(bA now d b n k (o,l)).1<=o+n/\(∀ t∈(bA now d b n k (o,l)).2,t∈l∨t.2.2=b)∧∀ t∈l,t∈(bA now d b n k (o,l)).2
 | 0,k,o,l,hk,hn,ho,h=>⟨h,Int.le_refl _,by simp[bA],fun t ht=>.inl ht,fun t ht=>ht⟩
 | n+1,k,o,l,hk,hn,ho,h=>by
  rw[bA]
  dsimp only
  split
  ·rename_i hl
   have hl:l.length<4096:=hl
   have h2:cF n0 (o+1) (bX l (now+1+d+k,o,b)):=by
    refine⟨uv h.s fun x hx=>(h.r x hx).2.2,fun t ht=>?_,by rw[lX];omega⟩
    rcases i7.1 ht with rfl|ht
    ·exact⟨⟨by show n0<now+1+d+k;omega,by show now+1+d+k<=_;omega⟩,by show 0<=o;omega,by show o<o+1;omega⟩
    ·obtain⟨q1,q2,q3⟩:=h.r t ht
     exact⟨q1,q2,by omega⟩
   obtain⟨i1,i2,i3,i4,i5⟩:=wz h0 hd n (k+1) (by omega) (by omega) (by omega) h2
   refine⟨i1,by omega,by omega,fun t ht=>?_,fun t ht=>i5 t (i7.2 (.inr ht))⟩
   rcases i4 t ht with q|q
   ·rcases i7.1 q with rfl|q
    ·exact .inr rfl
    ·exact .inl q
   ·exact .inr q
  ·exact⟨h,Int.le_refl _,by show o<=_;omega,fun t ht=>.inl ht,fun t ht=>ht⟩
def fZ(f:a7):Prop:=(0<=f.2.1/\f.2.1<=1000)/\0<=f.2.2/\f.2.2<=8
theorem oA{n0 now:Int}{b:List Int}(h0:n0<=now/\now<=n0+1){f:a7}(hf:fZ f){o:Int}{l:List af}(ho:0<=o)(h:cF n0 o l) :
  cF n0 (bg now b f (o,l)).1 (bg now b f (o,l)).2/\o<=(bg now b f (o,l)).1/\(bg now b f (o,l)).1<=o+9/\(∀ t∈(bg now b f (o,l)).2,t∈l∨t.2.2=b)∧∀ t∈l,t∈(bg now b f (o,l)).2:=by
 unfold bg
 obtain⟨f1,f2⟩:=hf
 split
 ·exact⟨h,Int.le_refl _,by show o<=_;omega,fun t ht=>.inl ht,fun t ht=>ht⟩
 ·obtain⟨i1,i2,i3,i4,i5⟩:=wz (b:=b) h0 f1 (f.2.2+1).toNat 0 (Int.le_refl _) (by omega) ho h
  exact⟨i1,i2,by omega,i4,i5⟩
theorem iR{l:List a7}(h:dQ l)(i:Nat):fZ (bi l i):=by
 unfold bi
 by_cases hi:i<l.length
 ·rw[List.getD_eq_getElem?_getD,List.getElem?_eq_getElem hi]
  exact h _ (List.getElem_mem hi)
 ·rw[List.getD_eq_getElem?_getD,List.getElem?_eq_none (by omega)]
  exact⟨by decide,by decide,by decide⟩
structure lH (log:List (List Int)) (lim g:Int) (l:List ax):Prop where
 s:l.Pairwise fun a b=>a.1<b.1
 r:∀ x∈l,(g<x.1/\x.1<log.length)/\x.1<lim/\x.2=log.getD x.1.toNat default
structure ir (log:List (List Int)) (lim:Int) (s:List (List Int)×List ax):Prop where
 n:s.1.length<=log.length
 g:s.1=log.take s.1.length
 e:lH log lim s.1.length s.2
def ft(s:List (List Int)×List ax)(i:Int):Prop:=i<s.1.length∨∃ x∈s.2,x.1=i
theorem r9{log g:List (List Int)}(hn:g.length<log.length)(hg:g=log.take g.length):g++[log.getD g.length default]=log.take (g.length+1):=by
 have e:log.getD g.length default=log[g.length]:=by rw[List.getD_eq_getElem?_getD,List.getElem?_eq_getElem hn];rfl
 rw[e,List.take_add_one,List.getElem?_eq_getElem hn,← hg];rfl
theorem uT{log:List (List Int)}{lim:Int}:∀{l:List ax}{g:List (List Int)},g.length<=log.length->g=log.take g.length->lH log lim (g.length-1) l →
  ir log lim (bZ l g)/\g.length<=(bZ l g).1.length∧∀ i,ft (g,l) i->ft (bZ l g) i
 | [],g,hn,hg,he=>⟨⟨hn,hg,⟨List.Pairwise.nil,fun x hx=>(by cases hx)⟩⟩,Nat.le_refl _,fun i h=>h⟩
 | x::r,g,hn,hg,he=>by
  have hx:=he.r x List.mem_cons_self
  have hs:=List.pairwise_cons.1 he.s
  rw[bZ]
  split
  ·rename_i e
   have hl:g.length<log.length:=by omega
   have ed:x.2=log.getD g.length default:=by rw[hx.2.2,e];rfl
   have e2:g++[x.2]=log.take (g++[x.2]).length:=by rw[List.length_append,ed];exact r9 hl hg
   have en:(g++[x.2]).length=g.length+1:=by rw[List.length_append];rfl
   obtain⟨i1,i2,i3⟩:=uT (l:=r) (g:=g++[x.2]) (by omega) e2 ⟨hs.2,fun y hy=>by
    have h1:=hs.1 y hy
    obtain⟨⟨q1,q2⟩,q3⟩:=he.r y (List.mem_cons_of_mem _ hy)
    exact⟨⟨by omega,q2⟩,q3⟩⟩
   refine⟨i1,by omega,fun i h=>i3 i ?_⟩
   rcases h with h|⟨y,hy,h⟩
   ·exact .inl (by show i<((g++[x.2]).length:Int);have h:i<(g.length:Int):=h;omega)
   ·rcases List.mem_cons.1 hy with rfl|hy
    ·exact .inl (by show i<((g++[y.2]).length:Int);omega)
    ·exact .inr ⟨y,hy,h⟩
  ·rename_i e
   refine⟨⟨hn,hg,⟨he.s,fun y hy=>?_⟩⟩,Nat.le_refl _,fun i h=>h⟩
   obtain⟨⟨q1,q2⟩,q3⟩:=he.r y hy
   refine⟨⟨?_,q2⟩,q3⟩
   show (g.length:Int)<y.1
   rcases List.mem_cons.1 hy with rfl|hy
   ·omega
   ·have:=hs.1 y hy;omega
theorem rq{l:List ax}{t x:ax}:x∈cW l t↔x=t∨x∈l:=by
 have e:∀ y,y∈l↔y∈(l.takeWhile fun x=>decide (x.1<t.1))∨y∈(l.dropWhile fun x=>decide (x.1<t.1)):=fun y=>by
  rw[← List.mem_append,List.takeWhile_append_dropWhile]
 rw[e x]
 unfold cW
 rw[List.mem_append,List.mem_cons]
 constructor
 ·rintro (h|h|h)
  ·exact .inr (.inl h)
  ·exact .inl h
  ·exact .inr (.inr h)
 ·rintro (h|h|h)
  ·exact .inr (.inl h)
  ·exact .inl h
  ·exact .inr (.inr h)
theorem CH{l:List ax}{t:ax}(h:l.Pairwise fun a b=>a.1<b.1)(hn:∀ x∈l,x.1≠t.1):(cW l t).Pairwise fun a b=>a.1<b.1:=by
 have e:=List.takeWhile_append_dropWhile (p:=fun x:ax=>decide (x.1<t.1)) (l:=l)
 have hm:∀ y∈(l.dropWhile fun x=>decide (x.1<t.1)),y∈l:=fun y hy=>by rw[← e];exact List.mem_append_right _ hy
 rw[← e,List.pairwise_append] at h
 obtain⟨h1,h2,h3⟩:=h
 have hd:∀ y∈(l.dropWhile fun x=>decide (x.1<t.1)),t.1<y.1:=by
  intro y hy
  have h0:=hn y (hm y hy)
  cases q:(l.dropWhile fun x=>decide (x.1<t.1)) with
  | nil=>rw[q] at hy;cases hy
  | cons z r =>
   have hz:¬ z.1<t.1:=of_decide_eq_false (nC (p:=fun x:ax=>decide (x.1<t.1)) q)
   rw[q] at hy h2
   rcases List.mem_cons.1 hy with rfl|hy
   ·omega
   ·have:=(List.pairwise_cons.1 h2).1 y hy;omega
 unfold cW
 rw[List.pairwise_append]
 refine⟨h1,List.pairwise_cons.2 ⟨fun y hy=>hd y hy,h2⟩,fun a ha b hb=>?_⟩
 rcases List.mem_cons.1 hb with rfl|hb
 ·exact of_decide_eq_true (ol (p:=fun x:ax=>decide (x.1<b.1)) ha)
 ·exact h3 a ha b hb
theorem yQ{log:List (List Int)}{lim:Int}{s:List (List Int)×List ax}(h:ir log lim s){i:Int}(hi:0<=i/\i<log.length) :
  ir log lim (cd lim s i (log.getD i.toNat default))/\s.1.length<=(cd lim s i (log.getD i.toNat default)).1.length/\(∀ j,ft s j->ft (cd lim s i (log.getD i.toNat default)) j)/\(i<lim->ft (cd lim s i (log.getD i.toNat default)) i):=by
 obtain⟨g,l⟩:=s
 obtain⟨hn,hg,he⟩:=h
 have hn:g.length<=log.length:=hn
 have hg:g=log.take g.length:=hg
 have he:lH log lim g.length l:=he
 unfold cd
 dsimp only
 split
 ·rename_i e
  have hl:g.length<log.length:=by omega
  have ei:log.getD i.toNat default=log.getD g.length default:=by rw[e];rfl
  rw[ei]
  have en:(g++[log.getD g.length default]).length=g.length+1:=by rw[List.length_append];rfl
  have e2:g++[log.getD g.length default]=log.take (g++[log.getD g.length default]).length:=by rw[en];exact r9 hl hg
  obtain⟨i1,i2,i3⟩:=uT (lim:=lim) (l:=l) (by omega) e2 ⟨he.s,fun y hy=>by
   obtain⟨⟨q1,q2⟩,q3⟩:=he.r y hy
   exact⟨⟨by omega,q2⟩,q3⟩⟩
  refine⟨i1,by omega,fun j h=>i3 j ?_,fun _=>.inl (by omega)⟩
  rcases h with h|h
  ·exact .inl (by show j<((g++[log.getD g.length default]).length:Int);have h:j<(g.length:Int):=h;omega)
  ·exact .inr h
 ·rename_i e
  split
  ·rename_i k
   refine⟨⟨hn,hg,he⟩,Nat.le_refl _,fun j h=>h,fun hl=>?_⟩
   rcases k with k|k|k
   ·exact .inl k
   ·omega
   ·obtain⟨x,hx,q⟩:=List.any_eq_true.1 k
    exact .inr ⟨x,hx,of_decide_eq_true q⟩
  ·rename_i k
   have k1:¬ i<g.length:=fun q=>k (.inl q)
   have k2:¬ lim<=i:=fun q=>k (.inr (.inl q))
   have k3:∀ x∈l,x.1≠i:=fun x hx q=>k (.inr (.inr (List.any_eq_true.2 ⟨x,hx,decide_eq_true q⟩)))
   refine⟨⟨hn,hg,CH he.s k3,fun x hx=>?_⟩,Nat.le_refl _,fun j h=>?_,fun _=>.inr ⟨_,rq.2 (.inl rfl),rfl⟩⟩
   ·rcases rq.1 hx with rfl|hx
    ·exact⟨⟨by show (g.length:Int)<i;omega,hi.2⟩,by show i<lim;omega,rfl⟩
    ·exact he.r x hx
   ·rcases h with h|⟨x,hx,h⟩
    ·exact .inl h
    ·exact .inr ⟨x,rq.2 (.inr hx),h⟩
end Go.RS

/- Xch2: a tick keeps a channel in order. -/
namespace Go.RS
open Go.SX Go.Proofs
set_option maxRecDepth 100000
set_option linter.unusedVariables false
def iG(log:List (List Int))(t:af):Prop:=∃ i:Int,(0<=i/\i<log.length)/\t.2.2=bF i (log.getD i.toNat default)
def fc(log:List (List Int))(s:List (List Int)×List ax)(t:af):Prop :=
 ∃ (g:Int) (es:List Int),t.2.2=br g es/\(0<=g/\g<=s.1.length)/\es.Pairwise (fun a b=>a<b)∧∀ e∈es,(g<e/\e<log.length)/\ft s e
structure XI (c:aj):Prop where
 now:0<=ab c
 ord:0<=a8 c
 win:1<=ak c/\ak c<=64
 log:(ae c).length<=1024
 it:∀ b∈ae c,(b.length:Int)<=6000
 kn:0<=az c/\az c<=(aF c).length
 rc:ir (ae c) (az c+ak c) (aF c,aH c)
 dn:cF (ab c) (a8 c) (aJ c)
 dd:∀ t∈aJ c,iG (ae c) t
 up:cF (ab c) (a8 c) (ba c)
 ud:∀ t∈ba c,fc (ae c) (aF c,aH c) t
theorem fc.more{log:List (List Int)}{s s':List (List Int)×List ax}{t:af}(h:fc log s t)(h1:s.1.length<=s'.1.length)(h2:∀ j,ft s j->ft s' j):fc log s' t:=by
 obtain⟨g,es,a,b,c,d⟩:=h
 exact⟨g,es,a,⟨b.1,by omega⟩,c,fun e he=>⟨(d e he).1,h2 e (d e he).2⟩⟩
theorem cF.more{now ord ord':Int}{l:List af}(h:cF now ord l)(ho:ord<=ord'):cF now ord' l:=⟨h.s,fun t ht=>by
 obtain⟨a,b,c⟩:=h.r t ht
 exact⟨a,b,by omega⟩,h.n⟩
theorem jM{now:Int}{l:List af}{t:af}(h:t∈am now l):t∈l/\t.1<=now:=by
 refine⟨?_,of_decide_eq_true (ol (p:=fun x:af=>decide (x.1<=now)) h)⟩
 rw[← List.takeWhile_append_dropWhile (p:=fun x:af=>decide (x.1<=now)) (l:=l)]
 exact List.mem_append_left _ h
theorem mo{now ord n0:Int}{l:List af}(h:cF n0 ord l){t:af}:t∈aX now l↔t∈l/\now<t.1:=by
 have e:=List.takeWhile_append_dropWhile (p:=fun x:af=>decide (x.1<=now)) (l:=l)
 constructor
 ·intro ht
  have hs:=h.s
  refine⟨by rw[← e];exact List.mem_append_right _ ht,?_⟩
  rw[← e,List.pairwise_append] at hs
  unfold aX at ht
  cases q:(l.dropWhile fun x=>decide (x.1<=now)) with
  | nil=>rw[q] at ht;cases ht
  | cons z r =>
   have hz:¬ z.1<=now:=of_decide_eq_false (nC (p:=fun x:af=>decide (x.1<=now)) q)
   have h2:=hs.2.1
   rw[q] at ht h2
   rcases List.mem_cons.1 ht with rfl|ht
   ·omega
   ·rcases (List.pairwise_cons.1 h2).1 t ht with k|k <;> omega
 ·rintro⟨h1,h2⟩
  rw[← e] at h1
  rcases List.mem_append.1 h1 with k|k
  ·have:=(jM (now:=now) k).2;omega
  ·exact k
theorem nO{now ord n0:Int}(hn:n0<=now){l:List af}(h:cF n0 ord l):cF now ord (aX now l):=by
 refine⟨?_,fun t ht=>?_,?_⟩
 ·have hs:=h.s
  rw[← List.takeWhile_append_dropWhile (p:=fun x:af=>decide (x.1<=now)) (l:=l),List.pairwise_append] at hs
  exact hs.2.1
 ·obtain⟨a,b⟩:=(mo h).1 ht
  obtain⟨c,d⟩:=h.r t a
  exact⟨⟨b,by omega⟩,d⟩
 ·have:=(List.dropWhile_sublist (l:=l) (fun x:af=>decide (x.1<=now))).length_le
  have hn:=h.n
  show (l.dropWhile _).length<=4096
  omega
theorem jX{log:List (List Int)}{lim:Int}(hl:log.length<=1024):∀{l:List af}{s:List (List Int)×List ax},ir log lim s->(∀ t∈l,iG log t) →
  ir log lim (bU lim l s)/\s.1.length<=(bU lim l s).1.length/\(∀ j,ft s j->ft (bU lim l s) j)∧∀ t∈l,aA t.2.2 1<lim->ft (bU lim l s) (aA t.2.2 1)
 | [],s,h,_=>⟨h,Nat.le_refl _,fun j q=>q,fun t ht=>(by cases ht)⟩
 | t::r,s,h,hd=>by
  obtain⟨i,hi,e⟩:=hd t List.mem_cons_self
  have e1:aA t.2.2 1=i:=by rw[e];exact re ⟨by omega,by omega⟩ _
  have e2:t.2.2.drop 3=log.getD i.toNat default:=by rw[e];exact EE _ _
  obtain⟨k1,k2,k3,k4⟩:=yQ h hi
  have er:bU lim (t::r) s=bU lim r (cd lim s i (log.getD i.toNat default)):=by
   show bU lim r (cd lim s (aA t.2.2 1) (t.2.2.drop 3))=_
   rw[e1,e2]
  obtain⟨m1,m2,m3,m4⟩:=jX hl (l:=r) k1 fun x hx=>hd x (List.mem_cons_of_mem _ hx)
  rw[er]
  refine⟨m1,by omega,fun j q=>m3 j (k3 j q),fun x hx hlx=>?_⟩
  rcases List.mem_cons.1 hx with rfl|hx
  ·rw[e1] at hlx ⊢
   exact m3 i (k4 hlx)
  ·exact m4 x hx hlx
theorem vd{now:Int}{log:List (List Int)}{down:List a7}(hv:dQ down):∀(todo:List Int)(j:Nat){o:Int}{l:List af},(∀ i∈todo,0<=i/\i<log.length)->0<=o->cF now o l->(∀ t∈l,iG log t) →
  cF now (bV now log down todo j (o,l)).1 (bV now log down todo j (o,l)).2/\o<=(bV now log down todo j (o,l)).1/\(bV now log down todo j (o,l)).1<=o+9*todo.length/\(∀ t∈(bV now log down todo j (o,l)).2,iG log t)∧∀ t∈l,t∈(bV now log down todo j (o,l)).2
 | [],j,o,l,_,ho,h,hd=>⟨h,Int.le_refl _,by show o<=_;omega,hd,fun t ht=>ht⟩
 | i::r,j,o,l,hi,ho,h,hd=>by
  obtain⟨k1,k2,k3,k4,k5⟩:=oA (b:=bF i (log.getD i.toNat default)) ⟨Int.le_refl _,by omega⟩ (iR hv j) ho h
  rw[bV]
  generalize bg now (bF i (log.getD i.toNat default)) (bi down j) (o,l)=s at *
  obtain⟨o2,l2⟩:=s
  obtain⟨m1,m2,m3,m4,m5⟩:=vd hv r (j+1) (o:=o2) (l:=l2) (fun x hx=>hi x (List.mem_cons_of_mem _ hx)) (by have k2:o<=o2:=k2;omega) k1 (fun t ht=>by
   rcases k4 t ht with q|q
   ·exact hd t q
   ·exact⟨i,hi i List.mem_cons_self,q⟩)
  have k2:o<=o2:=k2
  have k3:o2<=o+9:=k3
  exact⟨m1,by omega,by rw[List.length_cons];omega,m4,fun t ht=>m5 t (k5 t ht)⟩
theorem pf{log:List (List Int)}{s:List (List Int)×List ax}(hs:s.1.length<=1024):∀{l:List af}{k:Int},0<=k->k<=s.1.length->(∀ t∈l,fc log s t)->k<=bD k l/\bD k l<=s.1.length
 | [],k,h0,h1,_=>⟨Int.le_refl _,h1⟩
 | t::r,k,h0,h1,h=>by
  obtain⟨g,es,e,hg,-⟩:=h t List.mem_cons_self
  have em:aA t.2.2 1=g:=by rw[e];exact mH ⟨by omega,by omega⟩ _
  obtain⟨a,b⟩:=pf hs (l:=r) (k:=max k g) (by omega) (by omega) fun x hx=>h x (List.mem_cons_of_mem _ hx)
  show k<=bD (max k (aA t.2.2 1)) r/\bD (max k (aA t.2.2 1)) r<=s.1.length
  rw[em]
  exact⟨by omega,b⟩
theorem XI.tick{c:aj}(h:XI c){down up:List a7}(hd:dQ down)(hu:dQ up) :
  XI (bh c down up)/\(aF c).length<=(aF (bh c down up)).length/\az c<=az (bh c down up)/\a8 (bh c down up)<=a8 c+585:=by
 obtain⟨r1,r2,r3,r4⟩:=jX h.log (l:=am (ab c+1) (aJ c)) h.rc fun t ht=>h.dd t (jM ht).1
 have eG:aO c=bU (az c+ak c) (am (ab c+1) (aJ c)) (aF c,aH c):=rfl
 rw[← eG] at r1 r2 r3 r4
 have r2:(aF c).length<=(aO c).1.length:=r2
 have hgl:=r1.n
 have hlog:=h.log
 have hwin:=h.win
 have hkn:=h.kn
 have aU:cF (ab c) (au c up).1 (au c up).2/\a8 c<=(au c up).1/\(au c up).1<=a8 c+9∧∀ t∈(au c up).2,fc (ae c) (aO c) t:=by
  have old:∀ t∈ba c,fc (ae c) (aO c) t:=fun t ht=>(h.ud t ht).more r2 r3
  unfold au
  split
  ·exact⟨h.up,Int.le_refl _,by show a8 c<=_;omega,old⟩
  ·obtain⟨k1,k2,k3,k4,-⟩:=oA (n0:=ab c) (now:=ab c+1) (b:=br ((aO c).1.length:Int) ((aO c).2.map (·.1))) ⟨by omega,by omega⟩ (iR hu 0) h.ord h.up
   refine⟨k1,k2,k3,fun t ht=>?_⟩
   rcases k4 t ht with q|q
   ·exact old t q
   ·refine⟨_,_,q,⟨by omega,Int.le_refl _⟩,?_,fun e he=>?_⟩
    ·rw[List.pairwise_map];exact r1.e.s
    ·obtain⟨x,hx,rfl⟩:=List.mem_map.1 he
     exact⟨(r1.e.r x hx).1,.inr ⟨x,hx,rfl⟩⟩
 obtain⟨u1,u2,u3,u4⟩:=aU
 obtain⟨n1,n2⟩:=pf (log:=ae c) (s:=aO c) (by omega) (l:=dq c up) (k:=az c) hkn.1 (by omega) fun t ht=>u4 t (jM ht).1
 have n1:az c<=aE c up:=n1
 have n2:aE c up<=(aO c).1.length:=n2
 have hT:∀ i∈dV c up,0<=i/\i<(ae c).length:=fun i hi=>by
  have:=mem_range.1 (List.mem_filter.1 hi).1
  omega
 have hTl:(dV c up).length<=64:=by
  have h1:(dV c up).length<=(dU (aE c up) (min ((ae c).length:Int) (aE c up+ak c))).length:=List.length_filter_le _ _
  have h2:(dU (aE c up) (min ((ae c).length:Int) (aE c up+ak c))).length=(min ((ae c).length:Int) (aE c up+ak c)-aE c up).toNat:=by unfold dU;rw[List.length_map,List.length_range]
  omega
 have hnow:=h.now
 have hord:=h.ord
 obtain⟨d1,d2,d3,d4,d5⟩:=vd (now:=ab c+1) (log:=ae c) hd (dV c up) 0 (o:=(au c up).1) (l:=aX (ab c+1) (aJ c)) hT (by omega) ((nO (by omega) h.dn).more u2) (fun t ht=>h.dd t ((mo h.dn).1 ht).1)
 have eD:cV c down up=bV (ab c+1) (ae c) down (dV c up) 0 ((au c up).1,aX (ab c+1) (aJ c)):=rfl
 rw[← eD] at d1 d2 d3 d4 d5
 refine⟨⟨by show 0<=ab c+1;omega,by show 0<=(cV c down up).1;omega,hwin,hlog,h.it,⟨by show 0<=aE c up;omega,n2⟩,?_,d1,d4,?_,fun t ht=>?_⟩,r2,n1,by show (cV c down up).1<=_;omega⟩
 ·refine⟨r1.n,r1.g,r1.e.s,fun x hx=>?_⟩
  obtain⟨q1,q2,q3⟩:=r1.e.r x hx
  exact⟨q1,by show x.1<aE c up+ak c;omega,q3⟩
 ·show cF (ab c+1) (cV c down up).1 (aX (ab c+1) (au c up).2)
  exact (nO (by omega) u1).more d2
 ·exact u4 t ((mo u1).1 ht).1
theorem XI.push{c:aj}(h:XI c){it:List Int}(hl:(ae c).length<1024)(hi:(it.length:Int)<=6000):XI (hY c it):=by
 have hg:∀ i:Int,0<=i->i<(ae c).length->(ae c++[it]).getD i.toNat default=(ae c).getD i.toNat default:=fun i h0 h1=>by
  rw[List.getD_eq_getElem?_getD,List.getElem?_append_left (by omega),← List.getD_eq_getElem?_getD]
 have hn:(ae c++[it]).length=(ae c).length+1:=by rw[List.length_append];rfl
 refine⟨h.now,h.ord,h.win,by show (ae c++[it]).length<=_;omega,fun b hb=>?_,h.kn,⟨?_,?_,h.rc.e.s,fun x hx=>?_⟩,h.dn,fun t ht=>?_,h.up,fun t ht=>?_⟩
 ·rcases List.mem_append.1 hb with hb|hb
  ·exact h.it b hb
  ·rw[List.mem_singleton.1 hb];exact hi
 ·show (aF c).length<=(ae c++[it]).length
  have:(aF c).length<=(ae c).length:=h.rc.n
  omega
 ·show aF c=(ae c++[it]).take (aF c).length
  rw[List.take_append_of_le_length (show (aF c).length<=(ae c).length from h.rc.n)]
  exact h.rc.g
 ·obtain⟨⟨q1,q2⟩,q3,q4⟩:=h.rc.e.r x hx
  have q1:((aF c).length:Int)<x.1:=q1
  refine⟨⟨q1,by show x.1<((ae c++[it]).length:Int);omega⟩,q3,?_⟩
  show x.2=(ae c++[it]).getD x.1.toNat default
  rw[hg _ (by omega) q2];exact q4
 ·obtain⟨i,hi,e⟩:=h.dd t ht
  refine⟨i,⟨hi.1,by show i<((ae c++[it]).length:Int);omega⟩,?_⟩
  show t.2.2=bF i ((ae c++[it]).getD i.toNat default)
  rw[hg _ hi.1 hi.2];exact e
 ·obtain⟨g,es,a,b,d,e⟩:=h.ud t ht
  exact⟨g,es,a,b,d,fun x hx=>⟨⟨(e x hx).1.1,by have:=(e x hx).1.2;show x<((ae c++[it]).length:Int);omega⟩,(e x hx).2⟩⟩
theorem XI.new{w:Int}(h0:1<=w)(h1:w<=64):XI (fx w):=by
 refine⟨Int.le_refl _,Int.le_refl _,⟨h0,h1⟩,Nat.zero_le _,fun b hb=>(by cases hb),⟨Int.le_refl _,Int.le_refl _⟩,⟨Nat.zero_le _,rfl,List.Pairwise.nil,fun x hx=>(by cases hx)⟩,⟨List.Pairwise.nil,fun x hx=>(by cases hx),Nat.zero_le _⟩,fun x hx=>(by cases hx),⟨List.Pairwise.nil,fun x hx=>(by cases hx),Nat.zero_le _⟩,fun x hx=>(by cases hx)⟩
theorem eZ:dQ []:=fun f hf=>by cases hf
end Go.RS

/- SX: copying rows whose elements have several cells (for slices.Insert). -/
namespace Go.SX
open Go
variable {P:Program}
theorem jd(w:World)(dT sT ty cw:TypeId)(z g o dLen dCap:Nat)(a:Addr)(eQ iB:Nat)(cur:Array Value)(t:TypeId)(cs:List Value)
  (hu:P.underlying dT=some (.slice cw)) (hs:(P.info? cw).map (·.size)=some z)
  (hg:w.heap[g]? = some (.cells cur t (0,0))) (hn:cs.length=Nat.min eQ dLen*z)
  (hsrc:∀ j v,cs[j]? = some v->w.cell? (a.add j)=some v) (hfit:o+cs.length<=cur.size) (h1:∀ v∈cs,v.oneCell'=true) :
  (Builtin.copy_ #[dT,sT] ty #[.slice (some ⟨g,o,none⟩) dLen dCap,.slice (some a) eQ iB]).run P w =
   .ok (goInt (Nat.min eQ dLen)) (w.setRow g (cur.toList.take o++cs++cur.toList.drop (o+cs.length)).toArray):=by
 have hl:=run_loadCells_list (P:=P) w a cs hsrc
 have hst:=run_storeCells_at P g o t cs 0 cur w hg (by simpa using hfit) h1
 cases hq:P.info? cw with
 | none=>simp[hq] at hs
 | some i =>
  have hi:i.size=z:=by simpa[hq] using hs
  simp[Builtin.copy_,run_underlying hu,Builtin.lenOf,Builtin.firstCells,sizeOf,typeInfo,hq,hi,← hn,hl,hst]
end Go.SX

/- SX, part 25: package-level variables that hold known data. -/
namespace Go.SX
open Go.ChangeShapes Go.WideShapes Go.ChangeAt Go.RowKit
set_option linter.unusedVariables false
def kH{H:Type}(f:(t:CT)->TypeId->t.D->DataW H):List Field->(t:CT)->t.D->List (DataW H)
 | [],_,_=>[]
 | [fd],t,d=>[f t fd.type d]
 | fd::g::r,.pair a b,(x,y)=>f a fd.type x::kH f (g::r) b y
 | _::_::_,_,_=>[]
def kM{H:Type}(f:(t:CT)->TypeId->t.D->DataW H)(e:TypeId):Nat->(t:CT)->t.D->List (DataW H)
 | 0,_,_=>[]
 | 1,t,d=>[f t e d]
 | n+2,.pair a b,(x,y)=>f a e x::kM f e (n+1) b y
 | _+2,_,_=>[]
def fp{H:Type}(P:Program):Nat->(t:CT)->TypeId->t.D->DataW H
 | 0,_,_,_ => .agg []
 | n+1,t,τ,d=>match P.underlying τ,t,d with
  | some (.int k),.int _,d => .lit (.int k d)
  | some .bool,.bool,d => .lit (.bool d)
  | some (.struct fs),t,d => .agg (kH (fp P n) fs.toList t d)
  | some (.array k e),t,d => .agg (kM (fp P n) e k t d)
  | _,_,_ => .agg []
def gY:CT->Bool
 | .int _=>true
 | .bool=>true
 | .pair a b=>gY a&&gY b
 | _=>false
section
variable {H:Type} {enc:TypeId×Value->H} {P:Program} {w:World} {base:Nat} {held:Bool}
theorem wX{A:Nat->Prop}{f:CT->TypeId->Bool}{F:(t:CT)->TypeId->t.D->DataW H}{cs:List Value}{n:Nat}
  (hf:∀ t τ cs d p,f t τ=true->gY t=true->DataW.trod enc P w base (fun _=>true) held n τ cs=some (F t τ d,p)->Rd A w t (fun j=>cs[j]?) 0 d) :
  ∀(fs:List Field)(t:CT)(o:Nat)(d:t.D)(xs:List (DataW H×List MemPlace)),iw P f fs t o=true->gY t=true->xs.length=fs.length->xs.map (·.1)=kH F fs t d →
   (∀ i (h1:i<fs.length) (h2:i<xs.length),DataW.trod enc P w base (fun _=>true) held n fs[i].type ((cs.drop fs[i].offset).take (P.cellsOf fs[i].type))=some xs[i])->Rd A w t (fun j=>cs[j]?) o d
 | [],t,o,d,xs,h,_,_,_,_=>by cases h
 | [fd],t,o,d,xs,h,ht,hl,he,hx=>by
  simp only[iw,Bool.and_eq_true] at h
  obtain⟨⟨h1,h2⟩,h3⟩:=h
  have h2:=Nat.eq_of_beq_eq_true h2
  have h3:=Nat.eq_of_beq_eq_true h3
  match xs,hl with
  | [x],_ =>
   have:=hx 0 (by simp) (by simp)
   simp only[List.getElem_cons_zero] at this
   simp only[List.map_cons,List.map_nil,kH,List.cons.injEq,and_true] at he
   have hd:=hf t fd.type _ d x.2 h1 ht (by rw[this,← he])
   rw[h2] at hd
   exact iL h3 hd
 | fd::g::r,.pair a b,o,(d1,d2),xs,h,ht,hl,he,hx=>by
  simp only[iw,Bool.and_eq_true] at h
  obtain⟨⟨⟨h1,h2⟩,h3⟩,h4⟩:=h
  simp only[gY,Bool.and_eq_true] at ht
  have h2:=Nat.eq_of_beq_eq_true h2
  have h3:=Nat.eq_of_beq_eq_true h3
  match xs,hl with
  | x::ys,hl =>
   simp only[List.map_cons,kH,List.cons.injEq] at he
   have:=hx 0 (by simp) (by simp)
   simp only[List.getElem_cons_zero] at this
   have hd:=hf a fd.type _ d1 x.2 h1 ht.1 (by rw[this,← he.1])
   rw[h2] at hd
   have hd':=wX hf (g::r) b (o+a.size) d2 ys h4 ht.2 (by simpa using hl) he.2 (fun i k1 k2=>by
    have:=hx (i+1) (by simpa using k1) (by simpa using k2)
    simpa only[List.getElem_cons_succ] using this)
   exact⟨iL h3 hd,hd'⟩
 | _::_::_,.int _,_,_,_,h,_,_,_,_=>by cases h
 | _::_::_,.bool,_,_,_,h,_,_,_,_=>by cases h
 | _::_::_,.str,_,_,_,h,_,_,_,_=>by cases h
 | _::_::_,.sl _,_,_,_,h,_,_,_,_=>by cases h
theorem vv{A:Nat->Prop}{f:CT->TypeId->Bool}{F:(t:CT)->TypeId->t.D->DataW H}{cs:List Value}{n:Nat}{e:TypeId}
  (hf:∀ t τ cs d p,f t τ=true->gY t=true->DataW.trod enc P w base (fun _=>true) held n τ cs=some (F t τ d,p)->Rd A w t (fun j=>cs[j]?) 0 d) :
  ∀(k:Nat)(t:CT)(i:Nat)(d:t.D)(xs:List (DataW H×List MemPlace)),ib P f e k t=true->gY t=true->xs.length=k->xs.map (·.1)=kM F e k t d →
   (∀ j (h2:j<xs.length),DataW.trod enc P w base (fun _=>true) held n e ((cs.drop ((i+j)*P.cellsOf e)).take (P.cellsOf e))=some xs[j])->Rd A w t (fun j=>cs[j]?) (i*P.cellsOf e) d
 | 0,t,i,d,xs,h,_,_,_,_=>by cases h
 | 1,t,i,d,xs,h,ht,hl,he,hx=>by
  simp only[ib,Bool.and_eq_true] at h
  obtain⟨h1,h2⟩:=h
  have h2:=Nat.eq_of_beq_eq_true h2
  match xs,hl with
  | [x],_ =>
   have:=hx 0 (by simp)
   simp only[List.getElem_cons_zero] at this
   simp only[List.map_cons,List.map_nil,kM,List.cons.injEq,and_true] at he
   have hd:=hf t e _ d x.2 h1 ht (by rw[this,← he])
   exact iL h2 hd
 | k+2,.pair a b,i,(d1,d2),xs,h,ht,hl,he,hx=>by
  simp only[ib,Bool.and_eq_true] at h
  obtain⟨⟨h1,h2⟩,h4⟩:=h
  simp only[gY,Bool.and_eq_true] at ht
  have h2:=Nat.eq_of_beq_eq_true h2
  match xs,hl with
  | x::ys,hl =>
   simp only[List.map_cons,kM,List.cons.injEq] at he
   have:=hx 0 (by simp)
   simp only[List.getElem_cons_zero] at this
   have hd:=hf a e _ d1 x.2 h1 ht.1 (by rw[this,← he.1])
   have hd':=vv hf (k+1) b (i+1) d2 ys h4 ht.2 (by simpa using hl) he.2 (fun j k2=>by
    have:=hx (j+1) (by simpa using k2)
    simp only[List.getElem_cons_succ] at this
    rw[← this];congr 4;omega)
   refine⟨iL h2 hd,?_⟩
   rw[Nat.add_mul,Nat.one_mul] at hd'
   rw[← h2];exact hd'
 | _+2,.int _,_,_,_,h,_,_,_,_=>by cases h
 | _+2,.bool,_,_,_,h,_,_,_,_=>by cases h
 | _+2,.str,_,_,_,h,_,_,_,_=>by cases h
 | _+2,.sl _,_,_,_,h,_,_,_,_=>by cases h
theorem rP:∀(n:Nat)(t:CT)(τ:TypeId)(fuel:Nat)(cs:List Value)(d:t.D)(p:List MemPlace),dw P n t τ=true->gY t=true->DataW.trod enc P w base (fun _=>true) held fuel τ cs=some (fp P n t τ d,p) →
  Rd (fun b=>b<w.heap.size) w t (fun j=>cs[j]?) 0 d
 | 0,t,τ,fuel,cs,d,p,h,_,_=>by cases h
 | n+1,t,τ,fuel,cs,d,p,h,ht,hx=>by
  cases hu:P.underlying τ with
  | none=>cases t <;> simp[dw,hu] at h
  | some ty =>
   cases ty with
   | int k =>
    cases t with
    | int k' =>
     simp only[dw,hu] at h
     cases dk h
     obtain⟨m,rfl,e,hw⟩:=DataW.trod_int hu hx
     unfold fp at e
     rw[hu] at e
     simp only[Prod.mk.injEq,DataW.lit.injEq,Lit.int.injEq,true_and] at e
     obtain⟨rfl,-⟩:=e
     exact⟨by simp,uk hw⟩
    | _=>simp[dw,hu] at h
   | bool =>
    cases t with
    | bool =>
     obtain⟨b,rfl,e⟩:=DataW.trod_bool hu hx
     unfold fp at e
     rw[hu] at e
     simp only[Prod.mk.injEq,DataW.lit.injEq,Lit.bool.injEq] at e
     obtain⟨rfl,-⟩:=e
     simp[Rd]
    | _=>simp[dw,hu] at h
   | struct fs =>
    have h':iw P (dw P n) fs.toList t 0=true:=by cases t <;> simpa[dw,hu] using h
    have ed:fp (H:=H) P (n+1) t τ d = .agg (kH (fp P n) fs.toList t d):=by
     cases t <;> first|(cases ht;done)|(unfold fp;rw[hu])
    obtain⟨xs,m,_,e,hl,hlen,hf⟩:=DataW.trod_struct hu hx
    rw[ed] at e
    simp only[Prod.mk.injEq,DataW.agg.injEq] at e
    refine wX (F:=fp P n) (n:=m) (fun t τ cs d p h1 h2 h3=>rP n t τ m cs d p h1 h2 h3) fs.toList _ 0 d xs h' ht (by simpa using hlen) e.1.symm fun i h1 h2=>?_
    have:=hf i fs[i] (Array.getElem?_eq_getElem (by simpa using h1))
    rw[List.getElem?_eq_getElem h2] at this
    simpa using this
   | array k e' =>
    have h':ib P (dw P n) e' k t=true:=by cases t <;> simpa[dw,hu] using h
    have ed:fp (H:=H) P (n+1) t τ d = .agg (kM (fp P n) e' k t d):=by
     cases t <;> first|(cases ht;done)|(unfold fp;rw[hu])
    obtain⟨xs,m,_,e,hl,hlen,hf⟩:=DataW.trod_array hu hx
    rw[ed] at e
    simp only[Prod.mk.injEq,DataW.agg.injEq] at e
    have:=vv (F:=fp P n) (n:=m) (cs:=cs) (e:=e') (fun t τ cs d p h1 h2 h3=>rP n t τ m cs d p h1 h2 h3) k _ 0 d xs h' ht hlen e.1.symm fun j h2=>by
     have:=hf j (by omega)
     rw[List.getElem?_eq_getElem h2] at this
     simpa using this
    simpa using this
   | _=>cases t <;> first|(cases ht;done)|(simp[dw,hu] at h;done)
end
theorem globs_one{P:Program}{w:World}{name:String}{t:CT}{v:t.D}{g n:Nat}{τ:TypeId}{d:DataW Unit}(h:laidMetH P [(name,d)] w)(hh:([(name,d)].all fun x=>x.2.handleName?.isNone)=true)
  (hg:P.globalNamed name=some g) (hτ:(P.globals[g]?).map (·.type)=some τ) (hf:dw P n t τ=true) (hs:gY t=true) (hd:d=fp P n t τ v) :
  g<w.heap.size/\Rd (fun b=>b<w.heap.size) w t (fun o=>w.cell? ⟨g,o,none⟩) 0 v:=by
 rw[MakeChecks.laidMetH_plain _ _ _ hh] at h
 obtain⟨ps,⟨g0,t0,cs0,f0,p0,q0,hg0,ht0,hv0,hd0,_,_⟩,_,_⟩:=h
 obtain rfl:=Option.some.inj (hg.symm.trans hg0)
 obtain rfl:=Option.some.inj (hτ.symm.trans ht0)
 rw[hd] at hd0
 have hr:=rP n t τ f0 cs0.toList v p0 hf hs hd0
 have hlt:g<w.heap.size:=by
  have hv:=hv0
  simp only[World.var?,hg,Option.bind_some] at hv
  split at hv
  ·rename_i hb;exact (Array.getElem?_eq_some_iff.1 hb).1
  ·cases hv
 refine⟨hlt,?_⟩
 refine bR (fun _ h=>h) (fun _ _ _=>rfl) t _ _ _ _ (fun j hj=>?_) hr
 have:=World.var?_cell hg hv0 j
 rw[Nat.zero_add,this];simp
end Go.SX

/- SX, part 29: slices.Insert of one element into a slice that owns its row: its contract, off what its code does with values. -/
namespace Go.SX
set_option linter.unusedVariables false
def bS(cur:Array Value)(o:Nat)(cs:List Value):Array Value:=(cur.toList.take o++cs++cur.toList.drop (o+cs.length)).toArray
theorem iP{cur:Array Value}{o:Nat}{cs:List Value}(h:o+cs.length<=cur.size):(bS cur o cs).size=cur.size:=by
 simp only[bS,List.size_toArray,List.length_append,List.length_take,List.length_drop,Array.length_toList];omega
theorem gU{cur:Array Value}{o:Nat}{cs:List Value}(h:o+cs.length<=cur.size)(j:Nat) :
  (bS cur o cs)[j]? = if j<o then cur[j]? else if j<o+cs.length then cs[j-o]? else cur[j]? := by
 unfold bS
 rw[List.getElem?_toArray]
 have hl:(cur.toList.take o).length=o:=by rw[List.length_take,Array.length_toList];omega
 by_cases h1:j<o
 ·rw[if_pos h1,List.append_assoc,List.getElem?_append_left (by omega),List.getElem?_take,if_pos h1,Array.getElem?_toList]
 ·rw[if_neg h1]
  by_cases h2:j<o+cs.length
  ·rw[if_pos h2,List.append_assoc,List.getElem?_append_right (by omega),List.getElem?_append_left (by omega),hl]
  ·rw[if_neg h2,List.getElem?_append_right (by rw[List.length_append,hl];omega),List.length_append,hl,List.getElem?_drop,Array.getElem?_toList]
   congr 1;omega
def bq(cur:Array Value)(o n:Nat):List Value:=(cur.toList.drop o).take n
theorem ig{cur:Array Value}{o n:Nat}(h:o+n<=cur.size):(bq cur o n).length=n:=by
 unfold bq;rw[List.length_take,List.length_drop,Array.length_toList];omega
theorem gX{cur:Array Value}{o n j:Nat}(h:j<n):(bq cur o n)[j]? = cur[o+j]? := by
 unfold bq;rw[List.getElem?_take,if_pos h,List.getElem?_drop,Array.getElem?_toList]
def gQ(cur:Array Value)(off n i z:Nat)(vs:List Value):Array Value:=bS (bS cur (off+(i+1)*z) (bq cur (off+i*z) ((n-i)*z))) (off+i*z) vs
def fi(cur:Array Value)(off n i z G:Nat)(zr:Array Value):Array Value:=(bq cur off (i*z)).toArray++Builtin.zeroCells zr (n+1-i)++Builtin.zeroCells zr (G-(n+1))
def fY(cur:Array Value)(off n i z G:Nat)(zr:Array Value)(vs:List Value):Array Value:=bS (bS (fi cur off n i z G zr) (i*z) vs) ((i+1)*z) (bq cur (off+i*z) ((n-i)*z))
structure oY (P:Program) (F:FuncId) (tS E:TypeId) (z bs:Nat) (zr:Array Value) (ty:TypeId):Prop where
 last:∀(w w':World)(p q:Option Addr)(n c vc:Nat)(v:Value),n<=c->c<=maxLen->(Builtin.append_ #[tS,tS] ty #[.slice p n c,.slice q 1 vc]).run P w = .ok v w' →
  Calls P F #[.slice p n c,.int .i64 n,.slice q 1 vc] w fun e w2=>e = .returned v/\w2=w'
 shift:∀(w:World)(b off n c i vb voff vc:Nat)(cur vcur:Array Value)(E':TypeId)(vs:List Value),i<n->n+1<=c->c<=maxLen->vb≠b->w.heap[b]? = some (.cells cur E (0,0))->off+c*z<=cur.size →
  w.heap[vb]? = some (.cells vcur E' (0,0))->vs.length=z->(∀ j v,vs[j]? = some v->w.cell? ⟨vb,voff+j,none⟩=some v)->(∀ v∈vs,v.oneCell'=true)->(∀ v∈bq cur (off+i*z) ((n-i)*z),v.oneCell'=true) →
  Calls P F #[.slice (some ⟨b,off,none⟩) n c,.int .i64 i,.slice (some ⟨vb,voff,none⟩) 1 vc] w fun e w'=>e = .returned (.slice (some ⟨b,off,none⟩) (n+1) c)/\w'=w.drew.setRow b (gQ cur off n i z vs)
 grow:∀(w:World)(b off n i vb voff vc:Nat)(cur vcur:Array Value)(E':TypeId)(vs:List Value),i<n->n+1<=maxLen->(n+1)*bs<=140737488355328->w.heap[b]? = some (.cells cur E (0,0))->off+n*z<=cur.size →
  w.heap[vb]? = some (.cells vcur E' (0,0))->vs.length=z->(∀ j v,vs[j]? = some v->w.cell? ⟨vb,voff+j,none⟩=some v)->(∀ v∈vs,v.oneCell'=true)->(∀ v∈bq cur off (n*z),v.oneCell'=true) →
  Calls P F #[.slice (some ⟨b,off,none⟩) n n,.int .i64 i,.slice (some ⟨vb,voff,none⟩) 1 vc] w fun e w'=>e = .returned (.slice (some ⟨w.heap.size,0,none⟩) (n+1) (grownCap w (n+1) n E)) ∧
   ∃ w1:World,aR w.drew w1 (fun _=>False)/\w1.heap.size=w.heap.size+1/\w1.heap[w.heap.size]? = some (.cells (fi cur off n i z (grownCap w (n+1) n E) zr) E (0,0))/\w'=w1.setRow w.heap.size (fY cur off n i z (grownCap w (n+1) n E) zr vs)
def lq(u:CT)(E:TypeId)(bs:Nat):Spec:=fun base svs=>match svs with
 | [.own n sz,.int .i64 i,.own q sq]=>match Nat.beq q n with
  | true => .fail
  | false => .ask n fun
   | .live (.row E' u' xs)=>match Nat.beq E' E,Nat.beq sz u.size,bQ u' u xs with
    | true,true,some ys=>(g9 u (.own q sq)).bind fun vs=>.ask base fun
     | .un => .ret (.det [vs.length=1,0<=i,i<=ys.length,(ys.length+1)*bs<=140737488355328] (.own base u.size) [(base,.live (.row E u (ys.take i.toNat++(vs++ys.drop i.toNat)))),(n,.dead)])
     | _ => .fail
    | _,_,_ => .fail
   | _ => .fail
 | _ => .fail
section
variable {P:Program} {w0:World} {N0:bv} {A:Nat->Prop} {env:ai} {h:aI} {w:World}
theorem Bw(m:aw w0 N0 A env h w){t:CT}{n sz:Nat}{v:Value}{ys:List t.D}{r:List Nat}(e:(g9 t (.own n sz)).run h=some (ys,r))(hd:aa A env w (.own n sz) v)(h1:ys.length=1) :
  ∃ k l c vcur E',env n = .blk k l/\v = .slice (some ⟨k,l.1,none⟩) 1 c/\w.heap[k]? = some (.cells vcur E' (0,0))/\(∀ n' k' l' b,n'≠n->h n' = .live b->b.mut=true->env n' = .blk k' l'→k≠k') ∧
   Rd A w t (fun o=>w.cell? ⟨k,o,none⟩) l.1 (cw t ys 0):=by
 simp only[g9,Q.run] at e
 simp only[aa] at hd
 have fin:∀{b:cU}{E':TypeId}{zs:List t.D},h n = .live b->(b = .row E' t zs∨b = .frz E' t zs)->zs.length=1 →
   ∃ k l c vcur E',env n = .blk k l/\v = .slice (some ⟨k,l.1,none⟩) 1 c/\w.heap[k]? = some (.cells vcur E' (0,0))/\(∀ n' k' l' b,n'≠n->h n' = .live b->b.mut=true->env n' = .blk k' l'→k≠k') ∧
    Rd A w t (fun o=>w.cell? ⟨k,o,none⟩) l.1 (cw t zs 0):=by
  intro b E' zs hl hb hz
  rcases hd with⟨hnil,_⟩|⟨k,l,E2,c,hk,hsh,rfl⟩
  ·have:=m.nm n
   rw[hl] at this
   rcases this with⟨k',l',he',_⟩|⟨_,E3,t3,hb3⟩
   ·rw[hnil] at he';cases he'
   ·rcases hb with rfl|rfl <;> rcases hb3 with hb3|hb3 <;> cases hb3 <;> cases hz
  ·have hbd:=m.live_blk hl hk
   have hrow:ef A w k l E' t zs:=by
    rcases hb with rfl|rfl
    ·exact hbd.1
    ·exact hbd.1.2
   have hlen:l.2=1:=by obtain⟨_,_,_,_,h3,_⟩:=hrow;omega
   have hrd:=kj hrow (i:=0) (by omega)
   obtain⟨vcur,cap,hh,_⟩:=hrow
   refine⟨k,l,(c-l.1)/sz,vcur,E',hk,by rw[hlen],hh,?_,by simpa using hrd⟩
   intro n' k' l' b' hne hl' hm' he' hkk
   subst hkk
   rcases hb with rfl|rfl
   ·exact hne (m.inj n' n b' _ k l' l hl' hl hm' rfl he' hk)
   ·exact (m.live_blk hl' he').2 hm' hbd.1.1
 split at e
 ·rename_i p q hk
  simp only[Option.some.injEq,Prod.mk.injEq] at e
  obtain⟨rfl,rfl⟩:=e
  split at hk
  ·rename_i E' u zs hl
   split at hk
   ·rename_i zs' _ hc
    simp only[Q.run,Option.some.injEq,Prod.mk.injEq] at hk
    obtain⟨rfl,_⟩:=hk
    obtain⟨et,ey⟩:=cD hc
    subst et
    simp only at ey
    subst ey
    exact fin hl (.inl rfl) h1
   ·cases hk
  ·rename_i E' u zs hl
   split at hk
   ·rename_i zs' _ hc
    simp only[Q.run,Option.some.injEq,Prod.mk.injEq] at hk
    obtain⟨rfl,_⟩:=hk
    obtain⟨et,ey⟩:=cD hc
    subst et
    simp only at ey
    subst ey
    exact fin hl (.inr rfl) h1
   ·cases hk
  ·cases hk
 ·cases e
theorem t8{u:CT}{xs:List u.D}{y:u.D}{i o:Nat}{row:Nat->Option Value}{cur:Nat->Option Value}{off:Nat}(hi:i<=xs.length)
  (hx:∀ k (hk:k<xs.length),Rd A w u cur (off+k*u.size) xs[k]) {news:Nat->Option Value} (hy:Rd A w u news 0 y)
  (h1:∀ j,j<i*u.size->row (o+j)=cur (off+j)) (h2:∀ j,j<u.size->row (o+i*u.size+j)=news j) (h3:∀ j,j<(xs.length-i)*u.size->row (o+(i+1)*u.size+j)=cur (off+i*u.size+j)) :
  ∀ k (hk:k<(xs.take i++([y]++xs.drop i)).length),Rd A w u row (o+k*u.size) (xs.take i++([y]++xs.drop i))[k]:=by
 intro k hk
 have hl:(xs.take i).length=i:=by rw[List.length_take];omega
 by_cases hki:k<i
 ·rw[List.getElem_append_left (by omega)]
  simp only[List.getElem_take]
  have hm:(k+1)*u.size<=i*u.size:=Nat.mul_le_mul_right _ hki
  rw[Nat.add_mul,Nat.one_mul] at hm
  refine fO (hx k (by omega)) fun j hj=>?_
  rw[Nat.add_assoc,h1 _ (by omega),Nat.add_assoc]
 ·rw[List.getElem_append_right (by omega)]
  simp only[hl]
  by_cases hke:k=i
  ·subst hke
   simp only[Nat.sub_self,List.cons_append,List.nil_append,List.getElem_cons_zero]
   refine fO hy fun j hj=>?_
   rw[h2 j hj,Nat.zero_add]
  ·obtain⟨q,rfl⟩:∃ q,k=i+1+q:=⟨k-i-1,by omega⟩
   have hq:i+q<xs.length:=by simp at hk;omega
   have hg:([y]++xs.drop i)[i+1+q-i]'(by simp;omega)=xs[i+q]:=by
    simp only[show i+1+q-i=q+1 from by omega,List.cons_append,List.nil_append,List.getElem_cons_succ,List.getElem_drop]
   rw[hg]
   have hm:(q+1)*u.size<=(xs.length-i)*u.size:=Nat.mul_le_mul_right _ (by omega)
   rw[Nat.add_mul,Nat.one_mul] at hm
   refine fO (hx (i+q) hq) fun j hj=>?_
   rw[show o+(i+1+q)*u.size+j=o+(i+1)*u.size+(q*u.size+j) from by rw[Nat.add_mul (i+1)];omega,h3 _ (by omega)]
   congr 1
   rw[Nat.add_mul i q];omega
theorem Cb(m:aw w0 N0 A env h w){tS E ty:TypeId}{zv:Value}{z bs base n sz q sq:Nat}{u:CT}{xs ys:List u.D}{r:List Nat}{sv xv:Value}(hu:P.underlying tS=some (.slice E))(hi:(P.info? E).map (fun i=>(i.zero,i.size,i.bytes))=some (some zv,z,bs))(hzr:zv.cells.size=z)(hbs:1<=bs)(hz:z=u.size)
  (hl:h n = .live (.row E u xs)) (hsz:sz=u.size) (hs:(g9 u (.own q sq)).run h=some (ys,r)) (hun:h base = .un) (hby:(xs.length+ys.length)*bs<=140737488355328)
  (ds:aa A env w (.own n sz) sv) (dx:aa A env w (.own q sq) xv) :
  ∃ v w',(Builtin.append_ #[tS,tS] ty #[sv,xv]).run P w = .ok v w'∧bp w0 N0 A env h w (.det [] (.own base u.size) [(base,.live (.row E u (xs++ys))),(n,.dead)]) v w':=by
 obtain⟨i0,hi0⟩:∃ i0,P.info? E=some i0:=by
  cases hh:P.info? E with
  | none=>rw[hh] at hi;cases hi
  | some i0=>exact⟨i0,rfl⟩
 rw[hi0] at hi
 simp only[Option.map_some,Option.some.injEq,Prod.mk.injEq] at hi
 obtain⟨hz0,hzs,hzb⟩:=hi
 subst hz hzb hsz
 have run:(kL P tS base (.own n u.size) (.own q sq)).run h=some (.det [(xs.length+ys.length)*i0.bytes<=140737488355328] (.own base u.size) [(base,.live (.row E u (xs++ys))),(n,.dead)],n::(r++[base])):=by
  have he:fK P tS=some (E,u.size):=by unfold fK;rw[hu];simp[bL,hi0,hzs]
  unfold kL
  rw[he]
  simp only[hi0,Nat.ble_eq_true_of_le hbs,hz0,hzr,Nat.beq_refl]
  simp only[Q.run,hl,Nat.beq_refl]
  rw[Q.bind_run1 _ _ hs (b := .det [(xs.length+ys.length)*i0.bytes<=140737488355328] (.own base u.size) [(base,.live (.row E u (xs++ys))),(n,.dead)]) (r2:=[base]) (by simp only[Q.run,hun])]
 let o : Oper := { dst := none, op := .call { callee := .builtin .append, args := #[.tmp 0, .tmp 1], argTypes := #[tS, tS] }, type := ty, pos := "", after := #[], guard := none }
 let a:Act:={tmps := #[sv,xv],defers:=[]}
 have fd:FD A env w (fun i=>if i=0 then .own n u.size else if i=1 then .own q sq else .junk) a:=by
  intro i
  by_cases h0:i=0
  ·subst h0;exact ds
  ·by_cases h1:i=1
   ·subst h1;exact dx
   ·simp only[h0,h1,if_false,aa]
 obtain⟨v,w',hr,g⟩:=qG (P:=P) (o:=o) (a:=a) (nm:=base) (s := .tmp 0) (x := .tmp 1) (t:=tS) m fd rfl run (by simp only[Dl.pre,aB,and_true];exact hby)
 have he:(execOp a.eval o).run P w=((Builtin.append_ #[tS,tS] ty #[sv,xv]).run P w).andThen fun v w'=>.ok (.value v) w':=by
  unfold execOp
  simp only[o,resolve,invoke,builtin,Sem.run_bind,Sem.run_pure,Result.andThen_ok,List.map_toArray,List.map_cons,List.map_nil]
  rfl
 rw[he] at hr
 cases hb:(Builtin.append_ #[tS,tS] ty #[sv,xv]).run P w with
 | ok v1 w1 =>
  rw[hb] at hr
  rcases hr with hr|⟨hr,_⟩
  ·cases hr
   exact⟨v,w',rfl,g⟩
  ·cases hr
 | _=>rw[hb] at hr;rcases hr with hr|⟨hr,_⟩ <;> cases hr
theorem xA{t:CT}{ys:List t.D}(h:ys.length=1):ys=[cw t ys 0]:=by
 match ys,h with
 | [y],_=>rfl
theorem w9{u:CT}{cv:Nat->Option Value}{o:Nat}{xs:List u.D}(hx:∀ i (hi:i<xs.length),Rd A w u cv (o+i*u.size) xs[i]){cur:Array Value}(hc:∀ j,cv j=cur[j]?){a n:Nat}(ha:a+n<=xs.length)(hs:o+(a+n)*u.size<=cur.size) :
  ∀ v∈bq cur (o+a*u.size) (n*u.size),v.oneCell'=true:=by
 obtain⟨news,hl,hcv,h1⟩:=kQ (A:=A) (w:=w) ((xs.drop a).take n) (o+a*u.size) (cv:=cv) (fun i hi=>by
  simp only[List.length_take,List.length_drop] at hi
  have:=hx (a+i) (by omega)
  simp only[List.getElem_take,List.getElem_drop]
  rw[Nat.add_assoc,← Nat.add_mul];exact this)
 have hln:((xs.drop a).take n).length=n:=by rw[List.length_take,List.length_drop];omega
 rw[hln] at hl
 intro v hv
 obtain⟨j,hj,rfl⟩:=List.mem_iff_getElem.1 hv
 have hcl:(bq cur (o+a*u.size) (n*u.size)).length=n*u.size:=ig (by rw[Nat.add_assoc,← Nat.add_mul];exact hs)
 have e1:(bq cur (o+a*u.size) (n*u.size))[j]? = news[j]? := by
  rw[gX (by omega),← hc,hcv j (by omega)]
 rw[List.getElem?_eq_getElem hj] at e1
 exact h1 _ (List.mem_iff_getElem?.2 ⟨j,e1.symm⟩)
theorem wQ{G:gm}{F:FuncId}{tS E ty:TypeId}{zv:Value}{z bs:Nat}{u:CT}(raw:oY P F tS E z bs zv.cells ty)(hu:P.underlying tS=some (.slice E))(hi:(P.info? E).map (fun i=>(i.zero,i.size,i.bytes))=some (some zv,z,bs))
  (hzr:zv.cells.size=z) (hbs:1<=bs) (hz:z=u.size):aG P G F (lq u E bs):=by
 intro base svs h d r e hp w0 N0 A env w vs hg m hd
 unfold lq at e
 split at e
 case h_2=>cases e
 rename_i n sz i q sq
 split at e
 ·cases e
 rename_i hqn
 have hqn:q≠n:=fun e=>by rw[e,Nat.beq_refl] at hqn;cases hqn
 simp only[Q.run] at e
 split at e
 case h_2=>cases e
 rename_i p0 q0 hk
 simp only[Option.some.injEq,Prod.mk.injEq] at e
 obtain⟨rfl,rfl⟩:=e
 split at hk
 case h_2=>cases hk
 rename_i E' u xs hl
 split at hk
 case h_2=>cases hk
 rename_i ys hE hsz hc
 have hE:E'=E:=Nat.eq_of_beq_eq_true hE
 have hsz:=Nat.eq_of_beq_eq_true hsz
 obtain⟨et,ey⟩:=cD hc
 subst et hE hsz
 simp only at ey
 subst ey
 obtain⟨vs1,q1,q2,e1,e2,rfl⟩:=Q.run_bind _ _ _ hk
 simp only[Q.run] at e2
 split at e2
 case h_2=>cases e2
 rename_i p' q' hk'
 simp only[Option.some.injEq,Prod.mk.injEq] at e2
 obtain⟨rfl,rfl⟩:=e2
 split at hk'
 case h_2=>cases hk'
 rename_i hun
 cases aK hk'
 simp only[Dl.pre,aB,and_true] at hp
 obtain⟨hp1,hp2,hp3,hp4⟩:=hp
 simp only[ac] at hd
 obtain⟨sv,r1,rfl,ds,iv,r2,rfl,di,xv,r3,rfl,dx,rfl⟩:=hd
 have di':=di
 simp only[aa] at di'
 obtain⟨rfl,hii⟩:=di'
 obtain⟨k,l,c,vcur,E2,hkq,rfl,hkc,hkne,hrd⟩:=Bw m e1 dx hp1
 subst hz
 have hlen:∀{ii:Nat},ii=ys.length->ys.take ii++(vs1++ys.drop ii)=ys++vs1:=by
  rintro _ rfl
  rw[List.take_length,List.drop_length,List.append_nil]
 obtain⟨ii,rfl⟩:=Int.eq_ofNat_of_zero_le hp2
 have hii2:ii<=ys.length:=by omega
 simp only[Int.toNat_natCast]
 have hlast:∀ nn cc pp,ii=ys.length->sv = .slice pp nn cc->nn=ys.length->nn<=cc->cc<=maxLen →
   Calls P F #[sv,.int .i64 (ii:Int),.slice (some ⟨k,l.1,none⟩) 1 c] w fun e w'=>∃ v,e = .returned v/\bp w0 N0 A env h w (.det [vs1.length=1,(0:Int)<=(ii:Int),(ii:Int)<=(ys.length:Int),(ys.length+1)*bs<=140737488355328] (.own base u.size) [(base,.live (.row E' u (ys.take ii++(vs1++ys.drop ii)))),(n,.dead)]) v w':=by
  rintro nn cc pp rfl rfl rfl hle hmx
  obtain⟨v,w',hr,g⟩:=Cb (ty:=ty) m hu hi hzr hbs rfl hl rfl e1 hun (by rw[hp1];exact hp4) ds dx
  refine (raw.last w w' pp (some ⟨k,l.1,none⟩) ys.length cc c v hle hmx hr).mono ?_
  rintro e w2 ⟨rfl,rfl⟩
  refine⟨v,rfl,?_⟩
  rw[hlen rfl]
  exact g
 have hdn:∀ n'∈[n],∃ b,h n' = .live b/\b.mut=true:=by simp[hl,cU.mut]
 have ds':=ds
 simp only[aa] at ds'
 rcases ds' with⟨hnil,pa,rfl⟩|⟨b,⟨β,len⟩,E3,cc,hb,hsh,rfl⟩
 ·have hx:ys=[]:=by
   have:=m.nm n
   rw[hl] at this
   rcases this with⟨k',l',he',_⟩|⟨_,E3,t3,hb⟩
   ·rw[hnil] at he';cases he'
   ·rcases hb with hb|hb <;> cases hb;rfl
  subst hx
  exact hlast 0 0 pa (by simpa using hii2) rfl rfl (Nat.le_refl _) (by simp[maxLen])
 ·obtain⟨cur,cap,hh,hcs,hxl,hlc,hcm,hrdx⟩:=(m.live_blk hl hb).1
  simp only at hcs hxl hlc hrdx
  have hcc:cc=cur.size/\E3=E':=by
   unfold World.shape? at hsh;rw[hh] at hsh
   simp only[Option.some.injEq,Prod.mk.injEq] at hsh;exact⟨hsh.2.symm,hsh.1.symm⟩
  obtain⟨rfl,rfl⟩:=hcc
  have hcap:(cur.size-β)/u.size=cap:=by rw[hcs,Nat.add_sub_cancel_left];exact Nat.mul_div_cancel _ u.size_pos
  have hnA:=(m.live_blk hl hb).2 rfl
  simp only[hcap] at hlast ⊢
  rcases Nat.lt_or_ge ii ys.length with hlt|hge
  case inr=>exact hlast len cap _ (by omega) rfl hxl.symm hlc hcm
  obtain⟨news,hnl,hnc,hnd⟩:=io (env:=env) u _ _ _ hrd
  have hn1:=ly hnd (oq _ _)
  have hnews:∀ j v,news[j]? = some v->w.cell? ⟨k,l.1+j,none⟩=some v:=fun j v hj=>by
   rw[hnc j (by rw[← hnl];exact (List.getElem?_eq_some_iff.1 hj).1)];exact hj
  have hry:Rd A w u (fun j=>news[j]?) 0 (cw u vs1 0):=fO hrd fun j hj=>by rw[Nat.zero_add,hnc j hj]
  have hkb:k≠b:=hkne n b _ _ (Ne.symm hqn) hl rfl hb
  have hlz:(len-ii)*u.size+(ii+1)*u.size=(len+1)*u.size:=by rw[← Nat.add_mul];congr 1;omega
  have hiz:(ii+1)*u.size=ii*u.size+u.size:=by rw[Nat.add_mul,Nat.one_mul]
  have hlcz:len*u.size<=cap*u.size:=Nat.mul_le_mul_right _ hlc
  have hlz1:(len+1)*u.size=len*u.size+u.size:=by rw[Nat.add_mul,Nat.one_mul]
  have hnlen:(ys.take ii++(vs1++ys.drop ii)).length=len+1:=by simp;omega
  have hcutl:(bq cur (β+ii*u.size) ((len-ii)*u.size)).length=(len-ii)*u.size:=ig (by omega)
  by_cases hroom:len+1<=cap
  ·have hroomz:(len+1)*u.size<=cap*u.size:=Nat.mul_le_mul_right _ hroom
   refine (raw.shift w b β len cap ii k l.1 c cur vcur E2 news (by omega) hroom hcm hkb hh (by omega) hkc hnl hnews hn1 (w9 hrdx (fun _=>rfl) (by omega) (by rw[show ii+(len-ii)=len from by omega];omega))).mono ?_
   rintro e w' ⟨rfl,rfl⟩
   refine⟨_,rfl,?_⟩
   have s1:(bS cur (β+(ii+1)*u.size) (bq cur (β+ii*u.size) ((len-ii)*u.size))).size=cur.size:=iP (by rw[hcutl];omega)
   have s2:(gQ cur β len ii u.size news).size=cur.size:=by unfold gQ;rw[iP (by rw[s1,hnl];omega),s1]
   have cg:aR w (w.drew.setRow b (gQ cur β len ii u.size news)) fun j=>j=b:=(aR.drew w _).trans (aR.setRow w.drew b cur _ E3 hh s2)
   have g:=dP (pre:=[vs1.length=1,(0:Int)<=(ii:Int),(ii:Int)<=(ys.length:Int),(ys.length+1)*bs<=140737488355328]) (v := .slice (some ⟨b,β,none⟩) (len+1) cap) (E:=E3) (t:=u) (zs:=ys.take ii++(vs1++ys.drop ii)) m hun [n] hdn (W:=fun j=>j=b) (ev := .blk b (β,len+1)) cg
    (fun k hk=>⟨n,(β,len),by simp,hk▸hb⟩) (by simp) (fun k l e=>by cases e;exact .inr ⟨n,(β,len),by simp,hb⟩) (fun x=>.inr ⟨b,(β,len+1),cur.size,rfl,?_,?_,?_⟩)
   ·exact g
   ·refine⟨_,cap,setRow_heap w.drew b cur _ E3 _ hh,by rw[s2];exact hcs,hnlen,hroom,hcm,?_⟩
    intro k' hk'
    refine bR (fun _ h=>h) x.keep u _ _ _ _ (fun j _=>rfl) ?_
    have hv1:=xA hp1
    have key:=t8 (A:=A) (w:=w) (u:=u) (xs:=ys) (y:=cw u vs1 0) (i:=ii) (o:=β) (off:=β) (row:=fun o=>(gQ cur β len ii u.size news)[o]?) (cur:=fun o=>cur[o]?) hii2 hrdx hry ?_ ?_ ?_ k' (by rw[← hv1];exact hk')
    ·simp only[← hv1] at key;exact key
    ·intro j hj
     unfold gQ
     try simp only
     rw[gU (by rw[s1,hnl];omega),if_pos (by omega),gU (by rw[hcutl];omega),if_pos (by omega)]
    ·intro j hj
     unfold gQ
     try simp only
     rw[gU (by rw[s1,hnl];omega),if_neg (by omega),if_pos (by rw[hnl];omega)]
     congr 1;omega
    ·intro j hj
     rw[hxl] at hj
     unfold gQ
     try simp only
     rw[gU (by rw[s1,hnl];omega),if_neg (by omega),if_neg (by rw[hnl];omega),gU (by rw[hcutl];omega),if_neg (by omega),if_pos (by rw[hcutl];omega),show β+(ii+1)*u.size+j-(β+(ii+1)*u.size)=j from by omega,gX hj]
   ·unfold World.shape?;rw[setRow_heap w.drew b cur _ E3 _ hh];simp only[s2]
   ·show _=Value.slice _ _ ((cur.size-β)/u.size)
    rw[hcap]
  ·have hcl:cap=len:=by omega
   subst hcl
   have hsum:cap+1<=maxLen:=by
    have:(cap+1)*1<=(ys.length+1)*bs:=by rw[hxl];exact Nat.mul_le_mul_left _ hbs
    simp only[maxLen];omega
   refine (raw.grow w b β cap ii k l.1 c cur vcur E2 news (by omega) hsum (by rw[← hxl];exact hp4) hh (by omega) hkc hnl hnews hn1 (by
    have:=w9 hrdx (fun _=>rfl) (a:=0) (n:=cap) (cur:=cur) (by omega) (by rw[Nat.zero_add];omega)
    simpa using this)).mono ?_
   rintro e w' ⟨rfl,w1,cg1,hs1,hh1,rfl⟩
   refine⟨_,rfl,?_⟩
   have hge:=grownCap_ge w (cap+1) cap E3
   have hcm':=grownCap_le_maxLen w (cap+1) cap E3 hsum
   generalize grownCap w (cap+1) cap E3=G' at *
   have hGz:(cap+1)*u.size<=G'*u.size:=Nat.mul_le_mul_right _ hge
   have hcut0:(bq cur β (ii*u.size)).length=ii*u.size:=ig (by omega)
   have s0:(fi cur β cap ii u.size G' zv.cells).size=G'*u.size:=by
    unfold fi
    simp only[Array.size_append,List.size_toArray,hcut0,size_zeroCells,hzr,← Nat.add_mul];congr 1;omega
   have s1:(bS (fi cur β cap ii u.size G' zv.cells) (ii*u.size) news).size=G'*u.size:=by rw[iP (by rw[s0,hnl];omega),s0]
   have s2:(fY cur β cap ii u.size G' zv.cells news).size=G'*u.size:=by unfold fY;rw[iP (by rw[s1,hcutl];omega),s1]
   have cg:aR w (w1.setRow w.heap.size (fY cur β cap ii u.size G' zv.cells news)) fun _=>False:=by
    have c2:=aR.setRow w1 w.heap.size _ (fY cur β cap ii u.size G' zv.cells news) E3 hh1 (by rw[s2,s0])
    have c3:=(aR.drew w fun _=>False).trans cg1
    exact⟨c2.os.trans c3.os,c2.tape.trans c3.tape,c2.output.trans c3.output,Nat.le_trans c3.size c2.size,
     fun i hi hw=>(c2.blk i (Nat.lt_of_lt_of_le hi c3.size) (fun e=>by omega)).trans (c3.blk i hi hw),fun i s hs=>c2.shape i s (c3.shape i s hs)⟩
   have g:=dP (pre:=[vs1.length=1,(0:Int)<=(ii:Int),(ii:Int)<=(ys.length:Int),(ys.length+1)*bs<=140737488355328]) (v := .slice (some ⟨w.heap.size,0,none⟩) (cap+1) G') (E:=E3) (t:=u) (zs:=ys.take ii++(vs1++ys.drop ii)) m hun [n] hdn (W:=fun _=>False) (ev := .blk w.heap.size (0,cap+1)) cg
    (fun _ h=>h.elim) (by simp) (fun k l e=>by cases e;exact .inl (Nat.le_refl _)) (fun x=>.inr ⟨w.heap.size,(0,cap+1),G'*u.size,rfl,?_,?_,?_⟩)
   ·exact g
   ·refine⟨_,G',setRow_heap w1 w.heap.size _ _ E3 _ hh1,by rw[s2,Nat.zero_add],hnlen,hge,hcm',?_⟩
    intro k' hk'
    refine bR (fun _ h=>h) x.keep u _ _ _ _ (fun j _=>rfl) ?_
    have hv1:=xA hp1
    have key:=t8 (A:=A) (w:=w) (u:=u) (xs:=ys) (y:=cw u vs1 0) (i:=ii) (o:=0) (off:=β) (row:=fun o=>(fY cur β cap ii u.size G' zv.cells news)[o]?) (cur:=fun o=>cur[o]?) hii2 hrdx hry ?_ ?_ ?_ k' (by rw[← hv1];exact hk')
    ·simp only[← hv1] at key;exact key
    ·intro j hj
     unfold fY
     try simp only
     rw[gU (by rw[s1,hcutl];omega),if_pos (by omega),gU (by rw[s0,hnl];omega),if_pos (by omega)]
     unfold fi
     rw[Array.append_assoc,Array.getElem?_append_left (by simp only[List.size_toArray,hcut0];omega),List.getElem?_toArray,Nat.zero_add,gX hj]
    ·intro j hj
     unfold fY
     try simp only
     rw[gU (by rw[s1,hcutl];omega),if_pos (by omega),gU (by rw[s0,hnl];omega),if_neg (by omega),if_pos (by rw[hnl];omega)]
     congr 1;omega
    ·intro j hj
     rw[hxl] at hj
     unfold fY
     try simp only
     rw[gU (by rw[s1,hcutl];omega),if_neg (by omega),if_pos (by rw[hcutl];omega),show 0+(ii+1)*u.size+j-(ii+1)*u.size=j from by omega,gX hj]
   ·unfold World.shape?;rw[setRow_heap w1 w.heap.size _ _ E3 _ hh1];simp only[s2]
   ·show _=Value.slice _ _ ((G'*u.size-0)/u.size)
    rw[Nat.sub_zero,Nat.mul_div_cancel _ u.size_pos]
end
end Go.SX

/- Insx: a message put into a list of messages, an item into a list of items (slices.Insert). -/
namespace Go.RS
open Go.SX Go.Proofs
set_option maxRecDepth 100000
set_option maxHeartbeats 4000000
set_option linter.unusedVariables false
def jE:Value := .agg #[.int .i64 0,.int .i64 0,.slice none 0 0]
section
variable {w:World}
theorem An:oY Try.prog 81 26 53 3 40 jE.cells 26:=by
 refine⟨?_,?_,?_⟩
 ·intro w w' p q n c vc v hn hc hr
  have hz:(Go.sizeOf 53).run Try.prog w = .ok 3 w:=cz (by kernel_rfl) w
  unfold maxLen at hc
  cases p <;> go_enter Try.func81,Try.ntmps81 <;>
  go_wp2_with (at_builtin;refine Lib.wpList_append_run _ rfl _ _ _ _ rfl _ _ rfl rfl _ _ hr ?_)
  all_goals (go_ret;exact⟨rfl,rfl⟩)
 ·intro w b off n c i vb voff vc cur vcur E' vs hi hn hc hvb hb hf hv hvl hvs h1v h1c
  have hz:∀ w,(Go.sizeOf 53).run Try.prog w = .ok 3 w:=fun w=>cz (by kernel_rfl) w
  have mixed:Try.prog.follows .mixedOrders=true:=aD
  unfold maxLen at hc
  have hsa:w.shape? vb=some (E',vcur.size):=by unfold World.shape?;rw[hv]
  have hsb:w.shape? b=some (53,cur.size):=by unfold World.shape?;rw[hb]
  have hfa:w.frozen? ⟨vb,voff,none⟩=false:=by simp[World.frozen?,hv]
  have hfe:w.frozen? ⟨vb,vcur.size,none⟩=false:=by simp[World.frozen?,hv]
  have hov:∀ lb cb o,(callFunc 94 #[.slice (some ⟨vb,voff,none⟩) 1 vc,.slice (some ⟨b,o,none⟩) lb cb]).run Try.prog w = .ok (.value (.bool false)) w:=fun lb cb o=>by
   rw[run_callFunc_extern Try.func94 (by kernel_rfl) (by kernel_rfl) (by kernel_rfl) (e:=Extern.SlicesOverlaps.overlaps #[26,26] #[4]) (by kernel_rfl),
    Lib.run_overlaps_apart w 26 4 53 Try.underlying26 3 hz ⟨vb,voff,none⟩ ⟨b,o,none⟩ 1 vc lb cb hvb E' 53 vcur.size cur.size hsa hsb (by omega) hfa hfe]
   rfl
  have hw1:IntKind.i64.wrap ((i:Int)+1)=(i:Int)+1:=by rw[IntKind.wrap_i64];omega
  have hw2:IntKind.i64.wrap ((n:Int)+1)=(n:Int)+1:=by rw[IntKind.wrap_i64];omega
  have hz2:¬ ((i:Int)=(n:Int)):=by omega
  have htn:((i:Int)+1).toNat=i+1:=by omega
  have htm:((n:Int)+1).toNat=n+1:=by omega
  have hb1:(0:Int)<=(i:Int)+1:=by omega
  have hb2:¬ (c=i+1):=by omega
  have hb3:(i:Int)<=(n:Int)+1:=by omega
  have hb4:¬ (c=i):=by omega
  have hin:i<=n:=by omega
  have e1:(i+1)*3=i*3+3:=by omega
  have hcl:(bq cur (off+i*3) ((n-i)*3)).length=(n-i)*3:=ig (by omega)
  have hsz:(Try.prog.info? 53).map (·.size)=some 3:=by kernel_rfl
  have hcp1:(Builtin.copy_ #[26,26] 3 #[.slice (some ⟨b,off+(i+1)*3,none⟩) (n-i) (c-(i+1)),.slice (some ⟨b,off+i*3,none⟩) (n+1-i) (c-i)]).run Try.prog w.drew =
    .ok (goInt ((n-i:Nat):Int)) (w.drew.setRow b (bS cur (off+(i+1)*3) (bq cur (off+i*3) ((n-i)*3)))):=by
   have h:=jd (P:=Try.prog) w.drew 26 26 3 53 3 b (off+(i+1)*3) (n-i) (c-(i+1)) ⟨b,off+i*3,none⟩ (n+1-i) (c-i) cur 53 (bq cur (off+i*3) ((n-i)*3)) Try.underlying26 hsz hb
    (by rw[hcl];simp only[Nat.min_def];split <;> omega)
    (fun j v hj=>by
     have hj':=(List.getElem?_eq_some_iff.1 hj).1
     rw[hcl] at hj'
     rw[gX hj'] at hj
     rw[Addr.add_lit,cell_of_row w.drew b _ cur 53 (0,0) hb];exact hj)
    (by rw[hcl];omega) h1c
   have hm:Nat.min (n+1-i) (n-i)=n-i:=by simp only[Nat.min_def];split <;> omega
   rw[hm] at h
   exact h
  have hr1:(bS cur (off+(i+1)*3) (bq cur (off+i*3) ((n-i)*3))).size=cur.size:=iP (by rw[hcl];omega)
  have hcp2:(Builtin.copy_ #[26,26] 3 #[.slice (some ⟨b,off+i*3,none⟩) (n+1-i) (c-i),.slice (some ⟨vb,voff,none⟩) 1 vc]).run Try.prog (w.drew.setRow b (bS cur (off+(i+1)*3) (bq cur (off+i*3) ((n-i)*3)))) =
    .ok (goInt 1) (w.drew.setRow b (gQ cur off n i 3 vs)):=by
   have h:=jd (P:=Try.prog) (w.drew.setRow b (bS cur (off+(i+1)*3) (bq cur (off+i*3) ((n-i)*3)))) 26 26 3 53 3 b (off+i*3) (n+1-i) (c-i) ⟨vb,voff,none⟩ 1 vc _ 53 vs Try.underlying26 hsz
    (setRow_heap w.drew b cur _ 53 (0,0) hb)
    (by rw[hvl];simp only[Nat.min_def];split <;> omega)
    (fun j v hj=>by
     rw[Addr.add_lit,cell_setRow_other _ _ _ _ hvb]
     exact hvs j v hj)
    (by rw[hr1,hvl];omega) h1v
   have hm:Nat.min 1 (n+1-i)=1:=by simp only[Nat.min_def];split <;> omega
   rw[hm,setRow_setRow] at h
   exact h
  clear e1 hcl hr1
  go_enter Try.func81,Try.ntmps81
  go_wp2_with (simp only[hov])
  go_region
  go_wp2
  all_goals (go_ret;exact⟨rfl,rfl⟩)
 ·intro w b off n i vb voff vc cur vcur E' vs hi hn hby hb hf hv hvl hvs h1v h1c
  have hz:∀ w,(Go.sizeOf 53).run Try.prog w = .ok 3 w:=fun w=>cz (by kernel_rfl) w
  have mixed:Try.prog.follows .mixedOrders=true:=aD
  have hx:(Try.prog.info? 53).map (fun i=>(i.zero,i.size,i.bytes))=some (some jE,3,40):=by kernel_rfl
  obtain⟨i0,hi0⟩:∃ i0,Try.prog.info? 53=some i0:=by
   cases hh:Try.prog.info? 53 with
   | none=>rw[hh] at hx;cases hx
   | some i0=>exact⟨i0,rfl⟩
  rw[hi0] at hx
  simp only[Option.map_some,Option.some.injEq,Prod.mk.injEq] at hx
  obtain⟨hz0,hzs,hzb⟩:=hx
  have hsz:(Try.prog.info? 53).map (·.size)=some 3:=by kernel_rfl
  have hbw:b<w.heap.size:=(Array.getElem?_eq_some_iff.1 hb).1
  have hvw:vb<w.heap.size:=(Array.getElem?_eq_some_iff.1 hv).1
  have hni:i*3+(n-i)*3=n*3:=by rw[← Nat.add_mul];congr 1;omega
  have hil:(bq cur off (i*3)).length=i*3:=ig (by omega)
  have hcl:(bq cur (off+i*3) ((n-i)*3)).length=(n-i)*3:=ig (by omega)
  have hold:(Builtin.firstCells i0.size i (.slice (some ⟨b,off,none⟩) i n)).run Try.prog w.drew = .ok (bq cur off (i*3)).toArray w.drew:=by
   rw[hzs]
   exact run_firstCells_some w.drew 3 i ⟨b,off,none⟩ i n (bq cur off (i*3)) hil (fun j v hj=>by
    have hj':=(List.getElem?_eq_some_iff.1 hj).1
    rw[hil] at hj'
    rw[gX hj'] at hj
    rw[Addr.add_lit,cell_of_row w.drew b _ cur 53 (0,0) hb];exact hj)
  have hGn:n+1<=grownCap w (n+1) n 53:=grownCap_ge w _ _ _
  have hG63:=grownCap_le_maxLen w (n+1) n 53 hn
  have hrz:(Builtin.append_ #[26,3] 26 #[.slice (some ⟨b,off,none⟩) i n,.int .i64 ((n:Int)+1-(i:Int))]).run Try.prog w =
    .ok (.slice (some ⟨w.heap.size,0,none⟩) (n+1) (grownCap w (n+1) n 53)) (w.drew.alloc (.cells (fi cur off n i 3 (grownCap w (n+1) n 53) jE.cells) 53)):=by
   have h:=Lib.run_append_grow_zeros w 26 3 26 53 i0 _ .i64 .i64 Try.underlying26 Try.underlying3 hi0 hz0 (some ⟨b,off,none⟩) i n (bq cur off (i*3)) hold (n+1-i) (by omega) (by omega) (by omega) (by unfold maxLen at hn;omega) (by rw[hzb];omega)
    (by rw[show i+(n+1-i)=n+1 from by omega];exact growslice_fits (by omega) (by rw[hzb];exact hby))
   rw[show i+(n+1-i)=n+1 from by omega] at h
   rw[show (n:Int)+1-(i:Int)=((n+1-i:Nat):Int) from by omega]
   exact h
  generalize hG:grownCap w (n+1) n 53=G at *
  have hrs:(fi cur off n i 3 G jE.cells).size=G*3:=by
   unfold fi
   simp only[Array.size_append,List.size_toArray,hil,size_zeroCells]
   have:jE.cells.size=3:=rfl
   rw[this,← Nat.add_mul,← Nat.add_mul];congr 1;omega
  generalize hROW:fi cur off n i 3 G jE.cells=ROW at *
  have hgN:(w.drew.alloc (.cells ROW 53)).heap[w.heap.size]? = some (.cells ROW 53 (0,0)):=heap_alloc_new w.drew _
  have hG6:(n+1)*3<=G*3:=Nat.mul_le_mul_right _ hGn
  have e1:(i+1)*3=i*3+3:=by omega
  have hr1:(bS ROW (i*3) vs).size=G*3:=by rw[iP (by rw[hrs,hvl];omega),hrs]
  have hcp1:(Builtin.copy_ #[26,26] 3 #[.slice (some ⟨w.heap.size,i*3,none⟩) (n+1-i) (G-i),.slice (some ⟨vb,voff,none⟩) 1 vc]).run Try.prog (w.alloc (.cells ROW 53)).drew =
    .ok (goInt 1) ((w.alloc (.cells ROW 53)).drew.setRow w.heap.size (bS ROW (i*3) vs)):=by
   have h:=jd (P:=Try.prog) (w.drew.alloc (.cells ROW 53)) 26 26 3 53 3 w.heap.size (i*3) (n+1-i) (G-i) ⟨vb,voff,none⟩ 1 vc _ 53 vs Try.underlying26 hsz hgN
    (by rw[hvl];simp only[Nat.min_def];split <;> omega)
    (fun j v hj=>by
     rw[Addr.add_lit,World.cell?_alloc_past (w:=w.drew) _ vb _ hvw]
     exact hvs j v hj)
    (by rw[hrs,hvl];omega) h1v
   have hm:Nat.min 1 (n+1-i)=1:=by simp only[Nat.min_def];split <;> omega
   rw[hm] at h
   exact h
  have hcp2:(Builtin.copy_ #[26,26] 3 #[.slice (some ⟨w.heap.size,(i+1)*3,none⟩) (n-i) (G-(i+1)),.slice (some ⟨b,off+i*3,none⟩) (n-i) (n-i)]).run Try.prog ((w.alloc (.cells ROW 53)).drew.setRow w.heap.size (bS ROW (i*3) vs)).drew =
    .ok (goInt ((n-i:Nat):Int)) ((w.alloc (.cells ROW 53)).drew.drew.setRow w.heap.size (bS (bS ROW (i*3) vs) ((i+1)*3) (bq cur (off+i*3) ((n-i)*3)))):=by
   have h:=jd (P:=Try.prog) ((w.alloc (.cells ROW 53)).drew.setRow w.heap.size (bS ROW (i*3) vs)).drew 26 26 3 53 3 w.heap.size ((i+1)*3) (n-i) (G-(i+1)) ⟨b,off+i*3,none⟩ (n-i) (n-i) _ 53 (bq cur (off+i*3) ((n-i)*3)) Try.underlying26 hsz
    (setRow_heap _ w.heap.size _ _ 53 (0,0) hgN)
    (by rw[hcl];simp only[Nat.min_def];split <;> omega)
    (fun j v hj=>by
     have hj':=(List.getElem?_eq_some_iff.1 hj).1
     rw[hcl] at hj'
     rw[gX hj'] at hj
     show World.cell? ((w.drew.alloc (.cells ROW 53)).setRow w.heap.size (bS ROW (i*3) vs)) _=_
     rw[Addr.add_lit,cell_setRow_other _ _ _ _ (by show b≠w.heap.size;omega),World.cell?_alloc_past (w:=w.drew) _ b _ hbw,cell_of_row w.drew b _ cur 53 (0,0) hb];exact hj)
    (by rw[hr1,hcl];omega) (fun v hv=>h1c v (by
     unfold bq at hv ⊢
     rw[← List.drop_drop] at hv
     have e2:List.take ((n-i)*3) (List.drop (i*3) (List.drop off cur.toList))=List.drop (i*3) (List.take (n*3) (List.drop off cur.toList)):=by
      rw[List.drop_take];congr 1;omega
     rw[e2] at hv
     exact List.mem_of_mem_drop hv))
   have hm:Nat.min (n-i) (n-i)=n-i:=by simp only[Nat.min_def];split <;> omega
   rw[hm] at h
   have hs2:∀(W:World)(g:Nat)(a b:Array Value),(W.setRow g a).drew.setRow g b=W.drew.setRow g b:=fun W g a b=>setRow_setRow W.drew g a b
   rw[hs2] at h
   exact h
  have hz2:¬ ((i:Int)=(n:Int)):=by omega
  have hw1:IntKind.i64.wrap ((i:Int)+1)=(i:Int)+1:=by rw[IntKind.wrap_i64];unfold maxLen at hn;omega
  have hw2:IntKind.i64.wrap ((n:Int)+1)=(n:Int)+1:=by rw[IntKind.wrap_i64];unfold maxLen at hn;omega
  have hz3:(n:Int)<(n:Int)+1:=by omega
  have hGi:¬ (G=i):=by omega
  have hGim:¬ (G=i+1):=by omega
  have hci:¬ (n=i):=by omega
  have hb1:(0:Int)<=(i:Int)+1:=by omega
  have hin:i<=n:=by omega
  have htn:((i:Int)+1).toNat=i+1:=by omega
  have hb3:(i:Int)<=(n:Int):=by omega
  have hiG:i<=n+1:=by omega
  unfold maxLen at hn hG63
  clear e1 hr1 hG6 hil hcl hni hrs hgN hold hGn
  go_enter Try.func81,Try.ntmps81
  go_wp2_with (at_builtin;refine Lib.wpList_append_run _ rfl _ _ _ _ rfl _ _ rfl rfl _ _ hrz ?_)
  go_region
  go_wp2
  all_goals (go_ret;exact⟨rfl,(w.alloc (.cells ROW 53)).drew.drew,((aR.alloc w.drew _ _).trans (aR.drew _ _)),by simp,heap_alloc_new w.drew _,by unfold fY;rw[hROW]⟩)
end
def x5:Go.SX.Spec:=lq a9 53 40
theorem DS:aG Try.prog GL 81 x5:=by
 show aG Try.prog GL 81 (lq a9 53 40)
 exact wQ (u:=a9) (zv:=jE) An Try.underlying26 (by kernel_rfl) rfl (by decide) rfl
def jC:Value := .agg #[.int .i64 0,.slice none 0 0]
section
variable {w:World}
theorem Em:oY Try.prog 91 25 51 2 32 jC.cells 25:=by
 refine⟨?_,?_,?_⟩
 ·intro w w' p q n c vc v hn hc hr
  have hz:(Go.sizeOf 51).run Try.prog w = .ok 2 w:=cz (by kernel_rfl) w
  unfold maxLen at hc
  cases p <;> go_enter Try.func91,Try.ntmps91 <;>
  go_wp2_with (at_builtin;refine Lib.wpList_append_run _ rfl _ _ _ _ rfl _ _ rfl rfl _ _ hr ?_)
  all_goals (go_ret;exact⟨rfl,rfl⟩)
 ·intro w b off n c i vb voff vc cur vcur E' vs hi hn hc hvb hb hf hv hvl hvs h1v h1c
  have hz:∀ w,(Go.sizeOf 51).run Try.prog w = .ok 2 w:=fun w=>cz (by kernel_rfl) w
  have mixed:Try.prog.follows .mixedOrders=true:=aD
  unfold maxLen at hc
  have hsa:w.shape? vb=some (E',vcur.size):=by unfold World.shape?;rw[hv]
  have hsb:w.shape? b=some (51,cur.size):=by unfold World.shape?;rw[hb]
  have hfa:w.frozen? ⟨vb,voff,none⟩=false:=by simp[World.frozen?,hv]
  have hfe:w.frozen? ⟨vb,vcur.size,none⟩=false:=by simp[World.frozen?,hv]
  have hov:∀ lb cb o,(callFunc 98 #[.slice (some ⟨vb,voff,none⟩) 1 vc,.slice (some ⟨b,o,none⟩) lb cb]).run Try.prog w = .ok (.value (.bool false)) w:=fun lb cb o=>by
   rw[run_callFunc_extern Try.func98 (by kernel_rfl) (by kernel_rfl) (by kernel_rfl) (e:=Extern.SlicesOverlaps.overlaps #[25,25] #[4]) (by kernel_rfl),
    Lib.run_overlaps_apart w 25 4 51 Try.underlying25 2 hz ⟨vb,voff,none⟩ ⟨b,o,none⟩ 1 vc lb cb hvb E' 51 vcur.size cur.size hsa hsb (by omega) hfa hfe]
   rfl
  have hw1:IntKind.i64.wrap ((i:Int)+1)=(i:Int)+1:=by rw[IntKind.wrap_i64];omega
  have hw2:IntKind.i64.wrap ((n:Int)+1)=(n:Int)+1:=by rw[IntKind.wrap_i64];omega
  have hz2:¬ ((i:Int)=(n:Int)):=by omega
  have htn:((i:Int)+1).toNat=i+1:=by omega
  have htm:((n:Int)+1).toNat=n+1:=by omega
  have hb1:(0:Int)<=(i:Int)+1:=by omega
  have hb2:¬ (c=i+1):=by omega
  have hb3:(i:Int)<=(n:Int)+1:=by omega
  have hb4:¬ (c=i):=by omega
  have hin:i<=n:=by omega
  have e1:(i+1)*2=i*2+2:=by omega
  have hcl:(bq cur (off+i*2) ((n-i)*2)).length=(n-i)*2:=ig (by omega)
  have hsz:(Try.prog.info? 51).map (·.size)=some 2:=by kernel_rfl
  have hcp1:(Builtin.copy_ #[25,25] 3 #[.slice (some ⟨b,off+(i+1)*2,none⟩) (n-i) (c-(i+1)),.slice (some ⟨b,off+i*2,none⟩) (n+1-i) (c-i)]).run Try.prog w.drew =
    .ok (goInt ((n-i:Nat):Int)) (w.drew.setRow b (bS cur (off+(i+1)*2) (bq cur (off+i*2) ((n-i)*2)))):=by
   have h:=jd (P:=Try.prog) w.drew 25 25 3 51 2 b (off+(i+1)*2) (n-i) (c-(i+1)) ⟨b,off+i*2,none⟩ (n+1-i) (c-i) cur 51 (bq cur (off+i*2) ((n-i)*2)) Try.underlying25 hsz hb
    (by rw[hcl];simp only[Nat.min_def];split <;> omega)
    (fun j v hj=>by
     have hj':=(List.getElem?_eq_some_iff.1 hj).1
     rw[hcl] at hj'
     rw[gX hj'] at hj
     rw[Addr.add_lit,cell_of_row w.drew b _ cur 51 (0,0) hb];exact hj)
    (by rw[hcl];omega) h1c
   have hm:Nat.min (n+1-i) (n-i)=n-i:=by simp only[Nat.min_def];split <;> omega
   rw[hm] at h
   exact h
  have hr1:(bS cur (off+(i+1)*2) (bq cur (off+i*2) ((n-i)*2))).size=cur.size:=iP (by rw[hcl];omega)
  have hcp2:(Builtin.copy_ #[25,25] 3 #[.slice (some ⟨b,off+i*2,none⟩) (n+1-i) (c-i),.slice (some ⟨vb,voff,none⟩) 1 vc]).run Try.prog (w.drew.setRow b (bS cur (off+(i+1)*2) (bq cur (off+i*2) ((n-i)*2)))) =
    .ok (goInt 1) (w.drew.setRow b (gQ cur off n i 2 vs)):=by
   have h:=jd (P:=Try.prog) (w.drew.setRow b (bS cur (off+(i+1)*2) (bq cur (off+i*2) ((n-i)*2)))) 25 25 3 51 2 b (off+i*2) (n+1-i) (c-i) ⟨vb,voff,none⟩ 1 vc _ 51 vs Try.underlying25 hsz
    (setRow_heap w.drew b cur _ 51 (0,0) hb)
    (by rw[hvl];simp only[Nat.min_def];split <;> omega)
    (fun j v hj=>by
     rw[Addr.add_lit,cell_setRow_other _ _ _ _ hvb]
     exact hvs j v hj)
    (by rw[hr1,hvl];omega) h1v
   have hm:Nat.min 1 (n+1-i)=1:=by simp only[Nat.min_def];split <;> omega
   rw[hm,setRow_setRow] at h
   exact h
  clear e1 hcl hr1
  go_enter Try.func91,Try.ntmps91
  go_wp2_with (simp only[hov])
  go_region
  go_wp2
  all_goals (go_ret;exact⟨rfl,rfl⟩)
 ·intro w b off n i vb voff vc cur vcur E' vs hi hn hby hb hf hv hvl hvs h1v h1c
  have hz:∀ w,(Go.sizeOf 51).run Try.prog w = .ok 2 w:=fun w=>cz (by kernel_rfl) w
  have mixed:Try.prog.follows .mixedOrders=true:=aD
  have hx:(Try.prog.info? 51).map (fun i=>(i.zero,i.size,i.bytes))=some (some jC,2,32):=by kernel_rfl
  obtain⟨i0,hi0⟩:∃ i0,Try.prog.info? 51=some i0:=by
   cases hh:Try.prog.info? 51 with
   | none=>rw[hh] at hx;cases hx
   | some i0=>exact⟨i0,rfl⟩
  rw[hi0] at hx
  simp only[Option.map_some,Option.some.injEq,Prod.mk.injEq] at hx
  obtain⟨hz0,hzs,hzb⟩:=hx
  have hsz:(Try.prog.info? 51).map (·.size)=some 2:=by kernel_rfl
  have hbw:b<w.heap.size:=(Array.getElem?_eq_some_iff.1 hb).1
  have hvw:vb<w.heap.size:=(Array.getElem?_eq_some_iff.1 hv).1
  have hni:i*2+(n-i)*2=n*2:=by rw[← Nat.add_mul];congr 1;omega
  have hil:(bq cur off (i*2)).length=i*2:=ig (by omega)
  have hcl:(bq cur (off+i*2) ((n-i)*2)).length=(n-i)*2:=ig (by omega)
  have hold:(Builtin.firstCells i0.size i (.slice (some ⟨b,off,none⟩) i n)).run Try.prog w.drew = .ok (bq cur off (i*2)).toArray w.drew:=by
   rw[hzs]
   exact run_firstCells_some w.drew 2 i ⟨b,off,none⟩ i n (bq cur off (i*2)) hil (fun j v hj=>by
    have hj':=(List.getElem?_eq_some_iff.1 hj).1
    rw[hil] at hj'
    rw[gX hj'] at hj
    rw[Addr.add_lit,cell_of_row w.drew b _ cur 51 (0,0) hb];exact hj)
  have hGn:n+1<=grownCap w (n+1) n 51:=grownCap_ge w _ _ _
  have hG63:=grownCap_le_maxLen w (n+1) n 51 hn
  have hrz:(Builtin.append_ #[25,3] 25 #[.slice (some ⟨b,off,none⟩) i n,.int .i64 ((n:Int)+1-(i:Int))]).run Try.prog w =
    .ok (.slice (some ⟨w.heap.size,0,none⟩) (n+1) (grownCap w (n+1) n 51)) (w.drew.alloc (.cells (fi cur off n i 2 (grownCap w (n+1) n 51) jC.cells) 51)):=by
   have h:=Lib.run_append_grow_zeros w 25 3 25 51 i0 _ .i64 .i64 Try.underlying25 Try.underlying3 hi0 hz0 (some ⟨b,off,none⟩) i n (bq cur off (i*2)) hold (n+1-i) (by omega) (by omega) (by omega) (by unfold maxLen at hn;omega) (by rw[hzb];omega)
    (by rw[show i+(n+1-i)=n+1 from by omega];exact growslice_fits (by omega) (by rw[hzb];exact hby))
   rw[show i+(n+1-i)=n+1 from by omega] at h
   rw[show (n:Int)+1-(i:Int)=((n+1-i:Nat):Int) from by omega]
   exact h
  generalize hG:grownCap w (n+1) n 51=G at *
  have hrs:(fi cur off n i 2 G jC.cells).size=G*2:=by
   unfold fi
   simp only[Array.size_append,List.size_toArray,hil,size_zeroCells]
   have:jC.cells.size=2:=rfl
   rw[this,← Nat.add_mul,← Nat.add_mul];congr 1;omega
  generalize hROW:fi cur off n i 2 G jC.cells=ROW at *
  have hgN:(w.drew.alloc (.cells ROW 51)).heap[w.heap.size]? = some (.cells ROW 51 (0,0)):=heap_alloc_new w.drew _
  have hG6:(n+1)*2<=G*2:=Nat.mul_le_mul_right _ hGn
  have e1:(i+1)*2=i*2+2:=by omega
  have hr1:(bS ROW (i*2) vs).size=G*2:=by rw[iP (by rw[hrs,hvl];omega),hrs]
  have hcp1:(Builtin.copy_ #[25,25] 3 #[.slice (some ⟨w.heap.size,i*2,none⟩) (n+1-i) (G-i),.slice (some ⟨vb,voff,none⟩) 1 vc]).run Try.prog (w.alloc (.cells ROW 51)).drew =
    .ok (goInt 1) ((w.alloc (.cells ROW 51)).drew.setRow w.heap.size (bS ROW (i*2) vs)):=by
   have h:=jd (P:=Try.prog) (w.drew.alloc (.cells ROW 51)) 25 25 3 51 2 w.heap.size (i*2) (n+1-i) (G-i) ⟨vb,voff,none⟩ 1 vc _ 51 vs Try.underlying25 hsz hgN
    (by rw[hvl];simp only[Nat.min_def];split <;> omega)
    (fun j v hj=>by
     rw[Addr.add_lit,World.cell?_alloc_past (w:=w.drew) _ vb _ hvw]
     exact hvs j v hj)
    (by rw[hrs,hvl];omega) h1v
   have hm:Nat.min 1 (n+1-i)=1:=by simp only[Nat.min_def];split <;> omega
   rw[hm] at h
   exact h
  have hcp2:(Builtin.copy_ #[25,25] 3 #[.slice (some ⟨w.heap.size,(i+1)*2,none⟩) (n-i) (G-(i+1)),.slice (some ⟨b,off+i*2,none⟩) (n-i) (n-i)]).run Try.prog ((w.alloc (.cells ROW 51)).drew.setRow w.heap.size (bS ROW (i*2) vs)).drew =
    .ok (goInt ((n-i:Nat):Int)) ((w.alloc (.cells ROW 51)).drew.drew.setRow w.heap.size (bS (bS ROW (i*2) vs) ((i+1)*2) (bq cur (off+i*2) ((n-i)*2)))):=by
   have h:=jd (P:=Try.prog) ((w.alloc (.cells ROW 51)).drew.setRow w.heap.size (bS ROW (i*2) vs)).drew 25 25 3 51 2 w.heap.size ((i+1)*2) (n-i) (G-(i+1)) ⟨b,off+i*2,none⟩ (n-i) (n-i) _ 51 (bq cur (off+i*2) ((n-i)*2)) Try.underlying25 hsz
    (setRow_heap _ w.heap.size _ _ 51 (0,0) hgN)
    (by rw[hcl];simp only[Nat.min_def];split <;> omega)
    (fun j v hj=>by
     have hj':=(List.getElem?_eq_some_iff.1 hj).1
     rw[hcl] at hj'
     rw[gX hj'] at hj
     show World.cell? ((w.drew.alloc (.cells ROW 51)).setRow w.heap.size (bS ROW (i*2) vs)) _=_
     rw[Addr.add_lit,cell_setRow_other _ _ _ _ (by show b≠w.heap.size;omega),World.cell?_alloc_past (w:=w.drew) _ b _ hbw,cell_of_row w.drew b _ cur 51 (0,0) hb];exact hj)
    (by rw[hr1,hcl];omega) (fun v hv=>h1c v (by
     unfold bq at hv ⊢
     rw[← List.drop_drop] at hv
     have e2:List.take ((n-i)*2) (List.drop (i*2) (List.drop off cur.toList))=List.drop (i*2) (List.take (n*2) (List.drop off cur.toList)):=by
      rw[List.drop_take];congr 1;omega
     rw[e2] at hv
     exact List.mem_of_mem_drop hv))
   have hm:Nat.min (n-i) (n-i)=n-i:=by simp only[Nat.min_def];split <;> omega
   rw[hm] at h
   have hs2:∀(W:World)(g:Nat)(a b:Array Value),(W.setRow g a).drew.setRow g b=W.drew.setRow g b:=fun W g a b=>setRow_setRow W.drew g a b
   rw[hs2] at h
   exact h
  have hz2:¬ ((i:Int)=(n:Int)):=by omega
  have hw1:IntKind.i64.wrap ((i:Int)+1)=(i:Int)+1:=by rw[IntKind.wrap_i64];unfold maxLen at hn;omega
  have hw2:IntKind.i64.wrap ((n:Int)+1)=(n:Int)+1:=by rw[IntKind.wrap_i64];unfold maxLen at hn;omega
  have hz3:(n:Int)<(n:Int)+1:=by omega
  have hGi:¬ (G=i):=by omega
  have hGim:¬ (G=i+1):=by omega
  have hci:¬ (n=i):=by omega
  have hb1:(0:Int)<=(i:Int)+1:=by omega
  have hin:i<=n:=by omega
  have htn:((i:Int)+1).toNat=i+1:=by omega
  have hb3:(i:Int)<=(n:Int):=by omega
  have hiG:i<=n+1:=by omega
  unfold maxLen at hn hG63
  clear e1 hr1 hG6 hil hcl hni hrs hgN hold hGn
  go_enter Try.func91,Try.ntmps91
  go_wp2_with (at_builtin;refine Lib.wpList_append_run _ rfl _ _ _ _ rfl _ _ rfl rfl _ _ hrz ?_)
  go_region
  go_wp2
  all_goals (go_ret;exact⟨rfl,(w.alloc (.cells ROW 51)).drew.drew,((aR.alloc w.drew _ _).trans (aR.drew _ _)),by simp,heap_alloc_new w.drew _,by unfold fY;rw[hROW]⟩)
end
def Cl:Go.SX.Spec:=lq eh 51 32
theorem Du:aG Try.prog GL 91 Cl:=by
 show aG Try.prog GL 91 (lq eh 51 32)
 exact wQ (u:=eh) (zv:=jC) Em Try.underlying25 (by kernel_rfl) rfl (by decide) rfl
end Go.RS

/- Addr: prefixes, and functions of Go's library over numbers. -/
namespace Go.RS
open Go.SX Go.Proofs
set_option maxRecDepth 100000
set_option linter.unusedVariables false
def bl(a b:Int):Int:=if a<b then -1 else if b<a then 1 else 0
abbrev f8:Type:=Int×Int
def mC(p q:f8):Int:=if bl p.1 q.1≠0 then bl p.1 q.1 else bl p.2 q.2
def d8:List Int->Int
 | []=>0
 | x::xs=>if x≠0 then x else d8 xs
theorem C8{l:List Int}{j:Int}(h0:0<=j)(h1:j<l.length):l.drop j.toNat=l.getD j.toNat default::l.drop (j+1).toNat:=by
 have hj:j.toNat<l.length:=by omega
 rw[List.drop_eq_getElem_cons hj,List.getD_eq_getElem?_getD,List.getElem?_eq_getElem hj,Option.getD_some]
 congr 2;omega
theorem Aj{α:Type} [Inhabited α] {l:List α} {j:Int} (h0:0<=j) (h1:j<l.length) {y:α} (hy:y∈l.take (j+1).toNat):y∈l.take j.toNat∨y=l.getD j.toNat default:=by
 have hj:j.toNat<l.length:=by omega
 have e:(j+1).toNat=j.toNat+1:=by omega
 rw[e,List.take_succ_eq_append_getElem hj] at hy
 rcases List.mem_append.1 hy with hy|hy
 ·exact .inl hy
 ·right
  simp at hy
  rw[List.getD_eq_getElem?_getD,List.getElem?_eq_getElem hj,Option.getD_some];exact hy
theorem Dm{l:List Int}{v j:Int}(h0:0<=j)(h1:j<l.length)(hv:l.getD j.toNat default=v)(h2:∀ y∈l.take j.toNat,y≠v):l.idxOf v=j.toNat:=by
 have hj:j.toNat<l.length:=by omega
 rw[List.getD_eq_getElem?_getD,List.getElem?_eq_getElem hj,Option.getD_some] at hv
 have e:l=l.take j.toNat++l[j.toNat]::l.drop (j.toNat+1):=by
  rw[← List.drop_eq_getElem_cons hj,List.take_append_drop]
 rw[e,List.idxOf_append,if_neg (fun hm=>h2 v hm rfl),hv,List.idxOf_cons_self]
 simp;omega
def uW:Ct:=⟨[.val cI],[.val .bool],fun _=>[],fun _=>((false,()),())⟩
def DI:aC uW.ps->aN:=(fun _=>{})
theorem B7 :
 ∀(a:Int),ao a/\True->True->(! decide (a=a))=false:=by
  rintro x - -
  simp
theorem Dq:aG Try.prog GL 97 uW.spec:=Ct.okH _ Try.func97 (by kernel_rfl) aP aD DI (aQ (by kernel_rfl) B7)
def uL:Ct:=⟨[.val cI,.val cI],[.val cI],fun _=>[],fun d=>((bl d.1 d.2.1,()),())⟩
def Bf:aC uL.ps->aN:=(fun _=>{})
theorem DM :
 ∀(a b:Int),ao a/\ao b/\True->True->ah (decide (a<b)) ((-1:Int)=bl a b) (ah (decide (b<a)) ((1:Int)=bl a b) ((0:Int)=bl a b)):=by
  rintro x y - -
  unfold bl
  refine aq (fun h=>?_) (fun h=>aq (fun h2=>?_) (fun h2=>?_))
  ·rw[if_pos (of_decide_eq_true h)]
  ·rw[if_neg (of_decide_eq_false h),if_pos (of_decide_eq_true h2)]
  ·rw[if_neg (of_decide_eq_false h),if_neg (of_decide_eq_false h2)]
theorem sS:aG Try.prog GL 90 uL.spec:=Ct.okH _ Try.func90 (by kernel_rfl) (ay aP Dq) aD Bf (aQ (by kernel_rfl) DM)
def ww:Ct:=⟨[.val (.sl cI)],[.val cI],fun _=>[],fun d=>((d8 d.1,()),())⟩
def B1:aC ww.ps->aN:=(fun d=>{loops:=(fun n=>match n with|3=>some (fun S=>{ι:=Int,μ:=fun i=>(d.1.length-i).toNat,inv:=fun i=>0<=i/\i<=d.1.length/\d8 d.1=d8 (d.1.drop i.toNat),keep:=[3,6,7],slots:=fun i=>[(8,.int .i64 i)],names:=fun i=>[]})|_=>none)})
def cK(a:List Int) :=
 (a.length:Int)
theorem x9 :
 ∀(a:List Int),(a.length<=maxLen/\ ∀(b:Int),b∈a->ao b)/\True->True->(∃(b:Int),(0<=b/\b<=(cK a)/\d8 a=d8 (List.drop b.toNat a))/\(0:Int)=0/\a=a/\(cK a)=(cK a)/\(0:Int)=b/\True)/\ ∀(b:Int),0<=b/\b<=(cK a)/\d8 a=d8 (List.drop b.toNat a)->ah (decide (b<(cK a))) (0<=b/\b<(cK a)/\ah (! decide (a.getD b.toNat default=0)) (a.getD b.toNat default=d8 a) (∃(c:Int),(0<=c/\c<=(cK a)/\d8 a=d8 (List.drop c.toNat a))/\Int.toNat ((cK a) -c)<Int.toNat ((cK a) -b)/\(0:Int)=0/\a=a/\(cK a)=(cK a)/\IntKind.wrap .i64 (b+(1:Int))=c/\True)) ((0:Int)=d8 a):=by
  delta cK
  rintro x ⟨⟨hl,-⟩,-⟩ -
  simp only[maxLen] at hl
  refine⟨⟨0,⟨by omega,by omega,rfl⟩,(by repeat' first|exact trivial|refine⟨trivial,?_⟩|refine⟨(by with_reducible rfl),?_⟩|refine⟨ad (by omega) (by omega),?_⟩|refine⟨rfl,?_⟩)⟩,?_⟩
  rintro j ⟨h0,h1,h2⟩
  refine aq (fun hj=>?_) (fun hj=>?_)
  ·have hj:=of_decide_eq_true hj
   have e:=C8 (l:=x) h0 hj
   rw[e] at h2
   refine⟨h0,hj,aq (fun hz=>?_) (fun hz=>?_)⟩
   ·have hz:x.getD j.toNat default≠0:=by simpa only[Bool.not_eq_true',decide_eq_false_iff_not] using hz
    rw[h2,d8,if_pos hz]
   ·have hz:¬ x.getD j.toNat default≠0:=by simpa only[Bool.not_eq_false',decide_eq_true_eq,ne_eq,Decidable.not_not] using hz
    rw[d8,if_neg hz] at h2
    exact⟨j+1,⟨by omega,by omega,h2⟩,by omega,(by repeat' first|exact trivial|refine⟨trivial,?_⟩|refine⟨(by with_reducible rfl),?_⟩|refine⟨ad (by omega) (by omega),?_⟩|refine⟨rfl,?_⟩)⟩
  ·have hj:=of_decide_eq_false hj
   rw[h2,List.drop_eq_nil_of_le (by omega)];rfl
theorem CU:aG Try.prog GL 93 ww.spec:=Ct.okH _ Try.func93 (by kernel_rfl) aP aD B1 (aQ (by kernel_rfl) x9)
def sz(n:Int):Int:=2^(32-n).toNat
def uO(p:f8):Bool:=decide (0<=p.2/\p.2<=32/\p.1%sz p.2=0)
def contains(p:f8)(a:Int):Bool:=uO p&&decide (p.1<=a/\a<p.1+sz p.2)
def tF:Ct:=⟨[.val (.sl cI),.val cI],[.val cI],fun _=>[],fun d=>((if d.2.1∈d.1 then (d.1.idxOf d.2.1:Int) else -1,()),())⟩
def yC:aC tF.ps->aN:=(fun d=>{loops:=(fun n=>match n with|2=>some (fun S=>{ι:=Int,μ:=fun i=>(d.1.length-i).toNat,inv:=fun i=>0<=i/\i<=d.1.length∧∀ y∈d.1.take i.toNat,y≠d.2.1,keep:=[0,1,6,7],slots:=fun i=>[(8,.int .i64 i)],names:=fun i=>[]})|_=>none)})
theorem yo :
 ∀(a:List Int)(b:Int),(a.length<=maxLen/\ ∀(c:Int),c∈a->ao c)/\ao b/\True->True->(∃(c:Int),(0<=c/\c<=(cK a)/\ ∀(d:Int),d∈List.take c.toNat a->d≠b)/\a=a/\b=b/\a=a/\(cK a)=(cK a)/\(0:Int)=c/\True)/\ ∀(c:Int),(0<=c/\c<=(cK a)/\ ∀(d:Int),d∈List.take c.toNat a->d≠b)->ah (decide (c<(cK a))) (0<=c/\c<(cK a)/\ah (decide (b=a.getD c.toNat default)) (c=if b∈a then (↑(List.idxOf b a):Int) else (-1:Int)) (∃(d:Int),(0<=d/\d<=(cK a)/\ ∀(e:Int),e∈List.take d.toNat a->e≠b)/\Int.toNat ((cK a) -d)<Int.toNat ((cK a) -c)/\a=a/\b=b/\a=a/\(cK a)=(cK a)/\IntKind.wrap .i64 (c+(1:Int))=d/\True)) ((-1:Int)=if b∈a then (↑(List.idxOf b a):Int) else (-1:Int)):=by
  delta cK
  rintro x v ⟨⟨hl,-⟩,-⟩ -
  simp only[maxLen] at hl
  refine⟨⟨0,⟨by omega,by omega,by simp⟩,(by repeat' first|exact trivial|refine⟨trivial,?_⟩|refine⟨(by with_reducible rfl),?_⟩|refine⟨ad (by omega) (by omega),?_⟩|refine⟨rfl,?_⟩)⟩,?_⟩
  rintro j ⟨h0,h1,h2⟩
  refine aq (fun hj=>?_) (fun hj=>?_)
  ·have hj:=of_decide_eq_true hj
   refine⟨h0,hj,aq (fun hz=>?_) (fun hz=>?_)⟩
   ·have hz:=of_decide_eq_true hz
    have hm:v∈x:=by rw[hz];exact ce h0 hj
    rw[if_pos hm]
    have:=Dm (l:=x) (v:=v) h0 hj hz.symm h2
    omega
   ·have hz:=of_decide_eq_false hz
    refine⟨j+1,⟨by omega,by omega,fun y hy=>?_⟩,by omega,(by repeat' first|exact trivial|refine⟨trivial,?_⟩|refine⟨(by with_reducible rfl),?_⟩|refine⟨ad (by omega) (by omega),?_⟩|refine⟨rfl,?_⟩)⟩
    rcases Aj h0 hj hy with hy|rfl
    ·exact h2 y hy
    ·exact fun e=>hz e.symm
  ·have hj:=of_decide_eq_false hj
   rw[List.take_of_length_le (by omega)] at h2
   rw[if_neg (fun hm=>h2 v hm rfl)]
theorem zy:aG Try.prog GL 78 tF.spec:=Ct.okH _ Try.func78 (by kernel_rfl) aP aD yC (aQ (by kernel_rfl) yo)
def tY:Ct:=⟨[.val (.sl cI),.val cI],[.val .bool],fun _=>[],fun d=>((decide (d.2.1∈d.1),()),())⟩
def yB:aC tY.ps->aN:=(fun _=>{})
theorem Ay :
 ∀(a:List Int)(b:Int),(a.length<=maxLen/\ ∀(c:Int),c∈a->ao c)/\ao b/\True->True->decide (0<=if b∈a then (↑(List.idxOf b a):Int) else (-1:Int))=decide (b∈a):=by
  rintro x v - -
  by_cases h:v∈x
  ·rw[if_pos h];simp[h];
  ·rw[if_neg h];simp[h]
theorem xK:aG Try.prog GL 56 tY.spec:=Ct.okH _ Try.func56 (by kernel_rfl) (ay aP zy) aD yB (aQ (by kernel_rfl) Ay)
end Go.RS

/- Fib: forwarding tables. -/
namespace Go.RS
open Go.SX Go.Proofs
set_option maxRecDepth 100000
set_option linter.unusedVariables false
abbrev Rt:Type:=f8×List Int×Int
def fm(p q:f8):Prop:=p.1<q.1∨p.1=q.1/\p.2<q.2
instance (p q:f8):Decidable (fm p q):=by unfold fm;infer_instance
theorem wk{a b:Int}(h:a<b):bl a b = -1:=by unfold bl;rw[if_pos h]
theorem uH{a b:Int}(h:b<a):bl a b=1:=by unfold bl;rw[if_neg (by omega),if_pos h]
theorem pi(a:Int):bl a a=0:=by unfold bl;simp
theorem Bh(p q:f8):(fm p q/\mC p q = -1)∨(p=q/\mC p q=0)∨(fm q p/\mC p q=1):=by
 obtain⟨a,b⟩:=p;obtain⟨c,e⟩:=q
 unfold mC fm
 rcases Int.lt_trichotomy a c with h|rfl|h
 ·left;simp[wk h,h]
 ·rcases Int.lt_trichotomy b e with h|rfl|h
  ·left;simp[pi,wk h,h]
  ·right;left;simp[pi]
  ·right;right;simp[pi,uH h,h]
 ·right;right;simp[uH h,h]
theorem Da{p q r:f8}(h:fm p q)(k:fm q r):fm p r:=by unfold fm at *;omega
theorem yw{p q:f8}(h:¬ fm p q):p=q∨fm q p:=by rcases Bh p q with⟨k,-⟩|⟨k,-⟩|⟨k,-⟩ <;> simp_all
def tf(l:List Rt):Prop:=l.Pairwise fun a b=>fm a.1 b.1
theorem sa{i j:Int}(h0:0<=i)(h1:i<=j)(h2:j<=9223372036854775807):IntKind.wrap IntKind.i64 (dR IntKind.u64 (IntKind.wrap IntKind.u64 (IntKind.wrap IntKind.i64 (i+j))) (1:Int))=(i+j)/2:=by
 have hw:IntKind.wrap IntKind.u64 (IntKind.wrap IntKind.i64 (i+j))=i+j:=by
  rw[IntKind.wrap_i64,IntKind.wrap_u64];omega
 rw[hw]
 have:dR IntKind.u64 (i+j) 1=(i+j)/2:=by
  unfold dR
  rw[Int.fdiv_eq_ediv_of_nonneg _ (by decide)]
  rfl
 rw[this,ad (by omega) (by omega)]
theorem tx{α:Type}{l:List (List α)}{j:Int}(h0:0<=j)(h1:j<l.length):(l.take (j+1).toNat).flatten=(l.take j.toNat).flatten++l.getD j.toNat default:=by
 have hj:j.toNat<l.length:=by omega
 have e:(j+1).toNat=j.toNat+1:=by omega
 rw[e,List.take_succ_eq_append_getElem hj,List.flatten_append,List.getD_eq_getElem?_getD,List.getElem?_eq_getElem hj,Option.getD_some]
 simp
theorem ry{α:Type}(l:List (List α))(k:Nat):(l.take k).flatten.length<=l.flatten.length:=by
 conv=>rhs;rw[← List.take_append_drop k l,List.flatten_append,List.length_append]
 omega
theorem xw{α:Type} [Inhabited α] {l:List α} {j:Int} (h0:0<=j) (h1:j<l.length):l.set j.toNat (l.getD j.toNat default)=l:=by
 have hj:j.toNat<l.length:=by omega
 rw[List.getD_eq_getElem?_getD,List.getElem?_eq_getElem hj,Option.getD_some,List.set_getElem_self]
def Bq(a:Int)(b:Option Rt)(r:Rt):Option Rt:=if contains r.1 a then match b with|none=>some r|some q=>if q.1.2<r.1.2 then some r else some q else b
def AX(l:List Rt)(a:Int):Option Rt:=l.foldl (Bq a) none
def aY(l:List Rt)(a:Int):Rt:=match AX l a with|none=>((0,0),[],0)|some r=>r
theorem AI{l:List Rt}{i:Int}(h0:0<=i)(h1:i<l.length):l=l.take i.toNat++l.getD i.toNat default::l.drop (i+1).toNat:=by
 have hj:i.toNat<l.length:=by omega
 rw[List.getD_eq_getElem?_getD,List.getElem?_eq_getElem hj,Option.getD_some,show (i+1).toNat=i.toNat+1 from by omega,← List.drop_eq_getElem_cons hj,List.take_append_drop]
def qJ(l links:List Int)(j:Nat):Prop:=(0<j->l.getD (j-1) default<l.getD j default)/\l.getD j default∈links
instance (l links:List Int) (j:Nat):Decidable (qJ l links j):=by unfold qJ;infer_instance
def rC(l links:List Int):Prop:=l.length<=16∧∀ j:Nat,j<l.length->qJ l links j
instance (l links:List Int):Decidable (rC l links):=by unfold rC;infer_instance
def pj(r:Rt)(links:List Int):Prop:=rC r.2.1 links/\1<=r.2.2/\r.2.2<=3
instance (r:Rt) (links:List Int):Decidable (pj r links):=by unfold pj;infer_instance
def chk(links:List Int):Option f8->List Rt->Int
 | _,[]=>0
 | q,r::rs=>if uO r.1=false then 10 else if q.any (fun q=>decide (0<=mC q r.1)) then 6 else if ¬ pj r links then 12 else chk links (some r.1) rs
def rE(l:List Rt)(links:List Int):Int:=if (64:Int)<l.length then 5 else chk links none l
theorem later{l:List Rt}{p:f8}{i:Int}(hs:tf l)(h0:0<=i)(h1:i<l.length){z:Rt}(hz:z∈l.take i.toNat)(hp:¬ fm z.1 p):fm p (l.getD i.toNat default).1:=by
 have hsp:=AI h0 h1
 unfold tf at hs
 rw[hsp] at hs
 have:=(List.pairwise_append.1 hs).2.2 z hz _ List.mem_cons_self
 rcases yw hp with e|h
 ·rw[← e];exact this
 ·exact Da h this
end Go.RS

/- Xw1: the program's exchange: copies of channels, messages. -/
namespace Go.RS
open Go.SX Go.Proofs
set_option maxRecDepth 100000
set_option linter.unusedVariables false
def wR:Ct:=⟨[.val (.sl eh)],[.own 51 eh],fun d=>[(d.1.length:Int)<=1000000],fun d=>((d.1,()),())⟩
def yc:aC wR.ps->aN:=(fun _=>{})
theorem Ec :
 ∀(a:List (Int×List Int)),(a.length<=maxLen/\ ∀(b:Int×List Int),b∈a->ao b.1/\b.2.length<=maxLen/\ ∀(c:Int),c∈b.2->0<=c/\c<=255)/\True->(a.length:Int)<=1000000-> ∀(b:Bool),(b=true->a.length=(0:Nat))->ah b (([]:List (Int×List Int))=a) (((0:Nat)+a.length)*(32:Nat)<=(140737488355328:Nat)/\a=a):=by
  rintro x ⟨⟨hl,-⟩,-⟩ h b hb
  refine aq (fun h1=>?_) (fun h1=>⟨by simp;omega,by simp⟩)
  have:=hb h1
  exact (List.eq_nil_of_length_eq_zero this).symm
theorem AC:aG Try.prog GL 52 wR.spec:=Ct.okH _ Try.func52 (by kernel_rfl) aP aD yc (aQ (by kernel_rfl) Ec)
def vw:Ct:=⟨[.val (.sl a9)],[.own 53 a9],fun d=>[(d.1.length:Int)<=1000000],fun d=>((d.1,()),())⟩
def Bd:aC vw.ps->aN:=(fun _=>{})
def na(a:List (Int×Int×List Int)) :=
 a.length<=maxLen/\ ∀(b:Int×Int×List Int),b∈a->ao b.1/\ao b.2.1/\b.2.2.length<=maxLen/\ ∀(c:Int),c∈b.2.2->0<=c/\c<=255
theorem zb :
 ∀(a:List (Int×Int×List Int)),(na a)/\True->(a.length:Int)<=1000000-> ∀(b:Bool),(b=true->a.length=(0:Nat))->ah b (([]:List (Int×Int×List Int))=a) (((0:Nat)+a.length)*(40:Nat)<=(140737488355328:Nat)/\a=a):=by
  delta na
  rintro x ⟨⟨hl,-⟩,-⟩ h b hb
  refine aq (fun h1=>?_) (fun h1=>⟨by simp;omega,by simp⟩)
  have:=hb h1
  exact (List.eq_nil_of_length_eq_zero this).symm
theorem Av:aG Try.prog GL 73 vw.spec:=Ct.okH _ Try.func73 (by kernel_rfl) aP aD Bd (aQ (by kernel_rfl) zb)
def jv(l:List (List Int)):Prop:=(l.length:Int)<=1000000∧∀ b∈l,(b.length:Int)<=1099511627776
def jw(l:List af):Prop:=(l.length:Int)<=1000000∧∀ t∈l,(t.2.2.length:Int)<=1099511627776
def xe(l:List ax):Prop:=(l.length:Int)<=1000000∧∀ t∈l,(t.2.length:Int)<=1099511627776
def vU:Ct:=⟨[.val (.sl (.sl aV))],[.own 22 (.sl aV)],fun d=>[jv d.1],fun d=>((d.1,()),())⟩
def Bn:aC vU.ps->aN:=(fun d=>{loops:=(fun n=>match n with|3=>some (fun S=>{ι:=Int×(List (List Int)),qn:=⟨fun k_=>∀(j:Int)(ys:(List (List Int))),k_ (j,ys),fun k_ h_ i=>h_ i.1 i.2,fun k_=>∃ (j:Int) (ys:(List (List Int))),k_ (j,ys),fun k_ ⟨j,ys,h_⟩=>⟨_,h_⟩⟩,μ:=fun i=>(d.1.length-i.1).toNat,inv:=fun i=>0<=i.1/\i.1<=d.1.length/\i.2.length=d.1.length/\i.2.take i.1.toNat=d.1.take i.1.toNat,keep:=[0,9,10],slots:=fun i=>[(3,.own 524288 1),(11,.int .i64 i.1)],names:=fun i=>[(524288,.live (.row 22 (.sl aV) i.2))]})|_=>none)})
def bt(a:List (List Int)) :=
 (a.length:Int)
theorem yD :
 ∀(a:List (List Int)),(a.length<=maxLen/\ ∀(b:List Int),b∈a->b.length<=maxLen/\ ∀(c:Int),c∈b->0<=c/\c<=255)/\True->((bt a)<=1000000/\ ∀(b:List Int),b∈a->(b.length:Int)<=1099511627776)->0<=(bt a)/\(bt a)<=(bt a)/\(↑(24:Nat):Int)*(bt a)<=281474976710656/\(∃(b:Int) (c:List (List Int)),(0<=b/\b<=(bt a)/\c.length=a.length/\List.take b.toNat c=List.take b.toNat a)/\a=a/\a=a/\(bt a)=(bt a)/\(0:Int)=b/\List.replicate (Int.toNat (bt a)) ([]:List Int)=c/\True)/\ ∀(b:Int)(c:List (List Int)),0<=b/\b<=(bt a)/\c.length=a.length/\List.take b.toNat c=List.take b.toNat a->ah (decide (b<(bt a))) (0<=b/\b<(bt a)/\((List.length (a.getD b.toNat default)):Int)<=1099511627776/\0<=b/\b<(c.length:Int)/\ ∃(d:Int) (e:List (List Int)),(0<=d/\d<=(bt a)/\e.length=a.length/\List.take d.toNat e=List.take d.toNat a)/\Int.toNat ((bt a) -d)<Int.toNat ((bt a) -b)/\a=a/\a=a/\(bt a)=(bt
 a)/\IntKind.wrap .i64 (b+(1:Int))=d/\List.set c b.toNat (a.getD b.toNat default)=e/\True) (c=a):=by
  delta bt
  rintro x ⟨⟨hl,-⟩,-⟩⟨hn,hx⟩
  simp only[maxLen] at hl
  refine⟨by omega,by omega,by omega,⟨0,List.replicate x.length [],⟨by omega,by omega,by simp,by simp⟩,(by repeat' first|exact trivial|refine⟨trivial,?_⟩|refine⟨(by with_reducible rfl),?_⟩|refine⟨ad (by omega) (by omega),?_⟩|refine⟨rfl,?_⟩)⟩,?_⟩
  rintro j ys ⟨j0,j1,h1,h2⟩
  refine aq (fun hj=>?_) (fun hj=>?_)
  ·have hj:=of_decide_eq_true hj
   refine⟨j0,hj,hx _ (ce j0 hj),j0,by omega,j+1,ys.set j.toNat (x.getD j.toNat default),⟨by omega,by omega,?_,?_⟩,by omega,?_⟩
   ·rw[List.length_set];exact h1
   ·rw[dK j0 hj,dK j0 (by rw[List.length_set];omega),th (by omega),← h2,List.take_set_of_le (Nat.le_refl _)]
   ·(repeat first|refine⟨trivial,?_⟩|refine⟨(by with_reducible rfl),?_⟩|refine⟨ad (by omega) (by omega),?_⟩)
    trivial
  ·have hj:=of_decide_eq_false hj
   have e:j.toNat=x.length:=by omega
   rw[e,List.take_length,List.take_of_length_le (by omega)] at h2
   exact h2
theorem CC:aG Try.prog GL 51 vU.spec:=Ct.okH _ Try.func51 (by kernel_rfl) (ay aP kY) aD Bn (aQ (by kernel_rfl) yD)
def sr:Ct:=⟨[.val (.sl a9)],[.own 53 a9],fun d=>[jw d.1],fun d=>((d.1,()),())⟩
def De:aC sr.ps->aN:=(fun d=>{loops:=(fun n=>match n with|3=>some (fun S=>{ι:=Int,μ:=fun i=>(d.1.length-i).toNat,inv:=fun i=>0<=i/\i<=d.1.length,keep:=[3,8,9],slots:=fun i=>[(10,.int .i64 i)],keepN:=[128],names:=fun i=>[]})|_=>none)})
theorem Df :
 ∀(a:List (Int×Int×List Int)),(na a)/\True->((a.length:Int)<=1000000/\ ∀(b:af),b∈a->(b.2.2.length:Int)<=1099511627776)->(a.length:Int)<=1000000/\(∃(b:Int),(0<=b/\b<=(a.length:Int))/\(a.length:Int)=(a.length:Int)/\(0:Int)=b/\a=a/\True)/\ ∀(b:Int),0<=b/\b<=(a.length:Int)->ah (decide (b<(a.length:Int))) (0<=b/\b<(a.length:Int)/\((List.length (a.getD b.toNat default).2.2):Int)<=1099511627776/\0<=b/\b<(a.length:Int)/\ ∃(c:Int),(0<=c/\c<=(a.length:Int))/\Int.toNat ((a.length:Int) -c)<Int.toNat ((a.length:Int) -b)/\(a.length:Int)=(a.length:Int)/\IntKind.wrap .i64 (b+(1:Int))=c/\List.set a b.toNat (a.getD b.toNat default)=a/\True) (a=a):=by
  delta na
  rintro x ⟨⟨hl,-⟩,-⟩⟨hn,hx⟩
  refine⟨hn,⟨0,⟨by omega,by omega⟩,(by repeat' first|exact trivial|refine⟨trivial,?_⟩|refine⟨(by with_reducible rfl),?_⟩|refine⟨ad (by omega) (by omega),?_⟩|refine⟨rfl,?_⟩)⟩,?_⟩
  rintro j ⟨j0,j1⟩
  refine aq (fun hj=>?_) (fun hj=>rfl)
  have hj:=of_decide_eq_true hj
  refine⟨j0,hj,hx _ (ce j0 hj),j0,hj,j+1,⟨by omega,by omega⟩,by omega,?_⟩
  (repeat first|refine⟨trivial,?_⟩|refine⟨(by with_reducible rfl),?_⟩|refine⟨ad (by omega) (by omega),?_⟩)
  exact⟨xw j0 hj,trivial⟩
theorem zp:aG Try.prog GL 53 sr.spec:=Ct.okH _ Try.func53 (by kernel_rfl) (ay (ay aP Av) kY) aD De (aQ (by kernel_rfl) Df)
abbrev wG:OT := .pair cI (.pair cI (.pair cI (.pair (.row 22 (.sl aV)) (.pair cI (.pair (.row 22 (.sl aV)) (.pair (.row 51 eh) (.pair (.row 53 a9) (.row 53 a9))))))))
def n3(c:aj):Prop:=jv (ae c)/\jv (aF c)/\xe (aH c)/\jw (aJ c)/\jw (ba c)
def sM:Ct:=⟨[.agg aS],[.agg wG],fun d=>[n3 d.1],fun d=>((d.1,()),())⟩
def yl:aC sM.ps->aN:=(fun d=>{loops:=(fun n=>match n with|4=>some (fun S=>{ι:=Int,μ:=fun i=>((aH d.1).length-i).toNat,inv:=fun i=>0<=i/\i<=(aH d.1).length,keep:=[1,2,18,19],slots:=fun i=>[(20,.int .i64 i)],keepN:=[32,48,128,176,256],names:=fun i=>[]})|_=>none)})
theorem zH :
 ∀(a:Int×Int×Int×List (List Int)×Int×List (List Int)×List (Int×List Int)×List (Int×Int×List Int)×List (Int×Int×List Int)),CT.wf aS a/\True->jv (ae a)/\jv (aF a)/\xe (aH a)/\jw (aJ a)/\jw (ba a)->jv a.2.2.2.1/\jv a.2.2.2.2.2.1/\(a.2.2.2.2.2.2.1.length:Int)<=1000000/\(∃(b:Int),(0<=b/\b<=((List.length (aH a)):Int))/\(a.2.2.2.2.2.2.1.length:Int)=(a.2.2.2.2.2.2.1.length:Int)/\(0:Int)=b/\a.1=a.1/\a.2.1=a.2.1/\a.2.2.1=a.2.2.1/\a.2.2.2.2.1=a.2.2.2.2.1/\a.2.2.2.2.2.2.2.1=a.2.2.2.2.2.2.2.1/\a.2.2.2.2.2.2.2.2=a.2.2.2.2.2.2.2.2/\(0:Int)=0/\(0:Int)=0/\(0:Int)=0/\(0:Int)=0/\a.2.2.2.1=a.2.2.2.1/\a.2.2.2.2.2.1=a.2.2.2.2.2.1/\a.2.2.2.2.2.2.1=a.2.2.2.2.2.2.1/\True)/\ ∀(b:Int),0<=b/\b<=((List.length (aH a)):Int)->ah (decide (b<(a.2.2.2.2.2.2.1.length:Int))) (0<=b/\b<(a.2.2.2.2.2.2.1.length:Int)/\((List.length (List.getD a.2.2.2.2.2.2.1 b.toNat
 default).2):Int)<=1099511627776/\0<=b/\b<(a.2.2.2.2.2.2.1.length:Int)/\ ∃(c:Int),(0<=c/\c<=((List.length (aH a)):Int))/\Int.toNat (((List.length (aH a)):Int) -c)<Int.toNat (((List.length (aH a)):Int) -b)/\(a.2.2.2.2.2.2.1.length:Int)=(a.2.2.2.2.2.2.1.length:Int)/\IntKind.wrap .i64 (b+(1:Int))=c/\a.1=a.1/\a.2.1=a.2.1/\a.2.2.1=a.2.2.1/\a.2.2.2.2.1=a.2.2.2.2.1/\a.2.2.2.2.2.2.2.1=a.2.2.2.2.2.2.2.1/\a.2.2.2.2.2.2.2.2=a.2.2.2.2.2.2.2.2/\(0:Int)=0/\(0:Int)=0/\(0:Int)=0/\(0:Int)=0/\a.2.2.2.1=a.2.2.2.1/\a.2.2.2.2.2.1=a.2.2.2.2.2.1/\List.set a.2.2.2.2.2.2.1 b.toNat (List.getD a.2.2.2.2.2.2.1 b.toNat default)=a.2.2.2.2.2.2.1/\True) (jw a.2.2.2.2.2.2.2.1/\jw a.2.2.2.2.2.2.2.2/\a=a):=by
  rintro d-⟨h1,h2,h3,h4,h5⟩
  have eE:aH d=d.2.2.2.2.2.2.1:=rfl
  rw[eE] at h3 ⊢
  obtain⟨e1,e2⟩:=h3
  refine⟨h1,h2,e1,⟨0,⟨by omega,by omega⟩,(by repeat' first|exact trivial|refine⟨trivial,?_⟩|refine⟨(by with_reducible rfl),?_⟩|refine⟨ad (by omega) (by omega),?_⟩|refine⟨rfl,?_⟩)⟩,?_⟩
  rintro j ⟨j0,j1⟩
  refine aq (fun hj=>?_) (fun hj=>⟨h4,h5,rfl⟩)
  have hj:=of_decide_eq_true hj
  refine⟨j0,hj,e2 _ (ce j0 hj),j0,hj,j+1,⟨by omega,by omega⟩,by omega,?_⟩
  (repeat first|refine⟨trivial,?_⟩|refine⟨(by with_reducible rfl),?_⟩|refine⟨ad (by omega) (by omega),?_⟩)
  exact⟨xw j0 hj,trivial⟩
theorem v7:aG Try.prog GL 32 sM.spec:=Ct.okH _ Try.func32 (by kernel_rfl) (ay (ay (ay (ay aP CC) zp) AC) kY) aD yl (aQ (by kernel_rfl) zH)
def vS:Ct:=⟨[.val cI],[.own 5 aV],fun d=>[0<=d.1],fun d=>((ch d.1 2 2,()),())⟩
def CY:aC vS.ps->aN:=(fun _=>{})
theorem BE :
 ∀(a:Int),ao a/\True->0<=a->(0:Int)<=8/\[IntKind.wrap .u8 (dR IntKind.i64 a (8:Int)),IntKind.wrap .u8 a]=ch a (2:Nat) (2:Nat):=by
  rintro n-h0
  have e:=tE (n:=n) (k:=1) h0 (by omega)
  refine⟨by decide,?_⟩
  rw[fN,show dR .i64 n 8=n/256 from e,IntKind.wrap_u8',IntKind.wrap_u8']
theorem wv:aG Try.prog GL 77 vS.spec:=Ct.okH _ Try.func77 (by kernel_rfl) aP aD CY (aQ (by kernel_rfl) BE)
def sU:Ct:=⟨[.nils,.val cI],[.own 5 aV],fun d=>[0<=d.2.1,d.2.1<=1073741824],fun d=>(([],()),())⟩
def Ax:aC sU.ps->aN:=(fun _=>{})
def kU(a:Int) :=
 a -IntKind.wrap .i64 ((0:Int) -(0:Int))
theorem yb :
 ∀(a:Int),True/\ao a/\True->0<=a/\a<=1073741824->ah (decide (a<0)) False (ah (decide (0<IntKind.wrap .i64 (kU a))) ((0:Int)=0/\(0:Int)=0/\0<=IntKind.wrap .i64 (kU a)/\IntKind.wrap .i64 (kU a)*(↑(1:Nat):Int)<=140737488355328/\(0:Int)<=0/\0<=((List.length (List.replicate (Int.toNat (IntKind.wrap .i64 (kU a))) (0:Int))):Int)/\List.take (Int.toNat (0:Int)) (List.replicate (Int.toNat (IntKind.wrap .i64 (kU a))) (0:Int))=([]:List Int)) (([]:List Int)=([]:List Int))):=by
  delta kU
  rintro x-⟨h0,h1⟩
  rw[ad (n:=(0:Int)-0) (by omega) (by omega),ad (by omega) (by omega)]
  refine aq (fun hb=>?_) (fun hb=>aq (fun hb=>?_) (fun hb=>rfl))
  ·have:=of_decide_eq_true hb;omega
  ·refine⟨rfl,rfl,by omega,by omega,by omega,by simp only[List.length_replicate];omega,by simp⟩
theorem Eh:aG Try.prog GL 96 sU.spec:=Ct.okH _ Try.func96 (by kernel_rfl) (v4 aP (d:=25)) aD Ax (aQ (by kernel_rfl) yb)
def vJ:Ct:=⟨[.val (.sl (.sl aV))],[.own 5 aV],fun d=>[(d.1.flatten.length:Int)<=1073741824],fun d=>((d.1.flatten,()),())⟩
def zR:aC vJ.ps->aN:=(fun d=>{loops:=(fun n=>match n with|3=>some (fun S=>{ι:=Int×Int,qn:=⟨fun k_=>∀(j:Int)(s:Int),k_ (j,s),fun k_ h_ i=>h_ i.1 i.2,fun k_=>∃ (j:Int) (s:Int),k_ (j,s),fun k_ ⟨j,s,h_⟩=>⟨_,h_⟩⟩,μ:=fun i=>(d.1.length-i.1).toNat,inv:=fun i=>0<=i.1/\i.1<=d.1.length/\i.2=((d.1.take i.1.toNat).flatten.length:Int),keep:=[0,9,10],slots:=fun i=>[(3,.int .i64 i.2),(11,.int .i64 i.1)],names:=fun i=>[]})|11=>some (fun S=>{ι:=Int×(List Int),qn:=⟨fun k_=>∀(j:Int)(ys:(List Int)),k_ (j,ys),fun k_ h_ i=>h_ i.1 i.2,fun k_=>∃ (j:Int) (ys:(List Int)),k_ (j,ys),fun k_ ⟨j,ys,h_⟩=>⟨_,h_⟩⟩,μ:=fun i=>(d.1.length-i.1).toNat,inv:=fun i=>0<=i.1/\i.1<=d.1.length/\i.2=(d.1.take i.1.toNat).flatten,keep:=[25,26],slots:=fun i=>[(6,.own 524288 1),(27,.int .i64 i.1)],names:=fun i=>[(524288,.live (.row 5 aV i.2))]})|_=>none)})
theorem Dy :
 ∀(a:List (List Int)),(a.length<=maxLen/\ ∀(b:List Int),b∈a->b.length<=maxLen/\ ∀(c:Int),c∈b->0<=c/\c<=255)/\True->((List.length (List.flatten a)):Int)<=1073741824->(∃(b:Int) (c:Int),(0<=b/\b<=(bt a)/\c=((List.length (List.flatten (List.take b.toNat a))):Int))/\a=a/\(0:Int)=c/\a=a/\(bt a)=(bt a)/\(0:Int)=b/\True)/\ ∀(b c:Int),0<=b/\b<=(bt a)/\c=((List.length (List.flatten (List.take b.toNat a))):Int)->ah (decide (b<(bt a))) (0<=b/\b<(bt a)/\ah (decide (IntKind.wrap .i64 (c+((List.length (a.getD b.toNat default)):Int))<0)) False (∃(d:Int) (e:Int),(0<=d/\d<=(bt a)/\e=((List.length (List.flatten (List.take d.toNat a))):Int))/\Int.toNat ((bt a) -d)<Int.toNat ((bt a) -b)/\a=a/\IntKind.wrap .i64 (c+((List.length (a.getD b.toNat default)):Int))=e/\a=a/\(bt a)=(bt a)/\IntKind.wrap .i64 (b+(1:Int))=d/\True)) (0<=c/\c<=1073741824/\(∃(d:Int) (e:List Int),(0<=d/\d<=(bt
 a)/\e=List.flatten (List.take d.toNat a))/\a=a/\(bt a)=(bt a)/\(0:Int)=d/\([]:List Int)=e/\True)/\ ∀(d:Int)(e:List Int),0<=d/\d<=(bt a)/\e=List.flatten (List.take d.toNat a)->ah (decide (d<(bt a))) (0<=d/\d<(bt a)/\(e.length+List.length (a.getD d.toNat default))*(1:Nat)<=(140737488355328:Nat)/\ ∃(f:Int) (g:List Int),(0<=f/\f<=(bt a)/\g=List.flatten (List.take f.toNat a))/\Int.toNat ((bt a) -f)<Int.toNat ((bt a) -d)/\a=a/\(bt a)=(bt a)/\IntKind.wrap .i64 (d+(1:Int))=f/\e++a.getD d.toNat default=g/\True) (e=List.flatten a)):=by
  delta bt
  rintro x ⟨⟨hl,-⟩,-⟩ ht
  simp only[maxLen] at hl
  refine⟨⟨0,0,⟨by omega,by omega,by simp⟩,(by repeat' first|exact trivial|refine⟨trivial,?_⟩|refine⟨(by with_reducible rfl),?_⟩|refine⟨ad (by omega) (by omega),?_⟩|refine⟨rfl,?_⟩)⟩,?_⟩
  rintro j s ⟨h0,h1,h2⟩
  have hle:=ry x j.toNat
  refine aq (fun hb=>?_) (fun hb=>?_)
  ·have hb:=of_decide_eq_true hb
   have e:=tx h0 hb
   have hle2:=ry x (j+1).toNat
   have el:((x.take (j+1).toNat).flatten.length:Int)=s+(x.getD j.toNat default).length:=by rw[e,List.length_append];omega
   rw[ad (n:=s+_) (by omega) (by omega)]
   refine⟨h0,hb,aq (fun hc=>?_) (fun hc=>?_)⟩
   ·have:=of_decide_eq_true hc;omega
   ·exact⟨j+1,_,⟨by omega,by omega,el.symm⟩,by omega,(by repeat' first|exact trivial|refine⟨trivial,?_⟩|refine⟨(by with_reducible rfl),?_⟩|refine⟨ad (by omega) (by omega),?_⟩|refine⟨rfl,?_⟩)⟩
  ·refine⟨by omega,by omega,⟨0,[],⟨by omega,by omega,by simp⟩,(by repeat' first|exact trivial|refine⟨trivial,?_⟩|refine⟨(by with_reducible rfl),?_⟩|refine⟨ad (by omega) (by omega),?_⟩|refine⟨rfl,?_⟩)⟩,?_⟩
   rintro k ys ⟨k0,k1,rfl⟩
   refine aq (fun hb=>?_) (fun hb=>?_)
   ·have hb:=of_decide_eq_true hb
    have e:=tx k0 hb
    have hle2:=ry x (k+1).toNat
    refine⟨k0,hb,?_,k+1,_,⟨by omega,by omega,e.symm⟩,by omega,(by repeat' first|exact trivial|refine⟨trivial,?_⟩|refine⟨(by with_reducible rfl),?_⟩|refine⟨ad (by omega) (by omega),?_⟩|refine⟨rfl,?_⟩)⟩
    rw[← List.length_append,← e];omega
   ·have hb:=of_decide_eq_false hb
    rw[List.take_of_length_le (by omega)]
theorem zG:aG Try.prog GL 82 vJ.spec:=Ct.okH _ Try.func82 (by kernel_rfl) (ay aP Eh) aD zR (aQ (by kernel_rfl) Dy)
def uq:Ct:=⟨[.val cI,.val (.sl aV)],[.val (.sl aV)],fun d=>[0<=d.1,(d.2.1.length:Int)<=1000000],fun d=>((bF d.1 d.2.1,()),())⟩
def BM:aC uq.ps->aN:=(fun _=>{})
theorem Et :
 ∀(a:Int)(b:List Int),ao a/\(b.length<=maxLen/\ ∀(c:Int),c∈b->0<=c/\c<=255)/\True->0<=a/\(b.length:Int)<=1000000->0<=a/\((List.length (List.flatten [[(68:Int)],ch a (2:Nat) (2:Nat),b])):Int)<=1073741824/\List.flatten [[(68:Int)],ch a (2:Nat) (2:Nat),b]=bF a b:=by
  rintro n it-⟨h0,h1⟩
  have e:List.flatten [[(68:Int)],ch n 2 2,it]=bF n it:=by simp[bF]
  rw[e]
  refine⟨h0,?_,rfl⟩
  rw[mI];omega
theorem sy:aG Try.prog GL 58 uq.spec:=Ct.okH _ Try.func58 (by kernel_rfl) (ay (ay aP wv) zG) aD BM (aQ (by kernel_rfl) Et)
def uz:Ct:=⟨[.val (.sl aV),.val cI],[.val cI],fun d=>[(d.1.length:Int)<=9223372036854775807],fun d=>((aA d.1 d.2.1,()),())⟩
def Es:aC uz.ps->aN:=(fun _=>{})
theorem EJ :
 ∀(a:List Int)(b:Int),(a.length<=maxLen/\ ∀(c:Int),c∈a->0<=c/\c<=255)/\ao b/\True->(a.length:Int)<=9223372036854775807->(a.length:Int)<=9223372036854775807/\bj a b (2:Int)=aA a b:=by
  rintro b a-h
  exact⟨h,rfl⟩
theorem nJ:aG Try.prog GL 76 uz.spec:=Ct.okH _ Try.func76 (by kernel_rfl) (ay aP D4) aD Es (aQ (by kernel_rfl) EJ)
end Go.RS
