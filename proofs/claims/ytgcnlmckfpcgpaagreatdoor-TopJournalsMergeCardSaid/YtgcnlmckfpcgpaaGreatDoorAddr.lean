/- Wire: numbers in bytes, the Internet checksum. -/
import Derived.Test.YtgcnlmckfpcgpaaGreatDoorIdent
import Derived.Laws.BitsAllLaws
set_option maxRecDepth 100000
set_option linter.all false
open Int (toNat)
open List (take set range drop)
open BitVec renaming ofInt->cc8,toNat_ofInt->cm1
open Bool renaming false->bZ6,not_eq_true->cx8,true->bZ3
open Decidable renaming decide->bZ2
open Go.BinOp renaming and->cc6,or->ck2
open Go.IntKind renaming bits->ce4,i64->bZ4,u32->bZ7,u8->cc4,wrap->bZ5,wrap_u8'->ce7
open Inhabited renaming default->Sk
open Int renaming emod_eq_of_lt->cg3,natCast_emod->cy6,pow_pos->cC9,tmod->cd8,toNat->it,toNat_natCast->cb6
open List renaming drop_take->cz6,flatMap->cf3,flatMap_cons->ch7,flatMap_nil->co0,getD->Om,idxOf->cv9,length->be,range->cv8
open Nat renaming div_add_mod->cq1,mul_comm->cf7,pow_le_pow_right->cl9,shiftLeft_eq->cy7,two_pow_pos->cz7
open UInt8 renaming ofNat->cB2
namespace Go.RS
open Go.SX Go.Proofs
def iJ(n:Int)(w k:Nat):ad:=(range k).map λj=>n/256^(w-1-j)%256
def tY(n w:Int):Prop:=w<1∨7<w∨n<0∨256^it w<=n
instance (n w:Int):Decidable (tY n w):=by unfold tY;infer_instance
def putB(b:ad)(n w:Int):ad:=if tY n w then [] else b++iJ n (it w) (it w)
def BU(n w:Int):Int:=if tY n w then 1 else 0
def gP(l:ad):Int:=l.foldl (λn x=>n*256+x) 0
def bI(b:ad)(at' w:Int):Int:=if w<1∨7<w∨at'<0∨be b-w<at' then 0 else gP ((b.drop (it at')).take (it w))
def jT(b:ad)(at' w:Int):Int:=if w<1∨7<w∨at'<0 then 1 else if be b-w<at' then 3 else 0
def oc(n:Int):Int:=if n=0 then 0 else (n-1)%65535+1
def dQ:Bool->ad->Int
 | _,[]=>0
 | hi,x::r=>(if hi then x*256 else x)+dQ (!hi) r
def fy(n:Int):Bool:=bZ2 (0<=n/\n<=65535)
theorem Xi(a b:Nat)(ha:a<9223372036854775808)(hb:b<9223372036854775808):bits .or .i64 (a:Int) (b:Int)=((a ||| b:Nat):Int):=by
 have h:a ||| b<2^63:=Nat.or_lt_two_pow ab ab
 have key:(cc8 64 (a:Int) ||| cc8 64 (b:Int)).toNat=a ||| b:=by
  rw[BitVec.toNat_or,cm1,cm1];have e1:((a:Int)%((2^64:Nat):Int)).toNat=a:=ab;have e2:((b:Int)%((2^64:Nat):Int)).toNat=b:=ab;rw[e1,e2]
 show bZ4.wrap ((cc8 64 (a:Int) ||| cc8 64 (b:Int)).toNat:Nat)=_
 rw[key,aG ab ab]
theorem V4{n:Int}(h0:0<=n)(h1:n<=36028797018963967):fX .i64 n 8=n*256:=by
 show bZ4.wrap (n*2^(min 8 64))=_
 rw[aG (by simp;omega) (by simp;omega)];rfl
theorem RM{n x:Int}(h0:0<=n)(h1:n<=36028797018963966)(h2:0<=x)(h3:x<=255):bits .or .i64 (fX .i64 n 8) (bZ5 .i64 x)=n*256+x:=by
 rw[V4 h0 ab,aG (n:=x) ab ab]
 obtain⟨m,rfl⟩:=rx h0
 obtain⟨y,rfl⟩:=rx h2
 have:=Xi (m*256) y ab ab
 rw[nat_join 8 (m*256) y ab ab] at this
 push_cast at this
 exact this
theorem EJ{n:Int}{k:Nat}(h0:0<=n)(hk:k<8):eZ .i64 n (8*k)=n/256^k:=by
 unfold eZ
 have hm:min (it ((8*(k:Int)))) bZ4.bits=8*k:=by simp only[ce4];omega
 rw[hm,Er _ (Int.le_of_lt (cC9 aB)),Int.pow_mul]
 rfl
theorem Mh{w:Int}(h0:1<=w)(h1:w<=7):fX .i64 1 (bZ5 .i64 (8*w))=256^it w:=by
 have:w=1∨w=2∨w=3∨w=4∨w=5∨w=6∨w=7:=ab
 obtain rfl|rfl|rfl|rfl|rfl|rfl|rfl:=this <;> decide
theorem Ub(n:Int)(w k:Nat):iJ n w (k+1)=iJ n w k++[n/256^(w-1-k)%256]:=by
 unfold iJ;rw[mZ,kJ];rfl
theorem K8(n:Int)(w k:Nat):be (iJ n w k)=k:=by unfold iJ;simp
theorem QK(l:ad)(x:Int):gP (l++[x])=gP l*256+x:=by unfold gP;rw[lT];rfl
theorem Ko:∀(k:Nat)(l:ad),be l<=k->(∀ x∈l,0<=x/\x<=255)->0<=gP l/\gP l<256^k:=by
 intro k
 induction k with
 | zero =>
  intro l hl _;have:l=[]:=yu ab;subst this;exact⟨aB,aB⟩
 | succ k ih =>
  intro l hl hx;obtain rfl|⟨m,x,rfl⟩:=List.eq_nil_or_concat l
  .exact⟨aB,cC9 aB⟩
  .rw[List.concat_eq_append] at hl hx ⊢;have h1:=ih m (by simp at hl;omega) (λy hy=>hx y (ip _ hy));have h2:=hx x az;rw[QK,Int.pow_succ];generalize (256:Int)^k=P at h1 ⊢;omega
theorem bR0{l:ad}(hl:be l<=6)(hx:∀ x∈l,0<=x/\x<=255):0<=gP l/\gP l<=281474976710655:=by
 have:=Ko 6 l hl hx
 have e:(256:Int)^6=281474976710656:=aB
 omega
theorem an6{n:Int}(h:65535<n):oc (n/65536+n%65536)=oc n:=by
 unfold oc
 rw[ah (by omega),ah (by omega)];omega
theorem aS3{n:Int}(h0:0<=n)(h1:n<=65535):oc n=n:=by
 unfold oc;split
 .omega
 .omega
theorem Jm{n:Int}(h0:0<=n):0<=oc n/\oc n<=65535:=by unfold oc;split <;> omega
theorem Kt(hi:Bool)(a b:ad):dQ hi (a++b)=dQ hi a+dQ (if be a%2=0 then hi else !hi) b:=by
 induction a generalizing hi with
 | nil=>simp[dQ]
 | cons x a ih =>
  rw[kO,dQ,dQ,ih,Int.add_assoc];congr 3;rw[cX];by_cases h:be a%2=0
  .rw[aj h,ah ab]
  .rw[ah h,aj ab];simp
theorem H6(hi:Bool)(l:ad)(hx:∀ x∈l,0<=x/\x<=255):0<=dQ hi l/\dQ hi l<=65280*be l:=by
 induction l generalizing hi with
 | nil=>simp[dQ]
 | cons x l ih =>
  have h1:=ih (!hi) (λy hy=>hx y (fu _ hy));have h2:=hx x eV;rw[dQ,cX];cases hi
  .simp at h1 ⊢;omega
  .simp at h1 ⊢;omega
theorem Jz{l:ad}{j:Int}(h0:0<=j)(h1:j<be l):l.take (it (j+1))=l.take (it j)++[Om l (it j) Sk]:=by
 have hj:it j<be l:=ab
 rw[show it (j+1)=it j+1 from by omega,zu hj,cq,cG hj,iA]
def bW1:Ct:=⟨[.val (.sl bm)],[.own 5 bm],λd=>[(be d.1:Int)<=1099511627776],λd=>((d.1,()),())⟩
def aT(a:ad):=ac a<=1099511627776
def bP(a:Nat):=a<=140737488355328
def lq(a b c:Prop):=∀(d:Bool),(d->a)->ar d b c
def fw(a:ad):=[]=a
theorem aP1:
 ∀(a:ad),ai (aQ a)->aT a->lq (be a=0) (fw a) (bP ((0+be a)*1)/\a=a):= by
  delta ac aQ aT bP ai lq fw
  rintro x ⟨⟨hl,-⟩,-⟩ h b hb
  refine aw (λh1=>?_) (λh1=>⟨ab,rfl⟩)
  have:=hb h1
  exact (yu this).symm
theorem tj:aC 70 bW1.spec:=aF Tryz.func70 aD aU aP1
def Y2:Ct:=⟨[.val (.sl bm),.val cI,.val cI],[.own 5 bm,.val cI],λd=>[(be d.1:Int)<=1099511627776],λd=>((putB d.1 d.2.1 d.2.2.1,BU d.2.1 d.2.2.1,()),())⟩
def ZU:bw Y2.ps->bL:=(λd=>{loops:=(bu 5 (λS=>{ι:=Int×ad,qn:=fH,μ:=λi=>it (d.2.2.1-i.1),inv:=λi=>0<=i.1/\i.1<=d.2.2.1/\i.2=d.1++iJ d.2.1 (it d.2.2.1) (it i.1),keep:=[1,2],slots:=λi=>[(8,.own 524288 1),(9,.int .i64 (8*(d.2.2.1-1-i.1)))],names:=λi=>[(524288,.live (.row 5 bm i.2))]}) cC)})
def gp(a b:ad):=bP ((be a+be b)*1)
def fp(a:Int):=bZ2 (0<=a)
def Kp(a:Int)(b:Bool)(c:Prop)(d:Bool)(e f:Prop):=∀(g:Bool),g=ax a 1->bR g/\bv g/\ ∀(h:Bool),sk h g (ax 7 a) (bv h) (∀(i:Bool),sk i h b ( !i->( !i-> !i)/\c) (gq i/\bv i/\ar (bq i d) e f))
def I4(a b:Int)(c d:ad)(e:Int):=am a (a<=b) (c=d++iJ e (it b) (it a))
theorem as1:
 ∀(a:ad)(b c:Int),aQ a/\dV b c->aT a->Kp c (dH b) (ai (0<=ao (8*c))) (bZ2 (fX bZ4 1 (ao (8*c))<=b)) (fw (putB a b c)/\1=BU b c) (aT a/\(∃(d:Int) (e:ad),I4 d c e a b/\bp b c (ao (8*ao (c -1))=8*(c -1 -d)) (ai (a=e)))/\ ∀(d:Int)(e:ad),I4 d c e a b->ar (fp (8*(c -1 -d))) (am (8*(c -1 -d)) (gp e (bz (bZ5 cc4 (eZ bZ4 b (8*(c -1 -d)))))) (∃(f:Int) (g:ad),I4 f c g a b/\bj c f d/\bp b c (ao (8*(c -1 -d) -8)=8*(c -1 -f)) (ai (e++bz (bZ5 cc4 (eZ bZ4 b (8*(c -1 -d))))=g)))) (e=putB a b c/\0=BU b c)):= by
  delta ac ao aq aK aQ bR bp aJ aT bq bj gp am bP bv gq sk bz ai dV dA cN fp dH Kp ax bn fw I4
  rintro b n w ⟨-,⟨n0,n1⟩,⟨w0,w1⟩,-⟩ hl
  rintro b1 rfl
  refine⟨az,az,?_⟩
  rintro b1 rfl
  refine⟨az,az,?_⟩
  rintro b1 rfl
  have hpre:(!(bif (bif bZ2 (w<1) then bZ3 else bZ2 (7<w)) then bZ3 else bZ2 (n<0)))=bZ3->1<=w/\w<=7/\0<=n:=by
   simp[ic];omega
  refine⟨az,λh=>⟨λ_=>h,by have:=hpre h;rw[aG ab ab];omega,aP⟩,λh=>⟨λ_=>h,λ_=>h,aP⟩,az,?_⟩
  refine aw (λhc=>?_) (λhc=>?_)
  .have hbad:tY n w:=by
    unfold tY
    by_cases h:1<=w/\w<=7
    .rw[Mh h.1 h.2] at hc
     simp[ic] at hc;omega
    .omega
   rw[putB,BU,aj hbad,aj hbad];exact⟨rfl,rfl⟩
  .have hw:=hpre (by
    cases h:(bif (bif bZ2 (w<1) then bZ3 else bZ2 (7<w)) then bZ3 else bZ2 (n<0)) with
    | false=>rfl
    | true=>rw[h] at hc;simp at hc)
   have ⟨h1,h7,hn⟩:=hw
   rw[Mh h1 h7] at hc
   have hgood:¬ tY n w:=by
    unfold tY
    simp[ic] at hc;omega
   rw[putB,BU,ah hgood,ah hgood]
   refine⟨hl,⟨0,b,⟨ab,ab,by simp[iJ]⟩,rfl,rfl,by rw[aG (n:=w-1) ab ab,aG ab ab];omega,rfl,aP⟩,?_⟩
   rintro k ys ⟨k0,k1,rfl⟩
   refine ci (λhk=>?_) (λhk=>?_)
   .have ⟨j,hj⟩:=rx (show 0<=w-1-k by omega)
    rw[hj,EJ hn ab,ce7]
    have hbl:=K8 n (it w) (it k)
    refine⟨ab,by simp only[bM,eI,hbl];omega,k+1,_,⟨ab,ab,rfl⟩,ab,rfl,rfl,by rw[aG ab ab];omega,?_,aP⟩
    rw[show it (k+1)=it k+1 from by omega,Ub,fV,show it w-1-it k=j from by omega]
   .rw[show k=w from by omega];exact⟨rfl,rfl⟩
theorem Pa:aC 197 Y2.spec:=aF Tryz.func197 (ap aD tj) ZU as1
def SD:Ct:=⟨[.val (.sl bm),.val cI,.val cI],[.val cI,.val cI],λd=>[(be d.1:Int)<=9223372036854775807],λd=>((bI d.1 d.2.1 d.2.2.1,jT d.1 d.2.1 d.2.2.1,()),())⟩
def br4:bw SD.ps->bL:=(λd=>{loops:=(bu 7 (λS=>{ι:=Int×Int,qn:=fH,μ:=λi=>it (d.2.2.1-i.1),inv:=λi=>0<=i.1/\i.1<=d.2.2.1/\i.2=gP (((d.1.drop (it d.2.1)).take (it d.2.2.1)).take (it i.1)),keep:=[34,35],slots:=λi=>[(8,.int .i64 i.2),(36,.int .i64 i.1)]}) cC)})
def fh(a b:Int)(c d e f:Prop):=ar (ax a b) (am a c d) (e/\f)
def mR(a:ad)(b c:Int):=fU a b (ao (b+c))
def IZ(a b c d:Int)(e:ad):=am a (a<=b) (c=gP (take (it a) (take (it b) (drop (it d) e))))
theorem bC0:
 ∀(a:ad)(b c:Int),aQ a/\dV b c->aK (ac a)-> ∀(d:Bool),d=ax c 1->bR d/\bv d/\zJ d (ax 7 c) (dH b) (0=bI a b c/\1=jT a b c) (ar (ax (ao (ac a -c)) b) (0=bI a b c/\3=jT a b c) (bt b (ao (b+c)) (ao (b+c)<=ac a) ((∃(e f:Int),IZ e c f b a/\0=f/\mR a b c=mR a b c/\ac (mR a b c)=ac (mR a b c)/\ai (0=e))/\ ∀(e f:Int),IZ e c f b a->fh e (ac (mR a b c)) (e<ac (mR a b c)) ((0:Int)<=(8:Int)/\ ∃(g h:Int),IZ g c h b a/\bj c g e/\bits ck2 bZ4 (fX bZ4 f 8) (ao (ae (mR a b c) e))=h/\mR a b c=mR a b c/\ac (mR a b c)=ac (mR a b c)/\ai (bf e g)) (f=bI a b c) (0=jT a b c)))):= by
  delta ae ac ao aq aK aQ bR aJ bq bj am bv fU sk fh bt ai bf dV cN dH mR IZ ax zJ
  rintro b a w ⟨⟨hl0,hx⟩,⟨a0,a1⟩,⟨w0,w1⟩,-⟩ hl
  (repeat (refine cL ?_;repeat refine cK ?_))
  unfold bI jT
  refine aw (λhc=>?_) (λhc=>?_)
  .have h:w<1∨7<w∨a<0:=by simp[ic] at hc;omega
   rw[aj ab,aj h];exact⟨rfl,rfl⟩
  have h:¬ (w<1∨7<w∨a<0):=by simp[ic] at hc;omega
  rw[aG (n:=(be b:Int)-w) ab ab,ah h]
  refine aw (λhd=>?_) (λhd=>?_)
  .have hd:=aX hd
   rw[aj ab,aj hd];exact⟨rfl,rfl⟩
  have hd:=bg hd
  rw[ah ab,ah hd,aG (n:=a+w) ab ab]
  have hsub:bY b (it a) (it (a+w))=(b.drop (it a)).take (it w):=by
   unfold bY;rw[cz6,show it (a+w)-it a=it w from by omega]
  rw[hsub]
  have hlen:be ((b.drop (it a)).take (it w))=it w:=by rw[eM,gw];omega
  have hy:∀ y∈(b.drop (it a)).take (it w),0<=y/\y<=255:=λy hy=>hx y (Al (rX hy))
  generalize (b.drop (it a)).take (it w)=m at *
  rw[hlen]
  refine⟨ab,ab,ab,⟨0,0,⟨ab,ab,by simp[gP]⟩,aI⟩,?_⟩
  rintro j n ⟨j0,j1,rfl⟩
  refine ci (λhj=>?_) (λhj=>?_)
  .have ht:=Jz (l:=m) j0 ab
   have ⟨x0,x1⟩:=hy _ (dm (xs:=m) j0 ab)
   have hb:=bR0 (l:=m.take (it j)) (by rw[eM];omega) (λy h=>hy y (rX h))
   refine⟨j0,hj,ab,j+1,_,⟨ab,ab,rfl⟩,ab,?_,rfl,rfl,aG ab ab,aP⟩
   rw[ht,QK,RM hb.1 ab x0 x1]
  .rw[gN ab];exact⟨rfl,rfl⟩
theorem Dg:aC 192 SD.spec:=aF Tryz.func192 aD br4 bC0
def Xk:Ct:=⟨[.val cI],[.val cI],λd=>[0<=d.1],λd=>((oc d.1,()),())⟩
def af9:bw Xk.ps->bL:=(λd=>{loops:=(bu 1 (λS=>{ι:=Int,μ:=λi=>it i,inv:=λi=>0<=i/\i<=9223372036854775807/\oc i=oc d.1,keep:=[],slots:=λi=>[(0,.int .i64 i)]}) cC)})
theorem ZA:
 ∀(a:Int),ai (aq a)->0<=a->(∃(b:Int),am b (aK b) (oc b=oc a)/\ai (a=b))/\ ∀(b:Int),am b (aK b) (oc b=oc a)->ar (ax 65535 b) ((0:Int)<=(16:Int)/\ ∃(c:Int),am c (aK c) (oc c=oc a)/\cN c b/\ai (ao (eZ bZ4 b 16+bits cc6 bZ4 b 65535)=c)) (b=oc a):= by
  delta ao aq aK am ai cN ax
  rintro n ⟨⟨n0,n1⟩,-⟩ h
  refine⟨⟨n,⟨h,n1,rfl⟩,rfl,aP⟩,?_⟩
  rintro m ⟨m0,m1,m2⟩
  refine ci (λhm=>?_) (λhm=>?_)
  .have e:=EJ (n:=m) (k:=2) m0 ab
   have e2:(8:Int)*((2:Nat):Int)=16:=rfl
   rw[e2] at e
   rw[e,FU,aG ab ab]
   have e3:(256:Int)^2=65536:=rfl
   rw[e3]
   exact⟨ab,_,⟨ab,ab,by rw[an6 hm,m2]⟩,ab,rfl,aP⟩
  .rw[← m2,aS3 m0 ab]
theorem Vu:aC 286 Xk.spec:=aF Tryz.func286 aD af9 ZA
theorem ar1{j:Int}(h0:0<=j)(h1:j<=9223372036854775807):bits .and .i64 j 1=j%2:=by
 obtain⟨m,rfl⟩:=rx h0
 have key:(cc8 64 (m:Int) &&& cc8 64 1).toNat=m%2:=by
  rw[BitVec.toNat_and,cm1,show (cc8 64 1).toNat=1 from by decide];have e1:((m:Int)%((2^64:Nat):Int)).toNat=m:=ab;rw[e1,nat_mask1]
 show bZ4.wrap ((cc8 64 (m:Int) &&& cc8 64 1).toNat:Nat)=_
 rw[key,aG ab ab];omega
theorem aD5{n:Int}(h0:0<=n)(h1:n<=36028797018963967):fX .i64 n (bZ5 .i64 (8*bZ5 .i64 (1-1)))=n:=by
 show bZ4.wrap (n*2^(min 0 64))=_
 rw[aG (by simp;omega) (by simp;omega)];simp
def Rs:Ct:=⟨[.val (.sl bm)],[.val cI],λd=>[(be d.1:Int)<=1099511627776],λd=>((oc (dQ bZ3 d.1),()),())⟩
def bV9:bw Rs.ps->bL:=(λd=>{loops:=(bu 3 (λS=>{ι:=Int×Int,qn:=fH,μ:=λi=>it (be d.1-i.1),inv:=λi=>0<=i.1/\i.1<=be d.1/\i.2=dQ bZ3 (d.1.take (it i.1))/\0<=i.2/\i.2<=65280*i.1,keep:=[0,6,7],slots:=λi=>[(3,.int .i64 i.2),(8,.int .i64 i.1)]}) cC)})
def KJ(a:Int)(b:ad)(c:Int):=bt a (ac b) (c=dQ bZ3 (take (it a) b)) (0<=c/\c<=65280*a)
def sM(a:ad)(b c:Prop):=ai (aQ a)->aT a->b/\c
theorem aa9:
 ∀(a:ad),sM a (∃(b c:Int),KJ b a c/\a=a/\0=c/\a=a/\ac a=ac a/\ai (0=b)) (∀(b c:Int),KJ b a c->fh b (ac a) (b<ac a) (0<=ao (8*ao (1 -bits cc6 bZ4 b 1))/\ ∃(d e:Int),KJ d a e/\bj (ac a) d b/\a=a/\ao (c+fX bZ4 (ao (ae a b)) (ao (8*ao (1 -bits cc6 bZ4 b 1))))=e/\a=a/\ac a=ac a/\ai (bf b d)) (0<=c) (oc c=oc (dQ bZ3 a))):= by
  delta ae ac ao aQ aT bj am fh bt ai bf cN KJ ax sM
  rintro l ⟨⟨-,hx⟩,-⟩ hl
  refine⟨⟨0,0,⟨ab,ab,by simp[dQ],ab,ab⟩,aI⟩,?_⟩
  rintro j n ⟨j0,j1,rfl,n0,n1⟩
  refine ci (λhj=>?_) (λhj=>?_)
  .have ⟨x0,x1⟩:=hx _ (dm j0 hj)
   have ht:=Jz j0 hj
   have hs:=Kt bZ3 (l.take (it j)) [Om l (it j) Sk]
   rw[← ht] at hs
   generalize Om l (it j) Sk=x at *
   have hb:=ar1 j0 ab
   rw[hb]
   have hlen:be (l.take (it j))=it j:=by rw[eM];omega
   rw[hlen] at hs
   have hv:0<=bZ5 .i64 (8*bZ5 .i64 (1-j%2))/\fX .i64 (bZ5 .i64 x) (bZ5 .i64 (8*bZ5 .i64 (1-j%2)))=(if j%2=0 then x*256 else x):=by
    rw[aG (n:=x) ab ab]
    by_cases he:j%2=0
    .rw[he,aj rfl];exact⟨aB,V4 x0 ab⟩
    .rw[show j%2=1 from by omega,ah aB]
     exact⟨aB,aD5 x0 ab⟩
   rw[hv.2]
   refine⟨j0,hj,hv.1,j+1,dQ bZ3 (l.take (it (j+1))),⟨ab,ab,rfl,?_,?_⟩,ab,rfl,?_,rfl,rfl,aG ab ab,aP⟩
   all_goals rw[hs]
   all_goals by_cases he:j%2=0
   all_goals first
    | rw[aj (show it j%2=0 by omega)]
    | rw[ah (show ¬ it j%2=0 by omega)]
   all_goals simp only[dQ,he,if_true,if_false,Bool.not_true,F1]
   all_goals try omega
   all_goals rw[aG ab ab]
   all_goals omega
  .rw[gN ab] at n0 ⊢
   exact⟨n0,rfl⟩
theorem bX4:aC 246 Rs.spec:=aF Tryz.func246 (ap aD Vu) bV9 aa9
def aV6:Ct:=⟨[.val (.sl bm)],[.val cI],λd=>[(be d.1:Int)<=1099511627776],λd=>((65535-oc (dQ bZ3 d.1),()),())⟩
def rH(a:ad):=65535 -oc (dQ bZ3 a)
theorem bU9:
 ∀(a:ad),sM a (aT a) (ao (rH a)=rH a):= by
  delta ac ao aQ aT ai rH sM
  rintro l ⟨⟨-,hx⟩,-⟩ hl
  have:=Jm (H6 bZ3 l hx).1
  exact⟨hl,aG ab ab⟩
theorem B6:aC 198 aV6.spec:=aF Tryz.func198 (ap aD bX4) aU bU9
def aC0:Ct:=⟨[.val cI],[.val .bool],λd=>[],λd=>((fy d.1,()),())⟩
def br(a b:Bool):=bif a then b else bZ6
def wR(a b c:Bool):=∀(d:Bool),d=a->(d->aJ d)/\(d->d)/\br d b=c
def Az(a:Int)(b c:Bool):=dW (aq a) (wR (fp a) b c)
def Dt:=∀(a:Int),Az a (bZ2 (a<=65535)) (fy a)
theorem bq3:
 Dt:= by
 delta aq aK aJ br ai Az wR fp dW Dt
 rintro n - -
 (repeat (refine cL ?_;repeat refine cK ?_))
 unfold fy
 by_cases h:0<=n <;> simp[h]
theorem aO9:aC 213 aC0.spec:=aF Tryz.func213 aD aU bq3
abbrev UM:CT := .pair .bool (.pair cI (.pair cI (.sl bm)))
abbrev Zs:CT := .pair cI (.pair cI (.sl bm))
abbrev Mp:CT := .pair cI (.pair cI (.sl bm))
abbrev LN:CT := .pair cI (.pair cI (.pair cI (.pair cI (.pair cI (.pair cI (.sl bm))))))
abbrev qN:Type:=Bool×Int×Int×ad
abbrev kQ:Type:=Int×Int×ad
abbrev t8:Type:=Int×Int×ad
abbrev mJ:Type:=Int×Int×Int×Int×Int×Int×ad
def fG(lim:Int)(l:ad):Bool:=l.all λn=>bZ2 (0<=n/\n<=lim)
def w2(n:Int):ad:=[n/256%256,n%256]
def w4(n:Int):ad:=[n/16777216%256,n/65536%256,n/256%256,n%256]
def eG(b:ad):Int:=65535-oc (dQ bZ3 b)
def dL(b:ad)(at':Nat)(n:Int):ad:=(b.set at' (n/256%256)).set (at'+1) (n%256)
def aR(b:ad)(at':Nat):Int:=gP ((b.drop at').take 2)
def bQ8:Ct:=⟨[.val cI,.box 3 cI],[.val .bool],λ_=>[],λd=>((bZ2 (d.1<0∨d.2.1<d.1),()),(d.2.1,()))⟩
theorem am3:
 ∀(a b:Int),dV a b->True-> ∀(c:Bool),c=dH a->gq c/\bv c/\bq c (ax b a)=bZ2 (a<0∨b<a)/\b=b:= by
  delta aq aK aJ bq bv gq ai dV dA dH ax
  simp_all
theorem as5:aC 283 bQ8.spec:=aF Tryz.func283 aD aU am3
def Tc:Cn:=⟨[.val (.sl cI),.fn 283 1,.box 3 cI],[.val cI],λ_=>[],λd y=>y.2.1=d.2.2.1 ∧ -1<=y.1.1/\(y.1.1 = -1↔fG d.2.2.1 d.1=bZ3),λd h=>⟨((if fG d.2.2.1 d.1=bZ3 then -1 else 0,()),(d.2.2.1,())),rfl,by by_cases h:fG d.2.2.1 d.1=bZ3 <;> simp[h]⟩⟩
def bu9:bw Tc.ps->bL:=(λd=>{loops:=(bu 2 (λS=>{ι:=Int,μ:=λi=>it (be d.1-i),inv:=λi=>0<=i/\i<=be d.1/\fG d.2.2.1 (d.1.take (it i))=bZ3,keep:=[0,1,6,7],slots:=λi=>[(8,.int .i64 i)],keepN:=[1048576]}) cC)})
def gv(a:ad)(b:Int)(c d:Prop):=a=a/\b=b/\c/\d
def IY(a:Int)(b:ad)(c:Int):=am a (a<=ac b) (fG c (take (it a) b))
theorem a73:
 ∀(a:ad)(b:Int),cS a/\True/\ai (aq b)->True->(∃(c:Int),IY c a b/\a=a/\gv a (ac a) (0=c) (ai (b=b)))/\ ∀(c:Int),IY c a b->fh c (ac a) (c<ac a) (ar (bZ2 (ae a c<0∨b<ae a c)) (b=b/\(-1)<=c/\(c=(-1)↔fG b a)) (∃(d:Int),IY d a b/\bj (ac a) d c/\a=a/\gv a (ac a) (bf c d) (ai (b=b)))) (b=b) ((-1:Int)<=(-1:Int)/\((-1:Int)=(-1:Int)↔fG b a)):= by
  delta ae ac ao aq aK cS bj am fh ai gv bf cN ax IY
  rintro l lim ⟨⟨hl,-⟩,-⟩ -
  simp only[maxLen] at hl
  refine⟨⟨0,⟨ab,ab,by simp[fG]⟩,aI⟩,?_⟩
  rintro j ⟨b,j1,c⟩
  refine ci (λa=>?_) (λa=>?_)
  .have ht:=Jz b a
   have hm:=dm b a
   generalize Om l (it j) Sk=x at *
   refine⟨b,a,ci (λhb=>?_) (λhb=>?_)⟩
   .refine⟨rfl,ab,⟨λh=>ab,λh=>?_⟩⟩
    unfold fG at h
    grind
   .refine⟨j+1,⟨ab,ab,?_⟩,ab,aI⟩
    unfold fG at c ⊢
    simp_all
  .rw[gN ab] at c
   simp[c]
theorem bB9:aC 310 Tc.spec:=lL Tryz.func310 (ap aD as5) bu9 a73
def bA1:Ct:=⟨[.val (.sl cI),.fn 283 1,.box 3 cI],[.val .bool],λ_=>[],λd=>((!fG d.2.2.1 d.1,()),(d.2.2.1,()))⟩
theorem ab2:
 ∀(a:ad)(b:Int),cS a/\True/\ai (aq b)->True-> ∀(c d:Int),d=b/\(-1)<=c/\(c=(-1)↔fG b a)->fp c=( !fG b a)/\d=b:= by
  delta aq aK cS ai fp
  grind
theorem aH4:aC 282 bA1.spec:=aF Tryz.func282 (ap aD bB9) aU ab2
def aa5:Ct:=⟨[.val cI,.val (.sl cI)],[.val .bool],λ_=>[],λd=>((fG d.1 d.2.1,()),())⟩
theorem bD5:
 ∀(a:Int)(b:ad),aq a/\ai (cS b)->True->( !( !fG a b))=fG a b:= by
  delta aq aK cS ai
  simp
theorem Ff:aC 239 aa5.spec:=aF Tryz.func239 (ap aD aH4) aU bD5
theorem ay0(l:ad):be (l.flatMap w2)=2*be l:=by
 induction l with
 | nil=>rfl
 | cons x l ih=>rw[ch7,bM,ih,cX];simp[w2];omega
theorem aF6(n:Int):iJ n 2 2=w2 n:=by
 simp[iJ,w2,range,cv8.loop]
theorem bb9(n:Int):iJ n 4 4=w4 n:=by
 simp[iJ,w4,range,cv8.loop]
theorem bo5(n:Int):iJ n 1 1=[n%256]:=by
 simp[iJ,range,cv8.loop]
theorem Hd{b:ad}{n:Int}(h0:0<=n)(h1:n<=65535):putB b n 2=b++w2 n:=by
 rw[putB,ah,← aF6]
 .rfl
 .unfold tY;grind
theorem Q6{b:ad}{n:Int}(h0:0<=n)(h1:n<=4294967295):putB b n 4=b++w4 n:=by
 rw[putB,ah,← bb9]
 .rfl
 .unfold tY;grind
theorem Jx{b:ad}{n:Int}(h0:0<=n)(h1:n<=255):putB b n 1=b++[n]:=by
 rw[putB,ah,show iJ n (it (1:Int)) (it (1:Int))=[n] from by
  have:=bo5 n;rw[cg3 h0 ab] at this;exact this]
 unfold tY
 grind
def V0:Ct:=⟨[.nils,.val (.sl cI)],[.own 5 bm],λd=>[fG 65535 d.2.1=bZ3,(be d.2.1:Int)<=1073741824],λd=>((d.2.1.flatMap w2,()),())⟩
def bS7:bw V0.ps->bL:=(λd=>{loops:=(bu 2 (λS=>{ι:=Int×ad,qn:=fH,μ:=λi=>it (be d.2.1-i.1),inv:=λi=>0<=i.1/\i.1<=be d.2.1/\i.2=(d.2.1.take (it i.1)).flatMap w2,keep:=[7,8],slots:=λi=>[(0,.own 524288 1),(9,.int .i64 i.1)],names:=λi=>[(524288,.live (.row 5 bm i.2))]}) cC)})
def fA(a:ad):=ac a<=1073741824
def bJ(a b:Int)(c d:Prop):=am a (a<b) (c/\d)
def HN(a:Int)(b c:ad):=am a (a<=ac b) (c=cf3 w2 (take (it a) b))
theorem aO3:
 ∀(a:ad),True/\ai (cS a)->fG 65535 a/\fA a->(∃(b:Int) (c:ad),HN b a c/\gv a (ac a) (0=b) (ai (c=[])))/\ ∀(b:Int)(c:ad),HN b a c->ar (ax b (ac a)) (bJ b (ac a) (aT c) (∃(d:Int) (e:ad),HN d a e/\bj (ac a) d b/\gv a (ac a) (bf b d) (ai (putB c (ae a b) 2=e)))) (c=cf3 w2 a):= by
  delta ae ac ao aq aK cS aT bj am fA ai gv bf cN bJ ax HN
  rintro l ⟨-,⟨hl,-⟩,-⟩⟨ha,hk⟩
  refine⟨⟨0,[],⟨ab,ab,az⟩,aI⟩,?_⟩
  rintro j ys ⟨b,j1,rfl⟩
  refine ci (λa=>?_) (λa=>?_)
  .have ht:=Jz b a
   have hm:=dm b a
   have hlen:be ((l.take (it j)).flatMap w2)=2*it j:=by
    rw[ay0,eM];omega
   generalize Om l (it j) Sk=x at *
   have c:=aX (List.all_eq_true.1 ha x hm)
   refine⟨b,a,ab,j+1,_,⟨ab,ab,rfl⟩,ab,rfl,rfl,aG ab ab,?_,aP⟩
   rw[ht,List.flatMap_append,Hd c.1 c.2];simp
  .rw[gN ab]
theorem F6:aC 240 V0.spec:=aF Tryz.func240 (ap aD Pa) bS7 aO3
def a52:Ct:=⟨[.val (.sl bm),.val cI],[.val cI],λd=>[0<=d.2.1,d.2.1+2<=be d.1,(be d.1:Int)<=1099511627776],λd=>((aR d.1 (it d.2.1),()),())⟩
theorem aX2:
 ∀(a:ad)(b:Int),aQ a/\ai (aq b)->am b (b+2<=ac a) (aT a)->aK (ac a)/\bI a b 2=aR a (it b):= by
  delta ac aq aK aQ aT am ai
  rintro b a-⟨h0,h1,h2⟩
  refine⟨ab,?_⟩
  rw[bI,ah ab];rfl
theorem Ha:aC 281 a52.spec:=aF Tryz.func281 (ap aD Dg) aU aX2
theorem Ql{n:Int}(h0:0<=n):eZ .i64 n 8=n/256:=by
 have e:=EJ (n:=n) (k:=1) h0 (by omega)
 exact e
def bU5:Ct:=⟨[.val (.sl bm),.val cI,.val cI],[.own 5 bm],λd=>[0<=d.2.1,d.2.1+2<=be d.1,(be d.1:Int)<=1099511627776,0<=d.2.2.1,d.2.2.1<=65535],λd=>((dL d.1 (it d.2.1) d.2.2.1,()),())⟩
def jL(a:Int):=it (ao a)
def ue(a:Int):=bZ5 cc4 (eZ bZ4 a 8)
def qa(a:Int):=0<=a/\a<=65535
theorem ag8:
 ∀(a:ad)(b c:Int),aQ a/\dV b c->am b (b+2<=ac a) (aT a/\qa c)->aT a/\am 8 (0<=b) (b<ac a/\am (ao (b+1)) (ao (b+1)<ac (set a (it b) (ue c))) (set (set a (it b) (ue c)) (jL (b+1)) (bZ5 cc4 c)=dL a (it b) c)):= by
  delta ac ao aq aK aQ aT am ai dV jL ue qa
  rintro b a n-⟨h0,h1,h2,n0,n1⟩
  rw[aG ab ab,Ql n0,ce7,ce7,gd]
  refine⟨ab,ab,ab,ab,ab,ab,?_⟩
  rw[dL,show it (a+1)=it a+1 from by omega]
theorem XA:aC 284 bU5.spec:=aF Tryz.func284 (ap aD tj) aU ag8
def bm3:Ct:=⟨[.val (.sl bm),.val cI,.val cI],[.own 5 bm,.val cI],λd=>[0<=d.2.1,d.2.1+2<=be d.1,(be d.1:Int)<=1099511627776,0<=d.2.2.1,d.2.2.1<=65535],λd=>((if (1480:Int)<be d.1 then [] else dL d.1 (it d.2.1) d.2.2.1,if (1480:Int)<be d.1 then 5 else 0,()),())⟩
def xD(a:ad):=if 1480<ac a then (5:Int) else (0:Int)
def xh(a:Int)(b:ad):=if 1480<a then ([]:ad) else b
theorem aQ2:
 ∀(a:ad)(b c:Int),aQ a/\dV b c->am b (b+2<=ac a) (aT a/\qa c)->ar (ax 1480 (ac a)) (fw (xh (ac a) (dL a (it b) c))/\5=xD a) (am b (b+2<=ac a) (aT a/\bt c 65535 (dL a (it b) c=xh (ac a) (dL a (it b) c)) (0=xD a))):= by
  delta ac aq aK aQ aT am bt ai dV ax xD xh fw qa
  rintro b a n-⟨h0,h1,h2,n0,n1⟩
  refine ci (λhb=>?_) (λhb=>?_)
  .simp_all
  .grind
theorem Im:aC 241 bm3.spec:=aF Tryz.func241 (ap aD XA) aU aQ2
def bH0:Ct:=⟨[.val (.sl bm),.val cI],[.own 5 bm,.val cI],λd=>[0<=d.2.1,d.2.1+2<=be d.1,(be d.1:Int)<=1099511627776],λd=>((dL d.1 (it d.2.1) 0,aR d.1 (it d.2.1),()),())⟩
theorem bU1:
 ∀(a:ad)(b:Int),aQ a/\ai (aq b)->am b (b+2<=ac a) (aT a)->am b (b+2<=ac a) (aT a/\am 0 ((0:Int)<=(65535:Int)) (am b (b+2<=ac a) (aT a/\dL a (it b) 0=dL a (it b) 0/\aR a (it b)=aR a (it b)))):= by
  delta ac aq aK aQ aT am ai
  simp_all
theorem Kx:aC 280 bH0.spec:=aF Tryz.func280 (ap (ap aD XA) Ha) aU bU1
def ay4:Ct:=⟨[.val cI],[.val .bool],λd=>[],λd=>((fy d.1,()),())⟩
theorem bj6:
 Dt:= by
 delta aq aK aJ br ai Az wR fp dW Dt
 unfold fy
 simp_all
theorem aC9:aC 158 ay4.spec:=aF Tryz.func158 aD aU bj6
def a88:Ct:=⟨[.val cI],[.val .bool],λd=>[],λd=>((bZ2 (0<=d.1/\d.1<=255),()),())⟩
theorem bJ5:
 ∀(a:Int),Az a (bZ2 (a<=255)) (bZ2 (0<=a/\a<=255)):= by
  delta aq aK aJ br ai Az wR fp dW
  simp_all
theorem aj4:aC 163 a88.spec:=aF Tryz.func163 aD aU bJ5
def oh(e:qN):Int:=if ¬ (fy e.2.1=bZ3/\fy e.2.2.1=bZ3) then 1 else if (1472:Int)<be e.2.2.2 then 5 else 0
def eJ(e:qN):ad:=[if e.1 then 0 else 8,0,0,0]++(w2 e.2.1++(w2 e.2.2.1++e.2.2.2))
def gD(e:qN):ad:=if oh e=0 then dL (eJ e) 2 (eG (eJ e)) else []
def lF(n:kQ):Int:=if ¬ ((n.1=3∨n.1=11)/\0<=n.2.1/\n.2.1<=255) then 1 else if (be n.2.2:Int)<28 then 3 else if (1472:Int)<be n.2.2 then 5 else 0
def pP(n:kQ):ad:=[n.1,n.2.1,0,0,0,0,0,0]++n.2.2
def j9(n:kQ):ad:=if lF n=0 then dL (pP n) 2 (eG (pP n)) else []
def C1(src dst proto:Int)(b:ad):ad:=w4 src++(w4 dst++(w2 proto++(w2 (be b)++b)))
def iC(src dst proto:Int)(b:ad):Int:=if ¬ (0<=proto/\proto<=255)∨(65535:Int)<be b then 0 else eG (C1 src dst proto b)
def mD(src dst:Int)(b:ad):Int:=if iC src dst 17 b=0 then 65535 else iC src dst 17 b
def qd(u:t8):Int:=if ¬ (fy u.1=bZ3/\fy u.2.1=bZ3) then 1 else if (1472:Int)<be u.2.2 then 5 else 0
def gZ(u:t8):ad:=w2 u.1++(w2 u.2.1++(w2 (8+be u.2.2)++([0,0]++u.2.2)))
def oH(src dst:Int)(u:t8):ad:=if qd u=0 then dL (gZ u) 6 (mD src dst (gZ u)) else []
def xy(s:mJ):Prop:=fy s.1=bZ3/\fy s.2.1=bZ3/\(0<=s.2.2.1/\s.2.2.1<=4294967295)/\(0<=s.2.2.2.1/\s.2.2.2.1<=4294967295)/\(0<=s.2.2.2.2.1/\s.2.2.2.2.1<=255)/\fy s.2.2.2.2.2.1=bZ3
instance (s:mJ):Decidable (xy s):=by unfold xy;infer_instance
def pA(s:mJ):Int:=if ¬ xy s then 1 else if (1460:Int)<be s.2.2.2.2.2.2 then 5 else 0
def nS(s:mJ):ad:=w2 s.1++(w2 s.2.1++(w4 s.2.2.1++(w4 s.2.2.2.1++([80,s.2.2.2.2.1]++(w2 s.2.2.2.2.2.1++([0,0,0,0]++s.2.2.2.2.2.2))))))
def gQ(src dst:Int)(s:mJ):ad:=if pA s=0 then dL (nS s) 16 (iC src dst 6 (nS s)) else []
def bytes(l:ad):Prop:=∀ x∈l,0<=x/\x<=255
theorem jY{a b:ad}(ha:bytes a)(hb:bytes b):bytes (a++b):=λx h=>(dI.1 h).elim (ha x) (hb x)
theorem oV(n:Int):bytes (w2 n):=by intro x h;simp[w2] at h;omega
theorem D1(n:Int):bytes (w4 n):=by intro x h;simp[w4] at h;omega
theorem o9{a:Int}{l:ad}(h0:0<=a)(h1:a<=255)(h:bytes l):bytes (a::l):=by
 intro x b
 obtain rfl|b:=dO.1 b
 .exact⟨h0,h1⟩
 .exact h x b
theorem qi:bytes []:=by intro x h;cases h
theorem vd{b:ad}(h:bytes b):0<=eG b/\eG b<=65535:=by
 have:=Jm (H6 bZ3 b h).1
 unfold eG;omega
theorem a32{p data B b:ad}{a c d:Int}(hp:p++data=B)(ha:0<=a)(h8:a+2<=be p)(hp1:be p<=100)(hd:(be data:Int)<=1073741824)(c0:0<=c)(c1:c<=65535)
  (he:b=if (1480:Int)<be B then [] else dL B (it a) c) (hr:d=if (1480:Int)<be B then 5 else 0) :
  0<=a/\a+2<=(be (p++data):Int)/\(be (p++data):Int)<=1099511627776/\0<=c/\c<=65535/\(if (1480:Int)<(be (p++data):Int) then [] else dL (p++data) (it a) c)=b/\(if (1480:Int)<(be (p++data):Int) then (5:Int) else 0)=d:=by
 grind
theorem xC{p data:ad}(hp1:be p<=100)(hd:(be data:Int)<=1073741824):(be p+be data)*1<=140737488355328/\(be (p++data):Int)<=1099511627776:=by
 grind
theorem CQ(lim a b:Int):fG lim [a,b]=bZ3↔(0<=a/\a<=lim)/\0<=b/\b<=lim:=by simp[fG]
theorem Ew(lim a:Int):fG lim [a]=bZ3↔0<=a/\a<=lim:=by simp[fG]
theorem jA(n:Int):fy n=bZ3↔0<=n/\n<=65535:=by simp[fy]
theorem Ps(e:qN):be (eJ e)=8+be e.2.2.2:=by simp[eJ,w2];omega
theorem a02{e:qN}(h:¬ (fy e.2.1=bZ3/\fy e.2.2.1=bZ3)):[]=gD e/\1=oh e:=by
 have:oh e=1:=by rw[oh,aj h]
 rw[gD,this];simp
theorem bH6{e:qN}(h:fy e.2.1=bZ3/\fy e.2.2.1=bZ3):(gD e=if (1480:Int)<be (eJ e) then [] else dL (eJ e) 2 (eG (eJ e)))/\oh e=if (1480:Int)<be (eJ e) then 5 else 0:=by
 have hl:=Ps e
 have he:oh e=if (1480:Int)<be (eJ e) then 5 else 0:=by
  rw[oh,ah (λk=>k h)];grind
 rw[gD,he]
 grind
theorem DJ{e:qN}(h:bytes e.2.2.2):bytes (eJ e):=by
 refine jY (o9 ?_ ?_ (o9 ab ab (o9 ab ab (o9 ab ab qi)))) (jY (oV _) (jY (oV _) h))
 .omega
 .omega
theorem SP(n:Int)(r:ad):w2 (n/65536)++(w2 (n%65536)++r)=w4 n++r:=by
 unfold w2 w4
 have e1:n/65536/256%256=n/16777216%256:=ab
 grind
theorem KA{t k:Int}(t0:0<=t)(t1:t<=255)(k0:0<=k)(k1:k<=255):w2 (t*256+k)=[t,k]:=by
 unfold w2
 grind
theorem Vl{n x:Int}(h0:0<=n)(h1:n<=65535)(h2:0<=x)(h3:x<=255):bits .or .i64 (fX .i64 n 8) x=n*256+x:=by
 have:=RM h0 ab h2 h3
 rwa [aG ab ab] at this
theorem WL{n:Int}(h0:0<=n):eZ .i64 n 16=n/65536:=by
 have e:=EJ (n:=n) (k:=2) h0 (by omega)
 exact e
theorem WO{n:Int}(h0:0<=n)(h1:n<=4294967295):bZ5 .i64 (eZ .u32 n 16)=n/65536:=by
 have:eZ .u32 n 16=n/65536:=by
  unfold eZ;rw[Er _ aB];rfl
 rw[this,aG ab ab]
theorem UR{n:Int}(h0:0<=n)(h1:n<=4294967295):bZ5 .i64 (bits .and .u32 n 65535)=n%65536:=by
 rw[u32_and n 65535 h0 ab aB aB]
 have:(it n &&& it 65535)=it n%65536:=Hb (it n) 16
 rw[this,aG ab ab];omega
theorem L8(e:kQ):be (pP e)=8+be e.2.2:=by simp[pP];omega
theorem XW{e:kQ}(h:¬ ((e.1=3∨e.1=11)/\0<=e.2.1/\e.2.1<=255)):[]=j9 e/\1=lF e:=by
 have:lF e=1:=by rw[lF,aj h]
 rw[j9,this];simp
theorem ZE{e:kQ}(h:(e.1=3∨e.1=11)/\0<=e.2.1/\e.2.1<=255)(h2:(be e.2.2:Int)<28):[]=j9 e/\3=lF e:=by
 have:lF e=3:=by rw[lF,ah (λk=>k h),aj h2]
 rw[j9,this];simp
theorem bW8{e:kQ}(h:(e.1=3∨e.1=11)/\0<=e.2.1/\e.2.1<=255)(h2:¬ (be e.2.2:Int)<28):(j9 e=if (1480:Int)<be (pP e) then [] else dL (pP e) 2 (eG (pP e)))/\lF e=if (1480:Int)<be (pP e) then 5 else 0:=by
 have hl:=L8 e
 have he:lF e=if (1480:Int)<be (pP e) then 5 else 0:=by
  rw[lF,ah (λk=>k h),ah h2];grind
 rw[j9,he]
 grind
theorem Qm{e:kQ}(h:(e.1=3∨e.1=11)/\0<=e.2.1/\e.2.1<=255)(hd:bytes e.2.2):bytes (pP e):=by
 refine jY (o9 ab ab (o9 h.2.1 h.2.2 ?_)) hd
 intro x hx;simp at hx;omega
theorem VL(e:t8):be (gZ e)=8+be e.2.2:=by simp[gZ,w2];omega
theorem bN3{a b:Int}{e:t8}(h:¬ (fy e.1=bZ3/\fy e.2.1=bZ3)):[]=oH a b e/\1=qd e:=by
 have:qd e=1:=by rw[qd,aj h]
 rw[oH,this];simp
theorem bn7{a b:Int}{e:t8}(h:fy e.1=bZ3/\fy e.2.1=bZ3):(oH a b e=if (1480:Int)<be (gZ e) then [] else dL (gZ e) 6 (mD a b (gZ e)))/\qd e=if (1480:Int)<be (gZ e) then 5 else 0:=by
 have hl:=VL e
 have he:qd e=if (1480:Int)<be (gZ e) then 5 else 0:=by
  rw[qd,ah (λk=>k h)];grind
 rw[oH,he]
 grind
theorem Ii{e:t8}(h:bytes e.2.2):bytes (gZ e) :=
 jY (oV _) (jY (oV _) (jY (oV _) (jY (o9 ab ab (o9 ab ab qi)) h)))
theorem JH(e:mJ):be (nS e)=20+be e.2.2.2.2.2.2:=by simp[nS,w2,w4];omega
theorem Qq{a b:Int}{e:mJ}(h:¬ xy e):[]=gQ a b e/\1=pA e:=by
 have:pA e=1:=by rw[pA,aj h]
 rw[gQ,this];simp
theorem az1{a b:Int}{e:mJ}(h:xy e):(gQ a b e=if (1480:Int)<be (nS e) then [] else dL (nS e) 16 (iC a b 6 (nS e)))/\pA e=if (1480:Int)<be (nS e) then 5 else 0:=by
 have hl:=JH e
 have he:pA e=if (1480:Int)<be (nS e) then 5 else 0:=by
  rw[pA,ah (λk=>k h)];grind
 rw[gQ,he]
 grind
theorem G0{e:mJ}(h:xy e)(hd:bytes e.2.2.2.2.2.2):bytes (nS e):=by
 obtain⟨-,-,-,-,a,-⟩:=h
 refine jY (oV _) (jY (oV _) (jY (D1 _) (jY (D1 _) (jY (o9 ab ab (o9 a.1 a.2 qi)) (jY (oV _) (jY ?_ hd))))))
 intro x hx;simp at hx;omega
theorem bh4{a b p:Int}{l:ad}(h:bytes l):bytes (C1 a b p l):=jY (D1 _) (jY (D1 _) (jY (oV _) (jY (oV _) h)))
theorem HA{a b p:Int}{l:ad}(h:bytes l):0<=iC a b p l/\iC a b p l<=65535:=by
 unfold iC;split
 .omega
 .exact vd (bh4 h)
theorem Ph{a b:Int}{l:ad}(h:bytes l):0<=mD a b l/\mD a b l<=65535:=by
 have:=HA (a:=a) (b:=b) (p:=17) h
 unfold mD;split <;> omega
def bp5:Ct:=⟨[.agg UM],[.own 5 bm,.val cI],λd=>[(be d.1.2.2.2:Int)<=1073741824],λd=>((gD d.1,oh d.1,()),())⟩
def EX(a b c:ad)(d:Int)(e:Nat)(f:ad)(g:Int):=fA a/\ ∀(h:ad),h=b->gp h c/\aT (h++c)/\ ∀(i:Int),i=rH (h++c)->am 2 (d<=ac (h++c)) (aT (h++c)/\bt i 65535 (xh (ac (h++c)) (dL (h++c) e i)=f) (xD (h++c)=g))
def lY(a:Bool)(b c:Prop)(d:Bool)(e f:Prop):=ar ( !a) (b/\c) (ar d e f)
theorem a77:
 ∀(a:Bool)(b c:Int)(d:ad),ai (True/\aq b/\aq c/\aQ d)->fA d->lY (fG 65535 (b::bz c)) (fw (gD (a,b,c,d))) (1=oh (a,b,c,d)) a (am 8 (fG 65535 (fX bZ4 0 8::0::b::bz c)) (EX (fX bZ4 0 8::0::b::bz c) (cf3 w2 (fX bZ4 0 8::0::b::bz c)) d (2+2) (it 2) (gD (a,b,c,d)) (oh (a,b,c,d)))) (am 8 (fG 65535 (fX bZ4 8 8::0::b::bz c)) (EX (fX bZ4 8 8::0::b::bz c) (cf3 w2 (fX bZ4 8 8::0::b::bz c)) d (2+2) (it 2) (gD (a,b,c,d)) (oh (a,b,c,d)))):= by
  delta ac aq aK aQ aT gp am bP EX fA bz bt ai rH xD lY xh fw
  rintro r i q data ⟨⟨-,-,-,-,hd⟩,-⟩ hl
  refine aw (λh=>?_) (λh=>?_)
  .apply a02
   simp only[qE,← cx8,CQ] at h
   simp only[jA];exact h
  have f:fy i=bZ3/\fy q=true:=by
   simp only[Ak,CQ] at h
   simp only[jA];exact h
  have hw':=f
  simp only[jA] at hw'
  have ⟨e1,e2⟩:=bH6 (e:=(r,i,q,data)) f
  have hB:=vd (DJ (e:=(r,i,q,data)) hd)
  cases r with
  | true =>
   refine⟨ab,by rw[show fX .i64 0 8=0 from by decide];simp[fG];omega,az,?_⟩
   intro p a
   have b:be p=8:=by rw[a];simp[w2]
   have d:p++data=eJ (bZ3,i,q,data):=by
    rw[a,show fX .i64 0 8=0 from by decide];simp[w2,eJ]
   refine⟨(xC ab hl).1,(xC ab hl).2,?_⟩
   intro c hc
   have hc:c=eG (eJ (bZ3,i,q,data)):=by rw[hc,d];rfl
   grind
  | false =>
   refine⟨ab,by rw[show fX .i64 8 8=2048 from by decide];simp[fG];omega,az,?_⟩
   intro p a
   have b:be p=8:=by rw[a];simp[w2]
   have d:p++data=eJ (bZ6,i,q,data):=by
    rw[a,show fX .i64 8 8=2048 from by decide];simp[w2,eJ]
   refine⟨(xC ab hl).1,(xC ab hl).2,?_⟩
   intro c hc
   have hc:c=eG (eJ (bZ6,i,q,data)):=by rw[hc,d];rfl
   grind
theorem XJ:aC 191 bp5.spec:=aF Tryz.func191 (ap (ap (ap (ap aD Ff) (Ct.named F6)) (Ct.named B6)) Im) aU a77
def a33:Ct:=⟨[.agg Zs],[.own 5 bm,.val cI],λd=>[(be d.1.2.2:Int)<=1073741824],λd=>((j9 d.1,lF d.1,()),())⟩
def cj(a:Bool)(b c d e:Prop):=(a->aJ b)/\(b->c)/\d/\e
def lX:=(0:Int)::bz 0
def RA(a:ad)(b c:Int):=ar (ax (ac a) 28) (fw (j9 (b,c,a))/\3=lF (b,c,a)) (am 8 (fG 65535 (bits ck2 bZ4 (fX bZ4 b 8) c::0::lX)) (EX (bits ck2 bZ4 (fX bZ4 b 8) c::0::lX) (cf3 w2 (bits ck2 bZ4 (fX bZ4 b 8) c::0::lX)) a (2+2) (it 2) (j9 (b,c,a)) (lF (b,c,a))))
def jE(a b:Bool)(c d:Prop):=bR a/\bv a/\ar b c d
def cP(a b:Int):=!bZ2 (a=b)
def EV(a b:Bool)(c d e:Prop):=∀(f:Bool),f=a->bR f/\ar ( !f) (( !f-> !f)/\jE f (bq f b) c d) (( !f)=bZ6/\( !f)=bZ6/\(f=bZ6->e)/\ar (bq f bZ6) c d)
theorem bi5:
 ∀(a b:Int)(c:ad),ai (aq a/\aq b/\aQ c)->fA c-> ∀(d:Bool),d=cP a 3->cj d d (aJ d) (d->d) (EV (br d (cP a 11)) ( !fG 255 (bz b)) (fw (j9 (a,b,c))/\1=lF (a,b,c)) (RA c a b) bZ6):= by
  delta ac aq aK aQ bR aJ aT cj bq br gp am bP bv EX fA bz bt ai RA jE cP EV lX rH ax xD xh fw
  rintro t k data ⟨⟨-,-,-,hd⟩,-⟩ hl
  rintro b rfl
  refine⟨az,az,az,?_⟩
  intro b hb
  refine⟨az,?_⟩
  cases b with
  | true =>
   have f:¬ (t=3∨t=11):=by
    simp at hb;omega
   refine aw (λh=>by cases h) (λ_=>⟨rfl,rfl,az,aw (λ_=>XW (λh=>f h.1)) (λh=>by cases h)⟩)
  | false =>
   have f:t=3∨t=11:=by
    grind
   refine aw (λ_=>⟨az,az,az,?_⟩) (λh=>by cases h)
   refine aw (λh=>?_) (λh=>?_)
   .apply XW
    rintro⟨-,a⟩
    have:=(Ew 255 k).2 a
    rw[this] at h;cases h
   have d:0<=k/\k<=255:=by
    apply (Ew 255 k).1
    simp_all
   refine aw (λa=>ZE ⟨f,d⟩ (aX a)) (λa=>?_)
   have a:=bg a
   have ⟨e1,e2⟩:=bW8 (e:=(t,k,data)) ⟨f,d⟩ a
   have hB:=vd (Qm (e:=(t,k,data)) ⟨f,d⟩ hd)
   rw[Vl ab ab d.1 d.2]
   refine⟨ab,by simp[fG];omega,az,?_⟩
   intro p hpe
   have hp8:be p=8:=by rw[hpe];simp[w2]
   have hp:p++data=pP (t,k,data):=by
    rw[hpe]
    simp only[ch7,co0,KA ab (show t<=255 by omega) d.1 d.2,show w2 0=[0,0] from rfl];rfl
   refine⟨(xC ab hl).1,(xC ab hl).2,?_⟩
   intro c g
   have g:c=eG (pP (t,k,data)):=by rw[g,hp];rfl
   grind
theorem az7:aC 313 a33.spec:=aF Tryz.func313 (ap (ap (ap (ap aD Ff) (Ct.named F6)) (Ct.named B6)) Im) aU bi5
def al4:Ct:=⟨[.val dw,.val dw,.val cI,.val (.sl bm)],[.val cI],λd=>[(be d.2.2.2.1:Int)<=1073741824],λd=>((iC d.1 d.2.1 d.2.2.1 d.2.2.2.1,()),())⟩
def kD(a b c d e:Int)(f:ad):=a::b::c::d::e::f
def JN(a b c:Int)(d:ad):=kD (ao (eZ bZ7 a 16)) (ao (bits cc6 bZ7 a 65535)) (ao (eZ bZ7 b 16)) (ao (bits cc6 bZ7 b 65535)) c (bz (ac d))
theorem aD8:
 ∀(a b c:Int)(d:ad),aO a/\aO b/\aq c/\ai (aQ d)->fA d->lC ( !fG 255 (bz c)) (ax 65535 (ac d)) (0=iC a b c d) (am 16 ((0:Int)<=(16:Int)) (fG 65535 (JN a b c d)/\fA (JN a b c d)/\ ∀(e:ad),e=cf3 w2 (JN a b c d)->gp e d/\aT (e++d)/\ ∀(f:Int),f=rH (e++d)->f=iC a b c d)):= by
  delta ac ao aq aK aQ bR aJ aO aT bq cV gp am bP bv lC fA bz ai JN kD rH ax
  rintro a b p data ⟨⟨e,f⟩,⟨b0,g⟩,-,⟨-,hd⟩,-⟩ hl
  rintro x rfl
  refine⟨az,az,az,?_⟩
  refine aw (λh=>?_) (λh=>?_)
  .rw[iC,aj]
   cases d:fG 255 [p] with
   | false=>exact .inl (λk=>by rw[(Ew 255 p).2 k] at d;cases d)
   | true=>rw[d] at h;exact .inr (aX h)
  have hp:0<=p/\p<=255:=by
   apply (Ew 255 p).1
   simp_all
  have hn:¬ (65535:Int)<be data:=by
   simp_all
  rw[WO e f,WO b0 g,UR e f,UR b0 g]
  refine⟨ab,ab,by simp[fG];omega,az,?_⟩
  intro q hq
  have hp8:be q=12:=by rw[hq];simp[w2]
  have hB:q++data=C1 a b p data:=by
   rw[hq]
   simp only[ch7,co0,iX,fV,SP]
   rfl
  refine⟨(xC ab hl).1,(xC ab hl).2,?_⟩
  rintro c rfl
  rw[hB,iC,ah ab];rfl
theorem Nw:aC 244 al4.spec:=aF Tryz.func244 (ap (ap (ap aD Ff) (Ct.named F6)) (Ct.named B6)) aU aD8
def aZ4:Ct:=⟨[.val dw,.val dw,.val (.sl bm)],[.val cI],λd=>[(be d.2.2.1:Int)<=1073741824],λd=>((mD d.1 d.2.1 d.2.2.1,()),())⟩
def aV(a:Int):=bZ2 (a=0)
theorem aS9:
 ∀(a b:Int)(c:ad),aO a/\aO b/\ai (aQ c)->fA c->fA c/\ar ( !aV (iC a b 17 c)) (iC a b 17 c=mD a b c) (65535=mD a b c):= by
  delta ac aQ aO aV fA ai
  rintro a b data-hl
  refine⟨hl,aw (λh=>?_) (λh=>?_)⟩
  .rw[mD,ah];intro k;rw[ft k] at h;cases h
  .rw[mD,aj]
   simp_all
theorem YP:aC 243 aZ4.spec:=aF Tryz.func243 (ap aD Nw) aU aS9
def bz6:Ct:=⟨[.val dw,.val dw,.agg Mp],[.own 5 bm,.val cI],λd=>[(be d.2.2.1.2.2:Int)<=1073741824],λd=>((oH d.1 d.2.1 d.2.2.1,qd d.2.2.1,()),())⟩
theorem bc8:
 ∀(a b c d:Int)(e:ad),aO a/\aO b/\ai (aq c/\aq d/\aQ e)->fA e->lY (fG 65535 (c::bz d)) (fw (oH a b (c,d,e))) (1=qd (c,d,e)) (ax 1472 (ac e)) (fw (oH a b (c,d,e))/\5=qd (c,d,e)) (fG 65535 (c::d::ao (8+ac e)::bz 0)/\fA (c::d::ao (8+ac e)::bz 0)/\ ∀(f:ad),f=cf3 w2 (c::d::ao (8+ac e)::bz 0)->gp f e/\fA (f++e)/\ ∀(g:Int),g=mD a b (f++e)->am 6 (6+2<=ac (f++e)) (aT (f++e)/\bt g 65535 (xh (ac (f++e)) (dL (f++e) (it 6) g)=oH a b (c,d,e)) (xD (f++e)=qd (c,d,e)))):= by
  delta ac ao aq aK aQ aO aT gp am bP fA bz bt ai ax xD lY xh fw
  rintro a b sp c data ⟨-,-,⟨-,-,-,hd⟩,-⟩ hl
  refine aw (λh=>?_) (λh=>?_)
  .apply bN3
   simp only[qE,← cx8,CQ] at h
   simp only[jA];exact h
  have g:fy sp=bZ3/\fy c=true:=by
   simp only[Ak,CQ] at h
   simp only[jA];exact h
  have d:=g
  simp only[jA] at d
  have ⟨e1,e2⟩:=bn7 (a:=a) (b:=b) (e:=(sp,c,data)) g
  have hB:=Ph (a:=a) (b:=b) (Ii (e:=(sp,c,data)) hd)
  have hbl:=VL (sp,c,data)
  refine aw (λf=>?_) (λf=>?_)
  .grind
  have f:=bg f
  rw[aG ab ab]
  refine⟨by simp[fG];omega,az,?_⟩
  intro p hpe
  have hp8:be p=8:=by rw[hpe];simp[w2]
  have hp:p++data=gZ (sp,c,data):=by
   rw[hpe]
   rfl
  refine⟨(xC ab hl).1,by rw[bM];omega,?_⟩
  grind
theorem aG4:aC 194 bz6.spec:=aF Tryz.func194 (ap (ap (ap (ap aD Ff) (Ct.named F6)) (Ct.named YP)) Im) aU bc8
theorem bd5{f:Int}(h0:0<=f)(h1:f<=255):bits .or .i64 20480 f=80*256+f:=by
 have:=Vl (n:=80) ab ab h0 h1
 rwa [show fX .i64 80 8=20480 from by decide] at this
theorem aa8{f:Int}(h0:0<=f)(h1:f<=255):w2 (80*256+f)=[80,f]:=KA (by omega) (by omega) h0 h1
def bT8:Ct:=⟨[.val dw,.val dw,.agg LN],[.own 5 bm,.val cI],λd=>[(be d.2.2.1.2.2.2.2.2.2:Int)<=1000000],λd=>((gQ d.1 d.2.1 d.2.2.1,pA d.2.2.1,()),())⟩
def Gq(a b c d e f:Int):=kD a b (eZ bZ4 c 16) (bits cc6 bZ4 c 65535) (eZ bZ4 d 16) (bits cc6 bZ4 d 65535::bits ck2 bZ4 20480 e::f::lX)
def bV(a:ad):=ac a<=1000000
def Tv(a b:ad)(c d:Int)(e:mJ):=gp a b/\fA (a++b)/\ ∀(f:Int),f=iC c d 6 (a++b)->am 16 (16+2<=ac (a++b)) (aT (a++b)/\bt f 65535 (xh (ac (a++b)) (dL (a++b) (it 16) f)=gQ c d e) (xD (a++b)=pA e))
def pg(a:Bool)(b c d e f:Prop):=ar a ((b->b)/\c/\d) (a=bZ6/\e/\f)
def L5(a b c:ad)(d e:Int)(f:mJ):=am 16 ((0:Int)<=(16:Int)) (fG 65535 a/\fA a/\ ∀(g:ad),g=b->Tv g c d e f)
theorem bh6:
 ∀(a b:Int)(c:mJ),aO a/\aO b/\ai (CT.wf LN c)->bV c.2.2.2.2.2.2-> ∀(d:Bool),d=( !fG 65535 (c.1::c.2.1::bz c.2.2.2.2.2.1))->bR d/\bR d/\pg ( !d) ( !d) ( !d-> !d) (bR d/\bv d/\EV (bq d ( !fG 4294967295 (c.2.2.1::bz c.2.2.2.1))) ( !fG 255 (bz c.2.2.2.2.1)) (fw (gQ a b c)/\1=pA c) (L5 (Gq c.1 c.2.1 c.2.2.1 c.2.2.2.1 c.2.2.2.2.1 c.2.2.2.2.2.1) (cf3 w2 (Gq c.1 c.2.1 c.2.2.1 c.2.2.2.1 c.2.2.2.2.1 c.2.2.2.2.2.1)) c.2.2.2.2.2.2 a b c) bZ6) (( !d)=bZ6) ((d=bZ6->bZ6)/\EV (bq d bZ6) ( !fG 255 (bz c.2.2.2.2.1)) (fw (gQ a b c)/\1=pA c) (L5 (Gq c.1 c.2.1 c.2.2.1 c.2.2.2.1 c.2.2.2.2.1 c.2.2.2.2.2.1) (cf3 w2 (Gq c.1 c.2.1 c.2.2.1 c.2.2.2.1 c.2.2.2.2.1 c.2.2.2.2.2.1)) c.2.2.2.2.2.2 a b c) bZ6):= by
  delta ac bR aJ aO aT bq Gq gp am bP bv bV Tv fA bz bt ai jE kD pg L5 EV lX xD xh fw
  rintro a b e ⟨-,-,⟨-,-,-,-,-,-,-,hd⟩,-⟩ hl
  intro b1 hb1
  refine⟨az,az,?_⟩
  cases b1 with
  | true =>
   have f:¬ xy e:=by
    rintro⟨j,i,-,-,-,g⟩
    rw[jA] at j i g
    rw[show fG 65535 [e.1,e.2.1,e.2.2.2.2.2.1]=bZ3 from by simp[fG];omega] at hb1;cases hb1
   refine aw (λh=>by cases h) (λ_=>⟨rfl,rfl,az,?_⟩)
   intro m hb2
   subst hb2
   exact⟨az,aw (λh=>by cases h) (λ_=>⟨rfl,rfl,az,aw (λ_=>Qq f) (λh=>by cases h)⟩)⟩
  | false =>
   have j:(0<=e.1/\e.1<=65535)/\(0<=e.2.1/\e.2.1<=65535)/\0<=e.2.2.2.2.2.1/\e.2.2.2.2.2.1<=65535:=by
    have:fG 65535 [e.1,e.2.1,e.2.2.2.2.2.1]=true:=by
     simp_all
    simpa[fG] using this
   refine aw (λ_=>⟨az,az,az,az,?_⟩) (λh=>by cases h)
   intro m hb2
   refine⟨az,?_⟩
   cases m with
   | true =>
    have f:¬ xy e:=by
     rintro⟨-,-,g,h4,-,-⟩
     have:fG 4294967295 [e.2.2.1,e.2.2.2.1]=true:=(CQ _ _ _).2 ⟨g,h4⟩
     rw[this] at hb2;cases hb2
    exact aw (λh=>by cases h) (λ_=>⟨rfl,rfl,az,aw (λ_=>Qq f) (λh=>by cases h)⟩)
   | false =>
    have i:(0<=e.2.2.1/\e.2.2.1<=4294967295)/\0<=e.2.2.2.1/\e.2.2.2.1<=4294967295:=by
     apply (CQ _ _ _).1
     grind
    refine aw (λ_=>⟨az,az,az,aw (λh=>?_) (λh=>?_)⟩) (λh=>by cases h)
    .apply Qq
     rintro⟨-,-,-,-,g,-⟩
     rw[(Ew _ _).2 g] at h;cases h
    have g:0<=e.2.2.2.2.1/\e.2.2.2.2.1<=255:=by
     apply (Ew _ _).1
     grind
    have k:xy e:=⟨(jA _).2 j.1,(jA _).2 j.2.1,i.1,i.2,g,(jA _).2 j.2.2⟩
    obtain⟨e1,e2⟩:=az1 k
    have n:=HA (a:=a) (b:=b) (p:=6) (G0 k hd)
    rw[WL i.1.1,WL i.2.1,FU,FU,bd5 g.1 g.2]
    refine⟨ab,ab,by simp[fG];omega,az,?_⟩
    intro p hpe
    have hp8:be p=20:=by rw[hpe];simp[w2]
    have o:p++e.2.2.2.2.2.2=nS e:=by
     rw[hpe]
     simp only[ch7,co0,iX,fV,SP,show w2 0=[0,0] from rfl,aa8 g.1 g.2]
     rfl
    refine⟨(xC ab ab).1,by rw[bM];omega,?_⟩
    intro c l
    have l:c=iC a b 6 (nS e):=by rw[l,o]
    exact a32 o ab ab ab ab (by rw[l];exact n.1) (by rw[l];exact n.2) (by rw[l];exact e1) e2
theorem Zt:aC 195 bT8.spec:=aF Tryz.func195 (ap (ap (ap (ap aD Ff) (Ct.named F6)) (Ct.named Nw)) Im) aU bh6
def F7(b:ad):Prop:=(Om b (it 0) Sk=8∨Om b (it 0) Sk=0)/\Om b (it 1) Sk=0
instance (b:ad):Decidable (F7 b):=by unfold F7;infer_instance
def lm(b:ad):Int:=if (be b:Int)<8 then 3 else if ¬ F7 b then 2 else if (1480:Int)<be b then 5 else if eG (dL b (it 2) 0)≠aR b (it 2) then 4 else 0
def gT(b:ad):qN:=if lm b=0 then (bZ2 (Om b (it 0) Sk=0),aR b (it 4),aR b (it 6),b.drop 8) else (bZ6,0,0,[])
def GR(b:ad):Prop:=(Om b (it 0) Sk=3∨Om b (it 0) Sk=11)/\aR b (it 4)=0/\aR b (it 6)=0
instance (b:ad):Decidable (GR b):=by unfold GR;infer_instance
def nh(b:ad):Int:=if (be b:Int)<36 then 3 else if ¬ GR b then 2 else if (1480:Int)<be b then 5 else if eG (dL b (it 2) 0)≠aR b (it 2) then 4 else 0
def mB(b:ad):kQ:=if nh b=0 then (Om b (it 0) Sk,Om b (it 1) Sk,b.drop 8) else (0,0,[])
def mn(s d:Int)(b:ad):Int:=if (be b:Int)<8 then 3 else if ¬ aR b (it 4)=be b then 2 else if (1480:Int)<be b then 5 else if mD s d (dL b (it 6) 0)≠aR b (it 6) then 4 else 0
def uz(s d:Int)(b:ad):t8:=if mn s d b=0 then (aR b (it 0),aR b (it 2),b.drop 8) else (0,0,[])
def FR(b:ad):Prop:=Om b (it 12) Sk=80/\aR b (it 18)=0
instance (b:ad):Decidable (FR b):=by unfold FR;infer_instance
def kV(s d:Int)(b:ad):Int:=if (be b:Int)<20 then 3 else if ¬ FR b then 2 else if (1480:Int)<be b then 5 else if iC s d 6 (dL b (it 16) 0)≠aR b (it 16) then 4 else 0
def gn(s d:Int)(b:ad):mJ:=if kV s d b=0 then (aR b (it 0),aR b (it 2),aR b (it 4)*65536+aR b (it 6),aR b (it 8)*65536+aR b (it 10),Om b (it 13) Sk,aR b (it 14),b.drop 20) else (0,0,0,0,0,0,[])
theorem KT{b:ad}{e:Int}(h:lm b=e)(he:e≠0):(bZ6,0,0,[])=gT b/\e=lm b:=by
 rw[gT,ah (by rw[h];exact he),h];exact⟨rfl,rfl⟩
theorem Lc{b:ad}{e:Int}(h:nh b=e)(he:e≠0):(0,0,[])=mB b/\e=nh b:=by
 rw[mB,ah (by rw[h];exact he),h];exact⟨rfl,rfl⟩
theorem J0{s d:Int}{b:ad}{e:Int}(h:mn s d b=e)(he:e≠0):(0,0,[])=uz s d b/\e=mn s d b:=by
 rw[uz,ah (by rw[h];exact he),h];exact⟨rfl,rfl⟩
theorem JJ{s d:Int}{b:ad}{e:Int}(h:kV s d b=e)(he:e≠0):(0,0,0,0,0,0,[])=gn s d b/\e=kV s d b:=by
 rw[gn,ah (by rw[h];exact he),h];exact⟨rfl,rfl⟩
theorem Bp(b:ad)(k:Nat):bY b k (it (be b:Int))=b.drop k:=by unfold bY;simp
theorem TT{b:ad}{i:Nat}{v:Int}(h:bytes b)(h0:0<=v)(h1:v<=255):bytes (b.set i v):=by
 intro x hx
 obtain hx|rfl:=Ae hx
 .exact h x hx
 .exact⟨h0,h1⟩
theorem xF{b:ad}{i:Nat}{v:Int}(h:bytes b):bytes (dL b i v):=TT (TT h ab ab) ab ab
theorem Lp{b:ad}{k:Nat}(h:bytes b):0<=aR b k/\aR b k<=65535:=by
 have:=Ko 2 ((b.drop k).take 2) (by rw[eM];omega) (λx hx=>h x (Al (rX hx)))
 have e:(256:Int)^2=65536:=rfl
 unfold aR;omega
theorem oa(b:ad)(i:Nat)(v:Int):be (dL b i v)=be b:=by simp[dL]
theorem jo(x y:Int)(r:ad):aR (x::y::r) 0=x*256+y:=by simp[aR,gP]
theorem W4{n x:Int}(h0:0<=n)(h1:n<=65535)(h2:0<=x)(h3:x<=65535):bits .or .i64 (fX .i64 n 16) x=n*65536+x:=by
 have e:fX .i64 n 16=n*65536:=by
  show bZ4.wrap (n*2^(min 16 64))=_;rw[aG (by simp;omega) (by simp;omega)];rfl
 rw[e]
 obtain⟨m,rfl⟩:=rx h0
 obtain⟨y,rfl⟩:=rx h2
 have:=Xi (m*65536) y ab ab
 rw[nat_join 16 (m*65536) y ab ab,show ((m*65536:Nat):Int)=(m:Int)*65536 from by omega,show ((m*65536+y:Nat):Int)=(m:Int)*65536+(y:Int) from by omega] at this
 exact this
def bl2:Ct:=⟨[.val (.sl bm)],[.agg UM,.val cI],λd=>[(be d.1:Int)<=1000000],λd=>((gT d.1,lm d.1,()),())⟩
def fL:=((0:Int),([]:ad))
def Cc(a:Prop)(b:Int)(c:Prop)(d:Int)(e f:Prop):=∀(g:Int),a/\g=b->c/\ ∀(h:Int),h=d->ar (cP h g) e f
def I3(a:ad)(b c:Prop):=∀(d:ad),Cc (d=dL a (it 2) 0) (aR a (it 2)) (aT d) (rH d) b c
def qJ(a:Bool)(b:Int):=(a->a)/\am 0 (0<b) True
def ph(a:ad):=ac a<=ac a
theorem aO8:
 ∀(a:ad),ai (aQ a)->bV a->ar (ax (ac a) 8) ((bZ6,0,fL)=gT a/\3=lm a) (am 0 (0<ac a) (∀(b:Bool),b=cP (ae a 0) 8->(b->qJ b (ac a))/\cj b b (aJ b) (b->b) (∀(c:Bool),c=br b ( !aV (ae a 0))->( !c->( !c-> !c)/\am 1 (1<ac a) True)/\cV c (bv c) (ar (bq c ( !aV (ae a 1))) ((bZ6,0,fL)=gT a/\2=lm a) (ar (ax 1480 (ac a)) ((bZ6,0,fL)=gT a/\5=lm a) (am 2 (2+2<=ac a) (aT a/\I3 a ((bZ6,0,fL)=gT a/\4=lm a) (am 0 (0<ac a) (am 4 (4+2<=ac a) (aT a/\am 6 (6+2<=ac a) (aT a/\bt 8 (ac a) (ph a) (aT (fU a 8 (ac a))/\ ∀(d:ad),d=fU a 8 (ac a)->(aV (ae a 0),aR a (it 4),aR a (it 6),d)=gT a/\0=lm a)))))))))))):= by
  delta ae ac aQ bR aJ aT cj bq br cV am bv aV fU bV bt ai fL cP I3 qJ rH ax Cc ph
  rintro b ⟨⟨-,hb⟩,-⟩ hl
  refine aw (λh=>?_) (λh8=>?_)
  .exact KT (by rw[lm,aj (aX h)]) aB
  have h8:=bg h8
  refine⟨ab,ab,?_⟩
  (repeat (refine cL ?_;repeat refine cK ?_))
  refine aw (λh=>?_) (λhf=>?_)
  .refine KT (by rw[lm,ah h8,aj];rintro⟨f0,f1⟩;rw[ft f1] at h;obtain f0|f0:=f0 <;> rw[f0] at h <;> simp at h) aB
  have hf:F7 b:=by
   unfold F7
   by_cases k1:Om b (it 1) Sk=0
   .by_cases k2:Om b (it 0) Sk=8
    .exact⟨.inl k2,k1⟩
    .by_cases k3:Om b (it 0) Sk=0
     .exact⟨.inr k3,k1⟩
     .rw[eT k2,eT k3] at hf;simp at hf
   .rw[eT k1] at hf;simp[ic] at hf
  refine aw (λh=>?_) (λh5=>?_)
  .exact KT (by rw[lm,ah h8,ah (λk=>k hf),aj (aX h)]) aB
  have h5:=bg h5
  refine⟨ab,ab,ab,?_⟩
  rintro x w ⟨rfl,rfl⟩
  refine⟨by simp[dL];omega,?_⟩
  rintro c rfl
  refine aw (λh=>?_) (λh=>?_)
  .refine KT (by rw[lm,ah h8,ah (λk=>k hf),ah h5,aj];intro k;rw[eG] at k;rw[ft k] at h;cases h) aB
  have h0:lm b=0:=by
   rw[lm,ah h8,ah (λk=>k hf),ah h5,ah]
   intro k;rw[eG] at k;rw[eT k] at h;cases h
  refine⟨ab,ab,ab,ab,ab,ab,ab,ab,ab,ab,ab,by rw[Bp,gw];omega,?_⟩
  rintro y rfl
  rw[gT,aj h0,h0,Bp];exact⟨rfl,rfl⟩
theorem UW:aC 234 bl2.spec:=aF Tryz.func234 (ap (ap (ap (ap aD (Ct.named Kx)) (Ct.named B6)) Ha) (Ct.named tj)) aU aO8
theorem aa1(p q r s:Prop) [Decidable p] [Decidable q] [Decidable r] [Decidable s]:(bif (bif (bif !decide p then !decide q else bZ6) then bZ3 else !decide r) then bZ3 else !decide s) = !bZ2 ((p∨q)/\r/\s):=by
 by_cases p <;> by_cases q <;> by_cases r <;> by_cases s <;> simp[*]
theorem OS{b:ad}{k:Nat}(h:k+2<=be b):aR b k=Om b k Sk*256+Om b (k+1) default:=by
 have h0:k<be b:=ab
 have h1:k+1<be b:=ab
 have e:b.drop k=b[k]::b[k+1]::b.drop (k+1+1):=by rw[s9 h0,s9 h1]
 unfold aR
 rw[e,cq,cq,cG h0,cG h1]
 generalize b.drop (k+1+1)=r
 generalize b[k]=u
 generalize b[k+1]=v
 simp[gP]
theorem bE7(p r:Prop) [Decidable p] [Decidable r]:(bif !decide p then bZ3 else !decide r) = !bZ2 (p/\r):=by
 by_cases p <;> by_cases r <;> simp[*]
def aJ6:Ct:=⟨[.val (.sl bm)],[.agg Zs,.val cI],λd=>[(be d.1:Int)<=1000000],λd=>((mB d.1,nh d.1,()),())⟩
def Em(a:Bool)(b:Prop)(c:Bool)(d e:Prop):=∀(f:Bool),f=a->( !f->( !f-> !f)/\b)/\jE f (bq f c) d e
theorem a76:
 ∀(a:ad),ai (aQ a)->bV a->ar (ax (ac a) 36) ((0,fL)=mB a/\3=nh a) (am 0 (0<ac a) (∀(b:Bool),b=cP (ae a 0) 3->(b->qJ b (ac a))/\cj b b (aJ b) (b->b) (∀(c:Bool),c=br b (cP (ae a 0) 11)->( !c->( !c-> !c)/\am 4 (4+2<=ac a) (ai (aT a)))/\bR c/\bv c/\Em (bq c ( !aV (aR a (it 4)))) (am 6 (6+2<=ac a) (ai (aT a))) ( !aV (aR a (it 6))) ((0,fL)=mB a/\2=nh a) (ar (ax 1480 (ac a)) ((0,fL)=mB a/\5=nh a) (am 2 (2+2<=ac a) (aT a/\I3 a ((0,fL)=mB a/\4=nh a) (am 0 (0<ac a) (am 1 (1<ac a) (bt 8 (ac a) (ph a) (aT (fU a 8 (ac a))/\ ∀(d:ad),d=fU a 8 (ac a)->(ao (ae a 0),ao (ae a 1),d)=mB a/\0=nh a)))))))))):= by
  delta ae ac ao aQ bR aJ aT cj bq br am bv aV fU bV bt ai fL jE cP I3 qJ rH ax Em Cc ph
  rintro b ⟨⟨-,hb⟩,-⟩ hl
  refine aw (λh=>?_) (λh8=>?_)
  .exact Lc (by rw[nh,aj (aX h)]) aB
  have h8:=bg h8
  refine⟨ab,ab,?_⟩
  (repeat (refine cL ?_;repeat refine cK ?_))
  have hall:(bif (bif (bif !bZ2 (Om b (it 0) Sk=3) then !bZ2 (Om b (it 0) Sk=11) else bZ6) then bZ3 else !bZ2 (aR b (it 4)=0)) then bZ3 else !bZ2 (aR b (it 6)=0)) = !bZ2 (GR b):=(aa1 _ _ _ _).trans (dP (λx => !x) (decide_eq_decide.2 rg))
  rw[hall]
  refine aw (λh=>?_) (λhf=>?_)
  .exact Lc (by rw[nh,ah h8,aj];simpa using h) aB
  have hf:GR b:=by simpa using hf
  refine aw (λh=>?_) (λh5=>?_)
  .exact Lc (by rw[nh,ah h8,ah (λk=>k hf),aj (aX h)]) aB
  have h5:=bg h5
  refine⟨ab,ab,ab,?_⟩
  rintro x w ⟨rfl,rfl⟩
  refine⟨by rw[oa];omega,?_⟩
  rintro c rfl
  refine aw (λh=>?_) (λh=>?_)
  .refine Lc (by rw[nh,ah h8,ah (λk=>k hf),ah h5,aj];intro k;rw[eG] at k;rw[ft k] at h;cases h) aB
  have h0:nh b=0:=by
   rw[nh,ah h8,ah (λk=>k hf),ah h5,ah]
   intro k;rw[eG] at k;rw[eT k] at h;cases h
  rw[Bp]
  repeat refine⟨ab,?_⟩
  refine⟨by rw[gw];omega,?_⟩
  rintro y rfl
  have g0:=hb _ (dm (xs:=b) (i:=0) ab ab)
  have g1:=hb _ (dm (xs:=b) (i:=1) ab ab)
  rw[mB,aj h0,h0,aG ab ab,aG ab ab];exact⟨rfl,rfl⟩
theorem bq0:aC 236 aJ6.spec:=aF Tryz.func236 (ap (ap (ap (ap aD (Ct.named Kx)) (Ct.named B6)) Ha) (Ct.named tj)) aU a76
def Z0:Ct:=⟨[.val dw,.val dw,.val (.sl bm)],[.agg Mp,.val cI],λd=>[(be d.2.2.1:Int)<=1000000],λd=>((uz d.1 d.2.1 d.2.2.1,mn d.1 d.2.1 d.2.2.1,()),())⟩
theorem bH3:
 ∀(a b:Int)(c:ad),aO a/\aO b/\ai (aQ c)->bV c->ar (ax (ac c) 8) ((0,fL)=uz a b c/\3=mn a b c) (am 4 (4+2<=ac c) (aT c/\ar (cP (aR c (it 4)) (ac c)) ((0,fL)=uz a b c/\2=mn a b c) (ar (ax 1480 (ac c)) ((0,fL)=uz a b c/\5=mn a b c) (am 6 (6+2<=ac c) (aT c/\ ∀(d:ad),Cc (d=dL c (it 6) 0) (aR c (it 6)) (fA d) (mD a b d) ((0,fL)=uz a b c/\4=mn a b c) (am 0 (0+2<=ac c) (aT c/\am 2 (2+2<=ac c) (aT c/\bt 8 (ac c) (ph c) (aT (fU c 8 (ac c))/\ ∀(e:ad),e=fU c 8 (ac c)->(aR c (it 0),aR c (it 2),e)=uz a b c/\0=mn a b c))))))))):= by
  delta ac aQ aO aT am fU bV fA bt ai fL cP ax Cc ph
  rintro s d b ⟨-,-,⟨-,hb⟩,-⟩ hl
  refine aw (λh=>?_) (λh8=>?_)
  .exact J0 (by rw[mn,aj (aX h)]) aB
  have h8:=bg h8
  repeat refine⟨ab,?_⟩
  refine aw (λh=>?_) (λhf=>?_)
  .exact J0 (by rw[mn,ah h8,aj];simpa using h) aB
  have hf:aR b (it 4)=be b:=by simpa using hf
  refine aw (λh=>?_) (λh5=>?_)
  .exact J0 (by rw[mn,ah h8,ah (λk=>k hf),aj (aX h)]) aB
  have h5:=bg h5
  repeat refine⟨ab,?_⟩
  rintro x w ⟨rfl,rfl⟩
  refine⟨by rw[oa];omega,?_⟩
  rintro c rfl
  refine aw (λh=>?_) (λh=>?_)
  .refine J0 (by rw[mn,ah h8,ah (λk=>k hf),ah h5,aj];intro k;rw[ft k] at h;cases h) aB
  have h0:mn s d b=0:=by
   rw[mn,ah h8,ah (λk=>k hf),ah h5,ah]
   intro k;rw[eT k] at h;cases h
  rw[Bp]
  repeat refine⟨ab,?_⟩
  refine⟨by rw[gw];omega,?_⟩
  rintro y rfl
  rw[uz,aj h0,h0];exact⟨rfl,rfl⟩
theorem aW0:aC 300 Z0.spec:=aF Tryz.func300 (ap (ap (ap (ap aD (Ct.named Kx)) (Ct.named YP)) Ha) (Ct.named tj)) aU bH3
def ao9:Ct:=⟨[.val dw,.val dw,.val (.sl bm)],[.agg LN,.val cI],λd=>[(be d.2.2.1:Int)<=1000000],λd=>((gn d.1 d.2.1 d.2.2.1,kV d.1 d.2.1 d.2.2.1,()),())⟩
def i9(a:ad):=fU a 20 (ac a)
theorem ba4:
 ∀(a b:Int)(c:ad),aO a/\aO b/\ai (aQ c)->bV c->ar (ax (ac c) 20) ((0,0,0,0,0,fL)=gn a b c/\3=kV a b c) (am 12 (12<ac c) (Em (cP (ae c 12) 80) (am 18 (18+2<=ac c) (ai (aT c))) ( !aV (aR c (it 18))) ((0,0,0,0,0,fL)=gn a b c/\2=kV a b c) (ar (ax 1480 (ac c)) ((0,0,0,0,0,fL)=gn a b c/\5=kV a b c) (am 16 (16+2<=ac c) (aT c/\ ∀(d:ad),Cc (d=dL c (it 16) 0) (aR c (it 16)) (fA d) (iC a b 6 d) ((0,0,0,0,0,fL)=gn a b c/\4=kV a b c) (am 0 (0+2<=ac c) (aT c/\am 2 (2+2<=ac c) (aT c/\am 4 (4+2<=ac c) (aT c/\am 16 ((0:Int)<=(6:Int)) (6+2<=ac c/\aT c/\am 8 (8+2<=ac c) (aT c/\am 16 ((0:Int)<=(10:Int)) (10+2<=ac c/\aT c/\am 13 (13<ac c) (am 14 (14+2<=ac c) (aT c/\bt 20 (ac c) (ph c) (aT (i9 c)/\ ∀(e:ad),e=i9
 c->(aR c (it 0),aR c (it 2),bits ck2 bZ4 (fX bZ4 (aR c (it 4)) 16) (aR c (it 6)),bits ck2 bZ4 (fX bZ4 (aR c (it 8)) 16) (aR c (it 10)),ao (ae c 13),aR c (it 14),e)=gn a b c/\0=kV a b c))))))))))))))):= by
  delta ae ac ao aQ bR aJ aO aT bq i9 am bv aV fU bV fA bt ai fL jE cP ax Em Cc ph
  rintro s d b ⟨-,-,⟨-,hb⟩,-⟩ hl
  refine aw (λh=>?_) (λh8=>?_)
  .exact JJ (by rw[kV,aj (aX h)]) aB
  have h8:=bg h8
  refine⟨ab,ab,?_⟩
  (repeat (refine cL ?_;repeat refine cK ?_))
  rw[show (bif !bZ2 (Om b (it 12) Sk=80) then bZ3 else !bZ2 (aR b (it 18)=0)) = !bZ2 (FR b) from (bE7 _ _).trans (dP (λx => !x) (decide_eq_decide.2 rg))]
  refine aw (λh=>?_) (λhf=>?_)
  .exact JJ (by rw[kV,ah h8,aj];simpa using h) aB
  have hf:FR b:=by simpa using hf
  refine aw (λh=>?_) (λh5=>?_)
  .exact JJ (by rw[kV,ah h8,ah (λk=>k hf),aj (aX h)]) aB
  have h5:=bg h5
  repeat refine⟨ab,?_⟩
  rintro x w ⟨rfl,rfl⟩
  refine⟨by rw[oa];omega,?_⟩
  rintro c rfl
  refine aw (λh=>?_) (λh=>?_)
  .exact JJ (by rw[kV,ah h8,ah (λk=>k hf),ah h5,aj];intro k;rw[ft k] at h;cases h) aB
  have h0:kV s d b=0:=by
   rw[kV,ah h8,ah (λk=>k hf),ah h5,ah]
   intro k;rw[eT k] at h;cases h
  rw[Bp]
  repeat refine⟨ab,?_⟩
  refine⟨by rw[gw];omega,?_⟩
  rintro y rfl
  have g:=hb _ (dm (xs:=b) (i:=13) ab ab)
  have v4:=Lp (k:=it 4) hb
  have v6:=Lp (k:=it 6) hb
  have v8:=Lp (k:=it 8) hb
  have v10:=Lp (k:=it 10) hb
  rw[gn,aj h0,h0,aG ab ab,W4 v4.1 v4.2 v6.1 v6.2,W4 v8.1 v8.2 v10.1 v10.2];exact⟨rfl,rfl⟩
theorem Zr:aC 238 ao9.spec:=aF Tryz.func238 (ap (ap (ap (ap aD (Ct.named Kx)) (Ct.named Nw)) Ha) (Ct.named tj)) aU ba4
def Jq(data:ad)(e:qN):Prop:=(fy e.2.1=bZ3/\fy e.2.2.1=bZ3)/\e.2.2.2=data
def OB(data:ad)(u:t8):Prop:=(fy u.1=bZ3/\fy u.2.1=bZ3)/\u.2.2=data
def KF(data:ad)(s:mJ):Prop:=xy s/\s.2.2.2.2.2.2=data
theorem oP{n:Int}(h0:0<=n)(h1:n<=65535):n/256%256*256+n%256=n:=by omega
theorem aV1{e:qN}(h:oh e=0):gD e=(if e.1 then 0 else 8)::0::(eG (eJ e)/256%256)::(eG (eJ e)%256)::(e.2.1/256%256)::(e.2.1%256)::(e.2.2.1/256%256)::(e.2.2.1%256)::e.2.2.2:=by
 rw[gD,aj h];rfl
theorem J8{data:ad}{e:qN}(h:Jq data e)(hl:(be data:Int)<=1472):oh e=0:=by
 rw[oh,ah (λk=>k h.1),ah (by rw[h.2];omega)]
theorem Ru{data:ad}{e:qN}(h:Jq data e)(hd:bytes data)(hl:(be data:Int)<=1472):lm (gD e)=0/\gT (gD e)=e:=by
 have h0:=J8 h hl
 rw[aV1 h0]
 have ⟨⟨h1,h2⟩,h3⟩:=h
 rw[jA] at h1 h2
 have hc:=vd (DJ (e:=e) (by rw[h3];exact hd))
 have hb:eJ e=(if e.1 then 0 else 8)::0::0::0::(e.2.1/256%256)::(e.2.1%256)::(e.2.2.1/256%256)::(e.2.2.1%256)::e.2.2.2:=rfl
 have ⟨r,i,q,l⟩:=e
 simp only at h1 h2 h3 hc hb ⊢
 subst h3
 have he:lm ((if r then 0 else 8)::0::(eG (eJ (r,i,q,l))/256%256)::(eG (eJ (r,i,q,l))%256)::(i/256%256)::(i%256)::(q/256%256)::(q%256)::l)=0:=by
  rw[lm,ah (by simp only[cX];omega),ah,ah (by simp only[cX];omega),ah]
  .have e2:aR ((if r then 0 else 8)::0::(eG (eJ (r,i,q,l))/256%256)::(eG (eJ (r,i,q,l))%256)::(i/256%256)::(i%256)::(q/256%256)::(q%256)::l) (it 2)=eG (eJ (r,i,q,l))/256%256*256+eG (eJ (r,i,q,l))%256:=jo _ _ _;rw[e2,oP hc.1 hc.2];have e3:dL ((if r then 0 else 8)::0::(eG (eJ (r,i,q,l))/256%256)::(eG (eJ (r,i,q,l))%256)::(i/256%256)::(i%256)::(q/256%256)::(q%256)::l) (it 2) 0=eJ (r,i,q,l):=rfl;rw[e3];exact λk=>k rfl
  .intro k;apply k;refine⟨?_,rfl⟩;cases r
   .exact .inl rfl
   .exact .inr rfl
 refine⟨he,?_⟩
 rw[gT,aj he]
 have e4:aR ((if r then 0 else 8)::0::(eG (eJ (r,i,q,l))/256%256)::(eG (eJ (r,i,q,l))%256)::(i/256%256)::(i%256)::(q/256%256)::(q%256)::l) (it 4)=i/256%256*256+i%256:=jo _ _ _
 have e6:aR ((if r then 0 else 8)::0::(eG (eJ (r,i,q,l))/256%256)::(eG (eJ (r,i,q,l))%256)::(i/256%256)::(i%256)::(q/256%256)::(q%256)::l) (it 6)=q/256%256*256+q%256:=jo _ _ _
 rw[e4,e6,oP h1.1 h1.2,oP h2.1 h2.2]
 cases r <;> rfl
theorem QV{data:ad}{u:t8}(h:OB data u)(hl:(be data:Int)<=1472):qd u=0:=by
 rw[qd,ah (λk=>k h.1),ah (by rw[h.2];omega)]
theorem bD2{s d:Int}{data:ad}{u:t8}(h:OB data u)(hd:bytes data)(hl:(be data:Int)<=1472):mn s d (oH s d u)=0/\uz s d (oH s d u)=u:=by
 have h0:=QV h hl
 have ⟨⟨h1,h2⟩,h3⟩:=h
 rw[jA] at h1 h2
 have hc:=Ph (a:=s) (b:=d) (Ii (e:=u) (by rw[h3];exact hd))
 have ⟨sp,dp,l⟩:=u
 simp only at h1 h2 h3 hc
 subst h3
 generalize hB:oH s d (sp,dp,l)=B
 have hs:B=(sp/256%256)::(sp%256)::(dp/256%256)::(dp%256)::((8+be l:Int)/256%256)::((8+be l:Int)%256)::(mD s d (gZ (sp,dp,l))/256%256)::(mD s d (gZ (sp,dp,l))%256)::l:=by rw[← hB,oH,aj h0];rfl
 have i0:aR B (it 0)=sp/256%256*256+sp%256:=by rw[hs];exact jo _ _ _
 have i2:aR B (it 2)=dp/256%256*256+dp%256:=by rw[hs];exact jo _ _ _
 have i4:aR B (it 4)=(8+be l:Int)/256%256*256+(8+be l:Int)%256:=by rw[hs];exact jo _ _ _
 have i6:aR B (it 6)=mD s d (gZ (sp,dp,l))/256%256*256+mD s d (gZ (sp,dp,l))%256:=by rw[hs];exact jo _ _ _
 have hset:dL B (it 6) 0=gZ (sp,dp,l):=by rw[hs];rfl
 have hlen:(be B:Int)=8+be l:=by rw[hs];simp only[cX];omega
 have g8:B.drop 8=l:=by rw[hs];rfl
 have he:mn s d B=0:=by
  rw[mn,ah ab,ah (λq=>q (by rw[i4];omega)),ah ab,ah];rw[hset,i6,oP hc.1 hc.2];exact λq=>q rfl
 refine⟨he,?_⟩
 rw[uz,aj he,i0,i2,g8,oP h1.1 h1.2,oP h2.1 h2.2]
theorem M9{data:ad}{s:mJ}(h:KF data s)(hl:(be data:Int)<=1460):pA s=0:=by
 rw[pA,ah (λk=>k h.1),ah (by rw[h.2];omega)]
theorem Xr{n:Int}(h0:0<=n)(h1:n<=4294967295):(n/16777216%256*256+n/65536%256)*65536+(n/256%256*256+n%256)=n:=ab
theorem VN{s d:Int}{data:ad}{u:mJ}(h:KF data u)(hd:bytes data)(hl:(be data:Int)<=1460):kV s d (gQ s d u)=0/\gn s d (gQ s d u)=u:=by
 have h0:=M9 h hl
 have ⟨hok,h3⟩:=h
 have hc:=HA (a:=s) (b:=d) (p:=6) (G0 hok (by rw[h3];exact hd))
 have ⟨h1,h2,k3,k4,k5,k6⟩:=hok
 rw[jA] at h1 h2 k6
 obtain⟨sp,dp,sq,ak,fl,wi,l⟩:=u
 simp only at h1 h2 h3 hc k3 k4 k5 k6
 subst h3
 generalize hC:iC s d 6 (nS (sp,dp,sq,ak,fl,wi,l))=c at hc
 generalize hB:gQ s d (sp,dp,sq,ak,fl,wi,l)=B
 have hs:B=(sp/256%256)::(sp%256)::(dp/256%256)::(dp%256)::(sq/16777216%256)::(sq/65536%256)::(sq/256%256)::(sq%256)::(ak/16777216%256)::(ak/65536%256)::(ak/256%256)::(ak%256)::80::fl::(wi/256%256)::(wi%256)::(c/256%256)::(c%256)::0::0::l:=by rw[← hB,gQ,aj h0,hC];rfl
 have i0:aR B (it 0)=sp/256%256*256+sp%256:=by rw[hs];exact jo _ _ _
 have i2:aR B (it 2)=dp/256%256*256+dp%256:=by rw[hs];exact jo _ _ _
 have i4:aR B (it 4)=sq/16777216%256*256+sq/65536%256:=by rw[hs];exact jo _ _ _
 have i6:aR B (it 6)=sq/256%256*256+sq%256:=by rw[hs];exact jo _ _ _
 have i8:aR B (it 8)=ak/16777216%256*256+ak/65536%256:=by rw[hs];exact jo _ _ _
 have i10:aR B (it 10)=ak/256%256*256+ak%256:=by rw[hs];exact jo _ _ _
 have i14:aR B (it 14)=wi/256%256*256+wi%256:=by rw[hs];exact jo _ _ _
 have i16:aR B (it 16)=c/256%256*256+c%256:=by rw[hs];exact jo _ _ _
 have i18:aR B (it 18)=0:=by rw[hs];exact jo 0 0 _
 have hset:dL B (it 16) 0=nS (sp,dp,sq,ak,fl,wi,l):=by rw[hs];rfl
 have hlen:(be B:Int)=20+be l:=by rw[hs];simp only[cX];omega
 have g12:Om B (it 12) Sk=80:=by rw[hs];rfl
 have g13:Om B (it 13) Sk=fl:=by rw[hs];rfl
 have g20:B.drop 20=l:=by rw[hs];rfl
 have he:kV s d B=0:=by
  rw[kV,ah ab,ah (λq=>q ⟨g12,i18⟩),ah ab,ah];rw[hset,hC,i16,oP hc.1 hc.2];exact λq=>q rfl
 refine⟨he,?_⟩
 rw[gn,aj he,i0,i2,i4,i6,i8,i10,g13,i14,g20,oP h1.1 h1.2,oP h2.1 h2.2,oP k6.1 k6.2,Xr k3.1 k3.2,Xr k4.1 k4.2]
def vg(s d p n:Int):ad:=w4 s++(w4 d++(w2 p++w2 n))
theorem NQ(s d p:Int)(X:ad):dQ bZ3 (C1 s d p X)=dQ bZ3 (vg s d p (be X))+dQ bZ3 X:=by
 have e:C1 s d p X=vg s d p (be X)++X:=by simp[C1,vg]
 have hl:be (vg s d p (be X))=12:=by simp[vg,w4,w2]
 rw[e,Kt,hl];rfl
theorem aC4(s d p n:Int):dQ bZ3 (vg s d p n)=dQ bZ3 (w4 s)+dQ bZ3 (w4 d)+dQ bZ3 (w2 p)+dQ bZ3 (w2 n):=by
 have h4:∀ n r,dQ bZ3 (w4 n++r)=dQ bZ3 (w4 n)+dQ bZ3 r:=λn r=>by rw[Kt,show be (w4 n)=4 from rfl];rfl
 have h2:∀ n r,dQ bZ3 (w2 n++r)=dQ bZ3 (w2 n)+dQ bZ3 r:=λn r=>by rw[Kt,show be (w2 n)=2 from rfl];rfl
 rw[vg,h4,h4,h2]
 omega
theorem at2(e:qN):(be (gD e):Int)<=1480:=by
 unfold gD
 split
 next h=>
  rw[oa,Ps];unfold oh at h;split at h
  .cases h
  .split at h
   .cases h
   .omega
 .simp
theorem MQ(e:kQ):(be (j9 e):Int)<=1480:=by
 unfold j9
 split
 next h=>
  rw[oa,L8];unfold lF at h;split at h
  .cases h
  .split at h
   .cases h
   .split at h
    .cases h
    .omega
 .simp
theorem bL2(s d:Int)(e:mJ):(be (gQ s d e):Int)<=1480:=by
 unfold gQ
 split
 next h=>
  rw[oa,JH];unfold pA at h;split at h
  .cases h
  .split at h
   .cases h
   .omega
 .simp
theorem Xm{l:ad}{i:Nat}{v:Int}(h:i<be l):Om (l.set i v) i Sk=v:=by
 rw[cq,List.getElem?_set_self h,iA]
theorem G1{l:ad}{i j:Nat}{v:Int}(h:i≠j):Om (l.set i v) j Sk=Om l j default:=by
 rw[cq,List.getElem?_set_ne h,← cq]
theorem aT5{b:ad}(h:lm b=0):8<=be b/\eG (dL b 2 0)=aR b 2:=by
 unfold lm at h
 split at h
 .cases h
 .split at h
  .cases h
  .split at h
   .cases h
   .split at h
    .cases h
    next h1 _ _ h4=>exact⟨ab,uj.1 h4⟩
theorem Sd(s d p n:Int):p%256<=dQ bZ3 (vg s d p n):=by
 rw[aC4];simp[dQ,w4,w2];omega
theorem Vh{x y:ad}(hx:∀ n∈x,0<=n/\n<=255)(hy:∀ n∈y,0<=n/\n<=255)(h:strOfNums x=strOfNums y):x=y:=by
 have h':(x.map λn=>cB2 n.toNat)=y.map λn=>cB2 n.toNat:=by
  have:=dP (λs:ByteArray=>s.data.toList) h;simpa[strOfNums_data] using this
 clear h
 revert h' hx hy
 induction x generalizing y with
 | nil=>intro hx hy h;cases y with
  | nil=>rfl
  | cons b y=>cases h
 | cons a x ih =>
  intro hx hy h;cases y with
  | nil=>cases h
  | cons b y =>
   simp only[fF,List.cons.injEq] at h;have ha:=hx a eV;have hb:=hy b eV;have e:=dP UInt8.toNat h.1;simp only[UInt8.toNat_ofNat'] at e;rw[ih (y:=y) (λn hn=>hx n (fu _ hn)) (λn hn=>hy n (fu _ hn)) h.2];congr 1;omega
def aw8:Ct:=⟨[.val (.sl bm),.val (.sl bm)],[.val .bool],λd=>[],λd=>((bZ2 (d.1=d.2.1),()),())⟩
theorem a69:
 ∀(a b:ad),aQ a/\ai (aQ b)->True->bZ2 (strOfNums a=strOfNums b)=bZ2 (a=b):= by
  delta aQ ai
  rintro x y ⟨⟨-,hx⟩,⟨-,hy⟩,-⟩ -
  by_cases h:x=y
  .rw[h,ft rfl,ft rfl]
  .rw[eT h,eT λk=>h (Vh hx hy k)]
theorem ay5:aC 149 aw8.spec:=aF Tryz.func149 aD aU a69
def aI9:Ct:=⟨[.val (.sl bm),.val (.sl bm)],[.val .bool],λd=>[],λd=>((bZ2 (d.1=d.2.1),()),())⟩
theorem bi2:
 ∀(a b:ad),aQ a/\ai (aQ b)->True->bZ2 (a=b)=bZ2 (a=b):= by
  delta aQ ai
  intro x y _ _;rfl
theorem MZ:aC 80 aI9.spec:=aF Tryz.func80 (ap aD ay5) aU bi2
abbrev pC:CT := .pair cI (.pair cI (.pair cI (.pair cI (.pair .bool (.pair dw dw)))))
abbrev D5:CT := .pair pC (.sl bm)
abbrev dK:Type:=Int×Int×Int×Int×Bool×Int×Int
abbrev ny:Type:=dK×ad
def rW(n:Int):Prop:=0<=n/\n<=255
instance (n:Int):Decidable (rW n):=by unfold rW;infer_instance
def nj(h:dK):Prop:=rW h.1/\rW h.2.2.1/\rW h.2.2.2.1/\0<=h.2.1/\h.2.1<=65535
instance (h:dK):Decidable (nj h):=by unfold nj;infer_instance
def o6(h:dK):Int:=if nj h then 0 else 1
def XE(h:dK)(n:Int):ad:=[69,h.1]++(w2 n++(w2 h.2.1++(w2 (if h.2.2.2.2.1 then 16384 else 0)++[h.2.2.1,h.2.2.2.1])))
def Sy(h:dK):ad:=w4 h.2.2.2.2.2.1++w4 h.2.2.2.2.2.2
def nO(h:dK)(n:Int):ad:=XE h n++([0,0]++Sy h)
def ng(h:dK)(n:Int):ad:=dL (nO h n) 10 (eG (nO h n))
def jh(p:ny):Int:=if ¬ nj p.1 then 1 else if (1480:Int)<be p.2 then 5 else 0
def gM(p:ny):ad:=if jh p=0 then ng p.1 (20+be p.2)++p.2 else []
def iT(b:ad):Int :=
 if (be b:Int)<20 then 3 else if ¬ (Om b 0 Sk=69/\(aR b 6=0∨aR b 6=16384)/\20<=aR b 2) then 2
 else if eG (dL (b.take 20) 10 0)≠aR b 10 then 4 else 0
def tM:dK:=(0,0,0,0,bZ6,0,0)
def cB(b:ad):dK:=(Om b 1 Sk,aR b 4,Om b 8 Sk,Om b 9 Sk,bZ2 (aR b 6=16384),gP ((b.drop 12).take 4),gP ((b.drop 16).take 4))
def sI(b:ad):dK:=if iT b=0 then cB b else tM
def qX(b:ad):Int:=if iT b=0 then aR b 2 else 0
def dN(b:ad):Int:=if iT b≠0 then iT b else if aR b 2≠be b then 2 else if 1500<aR b 2 then 5 else 0
def cJ(b:ad):ny:=if dN b=0 then (cB b,b.drop 20) else (tM,[])
def CF(h:dK):dK:=(h.1,h.2.1,h.2.2.1-1,h.2.2.2)
def j5(b:ad):Int:=if dN b≠0 then dN b else if (cB b).2.2.1<2 then 7 else 0
def lE(b:ad):ad:=if j5 b=0 then gM (CF (cB b),b.drop 20) else []
theorem bA3(h:dK)(n:Int):be (nO h n)=20:=rfl
theorem wH(h:dK)(n:Int):be (ng h n)=20:=by unfold ng;rw[oa];rfl
theorem Mx{h:dK}{n:Int}(hk:nj h):bytes (nO h n):=by
 obtain⟨a,b,c,-⟩:=hk
 exact jY (jY (o9 ab ab (o9 a.1 a.2 qi)) (jY (oV _) (jY (oV _) (jY (oV _) (o9 b.1 b.2 (o9 c.1 c.2 qi))))))
  (jY (o9 ab ab (o9 ab ab qi)) (jY (D1 _) (D1 _)))
theorem MN{h:dK}{n:Int}(hk:nj h):bytes (ng h n):=xF (Mx hk)
theorem nQ{n:Nat}{b:ad}(h:n+1<=be b):∃ x r,b=x::r/\n<=be r:=by
 cases b with
 | nil=>simp at h
 | cons x r=>exact⟨x,r,rfl,by simpa using h⟩
theorem bh5{b:ad}(h:20<=be b):∃ x y z A B C D E F G a c d e f g i j k l r,b=x::y::z::A::B::C::D::E::F::G::a::c::d::e::f::g::i::j::k::l::r:=by
 obtain⟨x,b1,rfl,h1⟩:=nQ h
 obtain⟨y,b2,rfl,h2⟩:=nQ h1
 obtain⟨z,b3,rfl,h3⟩:=nQ h2
 obtain⟨A,b4,rfl,h4⟩:=nQ h3
 obtain⟨B,b5,rfl,h5⟩:=nQ h4
 obtain⟨C,b6,rfl,h6⟩:=nQ h5
 obtain⟨D,b7,rfl,h7⟩:=nQ h6
 obtain⟨E,b8,rfl,h8⟩:=nQ h7
 obtain⟨F,b9,rfl,h9⟩:=nQ h8
 obtain⟨G,b10,rfl,m⟩:=nQ h9
 obtain⟨a,b11,rfl,n⟩:=nQ m
 obtain⟨c,b12,rfl,o⟩:=nQ n
 obtain⟨d,b13,rfl,p⟩:=nQ o
 obtain⟨e,b14,rfl,q⟩:=nQ p
 obtain⟨f,b15,rfl,s⟩:=nQ q
 obtain⟨g,b16,rfl,t⟩:=nQ s
 obtain⟨i,b17,rfl,u⟩:=nQ t
 obtain⟨j,b18,rfl,v⟩:=nQ u
 obtain⟨k,b19,rfl,w⟩:=nQ v
 obtain⟨l,b20,rfl,h20⟩:=nQ w
 grind
theorem aB2(a:Int):gP [a]=a:=by simp[gP]
theorem GH(a b c d:Int):gP [a,b,c,d]=((a*256+b)*256+c)*256+d:=by simp[gP]
theorem QY{b:ad}{a w:Int}(h1:1<=w)(h2:w<=7)(h3:0<=a)(h4:a+w<=be b):bI b a w=gP ((b.drop (it a)).take (it w)):=by
 rw[bI,ah ab]
theorem bU7{b:ad}{i:Nat}(h:i<be b):(b.drop i).take 1=[Om b i Sk]:=by
 rw[s9 h,cq,cG h];rfl
theorem ID{b:ad}{a:Int}(h3:0<=a)(h4:a+1<=be b):bI b a 1=Om b (it a) default:=by
 rw[QY ab ab h3 h4,show it (1:Int)=1 from rfl,bU7 ab,aB2]
theorem tO{b:ad}{a:Int}(h3:0<=a)(h4:a+2<=be b):bI b a 2=aR b (it a):=by
 rw[QY ab ab h3 h4];rfl
theorem Nf{b:ad}{a:Int}(h3:0<=a)(h4:a+4<=be b):bI b a 4=gP ((b.drop (it a)).take 4):=by
 rw[QY ab ab h3 h4];rfl
theorem AQ{b:ad}{n i:Nat}(h:i<n):Om (b.take n) i Sk=Om b i default:=by
 simp_all
theorem Ea{b:ad}{n i k:Nat}(h:i+k<=n):((b.take n).drop i).take k=(b.drop i).take k:=by
 rw[cz6,List.take_take,Nat.min_eq_left ab]
theorem vp{b:ad}{n i:Nat}(h:i+2<=n):aR (b.take n) i=aR b i:=by
 unfold aR;rw[Ea h]
theorem QO{b:ad}{n:Nat}(h:bytes b):bytes (b.take n):=λx hx=>h x (rX hx)
theorem yx{b:ad}{n:Nat}(h:bytes b):bytes (b.drop n):=λx hx=>h x (Al hx)
theorem G5{b:ad}(h:bytes b){i:Nat}(hi:i<be b):0<=Om b i Sk/\Om b i Sk<=255:=by
 have:=dm (xs:=b) (i:=(i:Int)) ab ab
 exact h _ this
theorem rI{b:ad}(h:bytes b)(i:Nat):0<=aR b i/\aR b i<=65535:=by
 have:=Ko 2 ((b.drop i).take 2) (by rw[eM];omega) (λx hx=>h x (Al (rX hx)))
 unfold aR;omega
theorem y9{b:ad}(h:bytes b)(i:Nat):0<=gP ((b.drop i).take 4)/\gP ((b.drop i).take 4)<=4294967295:=by
 have:=Ko 4 ((b.drop i).take 4) (by rw[eM];omega) (λx hx=>h x (Al (rX hx)))
 omega
theorem oo{a:Int}{l:ad}(h:bytes (a::l)):(0<=a/\a<=255)/\bytes l:=⟨h a eV,λx hx=>h x (fu _ hx)⟩
theorem Wb{a b c d:Int}(ha:0<=a/\a<=255)(hb:0<=b/\b<=255)(hc:0<=c/\c<=255)(hd:0<=d/\d<=255):w4 (((a*256+b)*256+c)*256+d)=[a,b,c,d]:=by
 unfold w4
 grind
theorem ag7{b:ad}(a:bytes b)(hl:20<=be b)(h0:Om b 0 Sk=69)(w:aR b 6=0∨aR b 6=16384) :
  nO (cB b) (aR b 2)=dL (b.take 20) 10 0/\(ng (cB b) (aR b 2)=b.take 20↔eG (dL (b.take 20) 10 0)=aR b 10):=by
 obtain⟨y,t,o,p,q,s,x6,n,u,v,d,f,g,x13,i,j,k,l,m,x19,r,rfl⟩:=bh5 hl
 have hb0:=a
 have ⟨k0,a⟩:=oo a
 have ⟨k1,a⟩:=oo a
 have ⟨K,a⟩:=oo a
 have ⟨L,a⟩:=oo a
 have ⟨M,a⟩:=oo a
 have ⟨N,a⟩:=oo a
 have ⟨k6,a⟩:=oo a
 have ⟨k7,a⟩:=oo a
 have ⟨k8,a⟩:=oo a
 have ⟨k9,a⟩:=oo a
 have ⟨k10,a⟩:=oo a
 have ⟨k11,a⟩:=oo a
 have ⟨z,a⟩:=oo a
 have ⟨A,a⟩:=oo a
 have ⟨B,a⟩:=oo a
 have ⟨C,a⟩:=oo a
 have ⟨D,a⟩:=oo a
 have ⟨E,a⟩:=oo a
 have ⟨F,a⟩:=oo a
 have ⟨G,a⟩:=oo a
 have e2:aR (y::t::o::p::q::s::x6::n::u::v::d::f::g::x13::i::j::k::l::m::x19::r) 2=o*256+p:=jo _ _ _
 have e4:aR (y::t::o::p::q::s::x6::n::u::v::d::f::g::x13::i::j::k::l::m::x19::r) 4=q*256+s:=jo _ _ _
 have e6:aR (y::t::o::p::q::s::x6::n::u::v::d::f::g::x13::i::j::k::l::m::x19::r) 6=x6*256+n:=jo _ _ _
 have H:aR (y::t::o::p::q::s::x6::n::u::v::d::f::g::x13::i::j::k::l::m::x19::r) 10=d*256+f:=jo _ _ _
 have I:gP (((y::t::o::p::q::s::x6::n::u::v::d::f::g::x13::i::j::k::l::m::x19::r).drop 12).take 4)=((g*256+x13)*256+i)*256+j:=GH _ _ _ _
 have J:gP (((y::t::o::p::q::s::x6::n::u::v::d::f::g::x13::i::j::k::l::m::x19::r).drop 16).take 4)=((k*256+l)*256+m)*256+x19:=GH _ _ _ _
 subst h0
 rw[e6] at w
 have hk:w2 (if bZ2 (x6*256+n=16384) then 16384 else 0)=[x6,n]:=by
  obtain w|w:=w
  .rw[w];have:x6=0/\n=0:=ab;rw[this.1,this.2];rfl
  .rw[w];have:x6=64/\n=0:=ab;rw[this.1,this.2];rfl
 have hbody:nO (cB (69::t::o::p::q::s::x6::n::u::v::d::f::g::x13::i::j::k::l::m::x19::r)) (aR (69::t::o::p::q::s::x6::n::u::v::d::f::g::x13::i::j::k::l::m::x19::r) 2)=dL ((69::t::o::p::q::s::x6::n::u::v::d::f::g::x13::i::j::k::l::m::x19::r).take 20) 10 0:=by
  unfold nO XE Sy cB;rw[e2,e4,e6,I,J,hk,KA K.1 K.2 L.1 L.2,KA M.1 M.2 N.1 N.2,Wb z A B C,Wb D E F G];rfl
 refine⟨hbody,?_⟩
 rw[ng,hbody,H]
 have hc:=vd (b:=dL ((69::t::o::p::q::s::x6::n::u::v::d::f::g::x13::i::j::k::l::m::x19::r).take 20) 10 0) (xF (λx hx=>hb0 x (rX hx)))
 generalize eG (dL ((69::t::o::p::q::s::x6::n::u::v::d::f::g::x13::i::j::k::l::m::x19::r).take 20) 10 0)=c at hc ⊢
 have e:dL (dL ((69::t::o::p::q::s::x6::n::u::v::d::f::g::x13::i::j::k::l::m::x19::r).take 20) 10 0) 10 c=[69,t,o,p,q,s,x6,n,u,v,c/256%256,c%256,g,x13,i,j,k,l,m,x19]:=rfl
 rw[e]
 have e':(69::t::o::p::q::s::x6::n::u::v::d::f::g::x13::i::j::k::l::m::x19::r).take 20=[69,t,o,p,q,s,x6,n,u,v,d,f,g,x13,i,j,k,l,m,x19]:=rfl
 rw[e']
 constructor
 .grind
 .intro h;have:c/256%256=d/\c%256=f:=ab;rw[this.1,this.2]
def CA(k:Nat):Nat:=[0,1,2,4,6,8,9,10,12,16,20].getD k 20
theorem a56{h:dK}{n f k:Int}(c:nj h)(n0:0<=n)(n1:n<=65535)(d:0<=h.2.2.2.2.2.1/\h.2.2.2.2.2.1<=4294967295)(e:0<=h.2.2.2.2.2.2/\h.2.2.2.2.2.2<=4294967295)(g:f=if h.2.2.2.2.1 then 16384 else 0)(k0:0<=k)(k1:k<10) :
  putB ((nO h n).take (CA (it k))) (pickI [69,h.1,n,h.2.1,f,h.2.2.1,h.2.2.2.1,0,h.2.2.2.2.2.1,h.2.2.2.2.2.2] (it k)) (pickI [1,1,2,2,2,1,1,2,4,4] (it k))=(nO h n).take (CA (it (k+1))):=by
 have ⟨i,j,l,h4,h5⟩:=c
 have a:0<=f/\f<=65535:=by rw[g];split <;> omega
 have:k=0∨k=1∨k=2∨k=3∨k=4∨k=5∨k=6∨k=7∨k=8∨k=9:=ab
 obtain rfl|rfl|rfl|rfl|rfl|rfl|rfl|rfl|rfl|rfl:=this
 .exact Jx (n:=69) ab ab
 .exact Jx i.1 i.2
 .exact Hd n0 n1
 .exact Hd h4 h5
 .have:=Hd (b:=[69,h.1]++(w2 n++w2 h.2.1)) a.1 a.2;rw[g] at this ⊢;exact this
 .exact Jx j.1 j.2
 .exact Jx l.1 l.2
 .exact Hd (n:=0) ab ab
 .exact Q6 d.1 d.2
 .exact Q6 e.1 e.2
theorem Hv{b:ad}(h:iT b=0):20<=be b:=by
 unfold iT at h
 split at h
 .cases h
 .omega
theorem Jd{b:ad}(h:dN b=0):iT b=0:=by
 unfold dN at h
 grind
theorem DB{b:ad}(h:dN b=0):(be b:Int)<=1500/\aR b 2=be b:=by
 unfold dN at h
 omega
theorem ad4{b:ad}(a:bytes b)(h:iT b=0):nj (cB b):=by
 have hl:=Hv h
 exact⟨G5 a ab,G5 a ab,G5 a ab,rI a 4⟩
theorem ZX{b:ad}(hb:bytes b)(h:dN b=0)(h2:¬ (cB b).2.2.1<2):nj (CF (cB b)):=by
 have ⟨k1,k2,k3,k4⟩:=ad4 hb (Jd h)
 refine⟨k1,?_,k3,k4⟩
 have ⟨k5,k6⟩:=k2
 show 0<=(cB b).2.2.1-1/\(cB b).2.2.1-1<=255
 omega
def bI8:Ct:=⟨[.val cI],[.val .bool],λd=>[],λd=>((fy d.1,()),())⟩
theorem ZK:
 Dt:= by
 delta aq aK aJ br ai Az wR fp dW Dt
 unfold fy
 simp_all
theorem aN8:aC 285 bI8.spec:=aF Tryz.func285 aD aU ZK
def bV3:Ct:=⟨[.val cI,.val cI],[.val cI],λd=>[],λd=>((if fy d.1&&fy d.2.1 then oc (d.1+d.2.1) else 0,()),())⟩
theorem bN2:
 ∀(a b:Int),dV a b->True->lC ( !fy a) ( !fy b) ((0:Int)=(if fy a&&fy b then oc (a+b) else (0:Int))) (0<=ao (a+b)/\oc (ao (a+b))=(if fy a&&fy b then oc (a+b) else 0)):= by
  delta ao aq aK bR aJ bq cV bv lC ai dV
  rintro a b - -
  (repeat (intro (b_:Bool) (c:b_=_);(repeat refine⟨(by first|(simp;done)),?_⟩);subst c))
  refine aw (λe=>?_) (λe=>?_)
  .grind
  .have d:fy a=bZ3/\fy b=true:=by simpa[ic] using e
   rw[aj (by simp[d])]
   have ha:=aX d.1
   have hb:=aX d.2
   rw[aG ab ab]
   omega
theorem bB0:aC 242 bV3.spec:=aF Tryz.func242 (ap (ap aD aN8) Vu) aU bN2
def bN6:Ct:=⟨[.val cI],[.val .bool],λd=>[],λd=>((bZ2 (rW d.1),()),())⟩
theorem aI1:
 ∀(a:Int),Az a (ax a 256) (bZ2 (rW a)):= by
  delta aq aK aJ br ai Az wR fp dW ax
  unfold rW
  grind
theorem bF9:aC 245 bN6.spec:=aF Tryz.func245 aD aU aI1
def aw9:Ct:=⟨[.agg pC],[.val cI],λd=>[],λd=>((o6 d.1,()),())⟩
theorem aO1:
 ∀(a:dK),dW (CT.wf pC a) (∀(b:Bool),b=( !bZ2 (rW a.1))->bR b/\gq b/\bR b/\bv b/\ ∀(c:Bool),sk c b ( !bZ2 (rW a.2.2.1)) (gq c) (bR c/\bv c/\ ∀(d:Bool),d=bq c ( !bZ2 (rW a.2.2.2.1))->cV d (bv d) (lC (bq d (dH a.2.1)) (bZ2 (65536<=a.2.1)) (1=o6 a) (0=o6 a)))):= by
  delta bR aJ bq cV bv gq sk lC ai dA dH dW ax
  rintro h - -
  (repeat (refine cL ?_;repeat refine cK ?_))
  refine aw (λa=>?_) (λa=>?_)
  .rw[o6,ah]
   intro k;have ⟨k1,k2,k3,k4,k5⟩:=k
   grind
  .rw[o6,aj]
   simp[ic] at a
   exact⟨a.1.1.1.1,a.1.1.1.2,a.1.1.2,ab,ab⟩
theorem bd3:aC 196 aw9.spec:=aF Tryz.func196 (ap aD bF9) aU aO1
def YE:Ct:=⟨[.agg D5],[.own 5 bm,.val cI],λd=>[(be d.1.2:Int)<=1073741824],λd=>((gM d.1,jh d.1,()),())⟩
def ab4:bw YE.ps->bL:=(λd=>{loops:=(bu 12 (λS=>{ι:=Int×ad,qn:=fH,μ:=λi=>it (10-i.1),inv:=λi=>0<=i.1/\i.1<=10/\i.2=(nO d.1.1 (20+be d.1.2)).take (CA (it i.1)),keep:=[1,4,53],slots:=λi=>[(7,.own 524288 1),(54,.int .i64 i.1)],keepN:=[32,80],names:=λi=>[(524288,.live (.row 5 bm i.2))]}) cC)})
def Oe(a b:ad)(c:ny):=∀(d:Int),d=rH a->am 8 ((0:Int)<=(10:Int)) (10<ac a/\bJ 11 (ac (set a (it 10) (ue d))) (gp (set (set a (it 10) (ue d)) (it 11) (bZ5 cc4 d)) b) (set (set a (it 10) (ue d)) (it 11) (bZ5 cc4 d)++b=gM c/\0=jh c))
def Cm(a:Int)(b:ad)(c:dK)(d:ad):=am a (a<=10) (b=take (CA (it a)) (nO c (20+ac d)))
def Gy(a:Int):=SX.pickI (kD 1 1 2 2 2 (1::1::2::4::bz 4)) (it a)
def kK(a:Int):=ao a=ao a
def Gk(a b c d:Int)(e f:Prop):=aZ a 1 b 1 ((0:Int)=(0:Int)) (aZ 2 (ao c) 4 (ao d) ((4:Int)=(4:Int)) (e/\f))
def qp(a:Prop)(b:Int)(c:Prop):=∀(d:Int),a/\d=b->c
def Gp(a b c d:Int):=a::b::(0:Int)::ao c::bz (ao d)
theorem bE1:
 ∀(a:ny),ai (CT.wf D5 a)->fA a.2->lY (aV (o6 a.1)) (fw (gM a)) (o6 a.1=jh a) (ax 1480 (ac a.2)) (fw (gM a)/\5=jh a) (ar a.1.2.2.2.2.1 ((∃(b:Int) (c:ad),Cm b c a.1 a.2/\aZ 69 1 a.1.1 1 (kK (20+ac a.2)) (aZ 2 a.1.2.1 2 16384 ((2:Int)=(2:Int)) (Gk a.1.2.2.1 a.1.2.2.2.1 a.1.2.2.2.2.2.1 a.1.2.2.2.2.2.2 (0=b) (aZ a.1.1 a.1.2.1 a.1.2.2.1 a.1.2.2.2.1 (a.1.2.2.2.2.1=a.1.2.2.2.2.1) (bp a.1.2.2.2.2.2.1 a.1.2.2.2.2.2.2 (a.2=a.2) (aZ a.1.1 a.1.2.1 a.1.2.2.1 a.1.2.2.2.1 (a.1.2.2.2.2.1=a.1.2.2.2.2.1) (bp a.1.2.2.2.2.2.1 a.1.2.2.2.2.2.2 (c=[]) True)))))))/\ ∀(b:Int)(c:ad),Cm b c a.1 a.2->fh b 10 (b<(↑((10:Nat)):Int)) (aT c/\ ∀(d:ad),qp (d=putB c (SX.pickI (kD 69 a.1.1 (ao (20+ac a.2)) a.1.2.1 16384 (Gp a.1.2.2.1 a.1.2.2.2.1 a.1.2.2.2.2.2.1 a.1.2.2.2.2.2.2)) (it b)) (Gy b)) (BU (SX.pickI (kD 69
 a.1.1 (ao (20+ac a.2)) a.1.2.1 16384 (Gp a.1.2.2.1 a.1.2.2.2.1 a.1.2.2.2.2.2.1 a.1.2.2.2.2.2.2)) (it b)) (Gy b)) (∃(e:Int) (f:ad),Cm e f a.1 a.2/\bj 10 e b/\aZ 69 1 a.1.1 1 (kK (20+ac a.2)) (aZ 2 a.1.2.1 2 16384 ((2:Int)=(2:Int)) (Gk a.1.2.2.1 a.1.2.2.2.1 a.1.2.2.2.2.2.1 a.1.2.2.2.2.2.2 (bf b e) (aZ a.1.1 a.1.2.1 a.1.2.2.1 a.1.2.2.2.1 (a.1.2.2.2.2.1=a.1.2.2.2.2.1) (bp a.1.2.2.2.2.2.1 a.1.2.2.2.2.2.2 (a.2=a.2) (aZ a.1.1 a.1.2.1 a.1.2.2.1 a.1.2.2.2.1 (a.1.2.2.2.2.1=a.1.2.2.2.2.1) (bp a.1.2.2.2.2.2.1 a.1.2.2.2.2.2.2 (d=f) True)))))))) (aT c) (Oe c a.2 a)) ((∃(b:Int) (c:ad),Cm b c a.1 a.2/\aZ 69 1 a.1.1 1 (kK (20+ac a.2)) (aZ 2 a.1.2.1 2 0 ((2:Int)=(2:Int)) (Gk a.1.2.2.1 a.1.2.2.2.1 a.1.2.2.2.2.2.1 a.1.2.2.2.2.2.2 (0=b) (aZ a.1.1 a.1.2.1 a.1.2.2.1 a.1.2.2.2.1 (a.1.2.2.2.2.1=a.1.2.2.2.2.1) (bp a.1.2.2.2.2.2.1 a.1.2.2.2.2.2.2
 (a.2=a.2) (aZ a.1.1 a.1.2.1 a.1.2.2.1 a.1.2.2.2.1 (a.1.2.2.2.2.1=a.1.2.2.2.2.1) (bp a.1.2.2.2.2.2.1 a.1.2.2.2.2.2.2 (c=[]) True)))))))/\ ∀(b:Int)(c:ad),Cm b c a.1 a.2->fh b 10 (b<(↑((10:Nat)):Int)) (aT c/\ ∀(d:ad),qp (d=putB c (SX.pickI (kD 69 a.1.1 (ao (20+ac a.2)) a.1.2.1 0 (Gp a.1.2.2.1 a.1.2.2.2.1 a.1.2.2.2.2.2.1 a.1.2.2.2.2.2.2)) (it b)) (Gy b)) (BU (SX.pickI (kD 69 a.1.1 (ao (20+ac a.2)) a.1.2.1 0 (Gp a.1.2.2.1 a.1.2.2.2.1 a.1.2.2.2.2.2.1 a.1.2.2.2.2.2.2)) (it b)) (Gy b)) (∃(e:Int) (f:ad),Cm e f a.1 a.2/\bj 10 e b/\aZ 69 1 a.1.1 1 (kK (20+ac a.2)) (aZ 2 a.1.2.1 2 0 ((2:Int)=(2:Int)) (Gk a.1.2.2.1 a.1.2.2.2.1 a.1.2.2.2.2.2.1 a.1.2.2.2.2.2.2 (bf b e) (aZ a.1.1 a.1.2.1 a.1.2.2.1 a.1.2.2.2.1 (a.1.2.2.2.2.1=a.1.2.2.2.2.1) (bp a.1.2.2.2.2.2.1 a.1.2.2.2.2.2.2 (a.2=a.2) (aZ a.1.1 a.1.2.1 a.1.2.2.1 a.1.2.2.2.1
 (a.1.2.2.2.2.1=a.1.2.2.2.2.1) (bp a.1.2.2.2.2.2.1 a.1.2.2.2.2.2.2 (d=f) True)))))))) (aT c) (Oe c a.2 a))):= by
  delta ac ao aZ bN bp aT bj gp am bP aV fh fA bz ai Oe Cm bf Gy kK kD cN bJ Gk rH ax bn ue qp lY Gp fw
  rintro d ⟨⟨hw,-⟩,-⟩ hl
  obtain⟨-,-,-,-,-,i,j⟩:=hw
  have i:0<=d.1.2.2.2.2.2.1/\d.1.2.2.2.2.2.1<=4294967295:=i
  have j:0<=d.1.2.2.2.2.2.2/\d.1.2.2.2.2.2.2<=4294967295:=j
  refine aw (λa=>?_) (λa=>?_)
  .have t:¬ nj d.1:=λk=>by rw[o6,aj k] at a;cases a
   have l:jh d=1:=by rw[jh,aj t]
   rw[gM,l,o6,ah t];exact⟨rfl,rfl⟩
  have b:=jn λk=>by rw[o6,ah k] at a;cases a
  refine aw (λe=>?_) (λe=>?_)
  .have e:=aX e
   have l:jh d=5:=by rw[jh,ah (λk=>k b),aj e]
   rw[gM,l];exact⟨rfl,rfl⟩
  have e:=bg e
  have l:jh d=0:=by rw[jh,ah (λk=>k b),ah e]
  have p:bZ5 .i64 (20+(be d.2:Int))=20+be d.2:=aG ab ab
  have es:bZ5 .i64 d.1.2.2.2.2.2.1=d.1.2.2.2.2.2.1:=aG (by have:=i.1;omega) (by have:=i.2;omega)
  have ed:bZ5 .i64 d.1.2.2.2.2.2.2=d.1.2.2.2.2.2.2:=aG (by have:=j.1;omega) (by have:=j.2;omega)
  have a:=vd (Mx (n:=20+be d.2) b)
  have m:=bA3 d.1 (20+be d.2)
  have c:=λf hf k=>a56 (n:=20+be d.2) (f:=f) (k:=k) b ab ab i j hf
  have fin:∀ ys,ys=nO d.1 (20+be d.2)->(set (set ys (it 10) (bZ5 .u8 (eZ .i64 (65535-oc (dQ bZ3 ys)) 8))) (it 11) (bZ5 .u8 (65535-oc (dQ bZ3 ys)))++d.2=gM d/\(0:Int)=jh d):=by
   rintro ys rfl
   have a:0<=65535-oc (dQ bZ3 (nO d.1 (20+be d.2))):=a.1
   rw[Ql a,ce7,ce7,gM,l,aj rfl]
   exact⟨rfl,rfl⟩
  rw[p,es,ed]
  refine aw (λq=>?_) (λq=>?_)
  .refine⟨⟨0,[],⟨ab,ab,rfl⟩,aI⟩,?_⟩
   rintro k ys ⟨o,k1,rfl⟩
   refine ci (λh=>?_) (λh=>?_)
   .have r:=c 16384 (by rw[q];rfl) k o h
    refine⟨o,h,by rw[eM];omega,?_⟩
    rintro y _ ⟨rfl,-⟩
    exact⟨k+1,_,⟨ab,ab,r⟩,ab,aI⟩
   .have g:k=10:=ab
    subst g
    have s:(nO d.1 (20+be d.2)).take (CA (it 10))=nO d.1 (20+be d.2):=gN (by rw[m];decide)
    rw[s]
    refine⟨ab,?_⟩
    grind
  .refine⟨⟨0,[],⟨ab,ab,rfl⟩,aI⟩,?_⟩
   rintro k ys ⟨o,k1,rfl⟩
   refine ci (λh=>?_) (λh=>?_)
   .have r:=c 0 (by rw[q];rfl) k o h
    refine⟨o,h,by rw[eM];omega,?_⟩
    rintro y _ ⟨rfl,-⟩
    exact⟨k+1,_,⟨ab,ab,r⟩,ab,aI⟩
   .have g:k=10:=ab
    subst g
    have s:(nO d.1 (20+be d.2)).take (CA (it 10))=nO d.1 (20+be d.2):=gN (by rw[m];decide)
    rw[s]
    refine⟨ab,?_⟩
    grind
theorem P4:aC 134 YE.spec:=aF Tryz.func134 (ap (ap (ap aD bd3) (Ct.named Pa)) (Ct.named B6)) ab4 bE1
def ah2:Ct:=⟨[.val cI,.box 22 (.row 5 bm),.box 3 cI],[.val cI],λd=>[(be d.2.1:Int)<=100000,0<=d.1,d.1<=8,0<=d.2.2.1,d.2.2.1<=100000],λd=>((bI d.2.1 d.2.2.1 d.1,()),(d.2.1,d.2.2.1+d.1,()))⟩
def tp(a:ad):=ac a<=100000
theorem bu6:
 ∀(a:Int)(b:ad)(c:Int),aq a/\aQ b/\ai (aq c)->tp b/\bt a 8 (0<=c) (c<=100000)->aK (ac b)/\bI b c a=bI b c a/\b=b/\ao (c+a)=c+a:= by
  delta ac ao aq aK aQ am bt ai tp
  rintro w b a-⟨h1,h2,h3,h4,h5⟩
  exact⟨ab,rfl,rfl,aG ab ab⟩
theorem aT6:aC 279 ah2.spec:=aF Tryz.func279 (ap aD Dg) aU bu6
def bi1:Ct:=⟨[.val (.sl bm)],[.agg pC,.val cI,.val cI],λd=>[(be d.1:Int)<=1099511627776],λd=>((sI d.1,qX d.1,iT d.1,()),())⟩
def rp:=((0:Int),(0:Int),(0:Int),(0:Int),bZ6,(0:Int),(0:Int))
def wL(a b:Bool):=!a->( !a-> !a)/\ai (b-> !a&&b)
theorem bt1:
 ∀(a:ad),ai (aQ a)->aT a->ar (ax (ac a) 20) (rp=sI a/\0=qX a/\3=iT a) (bt 0 20 (20<=ac a) (aT (fU a 0 20)/\tp (fU a 0 20)/\am 1 ((1:Int)<=(8:Int)) (am 0 ((0:Int)<=(100000:Int)) (∀(b:Int)(c:ad)(d:Int),b=bI (fU a 0 20) 0 1/\c=fU a 0 20/\d=0+1->tp c/\am 1 ((1:Int)<=(8:Int)) (am d (d<=100000) (∀(e:Int)(f:ad)(g:Int),e=bI c d 1/\f=c/\g=d+1->tp f/\am 2 ((2:Int)<=(8:Int)) (am g (g<=100000) (∀(h:Int)(i:ad)(j:Int),h=bI f g 2/\i=f/\j=g+2->tp i/\am 2 ((2:Int)<=(8:Int)) (am j (j<=100000) (∀(k:Int)(l:ad)(m:Int),k=bI i j 2/\l=i/\m=j+2->tp l/\am 2 ((2:Int)<=(8:Int)) (am m (m<=100000) (∀(n:Int)(o:ad)(p:Int),n=bI l m 2/\o=l/\p=m+2->tp o/\am 1 ((1:Int)<=(8:Int)) (am p (p<=100000) (∀(q:Int)(r:ad)(s:Int),q=bI o p 1/\r=o/\s=p+1->tp r/\am 1 ((1:Int)<=(8:Int)) (am s
 (s<=100000) (∀(t:Int)(u:ad)(v:Int),t=bI r s 1/\u=r/\v=s+1->tp u/\am 2 ((2:Int)<=(8:Int)) (am v (v<=100000) (∀(w:Int)(x:ad)(y:Int),w=bI u v 2/\x=u/\y=v+2->tp x/\am 4 ((4:Int)<=(8:Int)) (am y (y<=100000) (∀(z:Int)(A:ad)(B:Int),z=bI x y 4/\A=x/\B=y+4->tp A/\am 4 ((4:Int)<=(8:Int)) (am B (B<=100000) (∀(C:Int)(D:ad)(E:Int),C=bI A B 4/\D=A/\E=B+4-> ∀(F:Bool),F=cP b 69->bR F/\bR F/\ ∀(G:Bool),G=( !aV n)->cj ( !F&&G) ( !F&&G) (aJ ( !F&&G)) (wL F G) (bv F/\zJ F (br G (cP n 16384)) (ax h 20) (rp=sI a/\0=qX a/\2=iT a) (am 10 (10<ac D) (bJ 11 (ac (set D (it 10) 0)) (aT (set (set D (it 10) 0) (it 11) 0)) (∀(H:Int),H=rH (set (set D (it 10) 0) (it 11) 0)->ar (cP H w) (rp=sI a/\0=qX a/\4=iT a) ((e,k,q,t,decide
 (n=16384),bZ5 bZ7 z,bZ5 bZ7 C)=sI a/\h=qX a/\0=iT a))))))))))))))))))))))))))):= by
  delta ac aQ bR aJ aT cj bq br am bv aV fU sk bt ai rp cP bJ wL rH ax tp zJ
  rintro b ⟨⟨-,hb⟩,-⟩ hl
  refine aw (λh=>?_) (λh=>?_)
  .have h:=aX h
   have e:iT b=3:=by rw[iT,aj h]
   rw[sI,qX,e];exact⟨rfl,rfl,rfl⟩
  have h:=bg h
  have hB:bY b (it 0) (it 20)=b.take 20:=rfl
  have hBl:be (b.take 20)=20:=by rw[eM];omega
  rw[hB]
  refine⟨ab,ab,ab,ab,ab,ab,ab,ab,ab,?_⟩
  rintro v0 _ a0 ⟨e0,rfl,q0⟩
  rw[ID ab ab,AQ aB] at e0
  have q0:=q0
  subst q0
  refine⟨ab,ab,ab,ab,ab,?_⟩
  rintro v1 _ a1 ⟨e1,rfl,q1⟩
  rw[ID ab ab,AQ aB] at e1
  have q1:=q1
  subst q1
  refine⟨ab,ab,ab,ab,ab,?_⟩
  rintro v2 _ a2 ⟨e2,rfl,q2⟩
  rw[tO ab ab,vp aB] at e2
  have q2:=q2
  subst q2
  refine⟨ab,ab,ab,ab,ab,?_⟩
  rintro v3 _ a3 ⟨e3,rfl,q3⟩
  rw[tO ab ab,vp aB] at e3
  have q3:a3=6:=q3
  subst q3
  refine⟨ab,ab,ab,ab,ab,?_⟩
  rintro v4 _ a4 ⟨e4,rfl,q4⟩
  rw[tO ab ab,vp aB] at e4
  have q4:=q4
  subst q4
  refine⟨ab,ab,ab,ab,ab,?_⟩
  rintro v5 _ a5 ⟨e5,rfl,q5⟩
  rw[ID ab ab,AQ aB] at e5
  have q5:=q5
  subst q5
  refine⟨ab,ab,ab,ab,ab,?_⟩
  rintro v6 _ a6 ⟨e6,rfl,q6⟩
  rw[ID ab ab,AQ aB] at e6
  have q6:a6=10:=q6
  subst q6
  refine⟨ab,ab,ab,ab,ab,?_⟩
  rintro v7 _ a7 ⟨e7,rfl,q7⟩
  rw[tO ab ab,vp aB] at e7
  have q7:a7=12:=q7
  subst q7
  refine⟨ab,ab,ab,ab,ab,?_⟩
  rintro v8 _ a8 ⟨e8,rfl,q8⟩
  rw[Nf ab ab,Ea aB] at e8
  have q8:a8=16:=q8
  subst q8
  refine⟨ab,ab,ab,ab,ab,?_⟩
  rintro v9 _ a9 ⟨e9,rfl,q9⟩
  rw[Nf ab ab,Ea aB] at e9
  have q9:=q9
  subst q9
  subst e0 e1 e2 e3 e4 e5 e6 e7 e8 e9
  have n12:=y9 hb 12
  have n16:=y9 hb 16
  have hcs:65535-oc (dQ bZ3 (((b.take 20).set (it 10) 0).set (it 11) 0))=eG (dL (b.take 20) 10 0):=rfl
  (repeat (refine cL ?_;repeat refine cK ?_))
  refine aw (λhc=>?_) (λhc=>?_)
  .have e:iT b=2:=by
    rw[iT,ah h,aj]
    rintro⟨h0,hf,h2⟩
    rw[show Om b (it 0) Sk=69 from h0] at hc
    obtain hf|hf:=hf
    .rw[show aR b (it 6)=0 from hf] at hc
     simp at hc
     have h2:20<=aR b (it 2):=h2
     simp at h2;omega
    .rw[show aR b (it 6)=16384 from hf] at hc
     simp at hc
     have h2:20<=aR b (it 2):=h2
     simp at h2;omega
   rw[sI,qX,e];exact⟨rfl,rfl,rfl⟩
  have hg:Om b 0 Sk=69/\(aR b 6=0∨aR b 6=16384)/\20<=aR b 2:=by
   by_cases h0:Om b (it 0) Sk=69
   .by_cases h6:aR b (it 6)=0
    .simp[h0,h6] at hc
     exact⟨h0,.inl h6,ab⟩
    .by_cases h7:aR b (it 6)=16384
     .simp[h0,h7] at hc
      exact⟨h0,.inr h7,ab⟩
     .exfalso
      rw[h0,eT h6,eT h7] at hc;simp at hc
   .exfalso
    rw[eT h0] at hc;simp at hc
  refine⟨ab,ab,ab,by rw[gd];omega,by rw[gd,gd];omega,?_⟩
  rw[hcs]
  rintro c rfl
  refine aw (λhc=>?_) (λhc=>?_)
  .have e:iT b=4:=by
    rw[iT,ah h,ah (λk=>k hg),aj]
    intro k
    rw[show aR b (it 10)=aR b 10 from rfl,k] at hc;simp at hc
   rw[sI,qX,e];exact⟨rfl,rfl,rfl⟩
  .have e:iT b=0:=by
    rw[iT,ah h,ah (λk=>k hg),ah]
    intro k
    exact k (by simpa using hc)
   rw[sI,qX,e,aj rfl,aj rfl,show it 12=12 from rfl,show it 16=16 from rfl,ug n12.1 n12.2,ug n16.1 n16.2]
   exact⟨rfl,rfl,rfl⟩
theorem Rx:aC 233 bi1.spec:=aF Tryz.func233 (ap (ap (ap aD tj) (Ct.named aT6)) (Ct.named B6)) aU bt1
def ax5:Ct:=⟨[.val (.sl bm)],[.agg D5,.val cI],λd=>[(be d.1:Int)<=1099511627776],λd=>((cJ d.1,dN d.1,()),())⟩
theorem bH1:
 ∀(a:ad),sM a (aT a) (lY (aV (iT a)) ((rp,[])=cJ a) (iT a=dN a) (cP (qX a) (ac a)) ((rp,[])=cJ a/\2=dN a) (ar (ax 1500 (qX a)) ((rp,[])=cJ a/\5=dN a) (bt 20 (ac a) (ph a) (aT (i9 a)/\(sI a,i9 a)=cJ a/\0=dN a)))):= by
  delta ac aQ aT i9 am aV fU bt ai rp cP ax sM lY ph
  rintro b ⟨⟨-,hb⟩,-⟩ hl
  refine⟨hl,aw (λhc=>?_) (λhc=>?_)⟩
  .have hc:¬ iT b=0:=by simpa using hc
   have e:dN b=iT b:=by rw[dN,aj hc]
   rw[cJ,e,ah hc];exact⟨rfl,rfl⟩
  have hc:iT b=0:=by simpa using hc
  have hlen:qX b=aR b 2:=by rw[qX,aj hc]
  rw[hlen]
  refine aw (λh2=>?_) (λh2=>?_)
  .have h2:¬ aR b 2=be b:=by simpa using h2
   have e:dN b=2:=by rw[dN,ah (λk=>k hc),aj h2]
   rw[cJ,e];exact⟨rfl,rfl⟩
  have h2:aR b 2=be b:=by simpa using h2
  refine aw (λh5=>?_) (λh5=>?_)
  .have h5:=aX h5
   have e:dN b=5:=by rw[dN,ah (λk=>k hc),ah (λk=>k h2),aj h5]
   rw[cJ,e];exact⟨rfl,rfl⟩
  have h5:=bg h5
  have e:dN b=0:=by rw[dN,ah (λk=>k hc),ah (λk=>k h2),ah h5]
  have h20:=Hv hc
  rw[show it 20=20 from rfl,Bp,cJ,e,aj rfl,sI,aj hc,gw]
  exact⟨ab,ab,ab,ab,rfl,rfl⟩
theorem GZ:aC 187 ax5.spec:=aF Tryz.func187 (ap (ap aD Rx) tj) aU bH1
def aJ8:Ct:=⟨[.val (.sl bm)],[.own 5 bm,.val cI],λd=>[(be d.1:Int)<=1099511627776],λd=>((lE d.1,j5 d.1,()),())⟩
def NX(a:ad):=(((cJ a).1.1,(cJ a).1.2.1,ao ((cJ a).1.2.2.1 -1),(cJ a).1.2.2.2),(cJ a).2)
theorem bd7:
 ∀(a:ad),sM a (aT a) (lY (aV (dN a)) (fw (lE a)) (dN a=j5 a) (ax (cJ a).1.2.2.1 2) (fw (lE a)/\7=j5 a) (fA (cJ a).2/\gM (NX a)=lE a/\jh (NX a)=j5 a)):= by
  delta ac ao aQ aT aV fA ai NX ax sM lY fw
  rintro b ⟨⟨-,hb⟩,-⟩ hl
  refine⟨hl,aw (λhc=>?_) (λhc=>?_)⟩
  .have hc:¬ dN b=0:=by simpa using hc
   have e:j5 b=dN b:=by rw[j5,aj hc]
   rw[lE,e,ah hc];exact⟨rfl,rfl⟩
  have hc:dN b=0:=by simpa using hc
  have hp:cJ b=(cB b,b.drop 20):=by rw[cJ,aj hc]
  rw[hp]
  have h8:=G5 hb (i:=8) (by have:=Hv (Jd hc);omega)
  refine aw (λh2=>?_) (λh2=>?_)
  .have h2:=aX h2
   have e:j5 b=7:=by rw[j5,ah (λk=>k hc),aj h2]
   rw[lE,e];exact⟨rfl,rfl⟩
  have h2:=bg h2
  have e:j5 b=0:=by rw[j5,ah (λk=>k hc),ah h2]
  have hd:=DB hc
  have h82:=h2
  rw[lE,e,aj rfl]
  have hok:=ZX hb hc h2
  refine⟨by rw[gw];omega,?_⟩
  have ew:bZ5 .i64 ((cB b).2.2.1-1)=(cB b).2.2.1-1:=aG (by show _<=Om b 8 Sk-1;omega) (by show Om b 8 Sk-1<=_;omega)
  rw[ew]
  refine⟨rfl,?_⟩
  rw[jh,ah (λk=>k hok),ah]
  simp only[gw];omega
theorem aX4:aC 277 aJ8.spec:=aF Tryz.func277 (ap (ap aD GZ) P4) aU bd7
def bW0:Ct:=⟨[.agg pC],[.val cI],λd=>[],λd=>((o6 d.1,()),())⟩
theorem bA5:
 ∀(a:dK),dW (CT.wf pC a) (∀(b:Bool),b=dH a.1->cV b (bv b) (∀(c:Bool),c=bq b (ax 255 a.1)->cV c (bv c) (∀(d:Bool),d=bq c (dH a.2.2.1)->cV d (bv d) (Dk (bq d (ax 255 a.2.2.1)) (dH a.2.2.2.1) (ax 255 a.2.2.2.1) (dH a.2.1) (ax 65535 a.2.1) (1=o6 a) (0=o6 a))))):= by
  delta bR aJ bq cV bv lC ai Dk CU dH dW ax
  rintro h - -
  (repeat (refine cL ?_;repeat refine cK ?_))
  refine aw (λhc=>?_) (λhc=>?_)
  .rw[o6,ah]
   intro k;have ⟨k1,k2,k3,k4,k5⟩:=k
   unfold rW at k1 k2 k3
   simp[ic] at hc;omega
  .rw[o6,aj]
   unfold nj rW
   simp[ic] at hc;omega
theorem aD9:aC 87 bW0.spec:=aF Tryz.func87 aD aU bA5
abbrev sF:CT := .pair dw (.pair dw (.pair cI (.pair cI (.pair cI cI))))
abbrev bo:Type:=Int×Int×Int×Int×Int×Int
def qH(n:Int):Prop:=n=1∨n=6∨n=17
instance (n:Int):Decidable (qH n):=by unfold qH;infer_instance
def jG(p:bo):Prop:=(0<=p.2.2.2.1/\p.2.2.2.1<=1023)/\(0<=p.2.2.2.2.1/\p.2.2.2.2.1<=65534)/\1<=p.2.2.2.2.2/\p.2.2.2.2.2<=255
instance (p:bo):Decidable (jG p):=by unfold jG;infer_instance
def cT(p:bo):Int:=if ¬ qH p.2.2.1 then 16 else if ¬ jG p then 1 else 0
def wv(p:bo):Int:=oc (65535-(16384+p.2.2.2.1)+eG (eJ (bZ6,21075,p.2.2.2.2.1,[0,0])))
def yd(p:bo):Int:=oc (65535-(p.2.2.2.2.1+1)+iC p.1 p.2.1 17 (gZ (20000+p.2.2.2.1,33434,[0,0])))
def xR(p:bo):Int:=if yd p=0 then 65535 else yd p
def oq(p:bo):qN:=(bZ6,21075,p.2.2.2.2.1,w2 (wv p))
def vj(p:bo):t8:=(20000+p.2.2.2.1,33434,w2 (xR p))
def pD(p:bo):mJ:=(20000+p.2.2.2.1,80,p.2.2.2.2.1,0,2,1024,[])
def gF(p:bo):ad:=if p.2.2.1=1 then gD (oq p) else if p.2.2.1=17 then oH p.1 p.2.1 (vj p) else gQ p.1 p.2.1 (pD p)
def xw(p:bo):dK:=(0,p.2.2.2.2.1,p.2.2.2.2.2,p.2.2.1,bZ3,p.1,p.2.1)
def build(p:bo):ad:=if cT p=0 then gM (xw p,gF p) else []
def bL8:lD:=(0,0,0,0,0)
def O4:bo:=(0,0,0,0,0,0)
def DK(x:ny):lD:=(x.1.2.2.2.2.2.1,x.1.2.2.2.2.2.2,x.1.2.2.2.1,if qH x.1.2.2.2.1/\4<=be x.2 then aR x.2 0 else 0,if qH x.1.2.2.2.1/\4<=be x.2 then aR x.2 2 else 0)
def iF(b:ad):lD:=if dN b=0 then DK (cJ b) else bL8
theorem pV{p:bo}:cT p=0↔qH p.2.2.1/\jG p:=by
 unfold cT
 constructor
 .intro h;split at h
  .cases h
  .split at h
   .cases h
   next h1 h2=>exact⟨uj.1 h1,uj.1 h2⟩
 .rintro⟨h1,h2⟩;rw[ah (λk=>k h1),ah (λk=>k h2)]
theorem EL{b:ad}{i:Nat}{c:Int}(h:i+2<=be b)(c0:0<=c)(c1:c<=65535):aR (dL b i c) i=c:=by
 rw[OS (by rw[oa];exact h)]
 unfold dL
 rw[G1 ab,Xm ab,Xm (by rw[gd];omega)]
 omega
theorem zT{b:ad}{i j:Nat}{c:Int}(h:j+2<=be b)(hn:j+2<=i∨i+2<=j):aR (dL b i c) j=aR b j:=by
 rw[OS (by rw[oa];exact h),OS h]
 unfold dL
 rw[G1 ab,G1 ab,G1 ab,G1 ab]
theorem Iv{s d:Int}{p:Int}{X:ad}(hx:bytes X)(hp:0<p%256):0<=iC s d p X/\iC s d p X<=65534:=by
 have h1:=(HA (a:=s) (b:=d) (p:=p) hx).1
 refine⟨h1,?_⟩
 unfold iC at h1 ⊢
 split
 .omega
 .unfold eG;rw[NQ];have h2:=Sd s d p (be X);have h3:=(H6 bZ3 X hx).1;unfold oc;rw[ah ab];omega
theorem WQ:bytes [0,0]:=o9 (by omega) (by omega) (o9 (by omega) (by omega) qi)
theorem X9(t:Int):bytes (eJ (bZ6,21075,t,[0,0])):=DJ WQ
theorem Eu(f:Int):bytes (gZ (20000+f,33434,[0,0])):=Ii WQ
theorem aM6{p:bo}(h:jG p):1<=wv p/\wv p<=65535:=by
 have:=vd (X9 p.2.2.2.2.1)
 obtain⟨⟨h1,h2⟩,-⟩:=h
 unfold wv oc
 rw[ah ab];omega
theorem aw7{p:bo}(h:jG p):0<=yd p/\yd p<=65535:=by
 have:=Iv (s:=p.1) (d:=p.2.1) (p:=17) (Eu p.2.2.2.1) aB
 obtain⟨-,⟨h1,h2⟩,-⟩:=h
 exact Jm ab
theorem ae6{p:bo}(h:jG p):1<=xR p/\xR p<=65535:=by
 have:=aw7 h
 unfold xR;split <;> omega
theorem bQ0{p:bo}(h:jG p):oc (65535-cd8 (p.2.2.2.2.1+1) 65535+iC p.1 p.2.1 17 (gZ (20000+p.2.2.2.1,33434,[0,0])))=xR p:=by
 have hs:=Iv (s:=p.1) (d:=p.2.1) (p:=17) (Eu p.2.2.2.1) aB
 obtain⟨-,⟨h1,h2⟩,-⟩:=h
 unfold xR yd
 generalize iC p.1 p.2.1 17 (gZ (20000+p.2.2.2.1,33434,[0,0]))=s at hs
 rw[Ce ab]
 by_cases ht:p.2.2.2.2.1=65534
 .rw[ht];unfold oc;by_cases h0:s=0
  .subst h0;decide
  .rw[ah ab,ah ab,ah ab];omega
 .have e:(p.2.2.2.2.1+1)%65535=p.2.2.2.2.1+1:=cg3 ab ab;rw[e];have:1<=oc (65535-(p.2.2.2.2.1+1)+s):=by unfold oc;rw[ah ab];omega
  rw[ah ab]
theorem bQ1{s d:Int}{X:ad}(hx:bytes X):cd8 (mD s d X) 65535=iC s d 17 X:=by
 have h:=Iv (s:=s) (d:=d) (p:=17) hx aB
 unfold mD
 split
 next k=>rw[k];decide
 .rw[Ce ab];exact cg3 ab ab
theorem Aw(n:Int):be (w2 n)=2:=rfl
theorem M1{p:bo}(h:jG p):Jq (w2 (wv p)) (oq p):=by
 obtain⟨-,⟨h1,h2⟩,-⟩:=h
 exact⟨⟨(jA _).2 ⟨by show (0:Int)<=21075;omega,by show (21075:Int)<=_;omega⟩,(jA _).2 ⟨h1,by show p.2.2.2.2.1<=_;omega⟩⟩,rfl⟩
theorem Ww{p:bo}(h:jG p):OB (w2 (xR p)) (vj p):=by
 obtain⟨⟨h1,h2⟩,-⟩:=h
 exact⟨⟨(jA _).2 ⟨by show (0:Int)<=20000+p.2.2.2.1;omega,by show 20000+p.2.2.2.1<=_;omega⟩,(jA _).2 ⟨by show (0:Int)<=33434;omega,by show (33434:Int)<=_;omega⟩⟩,rfl⟩
theorem ND{p:bo}(h:jG p):KF [] (pD p):=by
 obtain⟨⟨h1,h2⟩,⟨h3,h4⟩,-⟩:=h
 refine⟨⟨(jA _).2 ⟨?_,?_⟩,(jA _).2 ⟨?_,?_⟩,⟨?_,?_⟩,⟨?_,?_⟩,⟨?_,?_⟩,(jA _).2 ⟨?_,?_⟩⟩,rfl⟩ <;> simp only[pD] <;> omega
theorem Nd{p:bo}(h:jG p):oh (oq p)=0:=J8 (M1 h) (by rw[Aw];omega)
theorem On{p:bo}(h:jG p):qd (vj p)=0:=QV (Ww h) (by rw[Aw];omega)
theorem Np{p:bo}(h:jG p):pA (pD p)=0:=M9 (ND h) (by simp)
theorem Ds{p:bo}(h:jG p)(h1:p.2.2.1=1):gF p=dL (eJ (oq p)) 2 (eG (eJ (oq p))):=by
 rw[gF,aj h1,gD,aj (Nd h)]
theorem Gb{p:bo}(h:jG p)(h1:p.2.2.1=17):gF p=dL (gZ (vj p)) 6 (mD p.1 p.2.1 (gZ (vj p))):=by
 rw[gF,ah ab,aj h1,oH,aj (On h)]
theorem Do{p:bo}(h:jG p)(h1:p.2.2.1=6):gF p=dL (nS (pD p)) 16 (iC p.1 p.2.1 6 (nS (pD p))):=by
 rw[gF,ah ab,ah ab,gQ,aj (Np h)]
theorem FX{p:bo}(h:cT p=0):(p.2.2.1≠6/\be (gF p)=10)∨(p.2.2.1=6/\be (gF p)=20):=by
 obtain⟨h1|h1|h1,h2⟩:=pV.1 h
 .rw[Ds h2 h1,oa];exact .inl ⟨ab,rfl⟩
 .rw[Do h2 h1,oa];exact .inr ⟨h1,rfl⟩
 .rw[Gb h2 h1,oa];exact .inl ⟨ab,rfl⟩
theorem Zp{p:bo}(h:cT p=0):bytes (gF p):=by
 obtain⟨h1|h1|h1,h2⟩:=pV.1 h
 .rw[Ds h2 h1];exact xF (DJ (oV _))
 .rw[Do h2 h1];exact xF (G0 (ND h2).1 qi)
 .rw[Gb h2 h1];exact xF (Ii (oV _))
theorem Nq{p:bo}(h:cT p=0):nj (xw p):=by
 obtain⟨h1,⟨-,⟨h2,h3⟩,h4,h5⟩⟩:=pV.1 h
 refine⟨⟨?_,?_⟩,⟨?_,?_⟩,⟨?_,?_⟩,?_,?_⟩ <;> simp only[xw] <;> unfold qH at h1 <;> omega
theorem Zg{p:bo}(h:cT p=0):jh (xw p,gF p)=0:=by
 rw[jh,ah (λk=>k (Nq h)),ah]
 obtain h|h:=FX h <;> rw[h.2] <;> simp
theorem Jw{p:bo}(h:cT p=0):build p=ng (xw p) (20+be (gF p))++gF p:=by
 rw[build,aj h,gM,aj (Zg h)]
theorem bh7(p:bo):be (build p)<=40:=by
 by_cases h:cT p=0
 .rw[Jw h,bM,wH];obtain h|h:=FX h <;> omega
 .rw[build,ah h];simp
theorem TR(p:bo):bytes (build p):=by
 by_cases h:cT p=0
 .rw[Jw h];exact jY (MN (Nq h)) (Zp h)
 .rw[build,ah h];exact qi
def a18:Ct:=⟨[.agg sF],[.val cI],λd=>[],λd=>((cT d.1,()),())⟩
def u6(a b:Bool)(c d e:Prop):=∀(f:Bool),f=a->cV f (bv f) (ar (bq f b) (ar (bq f b) c d) e)
def uc(a:Bool)(b:Prop)(c:Bool)(d e:Prop):=cj a a (aJ b) (b->b) (ar c d e)
def CS(a:Int)(b c:Bool)(d e:Prop):=True-> ∀(f:Bool),f=cP a 1->cj f f (aJ f) (f->f) (∀(g:Bool),g=br f b->uc g g (br g c) d e)
def qC(a b c d e f:Int):=ai (aO a/\aO b/\bG c d (aq e) (aq f))
theorem bl9:
 ∀(a b c d e f:Int),qC a b c d e f->CS c (cP c 6) (cP c 17) (16=cT (a,b,c,d,e,f)) (u6 (dH d) (ax 1023 d) (1=cT (a,b,c,d,e,f)) (0=cT (a,b,c,d,e,f)) (u6 (dH e) (ax 65534 e) (1=cT (a,b,c,d,e,f)) (0=cT (a,b,c,d,e,f)) (lC (ax f 1) (ax 255 f) (1=cT (a,b,c,d,e,f)) (0=cT (a,b,c,d,e,f))))):= by
  delta aq aK bR aJ aO bG cj bq br cV bv lC u6 ai CS qC cP dH uc ax
  rintro s d pr f t l - -
  (repeat (refine cL ?_;repeat refine cK ?_))
  refine aw (λhc=>?_) (λhc=>?_)
  .rw[cT,aj]
   simp only[qH]
   intro k
   obtain rfl|rfl|rfl:=k <;> simp at hc
  have hp:qH pr:=by
   unfold qH
   by_cases h1:pr=1
   .exact .inl h1
   .by_cases h6:pr=6
    .exact .inr (.inl h6)
    .simp[h1,h6] at hc;exact .inr (.inr hc)
  have key:∀(v:Int),(v=if jG (s,d,pr,f,t,l) then 0 else 1)->v=cT (s,d,pr,f,t,l):=by
   intro v hv
   rw[cT,ah (λk=>k hp),hv]
   by_cases k:jG (s,d,pr,f,t,l)
   .rw[aj k,ah (λq=>q k)]
   .rw[ah k,aj k]
  (repeat (refine cL ?_;repeat refine cK ?_))
  refine aw (λh1=>?_) (λh1=>?_)
  .have hn:¬ jG (s,d,pr,f,t,l):=by
    rintro⟨⟨a,b⟩,-⟩
    simp only at a b
    simp[ic] at h1;omega
   exact aw (λ_=>key 1 (by rw[ah hn])) (λh=>by rw[h] at h1;cases h1)
  (repeat (refine cL ?_;repeat refine cK ?_))
  refine aw (λh2=>?_) (λh2=>?_)
  .have hn:¬ jG (s,d,pr,f,t,l):=by
    rintro⟨-,⟨a,b⟩,-⟩
    simp only at a b
    simp[ic] at h2;omega
   exact aw (λ_=>key 1 (by rw[ah hn])) (λh=>by rw[h] at h2;cases h2)
  (repeat (refine cL ?_;repeat refine cK ?_))
  simp[ic] at h1 h2
  refine aw (λh3=>?_) (λh3=>?_)
  .have hn:¬ jG (s,d,pr,f,t,l):=by
    rintro⟨-,-,a,b⟩
    simp only at a b
    simp[ic] at h3;omega
   exact key 1 (by rw[ah hn])
  .have hn:jG (s,d,pr,f,t,l):=by
    simp[ic] at h3
    refine⟨⟨?_,?_⟩,⟨?_,?_⟩,?_,?_⟩ <;> simp only <;> omega
   exact key 0 (by rw[aj hn])
theorem HF:aC 64 a18.spec:=aF Tryz.func64 aD aU bl9
def bq4:Ct:=⟨[.agg sF],[.val cI],λd=>[],λd=>((cT d.1,()),())⟩
theorem ah6:
 ∀(a b c d e f:Int),qC a b c d e f->CS c (cP c 17) (cP c 6) (16=cT (a,b,c,d,e,f)) (∀(g:Bool),g=dH d->cV g (bv g) (Dk (bq g (ax 1023 d)) (dH e) (ax 65534 e) (ax f 1) (ax 255 f) (1=cT (a,b,c,d,e,f)) (0=cT (a,b,c,d,e,f)))):= by
  delta aq aK bR aJ aO bG cj bq br cV bv lC ai CS Dk CU qC cP dH uc ax
  rintro s d pr f t l - -
  (repeat (refine cL ?_;repeat refine cK ?_))
  refine aw (λhc=>?_) (λhc=>?_)
  .rw[cT,aj]
   simp only[qH]
   intro k
   obtain rfl|rfl|rfl:=k <;> simp at hc
  have hp:qH pr:=by
   unfold qH
   by_cases h1:pr=1
   .exact .inl h1
   .by_cases h6:pr=17
    .exact .inr (.inr h6)
    .simp[h1,h6] at hc;exact .inr (.inl hc)
  have key:∀(v:Int),(v=if jG (s,d,pr,f,t,l) then 0 else 1)->v=cT (s,d,pr,f,t,l):=by
   intro v hv
   rw[cT,ah (λk=>k hp),hv]
   by_cases k:jG (s,d,pr,f,t,l)
   .rw[aj k,ah (λq=>q k)]
   .rw[ah k,aj k]
  (repeat (refine cL ?_;repeat refine cK ?_))
  refine aw (λh1=>?_) (λh1=>?_)
  .have hn:¬ jG (s,d,pr,f,t,l):=by
    rintro⟨⟨a,b⟩,⟨a2,b2⟩,a3,b3⟩
    simp only at a b a2 b2 a3 b3
    simp[ic] at h1;omega
   exact key 1 (by rw[ah hn])
  .have hn:jG (s,d,pr,f,t,l):=by
    simp[ic] at h1
    refine⟨⟨?_,?_⟩,⟨?_,?_⟩,?_,?_⟩ <;> simp only <;> omega
   exact key 0 (by rw[aj hn])
theorem aQ5:aC 44 bq4.spec:=aF Tryz.func44 aD aU ah6
def bv3:Ct:=⟨[.val cI,.val cI],[.own 5 bm],λd=>[0<=d.1,d.1<=65535,0<=d.2.1,d.2.1<=65535],λd=>((w2 (oc (65535-d.2.1+d.1)),()),())⟩
def MX(a b:Int):=if fy (ao (65535 -a))&&fy b then oc (ao (65535 -a)+b) else (0:Int)
theorem am9:
 ∀(a b:Int),dV a b->bt a 65535 (0<=b) (b<=65535)->(0:Int)<=(8:Int)/\ue (MX b a)::bz (bZ5 cc4 (MX b a))=w2 (oc (65535 -b+a)):= by
  delta ao aq aK am bz bt ai dV MX ue
  rintro a b-⟨a0,a1,b0,b1⟩
  rw[aG (n:=65535-b) ab ab,aj (by simp only[fx,jA];omega)]
  have:=Jm (n:=65535-b+a) ab
  rw[Ql this.1,ce7,ce7]
  exact⟨ab,rfl⟩
theorem a68:aC 193 bv3.spec:=aF Tryz.func193 (ap aD bB0) aU am9
def bR1:Ct:=⟨[.agg sF],[.own 5 bm,.val cI],λd=>[cT d.1=0],λd=>((gF d.1,0,()),())⟩
def pM(a:Int)(b c:Prop):=a<=1000000/\b/\c
theorem bz4:
 ∀(a b c d e f:Int),qC a b c d e f->cT (a,b,c,d,e,f)=0->ar (iN c) (fA lX/\ ∀(g:ad),qp (g=gD (bZ6,21075,e,lX)) (oh (bZ6,21075,e,lX)) (aK (ac g)/\ ∀(h:Int),qp (h=bI g 2 2) (jT g 2 2) (am h (h<=65535) (am (ao (16384+d)) (ao (16384+d)<=65535) (∀(i:ad),i=w2 (oc (65535 -ao (16384+d)+h))->fA i/\ ∀(j:ad)(k:Int),j=gD (bZ6,21075,e,i)/\k=oh (bZ6,21075,e,i)->j=gF (a,b,c,d,e,f)/\k=0))))) (ar (bZ2 (c=17)) (fA lX/\ ∀(g:ad),qp (g=oH a b (ao (20000+d),33434,lX)) (qd (ao (20000+d),33434,lX)) (aK (ac g)/\ ∀(h:Int),qp (h=bI g 6 2) (jT g 6 2) ((65535:Int)≠(0:Int)/\(65535:Int)≠(0:Int)/\am (cd8 h 65535) (cd8 h 65535<=65535) (am (cd8 (ao (e+1)) 65535) (cd8 (ao (e+1)) 65535<=65535) (∀(i:ad),i=w2 (oc (65535 -cd8 (ao (e+1)) 65535+cd8 h
 65535))->fA i/\ ∀(j:ad)(k:Int),j=oH a b (ao (20000+d),33434,i)/\k=qd (ao (20000+d),33434,i)->j=gF (a,b,c,d,e,f)/\k=0))))) (pM (↑((0:Nat)):Int) (gQ a b (ao (20000+d),80,e,0,2,1024,[])=gF (a,b,c,d,e,f)) (pA (ao (20000+d),80,e,0,2,1024,[])=0))):= by
  delta ac ao aq aK aO bG am fA bz ai qC lX iN pM qp
  rintro s d pr f t l-he
  have ⟨hp,hr⟩:=pV.1 he
  have hr':=hr
  have ⟨⟨f0,f1⟩,⟨t0,t1⟩,l0,l1⟩:=hr'
  simp only at f0 f1 t0 t1 l0 l1
  rw[aG (n:=16384+f) ab ab,aG (n:=20000+f) ab ab,aG (n:=t+1) ab ab]
  refine aw (λh1=>?_) (λh1=>aw (λh17=>?_) (λh17=>?_))
  .have h1:=aX h1
   have e0:oh (bZ6,21075,t,[0,0])=0:=J8 (data:=[0,0]) ⟨⟨(jA _).2 ⟨by show (0:Int)<=21075;omega,by show (21075:Int)<=_;omega⟩,(jA _).2 ⟨t0,by show t<=_;omega⟩⟩,rfl⟩ az
   have hc:=vd (X9 t)
   refine⟨az,?_⟩
   rintro b _ ⟨rfl,-⟩
   rw[gD,aj e0]
   have hl:be (dL (eJ (bZ6,21075,t,[0,0])) 2 (eG (eJ (bZ6,21075,t,[0,0]))))=10:=by rw[oa];rfl
   refine⟨ab,?_⟩
   rw[tO ab ab,show it 2=2 from rfl,EL (by show 2+2<=10;omega) hc.1 hc.2]
   rintro _ _ ⟨rfl,-⟩
   refine⟨hc.1,hc.2,ab,ab,?_⟩
   rintro _ rfl
   refine⟨by rw[Aw];omega,?_⟩
   rintro _ _ ⟨rfl,rfl⟩
   have e1:=Nd hr
   rw[gF,aj h1]
   exact⟨rfl,e1⟩
  .have h17:=aX h17
   have e0:qd (20000+f,33434,[0,0])=0:=QV (data:=[0,0]) ⟨⟨(jA _).2 ⟨by show (0:Int)<=20000+f;omega,by show 20000+f<=_;omega⟩,(jA _).2 ⟨by show (0:Int)<=33434;omega,by show (33434:Int)<=_;omega⟩⟩,rfl⟩ az
   have hc:=Ph (a:=s) (b:=d) (Eu f)
   have hm:=bQ1 (s:=s) (d:=d) (Eu f)
   have hq:=Iv (s:=s) (d:=d) (p:=17) (Eu f) aB
   refine⟨az,?_⟩
   rintro b _ ⟨rfl,-⟩
   rw[oH,aj e0]
   have hl:be (dL (gZ (20000+f,33434,[0,0])) 6 (mD s d (gZ (20000+f,33434,[0,0]))))=10:=by rw[oa];rfl
   refine⟨ab,?_⟩
   rw[tO ab ab,show it 6=6 from rfl,EL (by show 6+2<=10;omega) hc.1 hc.2]
   rintro _ _ ⟨rfl,-⟩
   rw[hm]
   have m0:=AD (a:=t+1) (b:=65535) ab
   have m1:=zq (a:=t+1) (b:=65535) ab ab
   refine⟨ab,ab,hq.1,ab,m0,ab,?_⟩
   have hu:=bQ0 (p:=(s,d,pr,f,t,l)) hr
   simp only at hu
   rw[hu]
   rintro _ rfl
   refine⟨by rw[Aw];omega,?_⟩
   rintro _ _ ⟨rfl,rfl⟩
   have e1:=On hr
   rw[gF,ah (by simp only;omega),aj h17]
   exact⟨rfl,e1⟩
  .have h1:=bg h1
   have h17:=bg h17
   have e1:=Np hr
   rw[gF,ah h1,ah h17]
   exact⟨ab,rfl,e1⟩
theorem bR8:aC 133 bR1.spec:=aF Tryz.func133 (ap (ap (ap (ap (ap aD (Ct.named XJ)) (Ct.named Dg)) (Ct.named a68)) (Ct.named aG4)) Zt) aU bz4
def bg5:Ct:=⟨[.agg sF],[.own 5 bm,.val cI],λd=>[],λd=>((build d.1,cT d.1,()),())⟩
theorem bO4:
 ∀(a b c d e f:Int),qC a b c d e f->True->ar ( !aV (cT (a,b,c,d,e,f))) (fw (build (a,b,c,d,e,f))/\cT (a,b,c,d,e,f)=cT (a,b,c,d,e,f)) (cT (a,b,c,d,e,f)=0/\fA (gF (a,b,c,d,e,f))/\gM ((0,e,f,c,bZ3,a,b),gF (a,b,c,d,e,f))=build (a,b,c,d,e,f)/\jh ((0,e,f,c,bZ3,a,b),gF (a,b,c,d,e,f))=cT (a,b,c,d,e,f)):= by
  delta ac aq aK aO bG aV fA ai qC fw
  rintro s d pr f t l - -
  refine aw (λh=>?_) (λh=>?_)
  .have h:¬ cT (s,d,pr,f,t,l)=0:=by simpa using h
   rw[build,ah h];exact⟨rfl,rfl⟩
  have h:cT (s,d,pr,f,t,l)=0:=by simpa using h
  have e0:=Zg h
  have hl:=FX h
  refine⟨h,ab,?_⟩
  rw[build,aj h,h]
  exact⟨rfl,e0⟩
theorem ae3:aC 68 bg5.spec:=aF Tryz.func68 (ap (ap (ap aD HF) bR8) P4) aU bO4
def aI7:Ct:=⟨[.val (.sl bm)],[.agg Mz,.val cI],λd=>[(be d.1:Int)<=1099511627776],λd=>((iF d.1,dN d.1,()),())⟩
def IC(a:ad)(b c d:Int)(e:ad):=ar (bZ2 (4<=ac a)) (aK (ac a)/\aK (ac a)/\(b,c,d,bI a 0 2,bI a 2 2)=iF e/\0=dN e) ((b,c,d,0,0)=iF e/\0=dN e)
theorem be1:
 ∀(a:ad),sM a (aT a) (∀(b:ny)(c:Int),b=cJ a/\c=dN a->lY (aV c) ((0,0,0,0,0)=iF a) (c=dN a) (iN b.1.2.2.2.1) (ar (iN b.1.2.2.2.1) (IC b.2 b.1.2.2.2.2.2.1 b.1.2.2.2.2.2.2 b.1.2.2.2.1 a) ((b.1.2.2.2.2.2.1,b.1.2.2.2.2.2.2,b.1.2.2.2.1,0,0)=iF a/\0=dN a)) (ar (bZ2 (b.1.2.2.2.1=6)) (ar (bZ2 (b.1.2.2.2.1=6)) (IC b.2 b.1.2.2.2.2.2.1 b.1.2.2.2.2.2.2 b.1.2.2.2.1 a) ((b.1.2.2.2.2.2.1,b.1.2.2.2.2.2.2,b.1.2.2.2.1,0,0)=iF a/\0=dN a)) (ar (bZ2 (b.1.2.2.2.1=17)) (IC b.2 b.1.2.2.2.2.2.1 b.1.2.2.2.2.2.2 b.1.2.2.2.1 a) ((b.1.2.2.2.2.2.1,b.1.2.2.2.2.2.2,b.1.2.2.2.1,0,0)=iF a/\0=dN a)))):= by
  delta ac aK aQ aT aV ai IC iN sM lY
  rintro b ⟨⟨-,hb⟩,-⟩ hl
  refine⟨hl,?_⟩
  rintro d e ⟨rfl,rfl⟩
  refine aw (λh=>?_) (λh=>?_)
  .have h:¬ dN b=0:=by simpa using h
   rw[iF,ah h];exact⟨rfl,rfl⟩
  have h:dN b=0:=by simpa using h
  have hdl:=DB h
  have hk:iF b=DK (cJ b):=by rw[iF,aj h]
  rw[hk,h]
  have hpl:((cJ b).2.length:Int)<=1500:=by rw[cJ,aj h];simp only[gw];omega
  generalize cJ b=x at *
  have yes:qH x.1.2.2.2.1->(4:Int)<=be x.2->((be x.2:Int)<=9223372036854775807/\(be x.2:Int)<=9223372036854775807/\(x.1.2.2.2.2.2.1,x.1.2.2.2.2.2.2,x.1.2.2.2.1,bI x.2 0 2,bI x.2 2 2)=DK x/\(0:Int)=0):=by
   intro h1 h2
   refine⟨ab,ab,?_,rfl⟩
   rw[tO ab ab,tO ab ab,DK,aj ⟨h1,ab⟩,aj ⟨h1,ab⟩];rfl
  have no:¬ (qH x.1.2.2.2.1/\(4:Int)<=be x.2)->((x.1.2.2.2.2.2.1,x.1.2.2.2.2.2.2,x.1.2.2.2.1,(0:Int),(0:Int))=DK x/\(0:Int)=0):=by
   intro h1
   rw[DK,ah (λk=>h1 ⟨k.1,ab⟩),ah (λk=>h1 ⟨k.1,ab⟩)];exact⟨rfl,rfl⟩
  refine aw (λh1=>?_) (λh1=>?_)
  .refine aw (λ_=>?_) (λk=>by rw[h1] at k;cases k)
   have h1:=aX h1
   exact aw (λh4=>yes (.inl h1) (aX h4)) (λh4=>no (λk=>(bg h4) k.2))
  refine aw (λh6=>?_) (λh6=>?_)
  .refine aw (λ_=>?_) (λk=>by rw[h6] at k;cases k)
   have h6:=aX h6
   exact aw (λh4=>yes (.inr (.inl h6)) (aX h4)) (λh4=>no (λk=>(bg h4) k.2))
  refine ci (λh17=>?_) (λh17=>?_)
  .exact aw (λh4=>yes (.inr (.inr h17)) (aX h4)) (λh4=>no (λk=>(bg h4) k.2))
  .have h1:=bg h1
   have h6:=bg h6
   exact no (λk=>by obtain k|k|k:=k.1 <;> contradiction)
theorem aq0:aC 308 aI7.spec:=aF Tryz.func308 (ap (ap aD (Ct.named GZ)) Dg) aU be1
def u32(n:Int):Prop:=0<=n/\n<=4294967295
theorem a51(h:dK)(n:Int)(X:ad):ng h n++X=69::h.1::n/256%256::n%256::h.2.1/256%256::h.2.1%256::(if h.2.2.2.2.1 then (16384:Int) else 0)/256%256::(if h.2.2.2.2.1 then (16384:Int) else 0)%256::h.2.2.1::h.2.2.2.1 ::
  eG (nO h n)/256%256::eG (nO h n)%256::h.2.2.2.2.2.1/16777216%256::h.2.2.2.2.2.1/65536%256::h.2.2.2.2.2.1/256%256::h.2.2.2.2.2.1%256::h.2.2.2.2.2.2/16777216%256::h.2.2.2.2.2.2/65536%256::h.2.2.2.2.2.2/256%256::h.2.2.2.2.2.2%256::X:=rfl
theorem Ot{n:Int}(h:u32 n):((n/16777216%256*256+n/65536%256)*256+n/256%256)*256+n%256=n:=by
 have ⟨h0,h1⟩:=h;omega
theorem NG{h:dK}{X:ad}(hk:nj h)(hs:u32 h.2.2.2.2.2.1)(hd:u32 h.2.2.2.2.2.2)(hl:(be X:Int)<=1480)(hX:bytes X) :
  cB (ng h (20+be X)++X)=h/\dN (ng h (20+be X)++X)=0/\(ng h (20+be X)++X).drop 20=X:=by
 have hbb:bytes (ng h (20+be X)++X):=jY (MN hk) hX
 have hlen:be (ng h (20+be X)++X)=20+be X:=by rw[bM,wH]
 have hc:=vd (Mx (n:=20+be X) hk)
 have ⟨tos,id,ttl,pr,kp,s,d⟩:=h
 have ⟨h1,h2,h3,h4,h5⟩:=hk
 simp only at h1 h2 h3 h4 h5 hs hd
 have E:=a51 (tos,id,ttl,pr,kp,s,d) (20+be X) X
 simp only at E
 have w2e:aR (ng (tos,id,ttl,pr,kp,s,d) (20+be X)++X) 2=20+be X:=by
  rw[E];show aR (_::_::_) 0=_;rw[jo];exact oP ab ab
 have w4e:aR (ng (tos,id,ttl,pr,kp,s,d) (20+be X)++X) 4=id:=by
  rw[E];show aR (_::_::_) 0=_;rw[jo];exact oP h4 h5
 have w6e:aR (ng (tos,id,ttl,pr,kp,s,d) (20+be X)++X) 6=if kp then 16384 else 0:=by
  rw[E];show aR (_::_::_) 0=_;rw[jo];cases kp <;> rfl
 have w10e:aR (ng (tos,id,ttl,pr,kp,s,d) (20+be X)++X) 10=eG (nO (tos,id,ttl,pr,kp,s,d) (20+be X)):=by
  rw[E];show aR (_::_::_) 0=_;rw[jo];exact oP hc.1 hc.2
 have hF:cB (ng (tos,id,ttl,pr,kp,s,d) (20+be X)++X)=(tos,id,ttl,pr,kp,s,d):=by
  unfold cB;rw[w4e,w6e,E];have e1:bZ2 ((if kp=bZ3 then (16384:Int) else 0)=16384)=kp:=by cases kp <;> rfl
  rw[e1];have e2:=Ot hs;have e3:=Ot hd;show (tos,id,ttl,pr,kp,gP [_,_,_,_],gP [_,_,_,_])=_;rw[GH,GH,e2,e3]
 refine⟨hF,?_,?_⟩
 .have hb:=ag7 hbb ab (by rw[E];rfl) (by rw[w6e];cases kp <;> simp);rw[hF,w2e,w10e] at hb;have ht:(ng (tos,id,ttl,pr,kp,s,d) (20+be X)++X).take 20=ng (tos,id,ttl,pr,kp,s,d) (20+be X):=by
   rw[List.take_append_of_le_length (by rw[wH];omega),gN (by rw[wH];omega)]
  have hp:iT (ng (tos,id,ttl,pr,kp,s,d) (20+be X)++X)=0:=by
   rw[iT,ah ab,ah,ah]
   .rw[uj,w10e,← hb.1]
   .rw[uj];refine⟨by rw[E];rfl,by rw[w6e];cases kp <;> simp,by rw[w2e];omega⟩
  rw[dN,ah (λk=>k hp),ah (by rw[w2e,hlen];omega),ah (by rw[w2e];omega)]
 .rw[List.drop_append,wH,List.drop_of_length_le (by rw[wH];omega)];simp
theorem U1{p:bo}(h:cT p=0)(hs:u32 p.1)(hd:u32 p.2.1):cB (build p)=xw p/\dN (build p)=0/\(build p).drop 20=gF p:=by
 rw[Jw h]
 refine NG (Nq h) hs hd ?_ (Zp h)
 obtain h|h:=FX h <;> omega
theorem bh3(t n:Int):dQ bZ3 (eJ (bZ6,21075,t,w2 n))=dQ bZ3 (eJ (bZ6,21075,t,[0,0]))+(n/256%256*256+n%256):=by
 simp[eJ,w2,dQ];omega
theorem bp7(f n:Int):dQ bZ3 (gZ (20000+f,33434,w2 n))=dQ bZ3 (gZ (20000+f,33434,[0,0]))+(n/256%256*256+n%256):=by
 simp[gZ,w2,dQ];omega
theorem aN2(t:Int):2048<=dQ bZ3 (eJ (bZ6,21075,t,[0,0])):=by
 simp[eJ,w2,dQ];omega
theorem Xh{p:bo}(h:jG p):eG (eJ (oq p))=16384+p.2.2.2.1:=by
 have hn:=aM6 h
 obtain⟨⟨f0,f1⟩,-⟩:=h
 have e:wv p=oc (65535-(16384+p.2.2.2.1)+eG (eJ (bZ6,21075,p.2.2.2.2.1,[0,0]))):=rfl
 have hp:=aN2 p.2.2.2.2.1
 unfold oq eG
 rw[bh3,oP ab hn.2,e]
 unfold eG
 generalize dQ bZ3 (eJ (bZ6,21075,p.2.2.2.2.1,[0,0]))=S at hp ⊢
 unfold oc
 rw[ah (by omega:¬ S=0)]
 rw[ah ab,ah ab]
 omega
theorem aM5{p:bo}(h:jG p):mD p.1 p.2.1 (gZ (vj p))=p.2.2.2.2.1+1:=by
 have hn:=ae6 h
 obtain⟨-,⟨t0,t1⟩,-⟩:=h
 have l0:be (gZ (20000+p.2.2.2.1,33434,[0,0]))=10:=rfl
 have l1:be (gZ (vj p))=10:=rfl
 have eX:yd p=oc (65535-(p.2.2.2.2.1+1)+iC p.1 p.2.1 17 (gZ (20000+p.2.2.2.1,33434,[0,0]))):=rfl
 have eN:xR p=if yd p=0 then 65535 else yd p:=rfl
 have hp:=Sd p.1 p.2.1 17 10
 have h2:=(H6 bZ3 (gZ (20000+p.2.2.2.1,33434,[0,0])) (Eu _)).1
 have eP:iC p.1 p.2.1 17 (gZ (20000+p.2.2.2.1,33434,[0,0]))=65535-oc (dQ bZ3 (vg p.1 p.2.1 17 10)+dQ bZ3 (gZ (20000+p.2.2.2.1,33434,[0,0]))):=by
  rw[iC,ah (by rw[l0];omega),eG,NQ,l0];rfl
 have eQ:iC p.1 p.2.1 17 (gZ (vj p))=65535-oc (dQ bZ3 (vg p.1 p.2.1 17 10)+(dQ bZ3 (gZ (20000+p.2.2.2.1,33434,[0,0]))+xR p)):=by
  rw[iC,ah (by rw[l1];omega),eG,NQ,l1];unfold vj;rw[bp7,oP ab hn.2];rfl
 rw[mD,eQ]
 rw[eP] at eX
 generalize dQ bZ3 (vg p.1 p.2.1 17 10)=H at *
 generalize dQ bZ3 (gZ (20000+p.2.2.2.1,33434,[0,0]))=S at *
 generalize xR p=N at *
 generalize yd p=X at *
 generalize p.2.2.2.2.1=t at *
 have hH:(17:Int)%256=17:=rfl
 rw[hH] at hp
 clear eP eQ l0 l1 hH
 have hN:(N-(65535-(t+1)+(65535-(H+S))))%65535=0:=by
  unfold oc at eX;rw[ah (by omega:¬ H+S=0)] at eX;split at eX <;> split at eN <;> omega
 unfold oc
 rw[ah (by omega:¬ H+(S+N)=0)]
 split <;> omega
def DS(p:bo):Int:=if p.2.2.1=1 then 2048 else 20000+p.2.2.2.1
def B9(p:bo):Int:=if p.2.2.1=1 then 16384+p.2.2.2.1 else if p.2.2.1=17 then 33434 else 80
theorem a90{p:bo}(h:cT p=0):aR (gF p) 0=DS p/\aR (gF p) 2=B9 p:=by
 obtain⟨h1|h1|h1,h2⟩:=pV.1 h
 .have hs:=Xh h2;have hf:=h2.1;rw[Ds h2 h1,DS,B9,aj h1,aj h1,zT (by show 0+2<=10;omega) ab,EL (by show 2+2<=10;omega) ab ab,hs];exact⟨rfl,rfl⟩
 .have hf:=h2.1;rw[Do h2 h1,DS,B9,ah ab,ah ab,ah ab,zT (by show 0+2<=20;omega) ab,zT (by show 2+2<=20;omega) ab];constructor
  .show aR (_::_::_) 0=_;rw[jo];exact oP (n:=20000+p.2.2.2.1) ab ab
  .rfl
 .have hf:=h2.1;rw[Gb h2 h1,DS,B9,ah ab,ah ab,aj h1,zT (by show 0+2<=10;omega) ab,zT (by show 2+2<=10;omega) ab];constructor
  .show aR (_::_::_) 0=_;rw[jo];exact oP (n:=20000+p.2.2.2.1) ab ab
  .rfl
abbrev pU:CT := .pair dw cI
def cD(a b:Int):Int:=if a<b then -1 else if b<a then 1 else 0
abbrev fB:Type:=Int×Int
def ja(p q:fB):Int:=if cD p.1 q.1≠0 then cD p.1 q.1 else cD p.2 q.2
def j7:ad->Int
 | []=>0
 | x::xs=>if x≠0 then x else j7 xs
theorem bH8{l:ad}{j:Int}(h0:0<=j)(h1:j<be l):l.drop (it j)=Om l (it j) Sk::l.drop (it (j+1)):=by
 have hj:it j<be l:=ab
 rw[s9 hj,cq,cG hj,iA]
 congr 2;omega
theorem V3{α:Type} [Inhabited α] {l:List α} {j:Int} (h0:0<=j) (h1:j<be l) {y:α} (hy:y∈l.take (it (j+1))):y∈l.take (it j)∨y=Om l (it j) default:=by
 have hj:it j<be l:=ab
 have e:it (j+1)=it j+1:=ab
 rw[e,zu hj] at hy
 obtain hy|hy:=dI.1 hy
 .exact .inl hy
 .right;simp at hy;rw[cq,cG hj,iA];exact hy
theorem a59{l:ad}{v j:Int}(h0:0<=j)(h1:j<be l)(hv:Om l (it j) Sk=v)(h2:∀ y∈l.take (it j),y≠v):l.idxOf v=it j:=by
 have hj:it j<be l:=ab
 rw[cq,cG hj,iA] at hv
 have e:l=l.take (it j)++l[it j]::l.drop (it j+1):=by
  rw[← s9 hj,kP]
 rw[e,List.idxOf_append,ah (λhm=>h2 v hm rfl),hv,List.idxOf_cons_self]
 simp;omega
def by7:Ct:=⟨[.val cI],[.val .bool],λ_=>[],λ_=>((bZ6,()),())⟩
theorem bJ2:
 ∀(a:Int),dW (aq a) (cP a a=bZ6):= by
  delta aq aK ai cP dW
  rintro x - -
  simp
theorem aF4:aC 199 by7.spec:=aF Tryz.func199 aD aU bJ2
def bt6:Ct:=⟨[.val dw],[.val .bool],λ_=>[],λ_=>((bZ6,()),())⟩
theorem bN5:
 ∀(a:Int),dW (aO a) (cP a a=bZ6):= by
  delta aO ai cP dW
  rintro x - -
  simp
theorem at5:aC 259 bt6.spec:=aF Tryz.func259 aD aU bN5
def bf7:Ct:=⟨[.val cI,.val cI],[.val cI],λ_=>[],λd=>((cD d.1 d.2.1,()),())⟩
def En(a b:Int):=True->ar (ax a b) ((-1)=cD a b) (ar (ax b a) (1=cD a b) (0=cD a b))
theorem aC7:
 ∀(a b:Int),dV a b->En a b:= by
  delta aq aK ai En dV ax
  rintro x y - -
  unfold cD
  refine aw (λh=>?_) (λh=>aw (λh2=>?_) (λh2=>?_))
  .rw[aj (aX h)]
  .rw[ah (bg h),aj (aX h2)]
  .rw[ah (bg h),ah (bg h2)]
theorem F0:aC 138 bf7.spec:=aF Tryz.func138 (ap aD aF4) aU aC7
def be7:Ct:=⟨[.val dw,.val dw],[.val cI],λ_=>[],λd=>((cD d.1 d.2.1,()),())⟩
theorem aS2:
 ∀(a b:Int),aO a/\ai (aO b)->En a b:= by
  delta aO ai En ax
  rintro x y - -
  unfold cD
  refine aw (λh=>?_) (λh=>aw (λh2=>?_) (λh2=>?_))
  .rw[aj (aX h)]
  .rw[ah (bg h),aj (aX h2)]
  .rw[ah (bg h),ah (bg h2)]
theorem XT:aC 208 be7.spec:=aF Tryz.func208 (ap aD at5) aU aS2
def YF:Ct:=⟨[.val (.sl cI)],[.val cI],λ_=>[],λd=>((j7 d.1,()),())⟩
def aJ4:bw YF.ps->bL:=(λd=>{loops:=(bu 3 (λS=>{ι:=Int,μ:=λi=>it (be d.1-i),inv:=λi=>0<=i/\i<=be d.1/\j7 d.1=j7 (d.1.drop (it i)),keep:=[3,6,7],slots:=λi=>[(8,.int .i64 i)]}) cC)})
def sm(a b:Int)(c d:Prop)(e:Int):=ar (ax a b) (am a c d) (0=e)
def Kc(a:Int)(b:ad):=am a (a<=ac b) (j7 b=j7 (drop (it a) b))
theorem bS5:
 ∀(a:ad),dW (cS a) ((∃(b:Int),Kc b a/\(0:Int)=(0:Int)/\a=a/\ac a=ac a/\ai (0=b))/\ ∀(b:Int),Kc b a->sm b (ac a) (b<ac a) (ar ( !aV (ae a b)) (ae a b=j7 a) (∃(c:Int),Kc c a/\bj (ac a) c b/\(0:Int)=(0:Int)/\a=a/\ac a=ac a/\ai (bf b c))) (j7 a)):= by
  delta ae ac ao aq aK cS bj am aV ai bf cN dW sm Kc ax
  rintro x ⟨⟨hl,-⟩,-⟩ -
  simp only[maxLen] at hl
  refine⟨⟨0,⟨ab,ab,rfl⟩,aI⟩,?_⟩
  rintro j ⟨h0,h1,h2⟩
  refine ci (λhj=>?_) (λhj=>?_)
  .have e:=bH8 (l:=x) h0 hj
   rw[e] at h2
   refine⟨h0,hj,aw (λhz=>?_) (λhz=>?_)⟩
   .have hz:Om x (it j) Sk≠0:=by simpa only[qE,sr] using hz
    rw[h2,j7,aj hz]
   .have hz:¬ Om x (it j) Sk≠0:=by simpa only[Ak,rF,ne_eq,uj] using hz
    rw[j7,ah hz] at h2
    exact⟨j+1,⟨ab,ab,h2⟩,ab,aI⟩
  .rw[h2,List.drop_eq_nil_of_le ab];rfl
theorem FN:aC 137 YF.spec:=aF Tryz.func137 aD aJ4 bS5
def ZT:Ct:=⟨[.agg pU,.agg pU],[.val cI],λ_=>[],λd=>((ja d.1 d.2.1,()),())⟩
theorem aF7:
 ∀(a b c d:Int),(aO a/\aq b)/\ai (aO c/\aq d)->True->j7 (cD a c::bz (cD b d))=ja (a,b) (c,d):= by
  delta aq aK aO bz ai
  rintro x y z u - -
  simp only[j7,ja]
  split
  .rfl
  .split
   .rfl
   next h=>simp at h;exact h.symm
theorem SU:aC 222 ZT.spec:=aF Tryz.func222 (ap (ap (ap aD XT) F0) FN) aU aF7
def a27:Ct:=⟨[.val cI,.val cI],[.val cI],λ_=>[],λd=>((cD d.1 d.2.1,()),())⟩
theorem aL4:
 ∀(a b:Int),dV a b->En a b:= by
  delta aq aK ai En dV ax
  rintro x y - -
  unfold cD
  refine aw (λh=>?_) (λh=>aw (λh2=>?_) (λh2=>?_))
  .rw[aj (aX h)]
  .rw[ah (bg h),aj (aX h2)]
  .rw[ah (bg h),ah (bg h2)]
theorem Zi:aC 211 a27.spec:=aF Tryz.func211 aD aU aL4
def bq2:Ct:=⟨[.agg pU,.agg pU],[.val cI],λ_=>[],λd=>((ja d.1 d.2.1,()),())⟩
theorem bw4:
 ∀(a b c d:Int),(aO a/\aq b)/\ai (aO c/\aq d)->True->ar (cP a c) (cD (ao a) (ao c)=ja (a,b) (c,d)) (cD b d=ja (a,b) (c,d)):= by
  delta ao aq aK aO ai cP
  rintro x y z u ⟨⟨⟨h0,h1⟩,-⟩,⟨⟨h2,h3⟩,-⟩,-⟩ -
  unfold ja
  refine aw (λh=>?_) (λh=>?_)
  .simp at h
   rw[aG ab ab,aG ab ab,aj (by simp only[cD];split <;> first|omega|(split <;> omega))]
  .simp at h
   subst h
   rw[ah (by simp[cD])]
theorem bo9:aC 166 bq2.spec:=aF Tryz.func166 (ap aD Zi) aU bw4
def sz(n:Int):Int:=2^it (32-n)
def nH(p:fB):Bool:=bZ2 (0<=p.2/\p.2<=32/\p.1%sz p.2=0)
def iO(p:fB)(a:Int):Bool:=nH p&&bZ2 (p.1<=a/\a<p.1+sz p.2)
theorem aB7(n:Int):sz n=((2^it (32-n):Nat):Int):=by unfold sz;rw[Int.natCast_pow];rfl
theorem LG{n:Int}(h0:0<=n)(h1:n<=32):∃ k:Nat,k<=32/\n=32-k/\sz n=((2^k:Nat):Int):=⟨it (32-n),ab,ab,aB7 n⟩
theorem bR5{n:Int}(h0:0<=n)(h1:n<=32):fX .u32 4294967295 (32-n)=4294967296-sz n:=by
 obtain⟨k,hk,rfl,e⟩:=LG h0 h1
 rw[e]
 have:(32:Int)-(32-(k:Int))=(k:Int):=ab
 rw[this]
 unfold fX
 rw[IntKind.wrap_u32]
 have hm:min (it ((k:Int))) bZ7.bits=k:=by simp only[ce4,cb6];omega
 rw[hm]
 have hd:∀ k,k<=32->(4294967295*2^k:Int)%4294967296=4294967296-((2^k:Nat):Int):=aB
 exact hd k hk
theorem ZQ{x n:Int}(h0:0<=x)(h1:x<=4294967295)(h2:0<=n)(h3:n<=32):bits .andNot .u32 x (4294967296-sz n)=x%sz n:=by
 obtain⟨k,hk,rfl,e⟩:=LG h2 h3
 have hp:(2:Nat)^k<=2^32:=cl9 aB hk
 have hp0:=cz7 k
 rw[e,u32_andNot _ _ h0 ab ab ab]
 have e1:4294967295-it ((4294967296:Int)-((2^k:Nat):Int))=2^k-1:=ab
 rw[e1,Hb]
 obtain⟨m,rfl⟩:=rx h0
 rw[cb6,cy6]
theorem ai7{a k:Nat}(hk:k<=32)(ha:a<4294967296):a &&& (4294967296-2^k)=a/2^k*2^k:=by
 have e:4294967296-2^k=(2^(32-k)-1) <<< k:=by
  rw[cy7,Nat.sub_mul,← Nat.pow_add,mv];congr 1;rw[show 32-k+k=32 from by omega]
 rw[e,← Nat.shiftRight_eq_div_pow,← cy7]
 apply Nat.eq_of_testBit_eq
 intro i
 simp only[Nat.testBit_and,Nat.testBit_shiftLeft,Nat.testBit_two_pow_sub_one,Nat.testBit_shiftRight]
 by_cases hi:k<=i
 .have e2:k+(i-k)=i:=ab;simp only[hi,decide_true,Bool.true_and,e2];by_cases h32:i<32
  .have:i-k<32-k:=ab;simp[this]
  .have:a.testBit i=false:=Nat.testBit_lt_two_pow (Nat.lt_of_lt_of_le ha (cl9 (show 0<2 by decide) (by omega:32<=i)));simp[this]
 .simp[hi]
theorem bR9{a n x:Int}(h0:0<=a)(h1:a<=4294967295)(h2:0<=n)(h3:n<=32)(hx:0<=x)(hm:x%sz n=0) :
  (bits .and .u32 a (4294967296-sz n)=x)↔(x<=a/\a<x+sz n):=by
 obtain⟨k,hk,rfl,e⟩:=LG h2 h3
 have hp:(2:Nat)^k<=2^32:=cl9 aB hk
 have hp0:=cz7 k
 rw[e] at hm ⊢
 rw[u32_and _ _ h0 ab ab ab]
 have e1:it ((4294967296:Int)-((2^k:Nat):Int))=4294967296-2^k:=ab
 rw[e1,ai7 hk ab]
 obtain⟨m,rfl⟩:=rx h0
 obtain⟨y,rfl⟩:=rx hx
 rw[cb6]
 have hm:y%2^k=0:=by
  have:((y%2^k:Nat):Int)=0:=by rw[cy6];exact hm
  omega
 generalize 2^k=s at *
 have d:=cq1 m s
 have dl:=Nat.mod_lt m hp0
 have dy:=cq1 y s
 rw[hm] at dy
 rw[cf7] at d
 constructor
 .intro h;omega
 .rintro⟨h,h'⟩;have hq:m/s=y/s:=by
   apply Nat.le_antisymm
   .have:m<(y/s+1)*s:=by rw[fY,mv,cf7 (y/s)];omega
    have:=Nat.div_lt_of_lt_mul (cf7 _ _▸this:m<s*(y/s+1));omega
   .exact Nat.div_le_div_right ab
  rw[hq,cf7];omega
def ap8:Ct:=⟨[.val cI],[.val dw],λd=>[0<=d.1/\d.1<=32],λd=>((4294967296-sz d.1,()),())⟩
theorem aB3:
 ∀(a:Int),ai (aq a)->0<=a/\a<=32->0<=ao (32 -a)/\fX bZ7 4294967295 (ao (32 -a))=4294967296 -sz a:= by
  delta ao aq aK ai
  rintro x-⟨h0,h1⟩
  rw[aG ab ab]
  exact⟨ab,bR5 h0 h1⟩
theorem SY:aC 224 ap8.spec:=aF Tryz.func224 aD aU aB3
def at8:Ct:=⟨[.agg pU],[.val .bool],λ_=>[],λd=>((nH d.1,()),())⟩
def fq(a:Bool)(b c d e:Prop):=cj a a (aJ b) (b->c) (d/\e)
theorem aE6:
 ∀(a b:Int),dW (aO a/\aq b) (∀(c:Bool),c=fp b->cj c c (aJ c) (c->c) (∀(d:Bool),d=br c (bZ2 (b<=32))->fq d d ((d->d)/\ai (0<=b/\b<=32)) (d->dA d) ((d->aJ d)/\(d->d)/\br d (aV (bits BinOp.andNot bZ7 a (4294967296 -sz b)))=nH (a,b)))):= by
  delta aq aK aJ aO cj br aV fq ai dA fp dW
  rintro x n ⟨⟨⟨h0,h1⟩,-⟩,-⟩ -
  (repeat (refine cL ?_;repeat refine cK ?_))
  by_cases hn:0<=n/\n<=32
  .have:=ZQ (n:=n) h0 h1 hn.1 hn.2
   simp[nH,hn,this]
  .simp only[nH]
   by_cases h2:0<=n
   .have:¬ n<=32:=λh=>hn ⟨h2,h⟩
    simp[this]
   .simp[h2]
theorem XQ:aC 221 at8.spec:=aF Tryz.func221 (ap aD SY) aU aE6
def a26:Ct:=⟨[.agg pU,.val dw],[.val .bool],λ_=>[],λd=>((iO d.1 d.2.1,()),())⟩
def jm(a:Bool)(b c:Int):=br a (bZ2 (b=c))
theorem bv1:
 ∀(a b c:Int),(aO a/\aq b)/\ai (aO c)->True-> ∀(d:Bool),d=nH (a,b)->cj d d ((d->d)/\ai (0<=b/\b<=32)) (d->dA d) (cj d d (dA d) (d->d) (jm d (bits cc6 bZ7 c (4294967296 -sz b)) a=iO (a,b) c)):= by
  delta aq aK aJ aO cj br ai dA jm
  rintro x n a ⟨⟨⟨h0,h1⟩,-⟩,⟨h2,h3⟩,-⟩ -
  have hv:∀ b,b=nH (x,n)->b=bZ3->0<=n/\n<=32/\x%sz n=0:=by
   rintro b rfl h;simpa[nH] using h
  rintro b hb
  have hr:=hv b hb
  refine⟨az,λh=>⟨λ_=>h,⟨(hr h).1,(hr h).2.1⟩,aP⟩,az,az,az,az,?_⟩
  unfold iO
  rw[← hb]
  cases b with
  | false=>rfl
  | true =>
   have ⟨r1,r2,r3⟩:=hr rfl
   have:=bR9 (n:=n) (x:=x) h2 h3 r1 r2 h0 r3
   rw[yq];simpa using this
theorem VH:aC 178 a26.spec:=aF Tryz.func178 (ap (ap aD SY) XQ) aU bv1
def Ta:Ct:=⟨[.val (.sl cI),.val cI],[.val cI],λ_=>[],λd=>((if d.2.1∈d.1 then (d.1.idxOf d.2.1:Int) else -1,()),())⟩
def bA2:bw Ta.ps->bL:=(λd=>{loops:=(bu 2 (λS=>{ι:=Int,μ:=λi=>it (be d.1-i),inv:=λi=>0<=i/\i<=be d.1∧∀ y∈d.1.take (it i),y≠d.2.1,keep:=[0,1,6,7],slots:=λi=>[(8,.int .i64 i)]}) cC)})
def zI(a:Int)(b c:ad)(d:Int):=am a (a<=ac b) (∀(e:Int),e∈c->e≠d)
theorem am7:
 ∀(a:ad)(b:Int),cS a/\ai (aq b)->True->(∃(c:Int),zI c a (take (it c) a) b/\gv a b (a=a) (ac a=ac a/\ai (0=c)))/\ ∀(c:Int),zI c a (take (it c) a) b->ar (ax c (ac a)) (am c (c<ac a) (ar (bZ2 (b=ae a c)) (c=(if b∈a then (cv9 b a:Int) else (-1))) (∃(d:Int),zI d a (take (it d) a) b/\bj (ac a) d c/\gv a b (a=a) (ac a=ac a/\ai (bf c d))))) ((-1:Int)=(if b∈a then (cv9 b a:Int) else (-1:Int))):= by
  delta ae ac ao aq aK cS bj am ai gv bf cN zI ax
  rintro x v ⟨⟨hl,-⟩,-⟩ -
  simp only[maxLen] at hl
  refine⟨⟨0,⟨ab,ab,az⟩,aI⟩,?_⟩
  rintro j ⟨h0,h1,h2⟩
  refine ci (λhj=>?_) (λhj=>?_)
  .refine⟨h0,hj,ci (λhz=>?_) (λhz=>?_)⟩
   .have hm:v∈x:=by rw[hz];exact dm h0 hj
    rw[aj hm]
    have:=a59 (l:=x) (v:=v) h0 hj hz.symm h2
    omega
   .refine⟨j+1,⟨ab,ab,λy hy=>?_⟩,ab,aI⟩
    obtain hy|rfl:=V3 h0 hj hy
    .exact h2 y hy
    .exact λe=>hz e.symm
  .rw[gN ab] at h2
   rw[ah (λhm=>h2 v hm rfl)]
theorem bC4:aC 293 Ta.spec:=aF Tryz.func293 aD bA2 am7
def a35:Ct:=⟨[.val (.sl cI),.val cI],[.val .bool],λ_=>[],λd=>((bZ2 (d.2.1∈d.1),()),())⟩
theorem bO8:
 ∀(a:ad)(b:Int),cS a/\ai (aq b)->True->fp (if b∈a then (cv9 b a:Int) else (-1))=bZ2 (b∈a):= by
  delta aq aK cS ai fp
  rintro x v - -
  by_cases h:v∈x
  .rw[aj h];simp[h];
  .rw[ah h];simp[h]
theorem aI0:aC 262 a35.spec:=aF Tryz.func262 (ap aD bC4) aU bO8
end Go.RS
