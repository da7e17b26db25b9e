/- Wire: numbers in bytes, the Internet checksum. -/
import Derived.Test.YtehpghlieehlbaaGreatDoorIdent
set_option maxRecDepth 100000
set_option linter.unusedVariables false
open Int (toNat)
open List (length take set range)
namespace Go.RS
open Go.SX Go.Proofs
def j6(n:Int)(w k:Nat):ad:=(range k).map λj=>n/256^(w-1-j)%256
def nV(n w:Int):Prop:=w<1∨7<w∨n<0∨256^w.toNat<=n
instance (n w:Int):Decidable (nV n w):=by unfold nV;infer_instance
def cM(b:ad)(n w:Int):ad:=if nV n w then [] else b++j6 n w.toNat w.toNat
def pS(n w:Int):Int:=if nV n w then 1 else 0
def dO(l:ad):Int:=l.foldl (λn x=>n*256+x) 0
def cO(b:ad)(at' w:Int):Int:=if w<1∨7<w∨at'<0∨b.length-w<at' then 0 else dO ((b.drop at'.toNat).take w.toNat)
def tq(b:ad)(at' w:Int):Int:=if w<1∨7<w∨at'<0 then 1 else if b.length-w<at' then 3 else 0
def oc(n:Int):Int:=if n=0 then 0 else (n-1)%65535+1
def bQ:Bool->ad->Int
 | _,[]=>0
 | hi,x::r=>(if hi then x*256 else x)+bQ (!hi) r
def cZ(n:Int):Bool:=decide (0<=n/\n<=65535)
theorem NO(a b:Nat)(ha:a<9223372036854775808)(hb:b<9223372036854775808):bits .or .i64 (a:Int) (b:Int)=((a ||| b:Nat):Int):=by
 have h:a ||| b<2^63:=Nat.or_lt_two_pow ab ab
 have key:(BitVec.ofInt 64 (a:Int) ||| BitVec.ofInt 64 (b:Int)).toNat=a ||| b:=by
  rw[BitVec.toNat_or,BitVec.toNat_ofInt,BitVec.toNat_ofInt];have e1:((a:Int)%((2^64:Nat):Int)).toNat=a:=ab;have e2:((b:Int)%((2^64:Nat):Int)).toNat=b:=ab;rw[e1,e2]
 show IntKind.i64.wrap ((BitVec.ofInt 64 (a:Int) ||| BitVec.ofInt 64 (b:Int)).toNat:Nat)=_
 rw[key,aQ ab ab]
theorem IZ{n:Int}(h0:0<=n)(h1:n<=36028797018963967):dX .i64 n 8=n*256:=by
 show IntKind.i64.wrap (n*2^(min 8 64))=_
 rw[aQ (by simp;omega) (by simp;omega)];rfl
theorem I8{n x:Int}(h0:0<=n)(h1:n<=36028797018963966)(h2:0<=x)(h3:x<=255):bits .or .i64 (dX .i64 n 8) (IntKind.wrap .i64 x)=n*256+x:=by
 rw[IZ h0 ab,aQ (n:=x) ab ab]
 obtain⟨m,rfl⟩:=nH h0
 obtain⟨y,rfl⟩:=nH h2
 have:=NO (m*256) y ab ab
 rw[nat_join 8 (m*256) y ab ab] at this
 push_cast at this
 exact this
theorem xn{n:Int}{k:Nat}(h0:0<=n)(hk:k<8):de .i64 n (8*k)=n/256^k:=by
 unfold de
 have hm:min ((8*(k:Int))).toNat IntKind.i64.bits=8*k:=by simp only[IntKind.bits];omega
 rw[hm,zm _ (Int.le_of_lt (Int.pow_pos bi)),Int.pow_mul]
 rfl
theorem Er{w:Int}(h0:1<=w)(h1:w<=7):dX .i64 1 (IntKind.wrap .i64 (8*w))=256^w.toNat:=by
 have:w=1∨w=2∨w=3∨w=4∨w=5∨w=6∨w=7:=ab
 rcases this with rfl|rfl|rfl|rfl|rfl|rfl|rfl <;> decide
theorem Qx(n:Int)(w k:Nat):j6 n w (k+1)=j6 n w k++[n/256^(w-1-k)%256]:=by
 unfold j6;rw[mM,lr];rfl
theorem RQ(n:Int)(w k:Nat):(j6 n w k).length=k:=by unfold j6;simp
theorem H6(l:ad)(x:Int):dO (l++[x])=dO l*256+x:=by unfold dO;rw[j9];rfl
theorem Em:∀(k:Nat)(l:ad),l.length<=k->(∀ x∈l,0<=x/\x<=255)->0<=dO l/\dO l<256^k:=by
 intro k
 induction k with
 | zero =>
  intro l hl _;have:l=[]:=nI ab;subst this;exact⟨bi,bi⟩
 | succ k ih =>
  intro l hl hx;rcases List.eq_nil_or_concat l with rfl|⟨m,x,rfl⟩
  .exact⟨bi,Int.pow_pos bi⟩
  .rw[List.concat_eq_append] at hl hx ⊢;have h1:=ih m (by simp at hl;omega) (λy hy=>hx y (g7 _ hy));have h2:=hx x aC;rw[H6,Int.pow_succ];generalize (256:Int)^k=P at h1 ⊢;omega
theorem Kr{l:ad}(hl:l.length<=6)(hx:∀ x∈l,0<=x/\x<=255):0<=dO l/\dO l<=281474976710655:=by
 have:=Em 6 l hl hx
 have e:(256:Int)^6=281474976710656:=bi
 omega
theorem aA7{n:Int}(h:65535<n):oc (n/65536+n%65536)=oc n:=by
 unfold oc
 rw[af (by omega),af (by omega)];omega
theorem ap3{n:Int}(h0:0<=n)(h1:n<=65535):oc n=n:=by
 unfold oc;split
 .omega
 .omega
theorem vO{n:Int}(h0:0<=n):0<=oc n/\oc n<=65535:=by unfold oc;split <;> omega
theorem LL{m x:Int}(h0:0<=m)(h1:0<=x):oc (oc m+x)=oc (m+x):=by
 unfold oc
 by_cases h:m=0
 .simp[h]
 .rw[af h,af ab,af ab];omega
theorem AV(hi:Bool)(a b:ad):bQ hi (a++b)=bQ hi a+bQ (if a.length%2=0 then hi else !hi) b:=by
 induction a generalizing hi with
 | nil=>simp[bQ]
 | cons x a ih =>
  rw[jS,bQ,bQ,ih,Int.add_assoc];congr 3;rw[cQ];by_cases h:a.length%2=0
  .rw[am h,af ab]
  .rw[af h,am ab];simp
theorem zK(hi:Bool)(l:ad)(hx:∀ x∈l,0<=x/\x<=255):0<=bQ hi l/\bQ hi l<=65280*l.length:=by
 induction l generalizing hi with
 | nil=>simp[bQ]
 | cons x l ih =>
  have h1:=ih (!hi) (λy hy=>hx y (fw _ hy));have h2:=hx x fF;rw[bQ,cQ];cases hi
  .simp at h1 ⊢;omega
  .simp at h1 ⊢;omega
theorem tW{l:ad}{j:Int}(h0:0<=j)(h1:j<l.length):l.take (j+1).toNat=l.take j.toNat++[l.getD j.toNat default]:=by
 have hj:j.toNat<l.length:=ab
 rw[show (j+1).toNat=j.toNat+1 from by omega,uo hj,ce,cF hj,fu]
def Ss:Ct:=⟨[.val (.sl bz)],[.own 5 bz],λd=>[(d.1.length:Int)<=1099511627776],λd=>((d.1,()),())⟩
def tT(a:ad) :=
 a.length<=maxLen/\ ∀(b:Int),b∈a->0<=b/\b<=255
theorem ao3 :
 ∀(a:ad),(tT a)/\True->(ac a)<=1099511627776-> ∀(b:Bool),(b=true->a.length=(0:Nat))->ao b (([]:ad)=a) (((0:Nat)+a.length)*(1:Nat)<=(140737488355328:Nat)/\a=a):=by
  delta tT ac;rintro x ⟨⟨hl,-⟩,-⟩ h b hb;refine av (λh1=>?_) (λh1=>⟨ab,rfl⟩);have:=hb h1;exact (nI this).symm
theorem sZ:aD 63 Ss.spec:=aH Tryz.func63 aE aR ao3
def NE:Ct:=⟨[.val (.sl bz),.val cI,.val cI],[.own 5 bz,.val cI],λd=>[(d.1.length:Int)<=1099511627776],λd=>((cM d.1 d.2.1 d.2.2.1,pS d.2.1 d.2.2.1,()),())⟩
def WV:bu NE.ps->bS:=(λd=>{loops:=(bm 5 (λS=>{ι:=Int×ad,qn:=fj,μ:=λi=>(d.2.2.1-i.1).toNat,inv:=λi=>0<=i.1/\i.1<=d.2.2.1/\i.2=d.1++j6 d.2.1 d.2.2.1.toNat i.1.toNat,keep:=[1,2],slots:=λi=>[(8,.own 524288 1),(9,.int .i64 (8*(d.2.2.1-1-i.1)))],names:=λi=>[(524288,.live (.row 5 bz i.2))]}) ci)})
def qI(a:ad) :=
 a.length<=maxLen/\ ∀(d:Int),d∈a->0<=d/\d<=255
def wv(f:Bool) :=
 (! f)->(aq (! f))/\(aq (! f))/\True
theorem af1 :
 ∀(a:ad)(b c:Int),(qI a)/\aj b/\aj c/\True->(ac a)<=1099511627776-> ∀(d:Bool),d=decide (c<1)->(ae (! d))/\(aF d)/\ ∀(e:Bool),(e=bif d then true else decide (7<c))->(ae (! e))/\(aF e)/\ ∀(f:Bool),(f=bif e then true else decide (b<0))->(ae (! f))/\((! f)->(aq (! f))/\0<=ai ((8:Int)*c)/\True)/\(wv f)/\(aF f)/\ao (bif f then true else decide (dX IntKind.i64 (1:Int) (ai ((8:Int)*c))<=b)) (([]:ad)=cM a b c/\1=pS b c) ((ac a)<=1099511627776/\(∃(g:Int) (h:ad),(0<=g/\g<=c/\h=a++j6 b c.toNat g.toNat)/\b=b/\c=c/\ai ((8:Int)*ai (c -1))=8*(c -1 -g)/\a=h/\True)/\ ∀(g:Int)(h:ad),0<=g/\g<=c/\h=a++j6 b c.toNat g.toNat->ao (decide ((0:Int)<=8*(c -1 -g))) ((0:Int)<=8*(c -1 -g)/\(h.length+length [IntKind.wrap .u8 (de IntKind.i64 b ((8:Int)*(c -1 -g)))])*(1:Nat)<=(140737488355328:Nat)/\ ∃(i:Int) (j:ad),(0<=i/\i<=c/\j=a++j6 b c.toNat
 i.toNat)/\toNat (c -i)<toNat (c -g)/\b=b/\c=c/\ai ((8:Int)*(c -1 -g) -8)=8*(c -1 -i)/\h++[IntKind.wrap .u8 (de IntKind.i64 b ((8:Int)*(c -1 -g)))]=j/\True) (h=cM a b c/\0=pS b c)):=by
  delta qI wv ae aq aF ai ac;rintro b n w ⟨-,⟨n0,n1⟩,⟨w0,w1⟩,-⟩ hl;rintro b1 rfl;refine⟨aC,aC,?_⟩;rintro b1 rfl;refine⟨aC,aC,?_⟩;rintro b1 rfl;have hpre:(!(bif (bif decide (w<1) then true else decide (7<w)) then true else decide (n<0)))=true->1<=w/\w<=7/\0<=n:=by
   simp[db];omega
  refine⟨aC,λh=>⟨λ_=>h,by have:=hpre h;rw[aQ ab ab];omega,bv⟩,λh=>⟨λ_=>h,λ_=>h,bv⟩,aC,?_⟩;refine av (λhc=>?_) (λhc=>?_)
  .have hbad:nV n w:=by
    unfold nV;by_cases h:1<=w/\w<=7
    .rw[Er h.1 h.2] at hc;simp[db] at hc;omega
    .omega
   rw[cM,pS,am hbad,am hbad];exact⟨rfl,rfl⟩
  .have hw:1<=w/\w<=7/\0<=n:=hpre (by
    cases h:(bif (bif decide (w<1) then true else decide (7<w)) then true else decide (n<0)) with
    | false=>rfl
    | true=>rw[h] at hc;simp at hc)
   obtain⟨h1,h7,hn⟩:=hw;rw[Er h1 h7] at hc;have hgood:¬ nV n w:=by
    unfold nV;simp[db] at hc;omega
   rw[cM,pS,af hgood,af hgood];refine⟨hl,⟨0,b,⟨ab,ab,by simp[j6]⟩,rfl,rfl,by rw[aQ (n:=w-1) ab ab,aQ ab ab];omega,rfl,bv⟩,?_⟩;rintro k ys ⟨k0,k1,rfl⟩;refine bt (λhk=>?_) (λhk=>?_)
   .obtain⟨j,hj⟩:=nH (show 0<=w-1-k by omega);rw[hj,xn hn ab,IntKind.wrap_u8'];have hbl:=RQ n w.toNat k.toNat
    refine⟨ab,by simp only[cD,eU,hbl];omega,k+1,_,⟨ab,ab,rfl⟩,ab,rfl,rfl,by rw[aQ ab ab];omega,?_,bv⟩;rw[show (k+1).toNat=k.toNat+1 from by omega,Qx,iN,show w.toNat-1-k.toNat=j from by omega]
   .rw[show k=w from by omega];exact⟨rfl,rfl⟩
theorem Rl:aD 260 NE.spec:=aH Tryz.func260 (au aE sZ) WV af1
def Mk:Ct:=⟨[.val (.sl bz),.val cI,.val cI],[.val cI,.val cI],λd=>[(d.1.length:Int)<=9223372036854775807],λd=>((cO d.1 d.2.1 d.2.2.1,tq d.1 d.2.1 d.2.2.1,()),())⟩
def am5:bu Mk.ps->bS:=(λd=>{loops:=(bm 7 (λS=>{ι:=Int×Int,qn:=fj,μ:=λi=>(d.2.2.1-i.1).toNat,inv:=λi=>0<=i.1/\i.1<=d.2.2.1/\i.2=dO (((d.1.drop d.2.1.toNat).take d.2.2.1.toNat).take i.1.toNat),keep:=[34,35],slots:=λi=>[(8,.int .i64 i.2),(36,.int .i64 i.1)]}) ci)})
def xi(a:ad)(b c:Int) :=
 ((length (cA a b.toNat (toNat (ai (b+c))))):Int)
def uY(a:ad)(b c:Int) :=
 take c.toNat (List.drop b.toNat a)
theorem X0 :
 ∀(a:ad)(b c:Int),(qI a)/\aj b/\aj c/\True->(ac a)<=9223372036854775807-> ∀(d:Bool),d=decide (c<1)->(ae (! d))/\(aF d)/\ ∀(e:Bool),(e=bif d then true else decide (7<c))->(ae (! e))/\(aF e)/\ao (bif e then true else decide (b<0)) (0=cO a b c/\1=tq a b c) (ao (decide (ai ((ac a) -c)<b)) (0=cO a b c/\3=tq a b c) (0<=b/\b<=ai (b+c)/\ai (b+c)<=(ac a)/\(∃(f:Int) (g:Int),(0<=f/\f<=c/\g=dO (take f.toNat (uY a b c)))/\0=g/\cA a b.toNat (toNat (ai (b+c)))=cA a b.toNat (toNat (ai (b+c)))/\(xi a b c)=(xi a b c)/\0=f/\True)/\ ∀(f g:Int),0<=f/\f<=c/\g=dO (take f.toNat (uY a b c))->ao (decide (f<(xi a b c))) (0<=f/\f<(xi a b c)/\(0:Int)<=8/\ ∃(h:Int) (i:Int),(0<=h/\h<=c/\i=dO (take h.toNat (uY a b c)))/\toNat (c -h)<toNat (c -f)/\bits BinOp.or IntKind.i64 (dX IntKind.i64 g (8:Int)) (ai (List.getD (cA a b.toNat
 (toNat (ai (b+c)))) f.toNat default))=i/\cA a b.toNat (toNat (ai (b+c)))=cA a b.toNat (toNat (ai (b+c)))/\(xi a b c)=(xi a b c)/\ai (f+1)=h/\True) (g=cO a b c/\0=tq a b c))):=by
  delta xi qI uY ae aF ai ac;rintro b a w ⟨⟨hl0,hx⟩,⟨a0,a1⟩,⟨w0,w1⟩,-⟩ hl
  (repeat (refine bO ?_;repeat refine bP ?_));unfold cO tq;refine av (λhc=>?_) (λhc=>?_)
  .have h:w<1∨7<w∨a<0:=by simp[db] at hc;omega
   rw[am ab,am h];exact⟨rfl,rfl⟩
  have h:¬ (w<1∨7<w∨a<0):=by simp[db] at hc;omega
  rw[aQ (n:=(b.length:Int)-w) ab ab,af h];refine av (λhd=>?_) (λhd=>?_)
  .have hd:=aL hd;rw[am ab,am hd];exact⟨rfl,rfl⟩
  have hd:=aO hd;rw[af ab,af hd,aQ (n:=a+w) ab ab];have hsub:cA b a.toNat (a+w).toNat=(b.drop a.toNat).take w.toNat:=by
   unfold cA;rw[List.drop_take,show (a+w).toNat-a.toNat=w.toNat from by omega]
  rw[hsub];have hlen:((b.drop a.toNat).take w.toNat).length=w.toNat:=by rw[cW,dR];omega
  have hy:∀ y∈(b.drop a.toNat).take w.toNat,0<=y/\y<=255:=λy hy=>hx y (uW (oB hy));generalize (b.drop a.toNat).take w.toNat=m at *;rw[hlen];refine⟨ab,ab,ab,⟨0,0,⟨ab,ab,by simp[dO]⟩,aM⟩,?_⟩;rintro j n ⟨j0,j1,rfl⟩;refine bt (λhj=>?_) (λhj=>?_)
  .have ht:=tW (l:=m) j0 ab;obtain⟨x0,x1⟩:=hy _ (bW (xs:=m) j0 ab);have hb:=Kr (l:=m.take j.toNat) (by rw[cW];omega) (λy h=>hy y (oB h));refine⟨j0,hj,ab,j+1,_,⟨ab,ab,rfl⟩,ab,?_,rfl,rfl,aQ ab ab,bv⟩;rw[ht,H6,I8 hb.1 ab x0 x1]
  .rw[dm ab];exact⟨rfl,rfl⟩
theorem F2:aD 204 Mk.spec:=aH Tryz.func204 aE am5 X0
def Mr:Ct:=⟨[.val cI],[.val cI],λd=>[0<=d.1],λd=>((oc d.1,()),())⟩
def aW9:bu Mr.ps->bS:=(λd=>{loops:=(bm 1 (λS=>{ι:=Int,μ:=λi=>i.toNat,inv:=λi=>0<=i/\i<=9223372036854775807/\oc i=oc d.1,keep:=[],slots:=λi=>[(0,.int .i64 i)]}) ci)})
theorem Yh :
 ∀(a:Int),aj a/\True->0<=a->(∃(b:Int),(0<=b/\b<=9223372036854775807/\oc b=oc a)/\a=b/\True)/\ ∀(b:Int),0<=b/\b<=9223372036854775807/\oc b=oc a->ao (decide (65535<b)) ((0:Int)<=16/\ ∃(c:Int),(0<=c/\c<=9223372036854775807/\oc c=oc a)/\c.toNat<b.toNat/\ai (de IntKind.i64 b (16:Int)+bits BinOp.and IntKind.i64 b (65535:Int))=c/\True) (b=oc a):=by
  delta ai;rintro n ⟨⟨n0,n1⟩,-⟩ h;refine⟨⟨n,⟨h,n1,rfl⟩,rfl,bv⟩,?_⟩;rintro m ⟨m0,m1,m2⟩;refine bt (λhm=>?_) (λhm=>?_)
  .have e:=xn (n:=m) (k:=2) m0 ab;have e2:(8:Int)*((2:Nat):Int)=16:=rfl;rw[e2] at e;rw[e,Ay,aQ ab ab];have e3:(256:Int)^2=65536:=rfl;rw[e3];exact⟨ab,_,⟨ab,ab,by rw[aA7 hm,m2]⟩,ab,rfl,bv⟩
  .rw[← m2,ap3 m0 ab]
theorem Vp:aD 257 Mr.spec:=aH Tryz.func257 aE aW9 Yh
theorem ZA{j:Int}(h0:0<=j)(h1:j<=9223372036854775807):bits .and .i64 j 1=j%2:=by
 obtain⟨m,rfl⟩:=nH h0
 have key:(BitVec.ofInt 64 (m:Int) &&& BitVec.ofInt 64 1).toNat=m%2:=by
  rw[BitVec.toNat_and,BitVec.toNat_ofInt,show (BitVec.ofInt 64 1).toNat=1 from by decide];have e1:((m:Int)%((2^64:Nat):Int)).toNat=m:=ab;rw[e1,nat_mask1]
 show IntKind.i64.wrap ((BitVec.ofInt 64 (m:Int) &&& BitVec.ofInt 64 1).toNat:Nat)=_
 rw[key,aQ ab ab];omega
theorem Zf{n:Int}(h0:0<=n)(h1:n<=36028797018963967):dX .i64 n (IntKind.wrap .i64 (8*IntKind.wrap .i64 (1-1)))=n:=by
 show IntKind.i64.wrap (n*2^(min 0 64))=_
 rw[aQ (by simp;omega) (by simp;omega)];simp
def QJ:Ct:=⟨[.val (.sl bz)],[.val cI],λd=>[(d.1.length:Int)<=1099511627776],λd=>((oc (bQ true d.1),()),())⟩
def WA:bu QJ.ps->bS:=(λd=>{loops:=(bm 3 (λS=>{ι:=Int×Int,qn:=fj,μ:=λi=>(d.1.length-i.1).toNat,inv:=λi=>0<=i.1/\i.1<=d.1.length/\i.2=bQ true (d.1.take i.1.toNat)/\0<=i.2/\i.2<=65280*i.1,keep:=[0,6,7],slots:=λi=>[(3,.int .i64 i.2),(8,.int .i64 i.1)]}) ci)})
theorem az1 :
 ∀(a:ad),(tT a)/\True->(ac a)<=1099511627776->(∃(b:Int) (c:Int),(0<=b/\b<=(ac a)/\c=bQ true (take b.toNat a)/\0<=c/\c<=65280*b)/\a=a/\0=c/\a=a/\(ac a)=(ac a)/\0=b/\True)/\ ∀(b c:Int),0<=b/\b<=(ac a)/\c=bQ true (take b.toNat a)/\0<=c/\c<=65280*b->ao (decide (b<(ac a))) (0<=b/\b<(ac a)/\0<=ai ((8:Int)*ai ((1:Int) -bits BinOp.and IntKind.i64 b (1:Int)))/\ ∃(d:Int) (e:Int),(0<=d/\d<=(ac a)/\e=bQ true (take d.toNat a)/\0<=e/\e<=65280*d)/\toNat ((ac a) -d)<toNat ((ac a) -b)/\a=a/\ai (c+dX IntKind.i64 (ai (ah a b)) (ai ((8:Int)*ai ((1:Int) -bits BinOp.and IntKind.i64 b (1:Int)))))=e/\a=a/\(ac a)=(ac a)/\ai (b+1)=d/\True) (0<=c/\oc c=oc (bQ true a)):=by
  delta tT ai ah ac;rintro l ⟨⟨-,hx⟩,-⟩ hl;refine⟨⟨0,0,⟨ab,ab,by simp[bQ],ab,ab⟩,aM⟩,?_⟩;rintro j n ⟨j0,j1,rfl,n0,n1⟩;refine bt (λhj=>?_) (λhj=>?_)
  .obtain⟨x0,x1⟩:=hx _ (bW j0 hj);have ht:=tW j0 hj;have hs:=AV true (l.take j.toNat) [l.getD j.toNat default];rw[← ht] at hs;generalize l.getD j.toNat default=x at *;have hb:=ZA j0 ab;rw[hb];have hlen:(l.take j.toNat).length=j.toNat:=by rw[cW];omega
   rw[hlen] at hs;have hv:0<=IntKind.wrap .i64 (8*IntKind.wrap .i64 (1-j%2))/\dX .i64 (IntKind.wrap .i64 x) (IntKind.wrap .i64 (8*IntKind.wrap .i64 (1-j%2)))=(if j%2=0 then x*256 else x):=by
    rw[aQ (n:=x) ab ab];by_cases he:j%2=0
    .rw[he,am rfl];exact⟨bi,IZ x0 ab⟩
    .rw[show j%2=1 from by omega,af bi];exact⟨bi,Zf x0 ab⟩
   rw[hv.2];refine⟨j0,hj,hv.1,j+1,bQ true (l.take (j+1).toNat),⟨ab,ab,rfl,?_,?_⟩,ab,rfl,?_,rfl,rfl,aQ ab ab,bv⟩
   all_goals rw[hs]
   all_goals by_cases he:j%2=0
   all_goals first
    | rw[am (show j.toNat%2=0 by omega)]
    | rw[af (show ¬ j.toNat%2=0 by omega)]
   all_goals simp only[bQ,he,if_true,if_false,Bool.not_true,AL]
   all_goals try omega
   all_goals rw[aQ ab ab]
   all_goals omega
  .rw[dm ab] at n0 ⊢;exact⟨n0,rfl⟩
theorem VP:aD 235 QJ.spec:=aH Tryz.func235 (au aE Vp) WA az1
def ab3:Ct:=⟨[.val (.sl bz)],[.val cI],λd=>[(d.1.length:Int)<=1099511627776],λd=>((65535-oc (bQ true d.1),()),())⟩
def EN(a:ad) :=
 (tT a)/\True->(ac a)<=1099511627776->(ac a)<=1099511627776/\ai ((65535:Int) -oc (bQ true a))=65535 -oc (bQ true a)
theorem aT4 :
 ∀(a:ad),(EN a):=by
  delta EN tT ai ac;rintro l ⟨⟨-,hx⟩,-⟩ hl;have:=vO (zK true l hx).1;exact⟨hl,aQ ab ab⟩
theorem zJ:aD 205 ab3.spec:=aH Tryz.func205 (au aE VP) aR aT4
def PT:Ct:=⟨[.val (.sl bz),.val cI,.val cI],[.own 5 bz,.val cI],λd=>[(d.1.length:Int)<=1099511627776],λd=>((cM d.1 d.2.1 d.2.2.1,pS d.2.1 d.2.2.1,()),())⟩
def aV2:bu PT.ps->bS:=(λd=>{loops:=(bm 5 (λS=>{ι:=Int×ad,qn:=fj,μ:=λi=>(d.2.2.1-i.1).toNat,inv:=λi=>0<=i.1/\i.1<=d.2.2.1/\i.2=d.1++j6 d.2.1 d.2.2.1.toNat i.1.toNat,keep:=[1,2],slots:=λi=>[(8,.own 524288 1),(9,.int .i64 (d.2.2.1-1-i.1))],names:=λi=>[(524288,.live (.row 5 bz i.2))]}) ci)})
theorem aE8 :
 ∀(a:ad)(b c:Int),(qI a)/\aj b/\aj c/\True->(ac a)<=1099511627776-> ∀(d:Bool),d=decide (c<1)->(ae (! d))/\(aF d)/\ ∀(e:Bool),(e=bif d then true else decide (7<c))->(ae (! e))/\(aF e)/\ ∀(f:Bool),(f=bif e then true else decide (b<0))->(ae (! f))/\((! f)->(aq (! f))/\0<=ai ((8:Int)*c)/\True)/\(wv f)/\(aF f)/\ao (bif f then true else decide (dX IntKind.i64 (1:Int) (ai ((8:Int)*c))<=b)) (([]:ad)=cM a b c/\1=pS b c) (a.length*(1:Nat)<=(140737488355328:Nat)/\(∃(g:Int) (h:ad),(0<=g/\g<=c/\h=a++j6 b c.toNat g.toNat)/\b=b/\c=c/\ai (c -1)=c -1 -g/\a=h/\True)/\ ∀(g:Int)(h:ad),0<=g/\g<=c/\h=a++j6 b c.toNat g.toNat->ao (decide (0<=c -1 -g)) (0<=ai ((8:Int)*(c -1 -g))/\(h.length+length [IntKind.wrap .u8 (de IntKind.i64 b (ai ((8:Int)*(c -1 -g))))])*(1:Nat)<=(140737488355328:Nat)/\ ∃(i:Int) (j:ad),(0<=i/\i<=c/\j=a++j6 b c.toNat
 i.toNat)/\toNat (c -i)<toNat (c -g)/\b=b/\c=c/\ai (c -1 -g -1)=c -1 -i/\h++[IntKind.wrap .u8 (de IntKind.i64 b (ai ((8:Int)*(c -1 -g))))]=j/\True) (h=cM a b c/\0=pS b c)):=by
  delta qI wv ae aq aF ai ac;rintro b n w ⟨-,⟨n0,n1⟩,⟨w0,w1⟩,-⟩ hl;rintro b1 rfl;refine⟨aC,aC,?_⟩;rintro b1 rfl;refine⟨aC,aC,?_⟩;rintro b1 rfl;have hpre:(!(bif (bif decide (w<1) then true else decide (7<w)) then true else decide (n<0)))=true->1<=w/\w<=7/\0<=n:=by
   simp[db];omega
  refine⟨aC,λh=>⟨λ_=>h,by have:=hpre h;rw[aQ ab ab];omega,bv⟩,λh=>⟨λ_=>h,λ_=>h,bv⟩,aC,?_⟩;refine av (λhc=>?_) (λhc=>?_)
  .have hbad:nV n w:=by
    unfold nV;by_cases h:1<=w/\w<=7
    .rw[Er h.1 h.2] at hc;simp[db] at hc;omega
    .omega
   rw[cM,pS,am hbad,am hbad];exact⟨rfl,rfl⟩
  .have hw:1<=w/\w<=7/\0<=n:=hpre (by
    cases h:(bif (bif decide (w<1) then true else decide (7<w)) then true else decide (n<0)) with
    | false=>rfl
    | true=>rw[h] at hc;simp at hc)
   obtain⟨h1,h7,hn⟩:=hw;rw[Er h1 h7] at hc;have hgood:¬ nV n w:=by
    unfold nV;simp[db] at hc;omega
   rw[cM,pS,af hgood,af hgood];refine⟨ab,⟨0,b,⟨ab,ab,by simp[j6]⟩,rfl,rfl,by rw[aQ ab ab];omega,rfl,bv⟩,?_⟩;rintro k ys ⟨k0,k1,rfl⟩;refine bt (λhk=>?_) (λhk=>?_)
   .rw[aQ (n:=8*(w-1-k)) ab ab];obtain⟨j,hj⟩:=nH (show 0<=w-1-k by omega);rw[hj,xn hn ab,IntKind.wrap_u8'];have hbl:=RQ n w.toNat k.toNat
    refine⟨ab,by simp only[cD,eU,hbl];omega,k+1,_,⟨ab,ab,rfl⟩,ab,rfl,rfl,by rw[aQ ab ab];omega,?_,bv⟩;rw[show (k+1).toNat=k.toNat+1 from by omega,Qx,iN,show w.toNat-1-k.toNat=j from by omega]
   .rw[show k=w from by omega];exact⟨rfl,rfl⟩
theorem aV5:aD 191 PT.spec:=aH Tryz.func191 aE aV2 aE8
def Tr:Ct:=⟨[.val (.sl bz),.val cI,.val cI],[.own 5 bz],λd=>[(d.1.length:Int)<=1099511627776],λd=>((cM d.1 d.2.1 d.2.2.1,()),())⟩
theorem ag4 :
 ∀(a:ad)(b c:Int),(qI a)/\aj b/\aj c/\True->(ac a)<=1099511627776->(ac a)<=1099511627776/\cM a b c=cM a b c:=by
  delta qI ac;intro b n w _ h;exact⟨h,rfl⟩
theorem yP:aD 139 Tr.spec:=aH Tryz.func139 (au aE aV5) aR ag4
def Mz:Ct:=⟨[.val (.sl bz),.val cI,.val cI],[.val cI,.val cI],λd=>[(d.1.length:Int)<=9223372036854775807],λd=>((cO d.1 d.2.1 d.2.2.1,tq d.1 d.2.1 d.2.2.1,()),())⟩
def al1:bu Mz.ps->bS:=(λd=>{loops:=(bm 7 (λS=>{ι:=Int×Int,qn:=fj,μ:=λi=>(d.2.2.1-i.1).toNat,inv:=λi=>0<=i.1/\i.1<=d.2.2.1/\i.2=dO (((d.1.drop d.2.1.toNat).take d.2.2.1.toNat).take i.1.toNat),keep:=[0,1,2],slots:=λi=>[(8,.int .i64 i.2),(9,.int .i64 i.1)]}) ci)})
theorem TT :
 ∀(a:ad)(b c:Int),(qI a)/\aj b/\aj c/\True->(ac a)<=9223372036854775807-> ∀(d:Bool),d=decide (c<1)->(ae (! d))/\(aF d)/\ ∀(e:Bool),(e=bif d then true else decide (7<c))->(ae (! e))/\(aF e)/\ao (bif e then true else decide (b<0)) (0=cO a b c/\1=tq a b c) (∀(f:Bool),f=decide ((ac a)<b)->(ae (! f))/\(wv f)/\(wv f)/\(aF f)/\ao (bif f then true else decide (ai ((ac a) -b)<c)) (0=cO a b c/\3=tq a b c) ((∃(g:Int) (h:Int),(0<=g/\g<=c/\h=dO (take g.toNat (uY a b c)))/\a=a/\b=b/\c=c/\0=h/\0=g/\True)/\ ∀(g h:Int),0<=g/\g<=c/\h=dO (take g.toNat (uY a b c))->ao (decide (g<c)) ((0:Int)<=8/\0<=ai (b+g)/\ai (b+g)<(ac a)/\ ∃(i:Int) (j:Int),(0<=i/\i<=c/\j=dO (take i.toNat (uY a b c)))/\toNat (c -i)<toNat (c -g)/\a=a/\b=b/\c=c/\bits BinOp.or IntKind.i64 (dX IntKind.i64 h (8:Int)) (ai (ah a (ai (b+g))))=j/\ai (g+1)=i/\True)
 (h=cO a b c/\0=tq a b c))):=by
  delta qI uY wv ae aq aF ai ah ac;rintro b a w ⟨⟨hl0,hx⟩,⟨a0,a1⟩,⟨w0,w1⟩,-⟩ hl;rintro b1 rfl;refine⟨aC,aC,?_⟩;rintro b1 rfl;refine⟨aC,aC,?_⟩;unfold cO tq;refine av (λhc=>?_) (λhc=>?_)
  .have h:w<1∨7<w∨a<0:=by simp[db] at hc;omega
   rw[am ab,am h];exact⟨rfl,rfl⟩
  have h:¬ (w<1∨7<w∨a<0):=by simp[db] at hc;omega
  rintro b1 rfl;refine⟨aC,aC,aC,aC,?_⟩;rw[aQ (n:=(b.length:Int)-a) ab ab,af h];refine av (λhd=>?_) (λhd=>?_)
  .have hd:b.length<a∨b.length-a<w:=by simp[db] at hd;omega
   rw[am ab,am ab];exact⟨rfl,rfl⟩
  have hd:¬ (b.length<a∨b.length-a<w):=by simp[db] at hd;omega
  rw[af ab,af ab];have hlen:((b.drop a.toNat).take w.toNat).length=w.toNat:=by rw[cW,dR];omega
  have hy:∀ y∈(b.drop a.toNat).take w.toNat,0<=y/\y<=255:=λy hy=>hx y (uW (oB hy));have hget:∀ j:Int,0<=j->j<w->b.getD (a+j).toNat default=((b.drop a.toNat).take w.toNat).getD j.toNat default:=by
   intro j j0 j1;rw[ce,ce,ot,am ab,pD];congr 2;omega
  generalize (b.drop a.toNat).take w.toNat=m at *;refine⟨⟨0,0,⟨ab,ab,by simp[dO]⟩,aM⟩,?_⟩;rintro j n ⟨j0,j1,rfl⟩;refine bt (λhj=>?_) (λhj=>?_)
  .have ht:=tW (l:=m) j0 ab;obtain⟨x0,x1⟩:=hy _ (bW (xs:=m) j0 ab);have hb:=Kr (l:=m.take j.toNat) (by rw[cW];omega) (λy h=>hy y (oB h));rw[aQ (n:=a+j) ab ab,hget j j0 hj];refine⟨ab,ab,ab,j+1,_,⟨ab,ab,rfl⟩,ab,rfl,rfl,rfl,?_,aQ ab ab,bv⟩;rw[ht,H6,I8 hb.1 ab x0 x1]
  .rw[dm ab];exact⟨rfl,rfl⟩
theorem av2:aD 193 Mz.spec:=aH Tryz.func193 aE al1 TT
def UQ:Ct:=⟨[.val (.sl bz),.val cI,.val cI],[.val cI],λd=>[(d.1.length:Int)<=9223372036854775807],λd=>((cO d.1 d.2.1 d.2.2.1,()),())⟩
theorem Ud :
 ∀(a:ad)(b c:Int),(qI a)/\aj b/\aj c/\True->(ac a)<=9223372036854775807->(ac a)<=9223372036854775807/\cO a b c=cO a b c:=by
  delta qI ac;intro b n w _ h;exact⟨h,rfl⟩
theorem yw:aD 141 UQ.spec:=aH Tryz.func141 (au aE av2) aR Ud
def aP8:Ct:=⟨[.val cI],[.val .bool],λd=>[],λd=>((cZ d.1,()),())⟩
theorem ae6 :
 ∀(a:Int),aj a/\True->True-> ∀(b:Bool),b=decide (0<=a)->(ae b)/\(aq b)/\(bif b then decide (a<=65535) else false)=cZ a:=by
  delta ae aq;rintro n - -
  (repeat (refine bO ?_;repeat refine bP ?_));unfold cZ;by_cases h:0<=n <;> simp[h]
theorem Zp:aD 233 aP8.spec:=aH Tryz.func233 aE aR ae6
def Xl:Ct:=⟨[.val cI,.val cI],[.val cI],λd=>[],λd=>((if cZ d.1&&cZ d.2.1 then oc (d.1+d.2.1) else 0,()),())⟩
theorem aM2 :
 ∀(a b:Int),aj a/\aj b/\True->True-> ∀(c:Bool),c= ! cZ a->(ae (! c))/\(ae (! c))/\(aF c)/\ao (bif c then true else ! cZ b) (0=if (cZ a&&cZ b)=true then oc (a+b) else (0:Int)) ((0:Int)<=16/\ai (bits BinOp.and IntKind.i64 (ai (a+b)) (65535:Int)+de IntKind.i64 (ai (a+b)) (16:Int))=if (cZ a&&cZ b)=true then oc (a+b) else (0:Int)):=by
  delta ae aF ai;rintro a b - -
  (repeat (refine bO ?_;repeat refine bP ?_));refine av (λhc=>?_) (λhc=>?_)
  .rw[af];intro h;simp at h;simp[h] at hc
  .have hw:cZ a=true/\cZ b=true:=by simpa[db] using hc
   rw[am (by simp[hw])];have ha:0<=a/\a<=65535:=aL hw.1;have hb:0<=b/\b<=65535:=aL hw.2;rw[aQ (n:=a+b) ab ab];have e:=xn (n:=a+b) (k:=2) ab ab;have e2:(8:Int)*((2:Nat):Int)=16:=rfl;have e3:(256:Int)^2=65536:=rfl;rw[e2,e3] at e;rw[e,Ay,aQ ab ab];refine⟨ab,?_⟩;unfold oc;split <;> omega
theorem Qp:aD 192 Xl.spec:=aH Tryz.func192 (au aE Zp) aR aM2
def QD:Ct:=⟨[.val (.sl bz)],[.val cI],λd=>[(d.1.length:Int)<=1099511627776],λd=>((oc (bQ true d.1),()),())⟩
def aP1:bu QD.ps->bS:=(λd=>{loops:=(bm 3 (λS=>{ι:=Int×Int,qn:=fj,μ:=λi=>(d.1.length+1-2*i.1).toNat,inv:=λi=>0<=i.1/\2*i.1<=d.1.length+1/\i.2=oc (bQ true (d.1.take (2*i.1).toNat))/\0<=i.2/\i.2<=65535,keep:=[0],slots:=λi=>[(3,.int .i64 i.2),(4,.int .i64 (2*i.1))]}) ci)})
theorem aK1 :
 ∀(a:ad),(tT a)/\True->(ac a)<=1099511627776->(∃(b:Int) (c:Int),(0<=b/\(2:Int)*b<=(ac a)+1/\c=oc (bQ true (take (toNat ((2:Int)*b)) a))/\0<=c/\c<=65535)/\a=a/\0=c/\(0:Int)=2*b/\True)/\ ∀(b c:Int),0<=b/\(2:Int)*b<=(ac a)+1/\c=oc (bQ true (take (toNat ((2:Int)*b)) a))/\0<=c/\c<=65535->ao (decide ((2:Int)*b<(ac a))) ((0:Int)<=2*b/\(2:Int)*b<(ac a)/\(0:Int)<=8/\ao (decide (ai ((2:Int)*b+1)<(ac a))) (0<=ai ((2:Int)*b+1)/\ai ((2:Int)*b+1)<(ac a)/\ ∃(d:Int) (e:Int),(0<=d/\(2:Int)*d<=(ac a)+1/\e=oc (bQ true (take (toNat ((2:Int)*d)) a))/\0<=e/\e<=65535)/\toNat ((ac a)+1 -2*d)<toNat ((ac a)+1 -2*b)/\a=a/\(if (cZ c&&cZ (ai (dX IntKind.i64 (ai (ah a ((2:Int)*b))) (8:Int)+ai (ah a (ai ((2:Int)*b+1))))))=true then oc (c+ai (dX IntKind.i64 (ai (ah a ((2:Int)*b))) (8:Int)+ai (ah a (ai ((2:Int)*b+1))))) else
 (0:Int))=e/\ai ((2:Int)*b+2)=2*d/\True) (∃(d:Int) (e:Int),(0<=d/\(2:Int)*d<=(ac a)+1/\e=oc (bQ true (take (toNat ((2:Int)*d)) a))/\0<=e/\e<=65535)/\toNat ((ac a)+1 -2*d)<toNat ((ac a)+1 -2*b)/\a=a/\(if (cZ c&&cZ (dX IntKind.i64 (ai (ah a ((2:Int)*b))) (8:Int)))=true then oc (c+dX IntKind.i64 (ai (ah a ((2:Int)*b))) (8:Int)) else (0:Int))=e/\ai ((2:Int)*b+2)=2*d/\True)) (c=oc (bQ true a)):=by
  delta tT ai ah ac;rintro l ⟨⟨-,hx⟩,-⟩ hl;refine⟨⟨0,0,⟨ab,ab,by simp[bQ,oc],ab,ab⟩,aM⟩,?_⟩;rintro k s ⟨k0,k1,rfl,s0,s1⟩;have hr:=zK true (l.take (2*k).toNat) (λy h=>hx y (oB h));refine bt (λhk=>?_) (λhk=>?_)
  .obtain⟨x0,x1⟩:=hx _ (bW (xs:=l) (i:=2*k) ab hk);have ht:=tW (l:=l) (j:=2*k) ab hk;have hlen:(l.take (2*k).toNat).length%2=0:=by rw[cW];omega
   have hs:=AV true (l.take (2*k).toNat);rw[am hlen] at hs;rw[aQ (n:=2*k+1) ab ab,aQ (n:=l.getD (2*k).toNat default) ab ab,IZ x0 ab,aQ (n:=2*k+2) ab ab];refine⟨ab,hk,ab,bt (λhc=>?_) (λhc=>?_)⟩
   .obtain⟨y0,y1⟩:=hx _ (bW (xs:=l) (i:=2*k+1) ab hc);have ht2:=tW (l:=l) (j:=2*k+1) ab hc;rw[ht,iN] at ht2;rw[aQ (n:=l.getD (2*k+1).toNat default) ab ab,aQ (n:=l.getD (2*k).toNat default*256+l.getD (2*k+1).toNat default) ab ab];rw[am (by simp only[cZ,dr,jz];omega),LL hr.1 ab];have he:bQ true (l.take (2*(k+1)).toNat)=bQ true (l.take (2*k).toNat)+(l.getD (2*k).toNat default*256+l.getD (2*k+1).toNat default):=by
     rw[show 2*(k+1)=2*k+1+1 from by omega,ht2,hs];simp[bQ]
    refine⟨ab,hc,k+1,_,⟨ab,ab,rfl,?_,?_⟩,ab,rfl,by rw[he],ab,bv⟩
    .rw[he];exact (vO ab).1
    .rw[he];exact (vO ab).2
   .rw[am (by simp only[cZ,dr,jz];omega),LL hr.1 ab];have he:bQ true (l.take (2*(k+1)).toNat)=bQ true (l.take (2*k).toNat)+l.getD (2*k).toNat default*256:=by
     rw[show l.take (2*(k+1)).toNat=l.take (2*k+1).toNat from by rw[dm ab,dm ab],ht,hs];simp[bQ]
    refine⟨k+1,_,⟨ab,ab,rfl,?_,?_⟩,ab,rfl,by rw[he],ab,bv⟩
    .rw[he];exact (vO ab).1
    .rw[he];exact (vO ab).2
  .rw[dm ab]
theorem Xx:aD 232 QD.spec:=aH Tryz.func232 (au aE Qp) aP1 aK1
def aV7:Ct:=⟨[.val (.sl bz)],[.val cI],λd=>[(d.1.length:Int)<=1099511627776],λd=>((65535-oc (bQ true d.1),()),())⟩
theorem VF :
 ∀(a:ad),(EN a):=by
  delta EN tT ai ac;rintro l ⟨⟨-,hx⟩,-⟩ hl;have:=vO (zK true l hx).1;exact⟨hl,aQ ab ab⟩
theorem Dx:aD 188 aV7.spec:=aH Tryz.func188 (au aE Xx) aR VF
def M3:Ct:=⟨[.val (.sl bz),.val (.sl bz)],[.val .bool],λd=>[],λd=>((decide (d.1=d.2.1),()),())⟩
def ax1:bu M3.ps->bS:=(λd=>{loops:=(bm 4 (λS=>{ι:=Int,μ:=λi=>(d.1.length-i).toNat,inv:=λi=>0<=i/\i<=d.1.length/\d.1.take i.toNat=d.2.1.take i.toNat,keep:=[0,1],slots:=λi=>[(5,.int .i64 i)]}) ci)})
theorem XH :
 ∀(a b:ad),(a.length<=maxLen/\ ∀(c:Int),c∈a->0<=c/\c<=255)/\(b.length<=maxLen/\ ∀(c:Int),c∈b->0<=c/\c<=255)/\True->True->ao (! decide ((ac a)=(ac b))) (false=decide (a=b)) ((∃(c:Int),(0<=c/\c<=(ac a)/\take c.toNat a=take c.toNat b)/\a=a/\b=b/\0=c/\True)/\ ∀(c:Int),0<=c/\c<=(ac a)/\take c.toNat a=take c.toNat b->ao (decide (c<(ac a))) (0<=c/\c<(ac a)/\0<=c/\c<(ac b)/\ao (! decide (ah a c=ah b c)) (false=decide (a=b)) (∃(d:Int),(0<=d/\d<=(ac a)/\take d.toNat a=take d.toNat b)/\toNat ((ac a) -d)<toNat ((ac a) -c)/\a=a/\b=b/\ai (c+1)=d/\True)) (true=decide (a=b))):=by
  delta ai ah ac;rintro l m ⟨⟨hl,-⟩,⟨hm,-⟩,-⟩ -;simp only[maxLen] at hl hm;refine av (λhc=>?_) (λhc=>?_)
  .symm;apply dw;intro h;cases h;simp at hc
  .have hc:l.length=m.length:=by simp at hc;omega
   refine⟨⟨0,⟨ab,ab,aC⟩,aM⟩,?_⟩;rintro i ⟨h0,h1,h2⟩;refine bt (λhi=>?_) (λhi=>?_)
   .refine⟨h0,hi,h0,ab,av (λhq=>?_) (λhq=>?_)⟩
    .symm;apply dw;intro h;cases h;simp at hq
    .simp only[rT,jz] at hq;refine⟨i+1,⟨ab,ab,?_⟩,ab,aM⟩;rw[tW h0 hi,tW h0 ab,h2,hq]
   .rw[dm ab,dm ab] at h2;symm;apply dM;rw[h2]
theorem AK:aD 68 M3.spec:=aH Tryz.func68 aE ax1 XH
abbrev Eo:CT := .pair .bool (.pair cI (.pair cI (.sl bz)))
abbrev LN:CT := .pair cI (.pair cI (.sl bz))
abbrev Hi:CT := .pair cI (.pair cI (.sl bz))
abbrev zg:CT := .pair cI (.pair cI (.pair cI (.pair cI (.pair cI (.pair cI (.sl bz))))))
abbrev m8:Type:=Bool×Int×Int×ad
abbrev pm:Type:=Int×Int×ad
abbrev pZ:Type:=Int×Int×ad
abbrev kV:Type:=Int×Int×Int×Int×Int×Int×ad
def dP(lim:Int)(l:ad):Bool:=l.all λn=>decide (0<=n/\n<=lim)
def w2(n:Int):ad:=[n/256%256,n%256]
def w4(n:Int):ad:=[n/16777216%256,n/65536%256,n/256%256,n%256]
def cX(b:ad):Int:=65535-oc (bQ true b)
def cj(b:ad)(at':Nat)(n:Int):ad:=(b.set at' (n/256%256)).set (at'+1) (n%256)
def aK(b:ad)(at':Nat):Int:=dO ((b.drop at').take 2)
def YV:Ct:=⟨[.val cI,.box 3 cI],[.val .bool],λ_=>[],λd=>((decide (d.1<0∨d.2.1<d.1),()),(d.2.1,()))⟩
theorem aO8 :
 ∀(a b:Int),aj a/\aj b/\True->True-> ∀(c:Bool),c=decide (a<0)->((! c)->(aq (! c))/\(aq (! c))/\True)/\(aF c)/\(bif c then true else decide (b<a))=decide (a<0∨b<a)/\b=b:=by
  delta aq aF;rintro n lim - -;rintro b rfl;refine⟨aC,aC,?_,rfl⟩;rw[db];by_cases h:n<0 <;> simp[h]
theorem am4:aD 259 YV.spec:=aH Tryz.func259 aE aR aO8
def OP:Cn:=⟨[.val (.sl cI),.fn 259 1,.box 3 cI],[.val cI],λ_=>[],λd y=>y.2.1=d.2.2.1 ∧ -1<=y.1.1/\(y.1.1 = -1↔dP d.2.2.1 d.1=true),λd h=>⟨((if dP d.2.2.1 d.1=true then -1 else 0,()),(d.2.2.1,())),rfl,by by_cases h:dP d.2.2.1 d.1=true <;> simp[h]⟩⟩
def Uj:bu OP.ps->bS:=(λd=>{loops:=(bm 2 (λS=>{ι:=Int,μ:=λi=>(d.1.length-i).toNat,inv:=λi=>0<=i/\i<=d.1.length/\dP d.2.2.1 (d.1.take i.toNat)=true,keep:=[0,1,6,7],slots:=λi=>[(8,.int .i64 i)],keepN:=[1048576]}) ci)})
theorem aq2 :
 ∀(a:ad)(b:Int),(a.length<=maxLen/\ ∀(c:Int),c∈a->aj c)/\True/\aj b/\True->True->(∃(c:Int),(0<=c/\c<=(ac a)/\dP b (take c.toNat a)=true)/\a=a/\a=a/\(ac a)=(ac a)/\0=c/\b=b/\True)/\ ∀(c:Int),0<=c/\c<=(ac a)/\dP b (take c.toNat a)=true->ao (decide (c<(ac a))) (0<=c/\c<(ac a)/\ao (decide (ah a c<0∨b<ah a c)) (b=b/\ -1<=c/\(c= -1↔dP b a=true)) (∃(d:Int),(0<=d/\d<=(ac a)/\dP b (take d.toNat a)=true)/\toNat ((ac a) -d)<toNat ((ac a) -c)/\a=a/\a=a/\(ac a)=(ac a)/\ai (c+1)=d/\b=b/\True)) (b=b/\(-1:Int)<= -1/\((-1:Int)= -1↔dP b a=true)):=by
  delta ai ah ac;rintro l lim ⟨⟨hl,-⟩,-⟩ -;simp only[maxLen] at hl;refine⟨⟨0,⟨ab,ab,by simp[dP]⟩,aM⟩,?_⟩;rintro j ⟨j0,j1,j2⟩;refine bt (λhj=>?_) (λhj=>?_)
  .have ht:=tW j0 hj;have hm:=bW (xs:=l) j0 hj;generalize l.getD j.toNat default=x at *;refine⟨j0,hj,bt (λhb=>?_) (λhb=>?_)⟩
   .refine⟨rfl,ab,⟨λh=>ab,λh=>?_⟩⟩;unfold dP at h;have:=aL (List.all_eq_true.1 h x hm);omega
   .refine⟨j+1,⟨ab,ab,?_⟩,ab,aM⟩;rw[ht];unfold dP at j2 ⊢;rw[List.all_append,j2];simp;omega
  .rw[dm ab] at j2;simp[j2]
theorem aD0:aD 278 OP.spec:=nC Tryz.func278 (au aE am4) Uj aq2
def aR1:Ct:=⟨[.val (.sl cI),.fn 259 1,.box 3 cI],[.val .bool],λ_=>[],λd=>((!dP d.2.2.1 d.1,()),(d.2.2.1,()))⟩
theorem XJ :
 ∀(a:ad)(b:Int),(a.length<=maxLen/\ ∀(c:Int),c∈a->aj c)/\True/\aj b/\True->True-> ∀(c d:Int),d=b/\ -1<=c/\(c= -1↔dP b a=true)->decide (0<=c)= ! dP b a/\d=b:=by
  rintro l lim - - i b ⟨rfl,h1,h2⟩;refine⟨?_,rfl⟩;cases h:dP b l with
  | true=>rw[h2.2 h];rfl
  | false =>
   have:¬ i = -1:=λe=>by rw[h2.1 e] at h;cases h
   simp;omega
theorem Xk:aD 258 aR1.spec:=aH Tryz.func258 (au aE aD0) aR XJ
def Xu:Ct:=⟨[.val cI,.val (.sl cI)],[.val .bool],λ_=>[],λd=>((dP d.1 d.2.1,()),())⟩
theorem Tm :
 ∀(a:Int)(b:ad),aj a/\(b.length<=maxLen/\ ∀(c:Int),c∈b->aj c)/\True->True->(!! dP a b)=dP a b:=by
  rintro lim l - -;simp
theorem BZ:aD 237 Xu.spec:=aH Tryz.func237 (au aE Xk) aR Tm
theorem Wl(l:ad):(l.flatMap w2).length=2*l.length:=by
 induction l with
 | nil=>rfl
 | cons x l ih=>rw[List.flatMap_cons,cD,ih,cQ];simp[w2];omega
theorem YY(n:Int):j6 n 2 2=w2 n:=by
 simp[j6,w2,range,List.range.loop]
theorem Wz(n:Int):j6 n 4 4=w4 n:=by
 simp[j6,w4,range,List.range.loop]
theorem ah0(n:Int):j6 n 1 1=[n%256]:=by
 simp[j6,range,List.range.loop]
theorem jG{b:ad}{n:Int}(h0:0<=n)(h1:n<=65535):cM b n 2=b++w2 n:=by
 rw[cM,af,← YY]
 .rfl
 .unfold nV;have:(256:Int)^(2:Int).toNat=65536:=rfl;rw[this];omega
theorem vo{b:ad}{n:Int}(h0:0<=n)(h1:n<=4294967295):cM b n 4=b++w4 n:=by
 rw[cM,af,← Wz]
 .rfl
 .unfold nV;have:(256:Int)^(4:Int).toNat=4294967296:=rfl;rw[this];omega
theorem sk{b:ad}{n:Int}(h0:0<=n)(h1:n<=255):cM b n 1=b++[n]:=by
 rw[cM,af,show j6 n (1:Int).toNat (1:Int).toNat=[n] from by
  have:=ah0 n;rw[Int.emod_eq_of_lt h0 ab] at this;exact this]
 unfold nV
 have:(256:Int)^(1:Int).toNat=256:=rfl
 rw[this];omega
def Lh:Ct:=⟨[.nils,.val (.sl cI)],[.own 5 bz],λd=>[dP 65535 d.2.1=true,(d.2.1.length:Int)<=1073741824],λd=>((d.2.1.flatMap w2,()),())⟩
def XG:bu Lh.ps->bS:=(λd=>{loops:=(bm 2 (λS=>{ι:=Int×ad,qn:=fj,μ:=λi=>(d.2.1.length-i.1).toNat,inv:=λi=>0<=i.1/\i.1<=d.2.1.length/\i.2=(d.2.1.take i.1.toNat).flatMap w2,keep:=[7,8],slots:=λi=>[(0,.own 524288 1),(9,.int .i64 i.1)],names:=λi=>[(524288,.live (.row 5 bz i.2))]}) ci)})
theorem aI7 :
 ∀(a:ad),True/\(a.length<=maxLen/\ ∀(b:Int),b∈a->aj b)/\True->dP (65535:Int) a=true/\(ac a)<=1073741824->(∃(b:Int) (c:ad),(0<=b/\b<=(ac a)/\c=List.flatMap w2 (take b.toNat a))/\a=a/\(ac a)=(ac a)/\0=b/\c=([]:ad)/\True)/\ ∀(b:Int)(c:ad),0<=b/\b<=(ac a)/\c=List.flatMap w2 (take b.toNat a)->ao (decide (b<(ac a))) (0<=b/\b<(ac a)/\(ac c)<=1099511627776/\ ∃(d:Int) (e:ad),(0<=d/\d<=(ac a)/\e=List.flatMap w2 (take d.toNat a))/\toNat ((ac a) -d)<toNat ((ac a) -b)/\a=a/\(ac a)=(ac a)/\ai (b+1)=d/\cM c (ah a b) (2:Int)=e/\True) (c=List.flatMap w2 a):=by
  delta ai ah ac;rintro l ⟨-,⟨hl,-⟩,-⟩⟨ha,hk⟩;refine⟨⟨0,[],⟨ab,ab,aC⟩,aM⟩,?_⟩;rintro j ys ⟨j0,j1,rfl⟩;refine bt (λhj=>?_) (λhj=>?_)
  .have ht:=tW j0 hj;have hm:=bW (xs:=l) j0 hj;have hlen:((l.take j.toNat).flatMap w2).length=2*j.toNat:=by
    rw[Wl,cW];omega
   generalize l.getD j.toNat default=x at *;have hx:=aL (List.all_eq_true.1 ha x hm);refine⟨j0,hj,ab,j+1,_,⟨ab,ab,rfl⟩,ab,rfl,rfl,aQ ab ab,?_,bv⟩;rw[ht,List.flatMap_append,jG hx.1 hx.2];simp
  .rw[dm ab]
theorem CX:aD 238 Lh.spec:=aH Tryz.func238 (au aE Rl) XG aI7
def XF:Ct:=⟨[.val (.sl bz),.val cI],[.val cI],λd=>[0<=d.2.1,d.2.1+2<=d.1.length,(d.1.length:Int)<=1099511627776],λd=>((aK d.1 d.2.1.toNat,()),())⟩
theorem aL4 :
 ∀(a:ad)(b:Int),(a.length<=maxLen/\ ∀(c:Int),c∈a->0<=c/\c<=255)/\aj b/\True->0<=b/\b+2<=(ac a)/\(ac a)<=1099511627776->(ac a)<=9223372036854775807/\cO a b (2:Int)=aK a b.toNat:=by
  delta ac;rintro b a-⟨h0,h1,h2⟩;refine⟨ab,?_⟩;rw[cO,af ab];rfl
theorem Ea:aD 207 XF.spec:=aH Tryz.func207 (au aE F2) aR aL4
theorem I2{n:Int}(h0:0<=n):de .i64 n 8=n/256:=by
 have e:=xn (n:=n) (k:=1) h0 (by omega)
 exact e
def ai3:Ct:=⟨[.val (.sl bz),.val cI,.val cI],[.own 5 bz],λd=>[0<=d.2.1,d.2.1+2<=d.1.length,(d.1.length:Int)<=1099511627776,0<=d.2.2.1,d.2.2.1<=65535],λd=>((cj d.1 d.2.1.toNat d.2.2.1,()),())⟩
def DB(a:ad)(b c:Int) :=
 (0:Int)<=8/\0<=b/\b<(ac a)/\0<=ai (b+1)/\ai (b+1)<((length (set a b.toNat (IntKind.wrap .u8 (de IntKind.i64 c (8:Int))))):Int)/\set (set a b.toNat (IntKind.wrap .u8 (de IntKind.i64 c (8:Int)))) (toNat (ai (b+1))) (IntKind.wrap .u8 c)=cj a b.toNat c
theorem ac2 :
 ∀(a:ad)(b c:Int),(a.length<=maxLen/\ ∀(d:Int),d∈a->0<=d/\d<=255)/\aj b/\aj c/\True->0<=b/\b+2<=(ac a)/\(ac a)<=1099511627776/\0<=c/\c<=65535->(ac a)<=1099511627776/\(DB a b c):=by
  delta DB ai ac;rintro b a n-⟨h0,h1,h2,n0,n1⟩;rw[aQ (n:=a+1) ab ab,I2 n0,IntKind.wrap_u8',IntKind.wrap_u8',fV];refine⟨ab,ab,ab,ab,ab,ab,?_⟩;rw[cj,show (a+1).toNat=a.toNat+1 from by omega]
theorem QA:aD 236 ai3.spec:=aH Tryz.func236 (au aE sZ) aR ac2
def aa8:Ct:=⟨[.val (.sl bz),.val cI,.val cI],[.own 5 bz,.val cI],λd=>[0<=d.2.1,d.2.1+2<=d.1.length,(d.1.length:Int)<=1099511627776,0<=d.2.2.1,d.2.2.1<=65535],λd=>((if (1480:Int)<d.1.length then [] else cj d.1 d.2.1.toNat d.2.2.1,if (1480:Int)<d.1.length then 5 else 0,()),())⟩
theorem as9 :
 ∀(a:ad)(b c:Int),(a.length<=maxLen/\ ∀(d:Int),d∈a->0<=d/\d<=255)/\aj b/\aj c/\True->0<=b/\b+2<=(ac a)/\(ac a)<=1099511627776/\0<=c/\c<=65535->ao (decide (1480<(ac a))) ((([]:ad)=if 1480<(ac a) then ([]:ad) else cj a b.toNat c)/\5=if 1480<(ac a) then (5:Int) else (0:Int)) (0<=b/\b+2<=(ac a)/\(ac a)<=1099511627776/\0<=c/\c<=65535/\(cj a b.toNat c=if 1480<(ac a) then ([]:ad) else cj a b.toNat c)/\0=if 1480<(ac a) then (5:Int) else (0:Int)):=by
  delta ac;rintro b a n-⟨h0,h1,h2,n0,n1⟩;refine bt (λhb=>?_) (λhb=>?_)
  .rw[am hb,am hb];exact⟨rfl,rfl⟩
  .rw[af hb,af hb];exact⟨h0,h1,h2,n0,n1,rfl,rfl⟩
theorem Jw:aD 279 aa8.spec:=aH Tryz.func279 (au aE QA) aR as9
def Tg:Ct:=⟨[.val (.sl bz),.val cI],[.own 5 bz,.val cI],λd=>[0<=d.2.1,d.2.1+2<=d.1.length,(d.1.length:Int)<=1099511627776],λd=>((cj d.1 d.2.1.toNat 0,aK d.1 d.2.1.toNat,()),())⟩
theorem aY7 :
 ∀(a:ad)(b:Int),(a.length<=maxLen/\ ∀(c:Int),c∈a->0<=c/\c<=255)/\aj b/\True->0<=b/\b+2<=(ac a)/\(ac a)<=1099511627776->0<=b/\b+2<=(ac a)/\(ac a)<=1099511627776/\(0:Int)<=0/\(0:Int)<=65535/\0<=b/\b+2<=(ac a)/\(ac a)<=1099511627776/\cj a b.toNat (0:Int)=cj a b.toNat (0:Int)/\aK a b.toNat=aK a b.toNat:=by
  delta ac;rintro b a-⟨h0,h1,h2⟩;exact⟨h0,h1,h2,ab,ab,h0,h1,h2,rfl,rfl⟩
theorem FX:aD 206 Tg.spec:=aH Tryz.func206 (au (au aE QA) Ea) aR aY7
def aV3:Ct:=⟨[.val (.sl bz),.val cI,.val cI],[.own 5 bz],λd=>[0<=d.2.1,d.2.1+2<=d.1.length,(d.1.length:Int)<=1099511627776,0<=d.2.2.1,d.2.2.1<=65535],λd=>((cj d.1 d.2.1.toNat d.2.2.1,()),())⟩
def ky :=
 (140737488355328:Nat)
theorem aE1 :
 ∀(a:ad)(b c:Int),(a.length<=maxLen/\ ∀(d:Int),d∈a->0<=d/\d<=255)/\aj b/\aj c/\True->0<=b/\b+2<=(ac a)/\(ac a)<=1099511627776/\0<=c/\c<=65535->a.length*(1:Nat)<=(ky)/\(DB a b c):=by
  delta DB ky ai ac;rintro b a n-⟨h0,h1,h2,n0,n1⟩;rw[aQ (n:=a+1) ab ab,I2 n0,IntKind.wrap_u8',IntKind.wrap_u8',fV];refine⟨ab,ab,ab,ab,ab,ab,?_⟩;rw[cj,show (a+1).toNat=a.toNat+1 from by omega]
theorem Cb:aD 190 aV3.spec:=aH Tryz.func190 aE aR aE1
def Ur:Ct:=⟨[.val cI],[.val .bool],λd=>[],λd=>((cZ d.1,()),())⟩
theorem Tb :
 ∀(a:Int),aj a/\True->True-> ∀(b:Bool),b=decide (0<=a)->(ae b)/\(aq b)/\(bif b then decide (a<=65535) else false)=cZ a:=by
  delta ae aq;rintro n - -
  (repeat (refine bO ?_;repeat refine bP ?_));unfold cZ;by_cases h:0<=n <;> simp[h] <;> omega
theorem HN:aD 189 Ur.spec:=aH Tryz.func189 aE aR Tb
def ax9:Ct:=⟨[.val cI],[.val .bool],λd=>[],λd=>((decide (0<=d.1/\d.1<=255),()),())⟩
theorem ae9 :
 ∀(a:Int),aj a/\True->True-> ∀(b:Bool),b=decide (0<=a)->(ae b)/\(aq b)/\(bif b then decide (a<=255) else false)=decide (0<=a/\a<=255):=by
  delta ae aq;rintro n - -
  (repeat (refine bO ?_;repeat refine bP ?_));by_cases h:0<=n <;> simp[h] <;> omega
theorem IS:aD 194 ax9.spec:=aH Tryz.func194 aE aR ae9
def aI4:Ct:=⟨[.val cI],[.val .bool],λd=>[],λd=>((decide (0<=d.1/\d.1<=4294967295),()),())⟩
theorem Tp :
 ∀(a:Int),aj a/\True->True-> ∀(b:Bool),b=decide (0<=a)->(ae b)/\(aq b)/\(bif b then decide (a<4294967296) else false)=decide (0<=a/\a<=4294967295):=by
  delta ae aq;rintro n - -
  (repeat (refine bO ?_;repeat refine bP ?_));by_cases h:0<=n <;> simp[h] <;> omega
theorem Ty:aD 195 aI4.spec:=aH Tryz.func195 aE aR Tp
def jF(e:m8):Int:=if ¬ (cZ e.2.1=true/\cZ e.2.2.1=true) then 1 else if (1472:Int)<e.2.2.2.length then 5 else 0
def cN(e:m8):ad:=[if e.1 then 0 else 8,0,0,0]++(w2 e.2.1++(w2 e.2.2.1++e.2.2.2))
def fh(e:m8):ad:=if jF e=0 then cj (cN e) 2 (cX (cN e)) else []
def ix(n:pm):Int:=if ¬ ((n.1=3∨n.1=11)/\0<=n.2.1/\n.2.1<=255) then 1 else if (n.2.2.length:Int)<28 then 3 else if (1472:Int)<n.2.2.length then 5 else 0
def kX(n:pm):ad:=[n.1,n.2.1,0,0,0,0,0,0]++n.2.2
def gN(n:pm):ad:=if ix n=0 then cj (kX n) 2 (cX (kX n)) else []
def w8(src dst proto:Int)(b:ad):ad:=w4 src++(w4 dst++(w2 proto++(w2 b.length++b)))
def fB(src dst proto:Int)(b:ad):Int:=if ¬ (0<=proto/\proto<=255)∨(65535:Int)<b.length then 0 else cX (w8 src dst proto b)
def jO(src dst:Int)(b:ad):Int:=if fB src dst 17 b=0 then 65535 else fB src dst 17 b
def mV(u:pZ):Int:=if ¬ (cZ u.1=true/\cZ u.2.1=true) then 1 else if (1472:Int)<u.2.2.length then 5 else 0
def fx(u:pZ):ad:=w2 u.1++(w2 u.2.1++(w2 (8+u.2.2.length)++([0,0]++u.2.2)))
def kC(src dst:Int)(u:pZ):ad:=if mV u=0 then cj (fx u) 6 (jO src dst (fx u)) else []
def nM(s:kV):Prop:=cZ s.1=true/\cZ s.2.1=true/\(0<=s.2.2.1/\s.2.2.1<=4294967295)/\(0<=s.2.2.2.1/\s.2.2.2.1<=4294967295)/\(0<=s.2.2.2.2.1/\s.2.2.2.2.1<=255)/\cZ s.2.2.2.2.2.1=true
instance (s:kV):Decidable (nM s):=by unfold nM;infer_instance
def j8(s:kV):Int:=if ¬ nM s then 1 else if (1460:Int)<s.2.2.2.2.2.2.length then 5 else 0
def jD(s:kV):ad:=w2 s.1++(w2 s.2.1++(w4 s.2.2.1++(w4 s.2.2.2.1++([80,s.2.2.2.2.1]++(w2 s.2.2.2.2.2.1++([0,0,0,0]++s.2.2.2.2.2.2))))))
def eV(src dst:Int)(s:kV):ad:=if j8 s=0 then cj (jD s) 16 (fB src dst 6 (jD s)) else []
def bytes(l:ad):Prop:=∀ x∈l,0<=x/\x<=255
theorem iS{a b:ad}(ha:bytes a)(hb:bytes b):bytes (a++b):=λx h=>(dH.1 h).elim (ha x) (hb x)
theorem lU(n:Int):bytes (w2 n):=by intro x h;simp[w2] at h;omega
theorem zl(n:Int):bytes (w4 n):=by intro x h;simp[w4] at h;omega
theorem mG{a:Int}{l:ad}(h0:0<=a)(h1:a<=255)(h:bytes l):bytes (a::l):=by
 intro x hx
 rcases dj.1 hx with rfl|hx
 .exact⟨h0,h1⟩
 .exact h x hx
theorem nh:bytes []:=by intro x h;cases h
theorem nR{b:ad}(h:bytes b):0<=cX b/\cX b<=65535:=by
 have:=vO (zK true b h).1
 unfold cX;omega
theorem D1{p data B enc:ad}{a c err:Int}(hp:p++data=B)(ha:0<=a)(h8:a+2<=p.length)(hp1:p.length<=100)(hd:(data.length:Int)<=1073741824)(c0:0<=c)(c1:c<=65535)
  (he:enc=if (1480:Int)<B.length then [] else cj B a.toNat c) (hr:err=if (1480:Int)<B.length then 5 else 0) :
  0<=a/\a+2<=((p++data).length:Int)/\((p++data).length:Int)<=1099511627776/\0<=c/\c<=65535/\(if (1480:Int)<((p++data).length:Int) then [] else cj (p++data) a.toNat c)=enc/\(if (1480:Int)<((p++data).length:Int) then (5:Int) else 0)=err:=by
 have hl:(p++data).length=p.length+data.length:=cD
 rw[hp] at hl ⊢
 exact⟨ha,ab,ab,c0,c1,he.symm,hr.symm⟩
theorem m5{p data:ad}(hp1:p.length<=100)(hd:(data.length:Int)<=1073741824):(p.length+data.length)*1<=140737488355328/\((p++data).length:Int)<=1099511627776:=by
 rw[cD];omega
theorem EQ(lim a b:Int):dP lim [a,b]=true↔(0<=a/\a<=lim)/\0<=b/\b<=lim:=by simp[dP]
theorem xw(lim a:Int):dP lim [a]=true↔0<=a/\a<=lim:=by simp[dP]
theorem hT(n:Int):cZ n=true↔0<=n/\n<=65535:=by simp[cZ]
theorem A4(e:m8):(cN e).length=8+e.2.2.2.length:=by simp[cN,w2];omega
theorem Ks{e:m8}(h:¬ (cZ e.2.1=true/\cZ e.2.2.1=true)):[]=fh e/\1=jF e:=by
 have:jF e=1:=by rw[jF,am h]
 rw[fh,this];simp
theorem Im{e:m8}(h:cZ e.2.1=true/\cZ e.2.2.1=true):(fh e=if (1480:Int)<(cN e).length then [] else cj (cN e) 2 (cX (cN e)))/\jF e=if (1480:Int)<(cN e).length then 5 else 0:=by
 have hl:=A4 e
 have he:jF e=if (1480:Int)<(cN e).length then 5 else 0:=by
  rw[jF,af (λk=>k h)];by_cases hd:(1472:Int)<e.2.2.2.length
  .rw[am hd,am ab]
  .rw[af hd,af ab]
 refine⟨?_,he⟩
 rw[fh,he]
 by_cases hd:(1480:Int)<(cN e).length
 .rw[am hd,am hd];rfl
 .rw[af hd,af hd];rfl
theorem wK{e:m8}(h:bytes e.2.2.2):bytes (cN e):=by
 refine iS (mG ?_ ?_ (mG ab ab (mG ab ab (mG ab ab nh)))) (iS (lU _) (iS (lU _) h))
 .split <;> omega
 .split <;> omega
theorem Ma(n:Int)(r:ad):w2 (n/65536)++(w2 (n%65536)++r)=w4 n++r:=by
 unfold w2 w4
 simp only[jS,pH]
 have e1:n/65536/256%256=n/16777216%256:=ab
 have e2:n%65536/256%256=n/256%256:=ab
 have e3:n%65536%256=n%256:=ab
 rw[e1,e2,e3]
theorem qJ{t k:Int}(t0:0<=t)(t1:t<=255)(k0:0<=k)(k1:k<=255):w2 (t*256+k)=[t,k]:=by
 unfold w2
 have e1:(t*256+k)/256%256=t:=ab
 have e2:(t*256+k)%256=k:=ab
 rw[e1,e2]
theorem Pc{n x:Int}(h0:0<=n)(h1:n<=65535)(h2:0<=x)(h3:x<=255):bits .or .i64 (dX .i64 n 8) x=n*256+x:=by
 have:=I8 h0 ab h2 h3
 rwa [aQ (n:=x) ab ab] at this
theorem IE{n:Int}(h0:0<=n):de .i64 n 16=n/65536:=by
 have e:=xn (n:=n) (k:=2) h0 (by omega)
 exact e
theorem R4{n:Int}(h0:0<=n)(h1:n<=4294967295):IntKind.wrap .i64 (de .u32 n 16)=n/65536:=by
 have:de .u32 n 16=n/65536:=by
  unfold de;rw[zm _ bi];rfl
 rw[this,aQ ab ab]
theorem MK{n:Int}(h0:0<=n)(h1:n<=4294967295):IntKind.wrap .i64 (bits .and .u32 n 65535)=n%65536:=by
 rw[u32_and n 65535 h0 ab bi bi]
 have:(n.toNat &&& toNat 65535)=n.toNat%65536:=yd n.toNat 16
 rw[this,aQ ab ab];omega
theorem CZ(e:pm):(kX e).length=8+e.2.2.length:=by simp[kX];omega
theorem Jc{e:pm}(h:¬ ((e.1=3∨e.1=11)/\0<=e.2.1/\e.2.1<=255)):[]=gN e/\1=ix e:=by
 have:ix e=1:=by rw[ix,am h]
 rw[gN,this];simp
theorem Mh{e:pm}(h:(e.1=3∨e.1=11)/\0<=e.2.1/\e.2.1<=255)(h2:(e.2.2.length:Int)<28):[]=gN e/\3=ix e:=by
 have:ix e=3:=by rw[ix,af (λk=>k h),am h2]
 rw[gN,this];simp
theorem KA{e:pm}(h:(e.1=3∨e.1=11)/\0<=e.2.1/\e.2.1<=255)(h2:¬ (e.2.2.length:Int)<28):(gN e=if (1480:Int)<(kX e).length then [] else cj (kX e) 2 (cX (kX e)))/\ix e=if (1480:Int)<(kX e).length then 5 else 0:=by
 have hl:=CZ e
 have he:ix e=if (1480:Int)<(kX e).length then 5 else 0:=by
  rw[ix,af (λk=>k h),af h2];by_cases hd:(1472:Int)<e.2.2.length
  .rw[am hd,am ab]
  .rw[af hd,af ab]
 refine⟨?_,he⟩
 rw[gN,he]
 by_cases hd:(1480:Int)<(kX e).length
 .rw[am hd,am hd];rfl
 .rw[af hd,af hd];rfl
theorem B5{e:pm}(h:(e.1=3∨e.1=11)/\0<=e.2.1/\e.2.1<=255)(hd:bytes e.2.2):bytes (kX e):=by
 refine iS (mG ab ab (mG h.2.1 h.2.2 ?_)) hd
 intro x hx;simp at hx;omega
theorem H4(e:pZ):(fx e).length=8+e.2.2.length:=by simp[fx,w2];omega
theorem aK0{a b:Int}{e:pZ}(h:¬ (cZ e.1=true/\cZ e.2.1=true)):[]=kC a b e/\1=mV e:=by
 have:mV e=1:=by rw[mV,am h]
 rw[kC,this];simp
theorem KZ{a b:Int}{e:pZ}(h:cZ e.1=true/\cZ e.2.1=true):(kC a b e=if (1480:Int)<(fx e).length then [] else cj (fx e) 6 (jO a b (fx e)))/\mV e=if (1480:Int)<(fx e).length then 5 else 0:=by
 have hl:=H4 e
 have he:mV e=if (1480:Int)<(fx e).length then 5 else 0:=by
  rw[mV,af (λk=>k h)];by_cases hd:(1472:Int)<e.2.2.length
  .rw[am hd,am ab]
  .rw[af hd,af ab]
 refine⟨?_,he⟩
 rw[kC,he]
 by_cases hd:(1480:Int)<(fx e).length
 .rw[am hd,am hd];rfl
 .rw[af hd,af hd];rfl
theorem BN{e:pZ}(h:bytes e.2.2):bytes (fx e) :=
 iS (lU _) (iS (lU _) (iS (lU _) (iS (mG ab ab (mG ab ab nh)) h)))
theorem we(e:kV):(jD e).length=20+e.2.2.2.2.2.2.length:=by simp[jD,w2,w4];omega
theorem Dp{a b:Int}{e:kV}(h:¬ nM e):[]=eV a b e/\1=j8 e:=by
 have:j8 e=1:=by rw[j8,am h]
 rw[eV,this];simp
theorem HO{a b:Int}{e:kV}(h:nM e):(eV a b e=if (1480:Int)<(jD e).length then [] else cj (jD e) 16 (fB a b 6 (jD e)))/\j8 e=if (1480:Int)<(jD e).length then 5 else 0:=by
 have hl:=we e
 have he:j8 e=if (1480:Int)<(jD e).length then 5 else 0:=by
  rw[j8,af (λk=>k h)];by_cases hd:(1460:Int)<e.2.2.2.2.2.2.length
  .rw[am hd,am ab]
  .rw[af hd,af ab]
 refine⟨?_,he⟩
 rw[eV,he]
 by_cases hd:(1480:Int)<(jD e).length
 .rw[am hd,am hd];rfl
 .rw[af hd,af hd];rfl
theorem xQ{e:kV}(h:nM e)(hd:bytes e.2.2.2.2.2.2):bytes (jD e):=by
 obtain⟨-,-,-,-,hf,-⟩:=h
 refine iS (lU _) (iS (lU _) (iS (zl _) (iS (zl _) (iS (mG ab ab (mG hf.1 hf.2 nh)) (iS (lU _) (iS ?_ hd))))))
 intro x hx;simp at hx;omega
theorem aM3{a b p:Int}{l:ad}(h:bytes l):bytes (w8 a b p l):=iS (zl _) (iS (zl _) (iS (lU _) (iS (lU _) h)))
theorem xt{a b p:Int}{l:ad}(h:bytes l):0<=fB a b p l/\fB a b p l<=65535:=by
 unfold fB;split
 .omega
 .exact nR (aM3 h)
theorem Fv{a b:Int}{l:ad}(h:bytes l):0<=jO a b l/\jO a b l<=65535:=by
 have:=xt (a:=a) (b:=b) (p:=17) h
 unfold jO;split <;> omega
theorem Bp{err n:Int}(h:err=if (1480:Int)<n then 5 else 0)(hn:¬ (1480:Int)<n):0=err:=by rw[h,af hn]
def Xq:Ct:=⟨[.agg Eo],[.own 5 bz,.val cI],λd=>[(d.1.2.2.2.length:Int)<=1073741824],λd=>((fh d.1,jF d.1,()),())⟩
def FI(a:Bool)(b c:Int)(d e:ad) :=
 (e.length+d.length)*(1:Nat)<=(ky)/\((length (e++d)):Int)<=1099511627776/\ ∀(f:Int),f=65535 -oc (bQ true (e++d))->(0:Int)<=2/\(2:Int)+2<=((length (e++d)):Int)/\((length (e++d)):Int)<=1099511627776/\0<=f/\f<=65535/\(if 1480<((length (e++d)):Int) then ([]:ad) else cj (e++d) (toNat 2) f)=fh (a,b,c,d)/\(if 1480<((length (e++d)):Int) then (5:Int) else (0:Int))=jF (a,b,c,d)
def u5(d:ad) :=
 d.length<=maxLen/\ ∀(e:Int),e∈d->0<=e/\e<=255
theorem ag9 :
 ∀(a:Bool)(b c:Int)(d:ad),(True/\aj b/\aj c/\(u5 d))/\True->(ac d)<=1073741824->ao (! dP (65535:Int) [b,c]) (([]:ad)=fh (a,b,c,d)/\1=jF (a,b,c,d)) (ao a ((0:Int)<=8/\dP (65535:Int) [dX IntKind.i64 (0:Int) (8:Int),(0:Int),b,c]=true/\((length [dX IntKind.i64 (0:Int) (8:Int),(0:Int),b,c]):Int)<=1073741824/\ ∀(e:ad),e=List.flatMap w2 [dX IntKind.i64 (0:Int) (8:Int),(0:Int),b,c]->(FI a b c d e)) ((0:Int)<=8/\dP (65535:Int) [dX IntKind.i64 (8:Int) (8:Int),(0:Int),b,c]=true/\((length [dX IntKind.i64 (8:Int) (8:Int),(0:Int),b,c]):Int)<=1073741824/\ ∀(e:ad),e=List.flatMap w2 [dX IntKind.i64 (8:Int) (8:Int),(0:Int),b,c]->(FI a b c d e))):=by
  delta FI ky u5 ac;rintro r i q data ⟨⟨-,-,-,-,hd⟩,-⟩ hl;refine av (λh=>?_) (λh=>?_)
  .apply Ks;simp only[oX,← Bool.not_eq_true,EQ] at h;simp only[hT];exact h
  have hw:cZ i=true/\cZ q=true:=by
   simp only[rT,EQ] at h;simp only[hT];exact h
  have hw':=hw;simp only[hT] at hw';obtain⟨e1,e2⟩:=Im (e:=(r,i,q,data)) hw;have hB:=nR (wK (e:=(r,i,q,data)) hd);cases r with
  | true =>
   refine av (λ_=>?_) (λhr=>by cases hr);refine⟨ab,by rw[show dX .i64 0 8=0 from by decide];simp[dP];omega,aC,?_⟩;intro p hpe;have hp8:p.length=8:=by rw[hpe];simp[w2]
   have hp:p++data=cN (true,i,q,data):=by
    rw[hpe,show dX .i64 0 8=0 from by decide];simp[w2,cN]
   refine⟨(m5 ab hl).1,(m5 ab hl).2,?_⟩;intro c hc;have hc:c=cX (cN (true,i,q,data)):=by rw[hc,hp];rfl
   exact D1 (a:=2) hp ab ab ab hl (by rw[hc];exact hB.1) (by rw[hc];exact hB.2) (by rw[hc];exact e1) e2
  | false =>
   refine av (λhr=>by cases hr) (λ_=>?_);refine⟨ab,by rw[show dX .i64 8 8=2048 from by decide];simp[dP];omega,aC,?_⟩;intro p hpe;have hp8:p.length=8:=by rw[hpe];simp[w2]
   have hp:p++data=cN (false,i,q,data):=by
    rw[hpe,show dX .i64 8 8=2048 from by decide];simp[w2,cN]
   refine⟨(m5 ab hl).1,(m5 ab hl).2,?_⟩;intro c hc;have hc:c=cX (cN (false,i,q,data)):=by rw[hc,hp];rfl
   exact D1 (a:=2) hp ab ab ab hl (by rw[hc];exact hB.1) (by rw[hc];exact hB.2) (by rw[hc];exact e1) e2
theorem aN2:aD 264 Xq.spec:=aH Tryz.func264 (au (au (au (au aE BZ) (Ct.named CX)) (Ct.named zJ)) Jw) aR ag9
def ah1:Ct:=⟨[.agg Eo],[.own 5 bz,.val cI],λd=>[(d.1.2.2.2.length:Int)<=1073741824],λd=>((fh d.1,jF d.1,()),())⟩
def Ho(a:Bool)(b c:Int)(d f:ad) :=
 (ac f)<=1099511627776/\ ∀(g:ad),g=cM f c (2:Int)->(g.length+d.length)*(1:Nat)<=(ky)/\((length (g++d)):Int)<=1099511627776/\ ∀(h:Int),h=65535 -oc (bQ true (g++d))->(0:Int)<=2/\(2:Int)+2<=((length (g++d)):Int)/\((length (g++d)):Int)<=1099511627776/\0<=h/\h<=65535/\cj (g++d) (toNat 2) h=fh (a,b,c,d)/\0=jF (a,b,c,d)
theorem WS :
 ∀(a:Bool)(b c:Int)(d:ad),(True/\aj b/\aj c/\(u5 d))/\True->(ac d)<=1073741824-> ∀(e:Bool),e= ! cZ b->(ae (! e))/\(ae (! e))/\(ae (! e))/\(aF e)/\ao (bif e then true else ! cZ c) (([]:ad)=fh (a,b,c,d)/\1=jF (a,b,c,d)) (ao (decide (1480<ai ((ac d)+8))) (([]:ad)=fh (a,b,c,d)/\5=jF (a,b,c,d)) (ao a (((length [IntKind.wrap .u8 (0:Int),(0:Int),(0:Int),(0:Int)]):Int)<=1099511627776/\ ∀(f:ad),f=cM [IntKind.wrap .u8 (0:Int),(0:Int),(0:Int),(0:Int)] b (2:Int)->(Ho a b c d f)) (((length [IntKind.wrap .u8 (8:Int),(0:Int),(0:Int),(0:Int)]):Int)<=1099511627776/\ ∀(f:ad),f=cM [IntKind.wrap .u8 (8:Int),(0:Int),(0:Int),(0:Int)] b (2:Int)->(Ho a b c d f)))):=by
  delta Ho ky u5 ae aF ai ac;rintro r i q data ⟨⟨-,-,-,-,hd⟩,-⟩ hl;rintro b rfl;refine⟨aC,aC,aC,aC,?_⟩;rw[aQ (n:=(data.length:Int)+8) ab ab];refine av (λh=>?_) (λh=>?_)
  .apply Ks;rintro⟨h1,h2⟩;simp at h1 h2;simp[h1,h2] at h
  have hw:cZ i=true/\cZ q=true:=by
   simp[db] at h;exact h
  have hw':=hw;simp only[hT] at hw';obtain⟨e1,e2⟩:=Im (e:=(r,i,q,data)) hw;have hB:=nR (wK (e:=(r,i,q,data)) hd);have hbl:=A4 (r,i,q,data);refine av (λh5=>?_) (λh5=>?_)
  .have h5:=aL h5;rw[e1,e2,am (by simp only at hbl;omega),am (by simp only at hbl;omega)];exact⟨rfl,rfl⟩
  have h5:=aO h5;have h5:¬ (1480:Int)<(cN (r,i,q,data)).length:=by simp only at hbl;omega
  rw[af h5] at e1;cases r with
  | true =>
   refine av (λ_=>?_) (λhr=>by cases hr);refine⟨aC,?_⟩;rintro p rfl;rw[jG hw'.1.1 hw'.1.2];refine⟨by simp[w2],?_⟩;intro p hpe;rw[jG hw'.2.1 hw'.2.2] at hpe;have hp8:p.length=8:=by rw[hpe];simp[w2]
   have hp:p++data=cN (true,i,q,data):=by
    rw[hpe,show IntKind.wrap .u8 0=0 from by decide];simp[w2,cN]
   refine⟨(m5 ab hl).1,(m5 ab hl).2,?_⟩;intro c hc;have hc:c=cX (cN (true,i,q,data)):=by rw[hc,hp];rfl
   rw[hp,hc];exact⟨ab,ab,ab,hB.1,hB.2,e1.symm,Bp e2 h5⟩
  | false =>
   refine av (λhr=>by cases hr) (λ_=>?_);refine⟨aC,?_⟩;rintro p rfl;rw[jG hw'.1.1 hw'.1.2];refine⟨by simp[w2],?_⟩;intro p hpe;rw[jG hw'.2.1 hw'.2.2] at hpe;have hp8:p.length=8:=by rw[hpe];simp[w2]
   have hp:p++data=cN (false,i,q,data):=by
    rw[hpe,show IntKind.wrap .u8 8=8 from by decide];simp[w2,cN]
   refine⟨(m5 ab hl).1,(m5 ab hl).2,?_⟩;intro c hc;have hc:c=cX (cN (false,i,q,data)):=by rw[hc,hp];rfl
   rw[hp,hc];exact⟨ab,ab,ab,hB.1,hB.2,e1.symm,Bp e2 h5⟩
theorem JV:aD 138 ah1.spec:=aH Tryz.func138 (au (au (au (au aE HN) (Ct.named yP)) (Ct.named Dx)) Cb) aR WS
def YN:Ct:=⟨[.agg LN],[.own 5 bz,.val cI],λd=>[(d.1.2.2.length:Int)<=1073741824],λd=>((gN d.1,ix d.1,()),())⟩
def FB(a b:Int)(c:ad) :=
 ao (decide ((ac c)<28)) (([]:ad)=gN (a,b,c)/\3=ix (a,b,c)) ((0:Int)<=8/\dP (65535:Int) [bits BinOp.or IntKind.i64 (dX IntKind.i64 a (8:Int)) b,(0:Int),(0:Int),(0:Int)]=true/\((length [bits BinOp.or IntKind.i64 (dX IntKind.i64 a (8:Int)) b,(0:Int),(0:Int),(0:Int)]):Int)<=1073741824/\ ∀(f:ad),f=List.flatMap w2 [bits BinOp.or IntKind.i64 (dX IntKind.i64 a (8:Int)) b,(0:Int),(0:Int),(0:Int)]->(f.length+c.length)*(1:Nat)<=(ky)/\((length (f++c)):Int)<=1099511627776/\ ∀(g:Int),g=65535 -oc (bQ true (f++c))->(0:Int)<=2/\(2:Int)+2<=((length (f++c)):Int)/\((length (f++c)):Int)<=1099511627776/\0<=g/\g<=65535/\(if 1480<((length (f++c)):Int) then ([]:ad) else cj (f++c) (toNat 2) g)=gN (a,b,c)/\(if 1480<((length (f++c)):Int) then (5:Int) else (0:Int))=ix (a,b,c))
theorem VY :
 ∀(a b:Int)(c:ad),(aj a/\aj b/\c.length<=maxLen/\ ∀(d:Int),d∈c->0<=d/\d<=255)/\True->(ac c)<=1073741824-> ∀(d:Bool),d= ! decide (a=3)->(ae d)/\(ae d)/\(aq d)/\ ∀(e:Bool),(e=bif d then ! decide (a=11) else false)->(ae (! e))/\ao (! e) ((aq (! e))/\(ae (! e))/\(aF e)/\ao (bif e then true else ! dP (255:Int) [b]) (([]:ad)=gN (a,b,c)/\1=ix (a,b,c)) (FB a b c)) ((! e)=false/\(! e)=false/\(e=false->false=true)/\ao (bif e then true else false) (([]:ad)=gN (a,b,c)/\1=ix (a,b,c)) (FB a b c)):=by
  delta FB ky ae aq aF ac;rintro t k data ⟨⟨-,-,-,hd⟩,-⟩ hl;rintro b rfl;refine⟨aC,aC,aC,?_⟩;intro b hb;refine⟨aC,?_⟩;cases b with
  | true =>
   have ht:¬ (t=3∨t=11):=by
    simp at hb;omega
   refine av (λh=>by cases h) (λ_=>⟨rfl,rfl,aC,av (λ_=>Jc (λh=>ht h.1)) (λh=>by cases h)⟩)
  | false =>
   have ht:t=3∨t=11:=by
    by_cases h3:t=3
    .exact .inl h3
    .simp[h3] at hb;exact .inr hb
   refine av (λ_=>⟨aC,aC,aC,?_⟩) (λh=>by cases h);refine av (λh=>?_) (λh=>?_)
   .apply Jc;rintro⟨-,h2⟩;have:=(xw 255 k).2 h2;rw[this] at h;cases h
   have hk:0<=k/\k<=255:=by
    apply (xw 255 k).1;cases hx:dP 255 [k] with
    | true=>rfl
    | false=>rw[hx] at h;cases h
   refine av (λh2=>Mh ⟨ht,hk⟩ (aL h2)) (λh2=>?_);have h2:=aO h2;obtain⟨e1,e2⟩:=KA (e:=(t,k,data)) ⟨ht,hk⟩ h2;have hB:=nR (B5 (e:=(t,k,data)) ⟨ht,hk⟩ hd);rw[Pc ab ab hk.1 hk.2];refine⟨ab,by simp[dP];omega,aC,?_⟩;intro p hpe;have hp8:p.length=8:=by rw[hpe];simp[w2]
   have hp:p++data=kX (t,k,data):=by
    rw[hpe];simp only[List.flatMap_cons,List.flatMap_nil,qJ (show 0<=t by omega) (show t<=255 by omega) hk.1 hk.2,show w2 0=[0,0] from rfl];rfl
   refine⟨(m5 ab hl).1,(m5 ab hl).2,?_⟩;intro c hc;have hc:c=cX (kX (t,k,data)):=by rw[hc,hp];rfl
   exact D1 (a:=2) hp ab ab ab hl (by rw[hc];exact hB.1) (by rw[hc];exact hB.2) (by rw[hc];exact e1) e2
theorem aU8:aD 281 YN.spec:=aH Tryz.func281 (au (au (au (au aE BZ) (Ct.named CX)) (Ct.named zJ)) Jw) aR VY
def aB0:Ct:=⟨[.agg LN],[.own 5 bz,.val cI],λd=>[(d.1.2.2.length:Int)<=1073741824],λd=>((gN d.1,ix d.1,()),())⟩
def yC(a b:Int)(c:ad) :=
 [IntKind.wrap .u8 a,IntKind.wrap .u8 b,(0:Int),(0:Int),(0:Int),(0:Int),(0:Int),(0:Int)]++c
theorem aA2 :
 ∀(a b:Int)(c:ad),(aj a/\aj b/\c.length<=maxLen/\ ∀(d:Int),d∈c->0<=d/\d<=255)/\True->(ac c)<=1073741824-> ∀(d:Bool),d= ! decide (a=3)->(ae d)/\(ae d)/\(aq d)/\ ∀(e:Bool),(e=bif d then ! decide (a=11) else false)->(ae (! e))/\(ae (! e))/\(ae (! e))/\(aF e)/\ao (bif e then true else ! decide (0<=b/\b<=255)) (([]:ad)=gN (a,b,c)/\1=ix (a,b,c)) (ao (decide ((ac c)<28)) (([]:ad)=gN (a,b,c)/\3=ix (a,b,c)) (ao (decide (1480<ai ((ac c)+8))) (([]:ad)=gN (a,b,c)/\5=ix (a,b,c)) ((length [IntKind.wrap .u8 a,IntKind.wrap .u8 b,(0:Int),(0:Int),(0:Int),(0:Int),(0:Int),(0:Int)]+c.length)*(1:Nat)<=(ky)/\((length (yC a b c)):Int)<=1099511627776/\ ∀(f:Int),f=65535 -oc (bQ true (yC a b c))->(0:Int)<=2/\(2:Int)+2<=((length (yC a b c)):Int)/\((length (yC a b
 c)):Int)<=1099511627776/\0<=f/\f<=65535/\cj (yC a b c) (toNat 2) f=gN (a,b,c)/\0=ix (a,b,c)))):=by
  delta yC ky ae aq aF ai ac;rintro t k data ⟨⟨-,-,-,hd⟩,-⟩ hl;rintro b rfl;refine⟨aC,aC,aC,?_⟩;intro b hb;refine⟨aC,aC,aC,aC,?_⟩;rw[aQ (n:=(data.length:Int)+8) ab ab];refine av (λh=>?_) (λh=>?_)
  .apply Jc;rintro⟨h1,h2⟩;have:b=false:=by rw[hb];rcases h1 with rfl|rfl <;> simp
   rw[this,dM h2] at h;cases h
  have ht:t=3∨t=11:=by
   cases b with
   | true=>cases h
   | false =>
    by_cases h3:t=3
    .exact .inl h3
    .simp[h3] at hb;exact .inr hb
  have hk:0<=k/\k<=255:=by
   cases b with
   | true=>cases h
   | false=>exact gC λhk=>by rw[dw hk] at h;cases h
  refine av (λh2=>Mh ⟨ht,hk⟩ (aL h2)) (λh2=>?_);have h2:=aO h2;obtain⟨e1,e2⟩:=KA (e:=(t,k,data)) ⟨ht,hk⟩ h2;have hB:=nR (B5 (e:=(t,k,data)) ⟨ht,hk⟩ hd);have hbl:=CZ (t,k,data);refine av (λh5=>?_) (λh5=>?_)
  .have h5:=aL h5;rw[e1,e2,am (by simp only at hbl;omega),am (by simp only at hbl;omega)];exact⟨rfl,rfl⟩
  have h5:=aO h5;have h5:¬ (1480:Int)<(kX (t,k,data)).length:=by simp only at hbl;omega
  rw[af h5] at e1;rw[Oa (n:=t) ab ab,Oa hk.1 hk.2];have hp:[t,k,0,0,0,0,0,0]++data=kX (t,k,data):=rfl;refine⟨(m5 aC hl).1,(m5 aC hl).2,?_⟩;intro c hc;have hc:c=cX (kX (t,k,data)):=by rw[hc,hp];rfl
  rw[hp,hc];exact⟨ab,ab,ab,hB.1,hB.2,e1.symm,Bp e2 h5⟩
theorem aj0:aD 249 aB0.spec:=aH Tryz.func249 (au (au (au aE IS) (Ct.named Dx)) Cb) aR aA2
def Wn:Ct:=⟨[.val cy,.val cy,.val cI,.val (.sl bz)],[.val cI],λd=>[(d.2.2.2.1.length:Int)<=1073741824],λd=>((fB d.1 d.2.1 d.2.2.1 d.2.2.2.1,()),())⟩
theorem Y1 :
 ∀(a b c:Int)(d:ad),(0<=a/\a<=4294967295)/\(0<=b/\b<=4294967295)/\aj c/\(u5 d)/\True->(ac d)<=1073741824-> ∀(e:Bool),e= ! dP (255:Int) [c]->(ae (! e))/\(ae (! e))/\(aF e)/\ao (bif e then true else decide (65535<(ac d))) (0=fB a b c d) ((0:Int)<=16/\(0:Int)<=16/\dP (65535:Int) [ai (de IntKind.u32 a (16:Int)),ai (bits BinOp.and IntKind.u32 a (65535:Int)),ai (de IntKind.u32 b (16:Int)),ai (bits BinOp.and IntKind.u32 b (65535:Int)),c,(ac d)]=true/\((length [ai (de IntKind.u32 a (16:Int)),ai (bits BinOp.and IntKind.u32 a (65535:Int)),ai (de IntKind.u32 b (16:Int)),ai (bits BinOp.and IntKind.u32 b (65535:Int)),c,(ac d)]):Int)<=1073741824/\ ∀(f:ad),f=List.flatMap w2 [ai (de IntKind.u32 a (16:Int)),ai (bits BinOp.and IntKind.u32 a (65535:Int)),ai (de IntKind.u32 b (16:Int)),ai (bits BinOp.and IntKind.u32 b (65535:Int)),c,(ac
 d)]->(f.length+d.length)*(1:Nat)<=(ky)/\((length (f++d)):Int)<=1099511627776/\ ∀(g:Int),g=65535 -oc (bQ true (f++d))->g=fB a b c d):=by
  delta ky u5 ae aF ai ac;rintro a b p data ⟨⟨a0,a1⟩,⟨b0,b1⟩,-,⟨-,hd⟩,-⟩ hl;rintro x rfl;refine⟨aC,aC,aC,?_⟩;refine av (λh=>?_) (λh=>?_)
  .rw[fB,am];cases hx:dP 255 [p] with
   | false=>exact .inl (λk=>by rw[(xw 255 p).2 k] at hx;cases hx)
   | true=>rw[hx] at h;exact .inr (aL h)
  have hp:0<=p/\p<=255:=by
   apply (xw 255 p).1;cases hx:dP 255 [p] with
   | true=>rfl
   | false=>rw[hx] at h;cases h
  have hn:¬ (65535:Int)<data.length:=by
   rw[(xw 255 p).2 hp] at h;exact aO h
  rw[R4 a0 a1,R4 b0 b1,MK a0 a1,MK b0 b1];refine⟨ab,ab,by simp[dP];omega,aC,?_⟩;intro q hq;have hp8:q.length=12:=by rw[hq];simp[w2]
  have hB:q++data=w8 a b p data:=by
   rw[hq];simp only[List.flatMap_cons,List.flatMap_nil,ke,iN,Ma];rfl
  refine⟨(m5 ab hl).1,(m5 ab hl).2,?_⟩;rintro c rfl;rw[hB,fB,af ab];rfl
theorem I6:aD 208 Wn.spec:=aH Tryz.func208 (au (au (au aE BZ) (Ct.named CX)) (Ct.named zJ)) aR Y1
def Um:Ct:=⟨[.val cy,.val cy,.val cI,.val (.sl bz)],[.val cI],λd=>[(d.2.2.2.1.length:Int)<=1073741824],λd=>((fB d.1 d.2.1 d.2.2.1 d.2.2.2.1,()),())⟩
theorem Wi :
 ∀(a b c:Int)(d:ad),(0<=a/\a<=4294967295)/\(0<=b/\b<=4294967295)/\aj c/\(u5 d)/\True->(ac d)<=1073741824-> ∀(e:Bool),e= ! decide (0<=c/\c<=255)->(ae (! e))/\(ae (! e))/\(aF e)/\ao (bif e then true else decide (65535<(ac d))) (0=fB a b c d) ((↑(0:Nat):Int)<=1099511627776/\ ∀(f:ad),f=cM ([]:ad) (ai a) (4:Int)->(ac f)<=1099511627776/\ ∀(g:ad),g=cM f (ai b) (4:Int)->(ac g)<=1099511627776/\ ∀(h:ad),h=cM g c (2:Int)->(ac h)<=1099511627776/\ ∀(i:ad),i=cM h (ac d) (2:Int)->(i.length+d.length)*(1:Nat)<=(ky)/\((length (i++d)):Int)<=1099511627776/\ ∀(j:Int),j=65535 -oc (bQ true (i++d))->j=fB a b c d):=by
  delta ky u5 ae aF ai ac;rintro a b p data ⟨⟨a0,a1⟩,⟨b0,b1⟩,-,⟨-,hd⟩,-⟩ hl;rintro x rfl;refine⟨aC,aC,aC,?_⟩;refine av (λh=>?_) (λh=>?_)
  .rw[fB,am];by_cases hx:0<=p/\p<=255
   .rw[dM hx] at h;exact .inr (aL h)
   .exact .inl hx
  have hp:0<=p/\p<=255:=gC λhk=>by rw[dw hk] at h;cases h
  have hn:¬ (65535:Int)<data.length:=by
   rw[dM hp] at h;exact aO h
  refine⟨aC,?_⟩;intro q1 h1;rw[aQ (n:=a) ab ab,vo a0 a1,pH] at h1;refine⟨by rw[h1];simp[w4],?_⟩;intro q2 h2;rw[aQ (n:=b) ab ab,vo b0 b1] at h2;refine⟨by rw[h2,h1];simp[w4],?_⟩;intro q3 h3;rw[jG hp.1 ab] at h3;refine⟨by rw[h3,h2,h1];simp[w2,w4],?_⟩;intro q hq;rw[jG ab ab] at hq;have hp8:q.length=12:=by rw[hq,h3,h2,h1];simp[w2,w4]
  have hB:q++data=w8 a b p data:=by
   rw[hq,h3,h2,h1];simp only[iN];rfl
  refine⟨(m5 ab hl).1,(m5 ab hl).2,?_⟩;rintro c rfl;rw[hB,fB,af ab];rfl
theorem II:aD 142 Um.spec:=aH Tryz.func142 (au (au (au aE IS) (Ct.named yP)) (Ct.named Dx)) aR Wi
def ab7:Ct:=⟨[.val cy,.val cy,.val (.sl bz)],[.val cI],λd=>[(d.2.2.1.length:Int)<=1073741824],λd=>((jO d.1 d.2.1 d.2.2.1,()),())⟩
theorem Wg :
 ∀(a b:Int)(c:ad),(0<=a/\a<=4294967295)/\(0<=b/\b<=4294967295)/\(c.length<=maxLen/\ ∀(d:Int),d∈c->0<=d/\d<=255)/\True->(ac c)<=1073741824->(ac c)<=1073741824/\ao (! decide (fB a b (17:Int) c=0)) (fB a b (17:Int) c=jO a b c) (65535=jO a b c):=by
  delta ac;rintro a b data-hl;refine⟨hl,av (λh=>?_) (λh=>?_)⟩
  .rw[jO,af];intro k;rw[dM k] at h;cases h
  .rw[jO,am];exact gC λk=>by rw[dw k] at h;cases h
theorem ac7:aD 280 ab7.spec:=aH Tryz.func280 (au aE I6) aR Wg
def aH6:Ct:=⟨[.val cy,.val cy,.agg Hi],[.own 5 bz,.val cI],λd=>[(d.2.2.1.2.2.length:Int)<=1073741824],λd=>((kC d.1 d.2.1 d.2.2.1,mV d.2.2.1,()),())⟩
def yX(e i:ad) :=
 ((length (i++[(0:Int),(0:Int)]++e)):Int)
theorem ap5 :
 ∀(a b c d:Int)(e:ad),(0<=a/\a<=4294967295)/\(0<=b/\b<=4294967295)/\(aj c/\aj d/\e.length<=maxLen/\ ∀(f:Int),f∈e->0<=f/\f<=255)/\True->(ac e)<=1073741824-> ∀(f:Bool),f= ! cZ c->(ae (! f))/\(ae (! f))/\(ae (! f))/\(aF f)/\ao (bif f then true else ! cZ d) (([]:ad)=kC a b (c,d,e)/\1=mV (c,d,e)) (ao (decide (1480<ai ((ac e)+8))) (([]:ad)=kC a b (c,d,e)/\5=mV (c,d,e)) ((↑(0:Nat):Int)<=1099511627776/\ ∀(g:ad),g=cM ([]:ad) c (2:Int)->(ac g)<=1099511627776/\ ∀(h:ad),h=cM g d (2:Int)->(ac h)<=1099511627776/\ ∀(i:ad),i=cM h (ai ((ac e)+8)) (2:Int)->(i.length+length [(0:Int),(0:Int)])*(1:Nat)<=(ky)/\(length (i++[(0:Int),(0:Int)])+e.length)*(1:Nat)<=(ky)/\(yX e i)<=1073741824/\ ∀(j:Int),j=fB a b (17:Int) (i++[(0:Int),(0:Int)]++e)->ao (decide (j=0)) ((0:Int)<=6/\(6:Int)+2<=(yX e i)/\(yX e
 i)<=1099511627776/\(0:Int)<=65535/\(65535:Int)<=65535/\cj (i++[(0:Int),(0:Int)]++e) (toNat 6) (65535:Int)=kC a b (c,d,e)/\0=mV (c,d,e)) ((0:Int)<=6/\(6:Int)+2<=(yX e i)/\(yX e i)<=1099511627776/\0<=j/\j<=65535/\cj (i++[(0:Int),(0:Int)]++e) (toNat 6) j=kC a b (c,d,e)/\0=mV (c,d,e)))):=by
  delta yX ky ae aF ai ac;rintro a b sp dp data ⟨-,-,⟨-,-,-,hd⟩,-⟩ hl;rintro x rfl;refine⟨aC,aC,aC,aC,?_⟩;rw[aQ (n:=(data.length:Int)+8) ab ab];refine av (λh=>?_) (λh=>?_)
  .apply aK0;rintro⟨h1,h2⟩;simp at h1 h2;simp[h1,h2] at h
  have hw:cZ sp=true/\cZ dp=true:=by
   simp[db] at h;exact h
  have hw':=hw;simp only[hT] at hw';obtain⟨e1,e2⟩:=KZ (a:=a) (b:=b) (e:=(sp,dp,data)) hw;have hB:=Fv (a:=a) (b:=b) (BN (e:=(sp,dp,data)) hd);have hbl:=H4 (sp,dp,data);refine av (λh5=>?_) (λh5=>?_)
  .have h5:=aL h5;rw[e1,e2,am (by simp only at hbl;omega),am (by simp only at hbl;omega)];exact⟨rfl,rfl⟩
  have h5:=aO h5;have h5':¬ (1480:Int)<(fx (sp,dp,data)).length:=by simp only at hbl;omega
  rw[af h5'] at e1;refine⟨aC,?_⟩;intro q1 h1;rw[jG hw'.1.1 hw'.1.2,pH] at h1;refine⟨by rw[h1];simp[w2],?_⟩;intro q2 h2;rw[jG hw'.2.1 hw'.2.2] at h2;refine⟨by rw[h2,h1];simp[w2],?_⟩;intro q3 h3;rw[jG ab ab] at h3;have hp8:q3.length=6:=by rw[h3,h2,h1];simp[w2]
  have hp:q3++[0,0]++data=fx (sp,dp,data):=by
   rw[h3,h2,h1];simp only[iN,fx];rw[Int.add_comm 8]
  rw[hp];refine⟨by simp only[cQ,List.length_nil];omega,by simp only[cD,cQ,List.length_nil];omega,by simp only at hbl;omega,?_⟩;rintro c rfl;have hs:∀ c,c=jO a b (fx (sp,dp,data))->cj (fx (sp,dp,data)) (toNat 6) c=kC a b (sp,dp,data)/\0=mV (sp,dp,data):=by
   rintro c rfl;exact⟨e1.symm,Bp e2 h5'⟩
  refine bt (λhz=>?_) (λhz=>?_)
  .exact⟨ab,by simp only at hbl;omega,by simp only at hbl;omega,ab,ab,hs _ (by rw[jO,am hz])⟩
  .have hr:=xt (a:=a) (b:=b) (p:=17) (BN (e:=(sp,dp,data)) hd);exact⟨ab,by simp only at hbl;omega,by simp only at hbl;omega,hr.1,hr.2,hs _ (by rw[jO,af hz])⟩
theorem Pa:aD 143 aH6.spec:=aH Tryz.func143 (au (au (au (au aE HN) (Ct.named yP)) (Ct.named II)) Cb) aR ap5
theorem aO9{f:Int}(h0:0<=f)(h1:f<=255):bits .or .i64 20480 f=80*256+f:=by
 have:=Pc (n:=80) (x:=f) ab ab h0 h1
 rwa [show dX .i64 80 8=20480 from by decide] at this
theorem ay0{f:Int}(h0:0<=f)(h1:f<=255):w2 (80*256+f)=[80,f]:=qJ (by omega) (by omega) h0 h1
def Vh:Ct:=⟨[.val cy,.val cy,.agg zg],[.own 5 bz,.val cI],λd=>[(d.2.2.1.2.2.2.2.2.2.length:Int)<=1000000],λd=>((eV d.1 d.2.1 d.2.2.1,j8 d.2.2.1,()),())⟩
def Gh(a b:Int)(c:Int×Int×Int×Int×Int×Int×ad) :=
 (0:Int)<=16/\(0:Int)<=16/\dP (65535:Int) [c.1,c.2.1,de IntKind.i64 c.2.2.1 (16:Int),bits BinOp.and IntKind.i64 c.2.2.1 (65535:Int),de IntKind.i64 c.2.2.2.1 (16:Int),bits BinOp.and IntKind.i64 c.2.2.2.1 (65535:Int),bits BinOp.or IntKind.i64 (20480:Int) c.2.2.2.2.1,c.2.2.2.2.2.1,(0:Int),(0:Int)]=true/\((length [c.1,c.2.1,de IntKind.i64 c.2.2.1 (16:Int),bits BinOp.and IntKind.i64 c.2.2.1 (65535:Int),de IntKind.i64 c.2.2.2.1 (16:Int),bits BinOp.and IntKind.i64 c.2.2.2.1 (65535:Int),bits BinOp.or IntKind.i64 (20480:Int) c.2.2.2.2.1,c.2.2.2.2.2.1,(0:Int),(0:Int)]):Int)<=1073741824/\ ∀(f:ad),f=List.flatMap w2 [c.1,c.2.1,de IntKind.i64 c.2.2.1 (16:Int),bits BinOp.and IntKind.i64 c.2.2.1 (65535:Int),de IntKind.i64 c.2.2.2.1 (16:Int),bits BinOp.and IntKind.i64 c.2.2.2.1 (65535:Int),bits BinOp.or IntKind.i64 (20480:Int)
 c.2.2.2.2.1,c.2.2.2.2.2.1,(0:Int),(0:Int)]->(f.length+c.2.2.2.2.2.2.length)*(1:Nat)<=(ky)/\((length (f++c.2.2.2.2.2.2)):Int)<=1073741824/\ ∀(g:Int),g=fB a b (6:Int) (f++c.2.2.2.2.2.2)->(0:Int)<=16/\(16:Int)+2<=((length (f++c.2.2.2.2.2.2)):Int)/\((length (f++c.2.2.2.2.2.2)):Int)<=1099511627776/\0<=g/\g<=65535/\(if 1480<((length (f++c.2.2.2.2.2.2)):Int) then ([]:ad) else cj (f++c.2.2.2.2.2.2) (toNat 16) g)=eV a b c/\(if 1480<((length (f++c.2.2.2.2.2.2)):Int) then (5:Int) else (0:Int))=j8 c
def IV(a b:Int)(c:Int×Int×Int×Int×Int×Int×ad)(e:Bool) :=
 (ae (! e))/\ao (! e) ((aq (! e))/\(ae (! e))/\(aF e)/\ao (bif e then true else ! dP (255:Int) [c.2.2.2.2.1]) (([]:ad)=eV a b c/\1=j8 c) (Gh a b c)) ((! e)=false/\(! e)=false/\(e=false->false=true)/\ao (bif e then true else false) (([]:ad)=eV a b c/\1=j8 c) (Gh a b c))
theorem UM :
 ∀(a b:Int)(c:Int×Int×Int×Int×Int×Int×ad),(0<=a/\a<=4294967295)/\(0<=b/\b<=4294967295)/\CT.wf zg c/\True->(ac c.2.2.2.2.2.2)<=1000000-> ∀(d:Bool),d= ! dP (65535:Int) [c.1,c.2.1,c.2.2.2.2.2.1]->(ae (! d))/\(ae (! d))/\ao (! d) ((aq (! d))/\(aq (! d))/\(ae (! d))/\(aF d)/\ ∀(e:Bool),(e=bif d then true else ! dP (4294967295:Int) [c.2.2.1,c.2.2.2.1])->(IV a b c e)) ((! d)=false/\(! d)=false/\(d=false->false=true)/\ ∀(e:Bool),(e=bif d then true else false)->(IV a b c e)):=by
  delta Gh IV ky ae aq aF ac;rintro a b e ⟨-,-,⟨-,-,-,-,-,-,-,hd⟩,-⟩ hl;intro b1 hb1;refine⟨aC,aC,?_⟩;cases b1 with
  | true =>
   have hbad:¬ nM e:=by
    rintro⟨h1,h2,-,-,-,h3⟩;rw[hT] at h1 h2 h3;rw[show dP 65535 [e.1,e.2.1,e.2.2.2.2.2.1]=true from by simp[dP];omega] at hb1;cases hb1
   refine av (λh=>by cases h) (λ_=>⟨rfl,rfl,aC,?_⟩);intro b2 hb2;have hb2:b2=true:=hb2;subst hb2;exact⟨aC,av (λh=>by cases h) (λ_=>⟨rfl,rfl,aC,av (λ_=>Dp hbad) (λh=>by cases h)⟩)⟩
  | false =>
   have h1:(0<=e.1/\e.1<=65535)/\(0<=e.2.1/\e.2.1<=65535)/\0<=e.2.2.2.2.2.1/\e.2.2.2.2.2.1<=65535:=by
    have:dP 65535 [e.1,e.2.1,e.2.2.2.2.2.1]=true:=by
     cases hx:dP 65535 [e.1,e.2.1,e.2.2.2.2.2.1] with
     | true=>rfl
     | false=>rw[hx] at hb1;cases hb1
    simpa[dP] using this
   refine av (λ_=>⟨aC,aC,aC,aC,?_⟩) (λh=>by cases h);intro b2 hb2;refine⟨aC,?_⟩;cases b2 with
   | true =>
    have hbad:¬ nM e:=by
     rintro⟨-,-,h3,h4,-,-⟩;have:dP 4294967295 [e.2.2.1,e.2.2.2.1]=true:=(EQ _ _ _).2 ⟨h3,h4⟩;rw[this] at hb2;cases hb2
    exact av (λh=>by cases h) (λ_=>⟨rfl,rfl,aC,av (λ_=>Dp hbad) (λh=>by cases h)⟩)
   | false =>
    have h2:(0<=e.2.2.1/\e.2.2.1<=4294967295)/\0<=e.2.2.2.1/\e.2.2.2.1<=4294967295:=by
     apply (EQ _ _ _).1;cases hx:dP 4294967295 [e.2.2.1,e.2.2.2.1] with
     | true=>rfl
     | false=>rw[hx] at hb2;cases hb2
    refine av (λ_=>⟨aC,aC,aC,av (λh=>?_) (λh=>?_)⟩) (λh=>by cases h)
    .apply Dp;rintro⟨-,-,-,-,h3,-⟩;rw[(xw _ _).2 h3] at h;cases h
    have h3:0<=e.2.2.2.2.1/\e.2.2.2.2.1<=255:=by
     apply (xw _ _).1;cases hx:dP 255 [e.2.2.2.2.1] with
     | true=>rfl
     | false=>rw[hx] at h;cases h
    have hok:nM e:=⟨(hT _).2 h1.1,(hT _).2 h1.2.1,h2.1,h2.2,h3,(hT _).2 h1.2.2⟩
    obtain⟨e1,e2⟩:=HO (a:=a) (b:=b) hok;have hB:=xt (a:=a) (b:=b) (p:=6) (xQ hok hd);have hbl:=we e;rw[IE h2.1.1,IE h2.2.1,Ay,Ay,aO9 h3.1 h3.2];refine⟨ab,ab,by simp[dP];omega,aC,?_⟩;intro p hpe;have hp8:p.length=20:=by rw[hpe];simp[w2]
    have hp:p++e.2.2.2.2.2.2=jD e:=by
     rw[hpe];simp only[List.flatMap_cons,List.flatMap_nil,ke,iN,Ma,show w2 0=[0,0] from rfl,ay0 h3.1 h3.2];rfl
    refine⟨(m5 ab ab).1,by rw[cD];omega,?_⟩;intro c hc;have hc:c=fB a b 6 (jD e):=by rw[hc,hp]
    exact D1 (a:=16) hp ab ab ab ab (by rw[hc];exact hB.1) (by rw[hc];exact hB.2) (by rw[hc];exact e1) e2
theorem Wo:aD 268 Vh.spec:=aH Tryz.func268 (au (au (au (au aE BZ) (Ct.named CX)) (Ct.named I6)) Jw) aR UM
def Vx:Ct:=⟨[.val cy,.val cy,.agg zg],[.own 5 bz,.val cI],λd=>[(d.2.2.1.2.2.2.2.2.2.length:Int)<=1000000],λd=>((eV d.1 d.2.1 d.2.2.1,j8 d.2.2.1,()),())⟩
def zy(c:Int×Int×Int×Int×Int×Int×ad)(o:ad) :=
 o++[(0:Int),(0:Int),(0:Int),(0:Int)]++c.2.2.2.2.2.2
theorem XC :
 ∀(a b:Int)(c:Int×Int×Int×Int×Int×Int×ad),(0<=a/\a<=4294967295)/\(0<=b/\b<=4294967295)/\CT.wf zg c/\True->(ac c.2.2.2.2.2.2)<=1000000-> ∀(d:Bool),d= ! cZ c.1->(ae (! d))/\(ae (! d))/\(ae (! d))/\(aF d)/\ ∀(e:Bool),(e=bif d then true else ! cZ c.2.1)->(ae (! e))/\(ae (! e))/\(ae (! e))/\(aF e)/\ ∀(f:Bool),(f=bif e then true else ! decide (0<=c.2.2.1/\c.2.2.1<=4294967295))->(ae (! f))/\(ae (! f))/\(ae (! f))/\(aF f)/\ ∀(g:Bool),(g=bif f then true else ! decide (0<=c.2.2.2.1/\c.2.2.2.1<=4294967295))->(ae (! g))/\(ae (! g))/\(ae (! g))/\(aF g)/\ ∀(h:Bool),(h=bif g then true else ! decide (0<=c.2.2.2.2.1/\c.2.2.2.2.1<=255))->(ae (! h))/\(ae (! h))/\(ae (! h))/\(aF h)/\ao (bif h then true else ! cZ c.2.2.2.2.2.1) (([]:ad)=eV a b c/\1=j8 c) (ao (decide (1480<ai ((ac c.2.2.2.2.2.2)+20))) (([]:ad)=eV a b c/\5=j8 c)
 ((↑(0:Nat):Int)<=1099511627776/\ ∀(i:ad),i=cM ([]:ad) c.1 (2:Int)->(ac i)<=1099511627776/\ ∀(j:ad),j=cM i c.2.1 (2:Int)->(ac j)<=1099511627776/\ ∀(k:ad),k=cM j c.2.2.1 (4:Int)->(ac k)<=1099511627776/\ ∀(l:ad),l=cM k c.2.2.2.1 (4:Int)->(ac l)<=1099511627776/\ ∀(m:ad),m=cM l (80:Int) (1:Int)->(ac m)<=1099511627776/\ ∀(n:ad),n=cM m c.2.2.2.2.1 (1:Int)->(ac n)<=1099511627776/\ ∀(o:ad),o=cM n c.2.2.2.2.2.1 (2:Int)->(o.length+length [(0:Int),(0:Int),(0:Int),(0:Int)])*(1:Nat)<=(ky)/\(length (o++[(0:Int),(0:Int),(0:Int),(0:Int)])+c.2.2.2.2.2.2.length)*(1:Nat)<=(ky)/\((length (zy c o)):Int)<=1073741824/\ ∀(p:Int),p=fB a b (6:Int) (zy c o)->(0:Int)<=16/\(16:Int)+2<=((length (zy c o)):Int)/\((length (zy c o)):Int)<=1099511627776/\0<=p/\p<=65535/\cj (zy c o) (toNat 16) p=eV a b
 c/\0=j8 c)):=by
  delta zy ky ae aF ai ac;rintro a b e ⟨-,-,⟨-,-,-,-,-,-,-,hd⟩,-⟩ hl;intro b1 h1;refine⟨aC,aC,aC,aC,?_⟩;intro b2 h2;refine⟨aC,aC,aC,aC,?_⟩;intro b3 h3;refine⟨aC,aC,aC,aC,?_⟩;intro b4 h4;refine⟨aC,aC,aC,aC,?_⟩;intro b5 h5;refine⟨aC,aC,aC,aC,?_⟩;rw[aQ (n:=(e.2.2.2.2.2.2.length:Int)+20) ab ab];have hall:(bif b5 then true else !cZ e.2.2.2.2.2.1) = !decide (nM e):=by
   rw[h5,h4,h3,h2,h1];by_cases w1:cZ e.1=true
   all_goals by_cases w2:cZ e.2.1=true
   all_goals by_cases w3:cZ e.2.2.2.2.2.1=true
   all_goals by_cases q1:0<=e.2.2.1/\e.2.2.1<=4294967295
   all_goals by_cases q2:0<=e.2.2.2.1/\e.2.2.2.1<=4294967295
   all_goals by_cases q3:0<=e.2.2.2.2.1/\e.2.2.2.2.1<=255
   all_goals simp[nM,w1,w2,w3,q1,q2,q3]
  rw[hall];refine av (λh=>Dp (by simpa using h)) (λh=>?_);have hok:nM e:=by simpa using h
  obtain⟨e1,e2⟩:=HO (a:=a) (b:=b) hok;have hB:=xt (a:=a) (b:=b) (p:=6) (xQ hok hd);have hbl:=we e;refine av (λh5=>?_) (λh5=>?_)
  .have h5:=aL h5;rw[e1,e2,am ab,am ab];exact⟨rfl,rfl⟩
  have h5:=aO h5;have h5':¬ (1480:Int)<(jD e).length:=ab;rw[af h5'] at e1;obtain⟨k1,k2,k3,k4,k5,k6⟩:=hok;rw[hT] at k1 k2 k6;refine⟨aC,?_⟩;intro q1 h1;rw[jG k1.1 k1.2,pH] at h1;have l1:q1.length=2:=by rw[h1];rfl
  refine⟨ab,?_⟩;intro q2 h2;rw[jG k2.1 k2.2] at h2;have l2:q2.length=4:=by rw[h2,cD,l1];rfl
  refine⟨ab,?_⟩;intro q3 h3;rw[vo k3.1 k3.2] at h3;have l3:q3.length=8:=by rw[h3,cD,l2];rfl
  refine⟨ab,?_⟩;intro q4 h4;rw[vo k4.1 k4.2] at h4;have l4:q4.length=12:=by rw[h4,cD,l3];rfl
  refine⟨ab,?_⟩;intro q5 h5;rw[sk ab ab] at h5;have l5:q5.length=13:=by rw[h5,cD,l4];rfl
  refine⟨ab,?_⟩;intro q6 h6;rw[sk k5.1 k5.2] at h6;have l6:q6.length=14:=by rw[h6,cD,l5];rfl
  refine⟨ab,?_⟩;intro q7 h7;rw[jG k6.1 k6.2] at h7;have l7:q7.length=16:=by rw[h7,cD,l6];rfl
  have hp:q7++[0,0,0,0]++e.2.2.2.2.2.2=jD e:=by
   rw[h7,h6,h5,h4,h3,h2,h1];simp only[iN];rfl
  rw[hp];refine⟨by simp only[cQ,List.length_nil];omega,by simp only[cD,cQ,List.length_nil];omega,ab,?_⟩;rintro c rfl;exact⟨ab,ab,ab,hB.1,hB.2,e1.symm,Bp e2 h5'⟩
theorem GP:aD 144 Vx.spec:=aH Tryz.func144 (au (au (au (au (au (au aE HN) IS) Ty) (Ct.named yP)) (Ct.named II)) Cb) aR XC
def vx(b:ad):Prop:=(b.getD (toNat 0) default=8∨b.getD (toNat 0) default=0)/\b.getD (toNat 1) default=0
instance (b:ad):Decidable (vx b):=by unfold vx;infer_instance
def gv(b:ad):Int:=if (b.length:Int)<8 then 3 else if ¬ vx b then 2 else if (1480:Int)<b.length then 5 else if cX (cj b (toNat 2) 0)≠aK b (toNat 2) then 4 else 0
def dW(b:ad):m8:=if gv b=0 then (decide (b.getD (toNat 0) default=0),aK b (toNat 4),aK b (toNat 6),b.drop 8) else (false,0,0,[])
def Gs(b:ad):Prop:=(b.getD (toNat 0) default=3∨b.getD (toNat 0) default=11)/\aK b (toNat 4)=0/\aK b (toNat 6)=0
instance (b:ad):Decidable (Gs b):=by unfold Gs;infer_instance
def AF(b:ad):Int:=if (b.length:Int)<36 then 3 else if ¬ Gs b then 2 else if (1480:Int)<b.length then 5 else if cX (cj b (toNat 2) 0)≠aK b (toNat 2) then 4 else 0
def uF(b:ad):pm:=if AF b=0 then (b.getD (toNat 0) default,b.getD (toNat 1) default,b.drop 8) else (0,0,[])
def gf(s d:Int)(b:ad):Int:=if (b.length:Int)<8 then 3 else if ¬ aK b (toNat 4)=b.length then 2 else if (1480:Int)<b.length then 5 else if jO s d (cj b (toNat 6) 0)≠aK b (toNat 6) then 4 else 0
def lF(s d:Int)(b:ad):pZ:=if gf s d b=0 then (aK b (toNat 0),aK b (toNat 2),b.drop 8) else (0,0,[])
def vS(b:ad):Prop:=b.getD (toNat 12) default=80/\aK b (toNat 18)=0
instance (b:ad):Decidable (vS b):=by unfold vS;infer_instance
def fW(s d:Int)(b:ad):Int:=if (b.length:Int)<20 then 3 else if ¬ vS b then 2 else if (1480:Int)<b.length then 5 else if fB s d 6 (cj b (toNat 16) 0)≠aK b (toNat 16) then 4 else 0
def d7(s d:Int)(b:ad):kV:=if fW s d b=0 then (aK b (toNat 0),aK b (toNat 2),aK b (toNat 4)*65536+aK b (toNat 6),aK b (toNat 8)*65536+aK b (toNat 10),b.getD (toNat 13) default,aK b (toNat 14),b.drop 20) else (0,0,0,0,0,0,[])
theorem vt{b:ad}{e:Int}(h:gv b=e)(he:e≠0):(false,0,0,[])=dW b/\e=gv b:=by
 rw[dW,af (by rw[h];exact he),h];exact⟨rfl,rfl⟩
theorem uQ{s d:Int}{b:ad}{e:Int}(h:gf s d b=e)(he:e≠0):(0,0,[])=lF s d b/\e=gf s d b:=by
 rw[lF,af (by rw[h];exact he),h];exact⟨rfl,rfl⟩
theorem vn{s d:Int}{b:ad}{e:Int}(h:fW s d b=e)(he:e≠0):(0,0,0,0,0,0,[])=d7 s d b/\e=fW s d b:=by
 rw[d7,af (by rw[h];exact he),h];exact⟨rfl,rfl⟩
theorem qA(b:ad)(k:Nat):cA b k (toNat (b.length:Int))=b.drop k:=by unfold cA;simp
theorem DZ(l:ad)(h:¬ (l.length:Int)<8):∃ a0 a1 a2 a3 a4 a5 a6 a7 r,l=a0::a1::a2::a3::a4::a5::a6::a7::r:=by
 match l,h with
 | a0::a1::a2::a3::a4::a5::a6::a7::r,_=>exact⟨a0,a1,a2,a3,a4,a5,a6,a7,r,rfl⟩
 | [],h=>simp at h
 | [_],h=>simp at h
 | [_,_],h=>simp at h
 | [_,_,_],h=>simp at h
 | [_,_,_,_],h=>simp at h
 | [_,_,_,_,_],h=>simp at h
 | [_,_,_,_,_,_],h=>simp at h
 | [_,_,_,_,_,_,_],h=>simp at h
theorem qB(b:ad)(k:Nat)(h:k+2<=b.length)(hk:(k:Int)<=1000000):cO b k 2=aK b k:=by
 rw[cO,af ab];rfl
theorem H9{c a b:Int}(h0:0<=c)(h1:c<=65535)(a0:0<=a)(a1:a<=255)(b0:0<=b)(b1:b<=255):(c/256%256=a/\c%256=b)↔c=a*256+b:=ab
theorem ad6{b:ad}(hb:bytes b)(h8:¬ (b.length:Int)<8)(hl:¬ (1480:Int)<b.length)(hf:vx b) :
  fh (decide (b.getD (toNat 0) default=0),cO b 4 2,cO b 6 2,b.drop (toNat 8))=b↔cX (cj b (toNat 2) 0)=aK b (toNat 2):=by
 obtain⟨a0,a1,a2,a3,a4,a5,a6,a7,r,rfl⟩:=DZ b h8
 have e4:=qB (a0::a1::a2::a3::a4::a5::a6::a7::r) 4 aC ab
 have e6:=qB (a0::a1::a2::a3::a4::a5::a6::a7::r) 6 aC ab
 have r4:aK (a0::a1::a2::a3::a4::a5::a6::a7::r) 4=a4*256+a5:=by simp[aK,dO]
 have r6:aK (a0::a1::a2::a3::a4::a5::a6::a7::r) 6=a6*256+a7:=by simp[aK,dO]
 have r2:aK (a0::a1::a2::a3::a4::a5::a6::a7::r) (toNat 2)=a2*256+a3:=by simp[aK,dO]
 have q2:=hb a2 aC
 have q3:=hb a3 aC
 have q4:=hb a4 aC
 have q5:=hb a5 aC
 have q6:=hb a6 aC
 have q7:=hb a7 aC
 obtain⟨f0,f1⟩:=hf
 have f0:a0=8∨a0=0:=f0
 have f1:a1=0:=f1
 subst f1
 have hbody:cN (decide (a0=0),a4*256+a5,a6*256+a7,r)=cj (a0::0::a2::a3::a4::a5::a6::a7::r) (toNat 2) 0:=by
  unfold cN;simp only[qJ q4.1 q4.2 q5.1 q5.2,qJ q6.1 q6.2 q7.1 q7.2];rcases f0 with rfl|rfl <;> simp[cj]
 have hs:cj (a0::0::a2::a3::a4::a5::a6::a7::r) (toNat 2) 0=a0::0::0::0::a4::a5::a6::a7::r:=by simp[cj]
 have hbb:bytes (a0::0::0::0::a4::a5::a6::a7::r):=by
  intro x hx;by_cases h0:x=0
  .omega
  .exact hb x (by simp[h0] at hx ⊢;rcases hx with h|h|h|h|h|h <;> simp[h])
 have hc:=nR hbb
 rw[show ((4:Nat):Int)=4 from rfl] at e4
 rw[show ((6:Nat):Int)=6 from rfl] at e6
 rw[e4,e6,r4,r6,r2]
 obtain⟨k1,k2⟩:=Im (e:=(decide (a0=0),a4*256+a5,a6*256+a7,r)) ⟨(hT _).2 (by show 0<=a4*256+a5/\a4*256+a5<=65535;omega),(hT _).2 (by show 0<=a6*256+a7/\a6*256+a7<=65535;omega)⟩
 have hlen:=A4 (decide (a0=0),a4*256+a5,a6*256+a7,r)
 have hl2:¬ (1480:Int)<((8+r.length:Nat):Int):=by simp only[cQ] at hl;omega
 rw[hlen] at k1
 rw[af hl2,hbody,hs] at k1
 show fh (decide (a0=0),a4*256+a5,a6*256+a7,r)=_↔_
 rw[k1,hs]
 generalize cX (a0::0::0::0::a4::a5::a6::a7::r)=c at hc
 rw[← H9 hc.1 hc.2 q2.1 q2.2 q3.1 q3.2]
 simp[cj]
theorem F7{a0 a1 a2 a3 a4 a5 a6 a7:Int}{r:ad}(h:bytes (a0::a1::a2::a3::a4::a5::a6::a7::r)):(0<=a0/\a0<=255)/\(0<=a1/\a1<=255)/\(0<=a2/\a2<=255)/\(0<=a3/\a3<=255)/\(0<=a4/\a4<=255)/\(0<=a5/\a5<=255)/\(0<=a6/\a6<=255)/\(0<=a7/\a7<=255)/\bytes r :=
 ⟨h _ aC,h _ aC,h _ aC,h _ aC,h _ aC,h _ aC,h _ aC,h _ aC,λx hx=>h x (by simp[hx])⟩
theorem Kh{b:ad}{i:Nat}{v:Int}(h:bytes b)(h0:0<=v)(h1:v<=255):bytes (b.set i v):=by
 intro x hx
 rcases wz hx with hx|rfl
 .exact h x hx
 .exact⟨h0,h1⟩
theorem pN{b:ad}{i:Nat}{v:Int}(h:bytes b):bytes (cj b i v):=Kh (Kh h ab ab) ab ab
theorem Db{b:ad}{k:Nat}(h:bytes b):0<=aK b k/\aK b k<=65535:=by
 have:=Em 2 ((b.drop k).take 2) (by rw[cW];omega) (λx hx=>h x (uW (oB hx)))
 have e:(256:Int)^2=65536:=rfl
 unfold aK;omega
theorem mI(b:ad)(i:Nat)(v:Int):(cj b i v).length=b.length:=by simp[cj]
theorem Vq{s d:Int}{b:ad}(hb:bytes b)(h8:¬ (b.length:Int)<8)(hl:¬ (1480:Int)<b.length)(hf:aK b (toNat 4)=b.length) :
  kC s d (cO b 0 2,cO b 2 2,b.drop (toNat 8))=b↔jO s d (cj b (toNat 6) 0)=aK b (toNat 6):=by
 obtain⟨a0,a1,a2,a3,a4,a5,a6,a7,r,rfl⟩:=DZ b ab
 have hc:=Fv (a:=s) (b:=d) (pN (i:=toNat 6) (v:=0) hb)
 obtain⟨q0,q1,q2,q3,q4,q5,q6,q7,hr⟩:=F7 hb
 have e0:=qB (a0::a1::a2::a3::a4::a5::a6::a7::r) 0 aC ab
 have e2:=qB (a0::a1::a2::a3::a4::a5::a6::a7::r) 2 aC ab
 have r0:aK (a0::a1::a2::a3::a4::a5::a6::a7::r) 0=a0*256+a1:=by simp[aK,dO]
 have r2:aK (a0::a1::a2::a3::a4::a5::a6::a7::r) 2=a2*256+a3:=by simp[aK,dO]
 have r4:aK (a0::a1::a2::a3::a4::a5::a6::a7::r) (toNat 4)=a4*256+a5:=by simp[aK,dO]
 have r6:aK (a0::a1::a2::a3::a4::a5::a6::a7::r) (toNat 6)=a6*256+a7:=by simp[aK,dO]
 rw[show ((0:Nat):Int)=0 from rfl] at e0
 rw[show ((2:Nat):Int)=2 from rfl] at e2
 rw[e0,e2,r0,r2]
 rw[r4] at hf
 have hlen:((a0::a1::a2::a3::a4::a5::a6::a7::r).length:Int)=8+(r.length:Int):=by simp only[cQ];omega
 rw[hlen] at hf
 have hs:cj (a0::a1::a2::a3::a4::a5::a6::a7::r) (toNat 6) 0=a0::a1::a2::a3::a4::a5::0::0::r:=by simp[cj]
 have hbody:fx (a0*256+a1,a2*256+a3,r)=a0::a1::a2::a3::a4::a5::0::0::r:=by
  unfold fx;simp only[← hf,qJ q0.1 q0.2 q1.1 q1.2,qJ q2.1 q2.2 q3.1 q3.2,qJ q4.1 q4.2 q5.1 q5.2];rfl
 obtain⟨k1,k2⟩:=KZ (a:=s) (b:=d) (e:=(a0*256+a1,a2*256+a3,r)) ⟨(hT _).2 (by show 0<=a0*256+a1/\a0*256+a1<=65535;omega),(hT _).2 (by show 0<=a2*256+a3/\a2*256+a3<=65535;omega)⟩
 have hl2:¬ (1480:Int)<((8+r.length:Nat):Int):=ab
 rw[H4,af hl2,hbody] at k1
 show kC s d (a0*256+a1,a2*256+a3,r)=_↔_
 rw[k1]
 rw[hs] at hc ⊢
 rw[r6]
 generalize jO s d (a0::a1::a2::a3::a4::a5::0::0::r)=c at hc
 rw[← H9 hc.1 hc.2 q6.1 q6.2 q7.1 q7.2]
 simp[cj]
theorem Ql(b:ad)(k:Nat)(h:k+4<=b.length)(hk:(k:Int)<=1000000):cO b k 4=aK b k*65536+aK b (k+2):=by
 rw[cO,af ab]
 have hd:∃ x y z w r,b.drop k=x::y::z::w::r:=by
  have:4<=(b.drop k).length:=by rw[dR];omega
  match b.drop k,this with
  | x::y::z::w::r,_=>exact⟨x,y,z,w,r,rfl⟩
 obtain⟨x,y,z,w,r,hd⟩:=hd
 have h2:b.drop (k+2)=z::w::r:=by rw[← List.drop_drop,hd];rfl
 unfold aK
 rw[h2,show b.drop (k:Int).toNat=b.drop k from rfl,hd]
 simp[dO];omega
theorem Ps{a b c d:Int}(ha:0<=a/\a<=255)(hb:0<=b/\b<=255)(hc:0<=c/\c<=255)(hd:0<=d/\d<=255):w4 ((a*256+b)*65536+(c*256+d))=[a,b,c,d]:=by
 unfold w4
 have e1:((a*256+b)*65536+(c*256+d))/16777216%256=a:=ab
 have e2:((a*256+b)*65536+(c*256+d))/65536%256=b:=ab
 have e3:((a*256+b)*65536+(c*256+d))/256%256=c:=ab
 have e4:((a*256+b)*65536+(c*256+d))%256=d:=ab
 rw[e1,e2,e3,e4]
theorem gk(x y:Int)(r:ad):aK (x::y::r) 0=x*256+y:=by simp[aK,dO]
theorem YX{s d:Int}{b:ad}(hb:bytes b)(h8:¬ (b.length:Int)<20)(hl:¬ (1480:Int)<b.length)(hf:vS b) :
  eV s d (aK b 0,aK b 2,aK b 4*65536+aK b 6,aK b 8*65536+aK b 10,b.getD (toNat 13) default,aK b 14,b.drop (toNat 20))=b↔fB s d 6 (cj b (toNat 16) 0)=aK b (toNat 16):=by
 obtain⟨a0,a1,a2,a3,a4,a5,a6,a7,r,rfl⟩:=DZ b ab
 obtain⟨c0,c1,c2,c3,c4,c5,c6,c7,r,rfl⟩:=DZ r (by simp only[cQ] at h8;omega)
 have h4:∃ x y z w q,r=x::y::z::w::q:=by
  have:4<=r.length:=by simp only[cQ] at h8;omega
  match r,this with
  | x::y::z::w::q,_=>exact⟨x,y,z,w,q,rfl⟩
 obtain⟨x,y,z,w,q,rfl⟩:=h4
 have hc:=xt (a:=s) (b:=d) (p:=6) (pN (i:=toNat 16) (v:=0) hb)
 obtain⟨q0,q1,q2,q3,q4,q5,q6,q7,hr⟩:=F7 hb
 obtain⟨p0,p1,p2,p3,p4,p5,p6,p7,hr⟩:=F7 hr
 have px:=hr x aC
 have py:=hr y aC
 have pz:=hr z aC
 have pw:=hr w aC
 obtain⟨f0,f1⟩:=hf
 have f0:c4=80:=f0
 have f1:z*256+w=0:=by rw[← f1];simp[aK,dO]
 have z0:z=0:=ab
 have w0:w=0:=ab
 subst f0 z0 w0
 have hs:cj (a0::a1::a2::a3::a4::a5::a6::a7::c0::c1::c2::c3::80::c5::c6::c7::x::y::0::0::q) (toNat 16) 0=a0::a1::a2::a3::a4::a5::a6::a7::c0::c1::c2::c3::80::c5::c6::c7::0::0::0::0::q:=rfl
 have hw:∀ e:kV,e=(a0*256+a1,a2*256+a3,(a4*256+a5)*65536+(a6*256+a7),(c0*256+c1)*65536+(c2*256+c3),c5,c6*256+c7,q) →
   (eV s d e=(a0::a1::a2::a3::a4::a5::a6::a7::c0::c1::c2::c3::80::c5::c6::c7::x::y::0::0::q)↔fB s d 6 (cj (a0::a1::a2::a3::a4::a5::a6::a7::c0::c1::c2::c3::80::c5::c6::c7::x::y::0::0::q) (toNat 16) 0)=x*256+y):=by
  rintro e rfl;have hbody:jD (a0*256+a1,a2*256+a3,(a4*256+a5)*65536+(a6*256+a7),(c0*256+c1)*65536+(c2*256+c3),c5,c6*256+c7,q)=a0::a1::a2::a3::a4::a5::a6::a7::c0::c1::c2::c3::80::c5::c6::c7::0::0::0::0::q:=by
   unfold jD;simp only[qJ q0.1 q0.2 q1.1 q1.2,qJ q2.1 q2.2 q3.1 q3.2,Ps q4 q5 q6 q7,Ps p0 p1 p2 p3,qJ p6.1 p6.2 p7.1 p7.2];rfl
  have hok:nM (a0*256+a1,a2*256+a3,(a4*256+a5)*65536+(a6*256+a7),(c0*256+c1)*65536+(c2*256+c3),c5,c6*256+c7,q):=by
   refine⟨(hT _).2 ?_,(hT _).2 ?_,?_,?_,?_,(hT _).2 ?_⟩ <;> simp only <;> omega
  obtain⟨k1,k2⟩:=HO (a:=s) (b:=d) hok;have hl2:¬ (1480:Int)<((20+q.length:Nat):Int):=by simp only[cQ] at hl;omega
  rw[we,af hl2,hbody] at k1;rw[k1];rw[hs] at hc ⊢;generalize fB s d 6 (a0::a1::a2::a3::a4::a5::a6::a7::c0::c1::c2::c3::80::c5::c6::c7::0::0::0::0::q)=c at hc;rw[← H9 hc.1 hc.2 px.1 px.2 py.1 py.2];constructor
  .intro h;have e1:=iB (λl=>l.getD 16 0) h;have e2:=iB (λl=>l.getD 17 0) h;exact⟨e1,e2⟩
  .rintro⟨h1,h2⟩;show a0::a1::a2::a3::a4::a5::a6::a7::c0::c1::c2::c3::80::c5::c6::c7::(c/256%256)::(c%256)::0::0::q=_;rw[h1,h2]
 have hx:aK (a0::a1::a2::a3::a4::a5::a6::a7::c0::c1::c2::c3::80::c5::c6::c7::x::y::0::0::q) (toNat 16)=x*256+y:=by simp[aK,dO]
 rw[hx]
 apply hw
 generalize hB:(a0::a1::a2::a3::a4::a5::a6::a7::c0::c1::c2::c3::80::c5::c6::c7::x::y::0::0::q)=B
 have i0:aK B 0=a0*256+a1:=by rw[← hB];exact gk _ _ _
 have i2:aK B 2=a2*256+a3:=by rw[← hB];exact gk _ _ _
 have i4:aK B 4=a4*256+a5:=by rw[← hB];exact gk _ _ _
 have i6:aK B 6=a6*256+a7:=by rw[← hB];exact gk _ _ _
 have i8:aK B 8=c0*256+c1:=by rw[← hB];exact gk _ _ _
 have i10:aK B 10=c2*256+c3:=by rw[← hB];exact gk _ _ _
 have i14:aK B 14=c6*256+c7:=by rw[← hB];exact gk _ _ _
 have i13:B.getD (toNat 13) default=c5:=by rw[← hB];rfl
 have i20:B.drop (toNat 20)=q:=by rw[← hB];rfl
 rw[i0,i2,i4,i6,i8,i10,i14,i13,i20]
theorem NU{n x:Int}(h0:0<=n)(h1:n<=65535)(h2:0<=x)(h3:x<=65535):bits .or .i64 (dX .i64 n 16) x=n*65536+x:=by
 have e:dX .i64 n 16=n*65536:=by
  show IntKind.i64.wrap (n*2^(min 16 64))=_;rw[aQ (by simp;omega) (by simp;omega)];rfl
 rw[e]
 obtain⟨m,rfl⟩:=nH h0
 obtain⟨y,rfl⟩:=nH h2
 have:=NO (m*65536) y ab ab
 rw[nat_join 16 (m*65536) y ab ab,show ((m*65536:Nat):Int)=(m:Int)*65536 from by omega,show ((m*65536+y:Nat):Int)=(m:Int)*65536+(y:Int) from by omega] at this
 exact this
def ay7:Ct:=⟨[.val (.sl bz)],[.agg Eo,.val cI],λd=>[(d.1.length:Int)<=1000000],λd=>((dW d.1,gv d.1,()),())⟩
def r5 :=
 (false,(0:Int),(0:Int),([]:ad))
theorem aq0 :
 ∀(a:ad),(a.length<=maxLen/\ ∀(b:Int),b∈a->0<=b/\b<=255)/\True->(ac a)<=1000000->ao (decide ((ac a)<8)) ((r5)=dW a/\3=gv a) ((0:Int)<=0/\0<(ac a)/\ ∀(b:Bool),b= ! decide (ah a (0:Int)=8)->(b->(aq b)/\(0:Int)<=0/\0<(ac a)/\True)/\(ae b)/\(ae b)/\(aq b)/\ ∀(c:Bool),(c=bif b then ! decide (ah a (0:Int)=0) else false)->((! c)->(aq (! c))/\(0:Int)<=1/\1<(ac a)/\True)/\(ae (! c))/\(ae (! c))/\(aF c)/\ao (bif c then true else ! decide (ah a (1:Int)=0)) ((r5)=dW a/\2=gv a) (ao (decide (1480<(ac a))) ((r5)=dW a/\5=gv a) ((0:Int)<=2/\(2:Int)+2<=(ac a)/\(ac a)<=1099511627776/\ ∀(d:ad)(e:Int),d=cj a (toNat 2) (0:Int)/\e=aK a (toNat 2)->(ac d)<=1099511627776/\ ∀(f:Int),f=65535 -oc (bQ true d)->ao (! decide (f=e)) ((r5)=dW a/\4=gv a) ((0:Int)<=0/\0<(ac a)/\(0:Int)<=4/\(4:Int)+2<=(ac a)/\(ac
 a)<=1099511627776/\(0:Int)<=6/\(6:Int)+2<=(ac a)/\(ac a)<=1099511627776/\(0:Int)<=8/\8<=(ac a)/\(ac a)<=(ac a)/\((length (cA a (toNat 8) (toNat (ac a)))):Int)<=1099511627776/\ ∀(g:ad),g=cA a (toNat 8) (toNat (ac a))->(decide (ah a (0:Int)=0),aK a (toNat 4),aK a (toNat 6),g)=dW a/\0=gv a)))):=by
  delta r5 ae aq aF ah ac;rintro b ⟨⟨-,hb⟩,-⟩ hl;refine av (λh=>?_) (λh8=>?_)
  .exact vt (by rw[gv,am (aL h)]) bi
  have h8:=aO h8;refine⟨ab,ab,?_⟩
  (repeat (refine bO ?_;repeat refine bP ?_));refine av (λh=>?_) (λhf=>?_)
  .refine vt (by rw[gv,af h8,am];rintro⟨f0,f1⟩;rw[dM f1] at h;rcases f0 with f0|f0 <;> rw[f0] at h <;> simp at h) bi
  have hf:vx b:=by
   unfold vx;by_cases k1:b.getD (toNat 1) default=0
   .by_cases k2:b.getD (toNat 0) default=8
    .exact⟨.inl k2,k1⟩
    .by_cases k3:b.getD (toNat 0) default=0
     .exact⟨.inr k3,k1⟩
     .rw[dw k2,dw k3] at hf;simp at hf
   .rw[dw k1] at hf;simp[db] at hf
  refine av (λh=>?_) (λh5=>?_)
  .exact vt (by rw[gv,af h8,af (λk=>k hf),am (aL h)]) bi
  have h5:=aO h5;refine⟨ab,ab,ab,?_⟩;rintro x w ⟨rfl,rfl⟩;refine⟨by simp[cj];omega,?_⟩;rintro c rfl;refine av (λh=>?_) (λh=>?_)
  .refine vt (by rw[gv,af h8,af (λk=>k hf),af h5,am];intro k;rw[cX] at k;rw[dM k] at h;cases h) bi
  have h0:gv b=0:=by
   rw[gv,af h8,af (λk=>k hf),af h5,af];intro k;rw[cX] at k;rw[dw k] at h;cases h
  refine⟨ab,ab,ab,ab,ab,ab,ab,ab,ab,ab,ab,by rw[qA,dR];omega,?_⟩;rintro y rfl;rw[dW,am h0,h0,qA];exact⟨rfl,rfl⟩
theorem YS:aD 158 ay7.spec:=aH Tryz.func158 (au (au (au (au aE (Ct.named FX)) (Ct.named zJ)) Ea) (Ct.named sZ)) aR aq0
def ab0:Ct:=⟨[.val (.sl bz)],[.agg Eo,.val cI],λd=>[(d.1.length:Int)<=1000000],λd=>((dW d.1,gv d.1,()),())⟩
def Da(a:ad) :=
 (decide (ah a (0:Int)=0),cO a (4:Int) (2:Int),cO a (6:Int) (2:Int),cA a (toNat 8) (toNat (ac a)))
theorem Wb :
 ∀(a:ad),(a.length<=maxLen/\ ∀(b:Int),b∈a->0<=b/\b<=255)/\True->(ac a)<=1000000->ao (decide ((ac a)<8)) ((r5)=dW a/\3=gv a) ((0:Int)<=0/\0<(ac a)/\ ∀(b:Bool),b= ! decide (ah a (0:Int)=8)->(b->(aq b)/\(0:Int)<=0/\0<(ac a)/\True)/\(ae b)/\(ae b)/\(aq b)/\ ∀(c:Bool),(c=bif b then ! decide (ah a (0:Int)=0) else false)->((! c)->(aq (! c))/\(0:Int)<=1/\1<(ac a)/\True)/\(ae (! c))/\(ae (! c))/\(aF c)/\ao (bif c then true else ! decide (ah a (1:Int)=0)) ((r5)=dW a/\2=gv a) (ao (decide (1480<(ac a))) ((r5)=dW a/\5=gv a) ((0:Int)<=0/\0<(ac a)/\(ac a)<=9223372036854775807/\(ac a)<=9223372036854775807/\(0:Int)<=8/\8<=(ac a)/\(ac a)<=(ac a)/\length (cA a (toNat 8) (toNat (ac a)))*(1:Nat)<=(140737488355328:Nat)/\((length (cA a (toNat 8) (toNat (ac a)))):Int)<=1073741824/\ ∀(d:ad)
 (e:Int),d=fh (Da a)/\e=jF (Da a)->ao (! decide (d=a)) ((r5)=dW a/\4=gv a) ((Da a)=dW a/\0=gv a)))):=by
  delta r5 Da ae aq aF ah ac;rintro b ⟨⟨-,hb⟩,-⟩ hl;refine av (λh=>?_) (λh8=>?_)
  .exact vt (by rw[gv,am (aL h)]) bi
  have h8:=aO h8;refine⟨ab,ab,?_⟩
  (repeat (refine bO ?_;repeat refine bP ?_));refine av (λh=>?_) (λhf=>?_)
  .refine vt (by rw[gv,af h8,am];rintro⟨f0,f1⟩;rw[dM f1] at h;rcases f0 with f0|f0 <;> rw[f0] at h <;> simp at h) bi
  have hf:vx b:=by
   unfold vx;by_cases k1:b.getD (toNat 1) default=0
   .by_cases k2:b.getD (toNat 0) default=8
    .exact⟨.inl k2,k1⟩
    .by_cases k3:b.getD (toNat 0) default=0
     .exact⟨.inr k3,k1⟩
     .rw[dw k2,dw k3] at hf;simp at hf
   .rw[dw k1] at hf;simp[db] at hf
  refine av (λh=>?_) (λh5=>?_)
  .exact vt (by rw[gv,af h8,af (λk=>k hf),am (aL h)]) bi
  have h5:=aO h5;rw[qA]
  repeat refine⟨ab,?_⟩
  refine⟨by rw[dR];omega,by rw[dR];omega,?_⟩;rintro x e ⟨rfl,rfl⟩;have hre:=ad6 hb h8 h5 hf;refine av (λh=>?_) (λh=>?_)
  .refine vt (by rw[gv,af h8,af (λk=>k hf),af h5,am];intro k;rw[dM (hre.2 k)] at h;cases h) bi
  have h0:gv b=0:=by
   rw[gv,af h8,af (λk=>k hf),af h5,af];intro k;rw[dw (λq=>k (hre.1 q))] at h;cases h
  have e4:=qB b 4 ab ab;have e6:=qB b 6 ab ab;rw[show ((4:Nat):Int)=4 from rfl] at e4;rw[show ((6:Nat):Int)=6 from rfl] at e6;rw[dW,am h0,h0,e4,e6];exact⟨rfl,rfl⟩
theorem at0:aD 220 ab0.spec:=aH Tryz.func220 (au (au (au aE yw) (Ct.named JV)) AK) aR Wb
theorem Cf{b:ad}{k:Nat}(h:k+2<=b.length):aK b k=b.getD k default*256+b.getD (k+1) default:=by
 have h0:k<b.length:=ab
 have h1:k+1<b.length:=ab
 have e:b.drop k=b[k]::b[k+1]::b.drop (k+1+1):=by rw[tL h0,tL h1]
 unfold aK
 rw[e,ce,ce,cF h0,cF h1]
 generalize b.drop (k+1+1)=r
 generalize b[k]=u
 generalize b[k+1]=v
 simp[dO]
theorem Yi(p r:Prop) [Decidable p] [Decidable r]:(bif !decide p then true else !decide r) = !decide (p/\r):=by
 by_cases p <;> by_cases r <;> simp[*]
theorem Wf(p r s:Prop) [Decidable p] [Decidable r] [Decidable s]:(bif (bif !decide p then true else !decide r) then true else !decide s) = !decide (p/\r/\s):=by
 by_cases p <;> by_cases r <;> by_cases s <;> simp[*]
def aT2:Ct:=⟨[.val cy,.val cy,.val (.sl bz)],[.agg Hi,.val cI],λd=>[(d.2.2.1.length:Int)<=1000000],λd=>((lF d.1 d.2.1 d.2.2.1,gf d.1 d.2.1 d.2.2.1,()),())⟩
def sc :=
 ((0:Int),(0:Int),([]:ad))
def vP(b:Int)(c:ad) :=
 (0<=b/\b<=4294967295)/\(c.length<=maxLen/\ ∀(d:Int),d∈c->0<=d/\d<=255)/\True
theorem ao2 :
 ∀(a b:Int)(c:ad),(0<=a/\a<=4294967295)/\(vP b c)->(ac c)<=1000000->ao (decide ((ac c)<8)) ((sc)=lF a b c/\3=gf a b c) ((0:Int)<=4/\(4:Int)+2<=(ac c)/\(ac c)<=1099511627776/\ao (! decide (aK c (toNat 4)=(ac c))) ((sc)=lF a b c/\2=gf a b c) (ao (decide (1480<(ac c))) ((sc)=lF a b c/\5=gf a b c) ((0:Int)<=6/\(6:Int)+2<=(ac c)/\(ac c)<=1099511627776/\ ∀(d:ad)(e:Int),d=cj c (toNat 6) (0:Int)/\e=aK c (toNat 6)->(ac d)<=1073741824/\ ∀(f:Int),f=jO a b d->ao (! decide (f=e)) ((sc)=lF a b c/\4=gf a b c) ((0:Int)<=0/\(0:Int)+2<=(ac c)/\(ac c)<=1099511627776/\(0:Int)<=2/\(2:Int)+2<=(ac c)/\(ac c)<=1099511627776/\(0:Int)<=8/\8<=(ac c)/\(ac c)<=(ac c)/\((length (cA c (toNat 8) (toNat (ac c)))):Int)<=1099511627776/\ ∀(g:ad),g=cA c (toNat 8) (toNat (ac c))->(aK c
 (toNat 0),aK c (toNat 2),g)=lF a b c/\0=gf a b c)))):=by
  delta sc vP ac;rintro s d b ⟨-,-,⟨-,hb⟩,-⟩ hl;refine av (λh=>?_) (λh8=>?_)
  .exact uQ (by rw[gf,am (aL h)]) bi
  have h8:=aO h8
  repeat refine⟨ab,?_⟩
  refine av (λh=>?_) (λhf=>?_)
  .exact uQ (by rw[gf,af h8,am];simpa using h) bi
  have hf:aK b (toNat 4)=b.length:=by simpa using hf
  refine av (λh=>?_) (λh5=>?_)
  .exact uQ (by rw[gf,af h8,af (λk=>k hf),am (aL h)]) bi
  have h5:=aO h5
  repeat refine⟨ab,?_⟩
  rintro x w ⟨rfl,rfl⟩;refine⟨by rw[mI];omega,?_⟩;rintro c rfl;refine av (λh=>?_) (λh=>?_)
  .refine uQ (by rw[gf,af h8,af (λk=>k hf),af h5,am];intro k;rw[dM k] at h;cases h) bi
  have h0:gf s d b=0:=by
   rw[gf,af h8,af (λk=>k hf),af h5,af];intro k;rw[dw k] at h;cases h
  rw[qA]
  repeat refine⟨ab,?_⟩
  refine⟨by rw[dR];omega,?_⟩;rintro y rfl;rw[lF,am h0,h0];exact⟨rfl,rfl⟩
theorem Ug:aD 266 aT2.spec:=aH Tryz.func266 (au (au (au (au aE (Ct.named FX)) (Ct.named ac7)) Ea) (Ct.named sZ)) aR ao2
def aM6:Ct:=⟨[.val cy,.val cy,.val (.sl bz)],[.agg Hi,.val cI],λd=>[(d.2.2.1.length:Int)<=1000000],λd=>((lF d.1 d.2.1 d.2.2.1,gf d.1 d.2.1 d.2.2.1,()),())⟩
def EF(c:ad) :=
 (cO c (0:Int) (2:Int),cO c (2:Int) (2:Int),cA c (toNat 8) (toNat (ac c)))
theorem Ut :
 ∀(a b:Int)(c:ad),(0<=a/\a<=4294967295)/\(vP b c)->(ac c)<=1000000->ao (decide ((ac c)<8)) ((sc)=lF a b c/\3=gf a b c) ((ac c)<=9223372036854775807/\ao (! decide (cO c (4:Int) (2:Int)=(ac c))) ((sc)=lF a b c/\2=gf a b c) (ao (decide (1480<(ac c))) ((sc)=lF a b c/\5=gf a b c) ((ac c)<=9223372036854775807/\(ac c)<=9223372036854775807/\(0:Int)<=8/\8<=(ac c)/\(ac c)<=(ac c)/\length (cA c (toNat 8) (toNat (ac c)))*(1:Nat)<=(140737488355328:Nat)/\((length (cA c (toNat 8) (toNat (ac c)))):Int)<=1073741824/\ ∀(d:ad)(e:Int),d=kC a b (EF c)/\e=mV (EF c)->ao (! decide (d=c)) ((sc)=lF a b c/\4=gf a b c) ((EF c)=lF a b c/\0=gf a b c)))):=by
  delta sc EF vP ac;rintro s d b ⟨-,-,⟨-,hb⟩,-⟩ hl;refine av (λh=>?_) (λh8=>?_)
  .exact uQ (by rw[gf,am (aL h)]) bi
  have h8:=aO h8;have e4:=qB b 4 ab ab;have e0:=qB b 0 ab ab;have e2:=qB b 2 ab ab;rw[show ((4:Nat):Int)=4 from rfl] at e4;rw[show ((0:Nat):Int)=0 from rfl] at e0;rw[show ((2:Nat):Int)=2 from rfl] at e2
  repeat refine⟨ab,?_⟩
  rw[e4];refine av (λh=>?_) (λhf=>?_)
  .exact uQ (by rw[gf,af h8,am];simpa using h) bi
  have hf:aK b (toNat 4)=b.length:=by simpa using hf
  refine av (λh=>?_) (λh5=>?_)
  .exact uQ (by rw[gf,af h8,af (λk=>k hf),am (aL h)]) bi
  have h5:=aO h5;rw[qA]
  repeat refine⟨ab,?_⟩
  refine⟨by rw[dR];omega,by rw[dR];omega,?_⟩;rintro x e ⟨rfl,rfl⟩;have hre:=Vq (s:=s) (d:=d) hb h8 h5 hf;refine av (λh=>?_) (λh=>?_)
  .refine uQ (by rw[gf,af h8,af (λk=>k hf),af h5,am];intro k;rw[dM (hre.2 k)] at h;cases h) bi
  have h0:gf s d b=0:=by
   rw[gf,af h8,af (λk=>k hf),af h5,af];intro k;rw[dw (λq=>k (hre.1 q))] at h;cases h
  rw[lF,am h0,h0,e0,e2];exact⟨rfl,rfl⟩
theorem as2:aD 222 aM6.spec:=aH Tryz.func222 (au (au (au aE yw) (Ct.named Pa)) AK) aR Ut
def ab8:Ct:=⟨[.val cy,.val cy,.val (.sl bz)],[.agg zg,.val cI],λd=>[(d.2.2.1.length:Int)<=1000000],λd=>((d7 d.1 d.2.1 d.2.2.1,fW d.1 d.2.1 d.2.2.1,()),())⟩
def tD :=
 ((0:Int),(0:Int),(0:Int),(0:Int),(0:Int),(0:Int),([]:ad))
theorem aS7 :
 ∀(a b:Int)(c:ad),(0<=a/\a<=4294967295)/\(vP b c)->(ac c)<=1000000->ao (decide ((ac c)<20)) ((tD)=d7 a b c/\3=fW a b c) ((0:Int)<=12/\12<(ac c)/\ ∀(d:Bool),d= ! decide (ah c (12:Int)=80)->((! d)->(aq (! d))/\(0:Int)<=18/\(18:Int)+2<=(ac c)/\(ac c)<=1099511627776/\True)/\(ae (! d))/\(aF d)/\ao (bif d then true else ! decide (aK c (toNat 18)=0)) ((tD)=d7 a b c/\2=fW a b c) (ao (decide (1480<(ac c))) ((tD)=d7 a b c/\5=fW a b c) ((0:Int)<=16/\(16:Int)+2<=(ac c)/\(ac c)<=1099511627776/\ ∀(e:ad)(f:Int),e=cj c (toNat 16) (0:Int)/\f=aK c (toNat 16)->(ac e)<=1073741824/\ ∀(g:Int),g=fB a b (6:Int) e->ao (! decide (g=f)) ((tD)=d7 a b c/\4=fW a b c) ((0:Int)<=0/\(0:Int)+2<=(ac c)/\(ac c)<=1099511627776/\(0:Int)<=2/\(2:Int)+2<=(ac c)/\(ac c)<=1099511627776/\(0:Int)<=4/\(4:Int)+2<=(ac c)/\(ac
 c)<=1099511627776/\(0:Int)<=16/\(0:Int)<=6/\(6:Int)+2<=(ac c)/\(ac c)<=1099511627776/\(0:Int)<=8/\(8:Int)+2<=(ac c)/\(ac c)<=1099511627776/\(0:Int)<=16/\(0:Int)<=10/\(10:Int)+2<=(ac c)/\(ac c)<=1099511627776/\(0:Int)<=13/\13<(ac c)/\(0:Int)<=14/\(14:Int)+2<=(ac c)/\(ac c)<=1099511627776/\(0:Int)<=20/\20<=(ac c)/\(ac c)<=(ac c)/\((length (cA c (toNat 20) (toNat (ac c)))):Int)<=1099511627776/\ ∀(h:ad),h=cA c (toNat 20) (toNat (ac c))->(aK c (toNat 0),aK c (toNat 2),bits BinOp.or IntKind.i64 (dX IntKind.i64 (aK c (toNat 4)) (16:Int)) (aK c (toNat 6)),bits BinOp.or IntKind.i64 (dX IntKind.i64 (aK c (toNat 8)) (16:Int)) (aK c (toNat 10)),ai (ah c (13:Int)),aK c (toNat 14),h)=d7 a b c/\0=fW a b c)))):=by
  delta tD vP ae aq aF ai ah ac;rintro s d b ⟨-,-,⟨-,hb⟩,-⟩ hl;refine av (λh=>?_) (λh8=>?_)
  .exact vn (by rw[fW,am (aL h)]) bi
  have h8:=aO h8;refine⟨ab,ab,?_⟩
  (repeat (refine bO ?_;repeat refine bP ?_));rw[show (bif !decide (b.getD (toNat 12) default=80) then true else !decide (aK b (toNat 18)=0)) = !decide (vS b) from (Yi _ _).trans (iB (λx => !x) (decide_eq_decide.2 lW))];refine av (λh=>?_) (λhf=>?_)
  .exact vn (by rw[fW,af h8,am];simpa using h) bi
  have hf:vS b:=by simpa using hf
  refine av (λh=>?_) (λh5=>?_)
  .exact vn (by rw[fW,af h8,af (λk=>k hf),am (aL h)]) bi
  have h5:=aO h5
  repeat refine⟨ab,?_⟩
  rintro x w ⟨rfl,rfl⟩;refine⟨by rw[mI];omega,?_⟩;rintro c rfl;refine av (λh=>?_) (λh=>?_)
  .exact vn (by rw[fW,af h8,af (λk=>k hf),af h5,am];intro k;rw[dM k] at h;cases h) bi
  have h0:fW s d b=0:=by
   rw[fW,af h8,af (λk=>k hf),af h5,af];intro k;rw[dw k] at h;cases h
  rw[qA]
  repeat refine⟨ab,?_⟩
  refine⟨by rw[dR];omega,?_⟩;rintro y rfl;have g:=hb _ (bW (xs:=b) (i:=13) ab ab);have v4:=Db (k:=toNat 4) hb;have v6:=Db (k:=toNat 6) hb;have v8:=Db (k:=toNat 8) hb;have v10:=Db (k:=toNat 10) hb;rw[d7,am h0,h0,aQ ab ab,NU v4.1 v4.2 v6.1 v6.2,NU v8.1 v8.2 v10.1 v10.2];exact⟨rfl,rfl⟩
theorem Su:aD 162 ab8.spec:=aH Tryz.func162 (au (au (au (au aE (Ct.named FX)) (Ct.named I6)) Ea) (Ct.named sZ)) aR aS7
def Za:Ct:=⟨[.val cy,.val cy,.val (.sl bz)],[.agg zg,.val cI],λd=>[(d.2.2.1.length:Int)<=1000000],λd=>((d7 d.1 d.2.1 d.2.2.1,fW d.1 d.2.1 d.2.2.1,()),())⟩
def CR(c:ad) :=
 (cO c (0:Int) (2:Int),cO c (2:Int) (2:Int),cO c (4:Int) (4:Int),cO c (8:Int) (4:Int),ai (ah c (13:Int)),cO c (14:Int) (2:Int),cA c (toNat 20) (toNat (ac c)))
theorem Z4 :
 ∀(a b:Int)(c:ad),(0<=a/\a<=4294967295)/\(vP b c)->(ac c)<=1000000->ao (decide ((ac c)<20)) ((tD)=d7 a b c/\3=fW a b c) ((0:Int)<=12/\12<(ac c)/\ ∀(d:Bool),d= ! decide (ah c (12:Int)=80)->((! d)->(aq (! d))/\(0:Int)<=18/\18<(ac c)/\True)/\(ae (! d))/\(ae (! d))/\(aF d)/\ ∀(e:Bool),(e=bif d then true else ! decide (ah c (18:Int)=0))->((! e)->(aq (! e))/\(0:Int)<=19/\19<(ac c)/\True)/\(ae (! e))/\(ae (! e))/\(aF e)/\ao (bif e then true else ! decide (ah c (19:Int)=0)) ((tD)=d7 a b c/\2=fW a b c) (ao (decide (1480<(ac c))) ((tD)=d7 a b c/\5=fW a b c) ((ac c)<=9223372036854775807/\(ac c)<=9223372036854775807/\(ac c)<=9223372036854775807/\(ac c)<=9223372036854775807/\(0:Int)<=13/\13<(ac c)/\(ac c)<=9223372036854775807/\(0:Int)<=20/\20<=(ac c)/\(ac c)<=(ac c)/\length (cA c (toNat 20) (toNat (ac
 c)))*(1:Nat)<=(140737488355328:Nat)/\((length (cA c (toNat 20) (toNat (ac c)))):Int)<=1000000/\ ∀(f:ad)(g:Int),f=eV a b (CR c)/\g=j8 (CR c)->ao (! decide (f=c)) ((tD)=d7 a b c/\4=fW a b c) ((CR c)=d7 a b c/\0=fW a b c)))):=by
  delta tD CR vP ae aq aF ai ah ac;rintro s d b ⟨-,-,⟨-,hb⟩,-⟩ hl;refine av (λh=>?_) (λh8=>?_)
  .exact vn (by rw[fW,am (aL h)]) bi
  have h8:=aO h8;refine⟨ab,ab,?_⟩
  (repeat (refine bO ?_;repeat refine bP ?_));have hz:(b.getD (toNat 18) default=0/\b.getD (toNat 19) default=0)↔aK b (toNat 18)=0:=by
   have g0:=hb _ (bW (xs:=b) (i:=18) ab ab);have g1:=hb _ (bW (xs:=b) (i:=19) ab ab);rw[Cf (k:=toNat 18) (by show 18+2<=_;omega)];show _↔b.getD (toNat 18) default*256+b.getD (toNat 19) default=0;omega
  rw[show (bif (bif !decide (b.getD (toNat 12) default=80) then true else !decide (b.getD (toNat 18) default=0)) then true else !decide (b.getD (toNat 19) default=0)) = !decide (vS b) from (Wf _ _ _).trans (iB (λx => !x) (decide_eq_decide.2 (and_congr lW hz)))];refine av (λh=>?_) (λhf=>?_)
  .exact vn (by rw[fW,af h8,am];simpa using h) bi
  have hf:vS b:=by simpa using hf
  refine av (λh=>?_) (λh5=>?_)
  .exact vn (by rw[fW,af h8,af (λk=>k hf),am (aL h)]) bi
  have h5:=aO h5;rw[qA]
  repeat refine⟨ab,?_⟩
  refine⟨by rw[dR];omega,by rw[dR];omega,?_⟩;have g:=hb _ (bW (xs:=b) (i:=13) ab ab);have e0:=qB b 0 ab ab;have e2:=qB b 2 ab ab;have e4:=Ql b 4 ab ab;have e8:=Ql b 8 ab ab;have e14:=qB b 14 ab ab;rw[show ((0:Nat):Int)=0 from rfl] at e0;rw[show ((2:Nat):Int)=2 from rfl] at e2;rw[show ((4:Nat):Int)=4 from rfl] at e4;rw[show ((8:Nat):Int)=8 from rfl] at e8;rw[show ((14:Nat):Int)=14 from rfl] at e14;rw[e0,e2,e4,e8,e14,aQ ab ab];rintro x e ⟨rfl,rfl⟩;have hre:=YX (s:=s) (d:=d) hb h8 h5 hf;refine av (λh=>?_) (λh=>?_)
  .refine vn (by rw[fW,af h8,af (λk=>k hf),af h5,am];intro k;rw[dM (hre.2 k)] at h;cases h) bi
  have h0:fW s d b=0:=by
   rw[fW,af h8,af (λk=>k hf),af h5,af];intro k;rw[dw (λq=>k (hre.1 q))] at h;cases h
  rw[d7,am h0,h0];exact⟨rfl,rfl⟩
theorem V7:aD 224 Za.spec:=aH Tryz.func224 (au (au (au aE yw) (Ct.named GP)) AK) aR Z4
def E4(data:ad)(e:m8):Prop:=(cZ e.2.1=true/\cZ e.2.2.1=true)/\e.2.2.2=data
def Ib(data:ad)(u:pZ):Prop:=(cZ u.1=true/\cZ u.2.1=true)/\u.2.2=data
def DX(data:ad)(s:kV):Prop:=nM s/\s.2.2.2.2.2.2=data
theorem lV{n:Int}(h0:0<=n)(h1:n<=65535):n/256%256*256+n%256=n:=by omega
theorem aV9{e:m8}(h:jF e=0):fh e=(if e.1 then 0 else 8)::0::(cX (cN e)/256%256)::(cX (cN e)%256)::(e.2.1/256%256)::(e.2.1%256)::(e.2.2.1/256%256)::(e.2.2.1%256)::e.2.2.2:=by
 rw[fh,am h];rfl
theorem Di{data:ad}{e:m8}(h:E4 data e)(hl:(data.length:Int)<=1472):jF e=0:=by
 rw[jF,af (λk=>k h.1),af (by rw[h.2];omega)]
theorem Oz{data:ad}{e:m8}(h:E4 data e)(hd:bytes data)(hl:(data.length:Int)<=1472):gv (fh e)=0/\dW (fh e)=e:=by
 have h0:=Di h hl
 rw[aV9 h0]
 obtain⟨⟨h1,h2⟩,h3⟩:=h
 rw[hT] at h1 h2
 have hc:=nR (wK (e:=e) (by rw[h3];exact hd))
 have hb:cN e=(if e.1 then 0 else 8)::0::0::0::(e.2.1/256%256)::(e.2.1%256)::(e.2.2.1/256%256)::(e.2.2.1%256)::e.2.2.2:=rfl
 obtain⟨r,i,q,l⟩:=e
 simp only at h1 h2 h3 hc hb ⊢
 subst h3
 have he:gv ((if r then 0 else 8)::0::(cX (cN (r,i,q,l))/256%256)::(cX (cN (r,i,q,l))%256)::(i/256%256)::(i%256)::(q/256%256)::(q%256)::l)=0:=by
  rw[gv,af (by simp only[cQ];omega),af,af (by simp only[cQ];omega),af]
  .have e2:aK ((if r then 0 else 8)::0::(cX (cN (r,i,q,l))/256%256)::(cX (cN (r,i,q,l))%256)::(i/256%256)::(i%256)::(q/256%256)::(q%256)::l) (toNat 2)=cX (cN (r,i,q,l))/256%256*256+cX (cN (r,i,q,l))%256:=gk _ _ _;rw[e2,lV hc.1 hc.2];have e3:cj ((if r then 0 else 8)::0::(cX (cN (r,i,q,l))/256%256)::(cX (cN (r,i,q,l))%256)::(i/256%256)::(i%256)::(q/256%256)::(q%256)::l) (toNat 2) 0=cN (r,i,q,l):=rfl;rw[e3];exact λk=>k rfl
  .intro k;apply k;refine⟨?_,rfl⟩;cases r
   .exact .inl rfl
   .exact .inr rfl
 refine⟨he,?_⟩
 rw[dW,am he]
 have e4:aK ((if r then 0 else 8)::0::(cX (cN (r,i,q,l))/256%256)::(cX (cN (r,i,q,l))%256)::(i/256%256)::(i%256)::(q/256%256)::(q%256)::l) (toNat 4)=i/256%256*256+i%256:=gk _ _ _
 have e6:aK ((if r then 0 else 8)::0::(cX (cN (r,i,q,l))/256%256)::(cX (cN (r,i,q,l))%256)::(i/256%256)::(i%256)::(q/256%256)::(q%256)::l) (toNat 6)=q/256%256*256+q%256:=gk _ _ _
 rw[e4,e6,lV h1.1 h1.2,lV h2.1 h2.2]
 cases r <;> rfl
theorem PO{data:ad}{u:pZ}(h:Ib data u)(hl:(data.length:Int)<=1472):mV u=0:=by
 rw[mV,af (λk=>k h.1),af (by rw[h.2];omega)]
theorem Vo{s d:Int}{data:ad}{u:pZ}(h:Ib data u)(hd:bytes data)(hl:(data.length:Int)<=1472):gf s d (kC s d u)=0/\lF s d (kC s d u)=u:=by
 have h0:=PO h hl
 obtain⟨⟨h1,h2⟩,h3⟩:=h
 rw[hT] at h1 h2
 have hc:=Fv (a:=s) (b:=d) (BN (e:=u) (by rw[h3];exact hd))
 obtain⟨sp,dp,l⟩:=u
 simp only at h1 h2 h3 hc
 subst h3
 generalize hB:kC s d (sp,dp,l)=B
 have hs:B=(sp/256%256)::(sp%256)::(dp/256%256)::(dp%256)::((8+l.length:Int)/256%256)::((8+l.length:Int)%256)::(jO s d (fx (sp,dp,l))/256%256)::(jO s d (fx (sp,dp,l))%256)::l:=by rw[← hB,kC,am h0];rfl
 have i0:aK B (toNat 0)=sp/256%256*256+sp%256:=by rw[hs];exact gk _ _ _
 have i2:aK B (toNat 2)=dp/256%256*256+dp%256:=by rw[hs];exact gk _ _ _
 have i4:aK B (toNat 4)=(8+l.length:Int)/256%256*256+(8+l.length:Int)%256:=by rw[hs];exact gk _ _ _
 have i6:aK B (toNat 6)=jO s d (fx (sp,dp,l))/256%256*256+jO s d (fx (sp,dp,l))%256:=by rw[hs];exact gk _ _ _
 have hset:cj B (toNat 6) 0=fx (sp,dp,l):=by rw[hs];rfl
 have hlen:(B.length:Int)=8+l.length:=by rw[hs];simp only[cQ];omega
 have g8:B.drop 8=l:=by rw[hs];rfl
 have he:gf s d B=0:=by
  rw[gf,af ab,af (λq=>q (by rw[i4];omega)),af ab,af];rw[hset,i6,lV hc.1 hc.2];exact λq=>q rfl
 refine⟨he,?_⟩
 rw[lF,am he,i0,i2,g8,lV h1.1 h1.2,lV h2.1 h2.2]
theorem Hz{data:ad}{s:kV}(h:DX data s)(hl:(data.length:Int)<=1460):j8 s=0:=by
 rw[j8,af (λk=>k h.1),af (by rw[h.2];omega)]
theorem Q3{n:Int}(h0:0<=n)(h1:n<=4294967295):(n/16777216%256*256+n/65536%256)*65536+(n/256%256*256+n%256)=n:=ab
theorem LZ{s d:Int}{data:ad}{u:kV}(h:DX data u)(hd:bytes data)(hl:(data.length:Int)<=1460):fW s d (eV s d u)=0/\d7 s d (eV s d u)=u:=by
 have h0:=Hz h hl
 obtain⟨hok,h3⟩:=h
 have hc:=xt (a:=s) (b:=d) (p:=6) (xQ hok (by rw[h3];exact hd))
 obtain⟨h1,h2,k3,k4,k5,k6⟩:=hok
 rw[hT] at h1 h2 k6
 obtain⟨sp,dp,sq,ak,fl,wi,l⟩:=u
 simp only at h1 h2 h3 hc k3 k4 k5 k6
 subst h3
 generalize hC:fB s d 6 (jD (sp,dp,sq,ak,fl,wi,l))=c at hc
 generalize hB:eV s d (sp,dp,sq,ak,fl,wi,l)=B
 have hs:B=(sp/256%256)::(sp%256)::(dp/256%256)::(dp%256)::(sq/16777216%256)::(sq/65536%256)::(sq/256%256)::(sq%256)::(ak/16777216%256)::(ak/65536%256)::(ak/256%256)::(ak%256)::80::fl::(wi/256%256)::(wi%256)::(c/256%256)::(c%256)::0::0::l:=by rw[← hB,eV,am h0,hC];rfl
 have i0:aK B (toNat 0)=sp/256%256*256+sp%256:=by rw[hs];exact gk _ _ _
 have i2:aK B (toNat 2)=dp/256%256*256+dp%256:=by rw[hs];exact gk _ _ _
 have i4:aK B (toNat 4)=sq/16777216%256*256+sq/65536%256:=by rw[hs];exact gk _ _ _
 have i6:aK B (toNat 6)=sq/256%256*256+sq%256:=by rw[hs];exact gk _ _ _
 have i8:aK B (toNat 8)=ak/16777216%256*256+ak/65536%256:=by rw[hs];exact gk _ _ _
 have i10:aK B (toNat 10)=ak/256%256*256+ak%256:=by rw[hs];exact gk _ _ _
 have i14:aK B (toNat 14)=wi/256%256*256+wi%256:=by rw[hs];exact gk _ _ _
 have i16:aK B (toNat 16)=c/256%256*256+c%256:=by rw[hs];exact gk _ _ _
 have i18:aK B (toNat 18)=0:=by rw[hs];exact gk 0 0 _
 have hset:cj B (toNat 16) 0=jD (sp,dp,sq,ak,fl,wi,l):=by rw[hs];rfl
 have hlen:(B.length:Int)=20+l.length:=by rw[hs];simp only[cQ];omega
 have g12:B.getD (toNat 12) default=80:=by rw[hs];rfl
 have g13:B.getD (toNat 13) default=fl:=by rw[hs];rfl
 have g20:B.drop 20=l:=by rw[hs];rfl
 have he:fW s d B=0:=by
  rw[fW,af ab,af (λq=>q ⟨g12,i18⟩),af ab,af];rw[hset,hC,i16,lV hc.1 hc.2];exact λq=>q rfl
 refine⟨he,?_⟩
 rw[d7,am he,i0,i2,i4,i6,i8,i10,g13,i14,g20,lV h1.1 h1.2,lV h2.1 h2.2,lV k6.1 k6.2,Q3 k3.1 k3.2,Q3 k4.1 k4.2]
def qX(s d p n:Int):ad:=w4 s++(w4 d++(w2 p++w2 n))
theorem Je(s d p:Int)(X:ad):bQ true (w8 s d p X)=bQ true (qX s d p X.length)+bQ true X:=by
 have e:w8 s d p X=qX s d p X.length++X:=by simp[w8,qX]
 have hl:(qX s d p X.length).length=12:=by simp[qX,w4,w2]
 rw[e,AV,hl];rfl
theorem UW(s d p n:Int):bQ true (qX s d p n)=bQ true (w4 s)+bQ true (w4 d)+bQ true (w2 p)+bQ true (w2 n):=by
 have h4:∀ n r,bQ true (w4 n++r)=bQ true (w4 n)+bQ true r:=λn r=>by rw[AV,show (w4 n).length=4 from rfl];rfl
 have h2:∀ n r,bQ true (w2 n++r)=bQ true (w2 n)+bQ true r:=λn r=>by rw[AV,show (w2 n).length=2 from rfl];rfl
 rw[qX,h4,h4,h2]
 omega
theorem QQ(e:m8):((fh e).length:Int)<=1480:=by
 unfold fh
 split
 next h=>
  rw[mI,A4];unfold jF at h;split at h
  .cases h
  .split at h
   .cases h
   .omega
 .simp
theorem EI(e:pm):((gN e).length:Int)<=1480:=by
 unfold gN
 split
 next h=>
  rw[mI,CZ];unfold ix at h;split at h
  .cases h
  .split at h
   .cases h
   .split at h
    .cases h
    .omega
 .simp
theorem Mx(s d:Int)(e:kV):((eV s d e).length:Int)<=1480:=by
 unfold eV
 split
 next h=>
  rw[mI,we];unfold j8 at h;split at h
  .cases h
  .split at h
   .cases h
   .omega
 .simp
theorem Lj{l:ad}{i:Nat}{v:Int}(h:i<l.length):(l.set i v).getD i default=v:=by
 rw[ce,List.getElem?_set_self h,fu]
theorem AN{l:ad}{i j:Nat}{v:Int}(h:i≠j):(l.set i v).getD j default=l.getD j default:=by
 rw[ce,List.getElem?_set_ne h,← ce]
theorem Pz(s d p n:Int):p%256<=bQ true (qX s d p n):=by
 rw[UW];simp[bQ,w4,w2];omega
end Go.RS
