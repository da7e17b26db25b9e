/- Wire: numbers in bytes, the Internet checksum. -/
import Derived.Test.YtpdpkobkpacbnaaGreatDoorIdent
set_option maxRecDepth 100000
set_option linter.unusedVariables false
open Int (toNat)
open List (length take set range)
namespace Go.RS
open Go.SX Go.Proofs
def kJ(n:Int)(w k:Nat):ae:=(range k).map λj=>n/256^(w-1-j)%256
def oQ(n w:Int):Prop:=w<1∨7<w∨n<0∨256^w.toNat<=n
instance (n w:Int):Decidable (oQ n w):=by unfold oQ;infer_instance
def cQ(b:ae)(n w:Int):ae:=if oQ n w then [] else b++kJ n w.toNat w.toNat
def qr(n w:Int):Int:=if oQ n w then 1 else 0
def fp(l:ae):Int:=l.foldl (λn x=>n*256+x) 0
def cB(b:ae)(at' w:Int):Int:=if w<1∨7<w∨at'<0∨b.length-w<at' then 0 else fp ((b.drop at'.toNat).take w.toNat)
def tT(b:ae)(at' w:Int):Int:=if w<1∨7<w∨at'<0 then 1 else if b.length-w<at' then 3 else 0
def oc(n:Int):Int:=if n=0 then 0 else (n-1)%65535+1
def bQ:Bool->ae->Int
 | _,[]=>0
 | hi,x::r=>(if hi then x*256 else x)+bQ (!hi) r
def dj(n:Int):Bool:=decide (0<=n/\n<=65535)
theorem Nd(a b:Nat)(ha:a<9223372036854775808)(hb:b<9223372036854775808):bits .or .i64 (a:Int) (b:Int)=((a ||| b:Nat):Int):=by
 have h:a ||| b<2^63:=Nat.or_lt_two_pow ab ab
 have key:(BitVec.ofInt 64 (a:Int) ||| BitVec.ofInt 64 (b:Int)).toNat=a ||| b:=by
  rw[BitVec.toNat_or,BitVec.toNat_ofInt,BitVec.toNat_ofInt];have e1:((a:Int)%((2^64:Nat):Int)).toNat=a:=ab;have e2:((b:Int)%((2^64:Nat):Int)).toNat=b:=ab;rw[e1,e2]
 show IntKind.i64.wrap ((BitVec.ofInt 64 (a:Int) ||| BitVec.ofInt 64 (b:Int)).toNat:Nat)=_
 rw[key,aG ab ab]
theorem KB{n:Int}(h0:0<=n)(h1:n<=36028797018963967):eM .i64 n 8=n*256:=by
 show IntKind.i64.wrap (n*2^(min 8 64))=_
 rw[aG (by simp;omega) (by simp;omega)];rfl
theorem Jj{n x:Int}(h0:0<=n)(h1:n<=36028797018963966)(h2:0<=x)(h3:x<=255):bits .or .i64 (eM .i64 n 8) (IntKind.wrap .i64 x)=n*256+x:=by
 rw[KB h0 ab,aG (n:=x) ab ab]
 obtain⟨m,rfl⟩:=pE h0
 obtain⟨y,rfl⟩:=pE h2
 have:=Nd (m*256) y ab ab
 rw[nat_join 8 (m*256) y ab ab] at this
 push_cast at this
 exact this
theorem xy{n:Int}{k:Nat}(h0:0<=n)(hk:k<8):dF .i64 n (8*k)=n/256^k:=by
 unfold dF
 have hm:min ((8*(k:Int))).toNat IntKind.i64.bits=8*k:=by simp only[IntKind.bits];omega
 rw[hm,AS _ (Int.le_of_lt (Int.pow_pos bt)),Int.pow_mul]
 rfl
theorem Fr{w:Int}(h0:1<=w)(h1:w<=7):eM .i64 1 (IntKind.wrap .i64 (8*w))=256^w.toNat:=by
 have:w=1∨w=2∨w=3∨w=4∨w=5∨w=6∨w=7:=ab
 rcases this with rfl|rfl|rfl|rfl|rfl|rfl|rfl <;> decide
theorem Mb(n:Int)(w k:Nat):kJ n w (k+1)=kJ n w k++[n/256^(w-1-k)%256]:=by
 unfold kJ;rw[nj,lG];rfl
theorem QU(n:Int)(w k:Nat):(kJ n w k).length=k:=by unfold kJ;simp
theorem GK(l:ae)(x:Int):fp (l++[x])=fp l*256+x:=by unfold fp;rw[iD];rfl
theorem FC:∀(k:Nat)(l:ae),l.length<=k->(∀ x∈l,0<=x/\x<=255)->0<=fp l/\fp l<256^k:=by
 intro k
 induction k with
 | zero =>
  intro l hl _;have:l=[]:=oV ab;subst this;exact⟨bt,bt⟩
 | succ k ih =>
  intro l hl hx;rcases List.eq_nil_or_concat l with rfl|⟨m,x,rfl⟩
  .exact⟨bt,Int.pow_pos bt⟩
  .rw[List.concat_eq_append] at hl hx ⊢;have h1:=ih m (by simp at hl;omega) (λy hy=>hx y (gu _ hy));have h2:=hx x aA;rw[GK,Int.pow_succ];generalize (256:Int)^k=P at h1 ⊢;omega
theorem R8{l:ae}(hl:l.length<=6)(hx:∀ x∈l,0<=x/\x<=255):0<=fp l/\fp l<=281474976710655:=by
 have:=FC 6 l hl hx
 have e:(256:Int)^6=281474976710656:=bt
 omega
theorem Vk{n:Int}(h:65535<n):oc (n/65536+n%65536)=oc n:=by
 unfold oc
 rw[af (by omega),af (by omega)];omega
theorem Vc{n:Int}(h0:0<=n)(h1:n<=65535):oc n=n:=by
 unfold oc;split
 .omega
 .omega
theorem wH{n:Int}(h0:0<=n):0<=oc n/\oc n<=65535:=by unfold oc;split <;> omega
theorem Re{m x:Int}(h0:0<=m)(h1:0<=x):oc (oc m+x)=oc (m+x):=by
 unfold oc
 by_cases h:m=0
 .simp[h]
 .rw[af h,af ab,af ab];omega
theorem Bo(hi:Bool)(a b:ae):bQ hi (a++b)=bQ hi a+bQ (if a.length%2=0 then hi else !hi) b:=by
 induction a generalizing hi with
 | nil=>simp[bQ]
 | cons x a ih =>
  rw[mF,bQ,bQ,ih,Int.add_assoc];congr 3;rw[dN];by_cases h:a.length%2=0
  .rw[am h,af ab]
  .rw[af h,am ab];simp
theorem AJ(hi:Bool)(l:ae)(hx:∀ x∈l,0<=x/\x<=255):0<=bQ hi l/\bQ hi l<=65280*l.length:=by
 induction l generalizing hi with
 | nil=>simp[bQ]
 | cons x l ih =>
  have h1:=ih (!hi) (λy hy=>hx y (fM _ hy));have h2:=hx x fY;rw[bQ,dN];cases hi
  .simp at h1 ⊢;omega
  .simp at h1 ⊢;omega
theorem uX{l:ae}{j:Int}(h0:0<=j)(h1:j<l.length):l.take (j+1).toNat=l.take j.toNat++[l.getD j.toNat default]:=by
 have hj:j.toNat<l.length:=ab
 rw[show (j+1).toNat=j.toNat+1 from by omega,yf hj,bJ,cK hj,f9]
def ao4:Ct:=⟨[.val (.sl bN)],[.own 5 bN],λd=>[(d.1.length:Int)<=1099511627776],λd=>((d.1,()),())⟩
def uq(a:ae) :=
 a.length<=maxLen/\ ∀(b:Int),b∈a->0<=b/\b<=255
theorem UI :
 ∀(a:ae),(uq a)/\True->(ac a)<=1099511627776-> ∀(b:Bool),(b=true->a.length=(0:Nat))->ao b (([]:ae)=a) (((0:Nat)+a.length)*(1:Nat)<=(140737488355328:Nat)/\a=a):=by
  delta uq ac;rintro x ⟨⟨hl,-⟩,-⟩ h b hb;refine aw (λh1=>?_) (λh1=>⟨ab,rfl⟩);have:=hb h1;exact (oV this).symm
theorem r4:aB 44 ao4.spec:=aF Tryz.func44 aC aT UI
def KX:Ct:=⟨[.val (.sl bN),.val cI,.val cI],[.own 5 bN,.val cI],λd=>[(d.1.length:Int)<=1099511627776],λd=>((cQ d.1 d.2.1 d.2.2.1,qr d.2.1 d.2.2.1,()),())⟩
def ad7:bw KX.ps->ce:=(λd=>{loops:=(bp 5 (λS=>{ι:=Int×ae,qn:=ft,μ:=λi=>(d.2.2.1-i.1).toNat,inv:=λi=>0<=i.1/\i.1<=d.2.2.1/\i.2=d.1++kJ d.2.1 d.2.2.1.toNat i.1.toNat,keep:=[1,2],slots:=λi=>[(8,.own 524288 1),(9,.int .i64 (8*(d.2.2.1-1-i.1)))],names:=λi=>[(524288,.live (.row 5 bN i.2))]}) cC)})
def qF(a:ae) :=
 a.length<=maxLen/\ ∀(d:Int),d∈a->0<=d/\d<=255
def xr(f:Bool) :=
 (! f)->(ar (! f))/\(ar (! f))/\True
theorem UM :
 ∀(a:ae)(b c:Int),(qF a)/\aq b/\aq c/\True->(ac a)<=1099511627776-> ∀(d:Bool),d=decide (c<1)->(ah (! d))/\(aE d)/\ ∀(e:Bool),(e=bif d then true else decide (7<c))->(ah (! e))/\(aE e)/\ ∀(f:Bool),(f=bif e then true else decide (b<0))->(ah (! f))/\((! f)->(ar (! f))/\0<=aj ((8:Int)*c)/\True)/\(xr f)/\(aE f)/\ao (bif f then true else decide (eM IntKind.i64 (1:Int) (aj ((8:Int)*c))<=b)) (([]:ae)=cQ a b c/\1=qr b c) ((ac a)<=1099511627776/\(∃(g:Int) (h:ae),(0<=g/\g<=c/\h=a++kJ b c.toNat g.toNat)/\b=b/\c=c/\aj ((8:Int)*aj (c -1))=8*(c -1 -g)/\a=h/\True)/\ ∀(g:Int)(h:ae),0<=g/\g<=c/\h=a++kJ b c.toNat g.toNat->ao (decide ((0:Int)<=8*(c -1 -g))) ((0:Int)<=8*(c -1 -g)/\(h.length+length [IntKind.wrap .u8 (dF IntKind.i64 b ((8:Int)*(c -1 -g)))])*(1:Nat)<=(140737488355328:Nat)/\ ∃(i:Int) (j:ae),(0<=i/\i<=c/\j=a++kJ b c.toNat
 i.toNat)/\toNat (c -i)<toNat (c -g)/\b=b/\c=c/\aj ((8:Int)*(c -1 -g) -8)=8*(c -1 -i)/\h++[IntKind.wrap .u8 (dF IntKind.i64 b ((8:Int)*(c -1 -g)))]=j/\True) (h=cQ a b c/\0=qr b c)):=by
  delta qF xr ah ar aE aj ac;rintro b n w ⟨-,⟨n0,n1⟩,⟨w0,w1⟩,-⟩ hl;rintro b1 rfl;refine⟨aA,aA,?_⟩;rintro b1 rfl;refine⟨aA,aA,?_⟩;rintro b1 rfl;have hpre:(!(bif (bif decide (w<1) then true else decide (7<w)) then true else decide (n<0)))=true->1<=w/\w<=7/\0<=n:=by
   simp[dE];omega
  refine⟨aA,λh=>⟨λ_=>h,by have:=hpre h;rw[aG ab ab];omega,bv⟩,λh=>⟨λ_=>h,λ_=>h,bv⟩,aA,?_⟩;refine aw (λhc=>?_) (λhc=>?_)
  .have hbad:oQ n w:=by
    unfold oQ;by_cases h:1<=w/\w<=7
    .rw[Fr h.1 h.2] at hc;simp[dE] at hc;omega
    .omega
   rw[cQ,qr,am hbad,am hbad];exact⟨rfl,rfl⟩
  .have hw:1<=w/\w<=7/\0<=n:=hpre (by
    cases h:(bif (bif decide (w<1) then true else decide (7<w)) then true else decide (n<0)) with
    | false=>rfl
    | true=>rw[h] at hc;simp at hc)
   obtain⟨h1,h7,hn⟩:=hw;rw[Fr h1 h7] at hc;have hgood:¬ oQ n w:=by
    unfold oQ;simp[dE] at hc;omega
   rw[cQ,qr,af hgood,af hgood];refine⟨hl,⟨0,b,⟨ab,ab,by simp[kJ]⟩,rfl,rfl,by rw[aG (n:=w-1) ab ab,aG ab ab];omega,rfl,bv⟩,?_⟩;rintro k ys ⟨k0,k1,rfl⟩;refine bT (λhk=>?_) (λhk=>?_)
   .obtain⟨j,hj⟩:=pE (show 0<=w-1-k by omega);rw[hj,xy hn ab,IntKind.wrap_u8'];have hbl:=QU n w.toNat k.toNat
    refine⟨ab,by simp only[cA,gc,hbl];omega,k+1,_,⟨ab,ab,rfl⟩,ab,rfl,rfl,by rw[aG ab ab];omega,?_,bv⟩;rw[show (k+1).toNat=k.toNat+1 from by omega,Mb,iL,show w.toNat-1-k.toNat=j from by omega]
   .rw[show k=w from by omega];exact⟨rfl,rfl⟩
theorem Lv:aB 210 KX.spec:=aF Tryz.func210 (av aC r4) ad7 UM
def NF:Ct:=⟨[.val (.sl bN),.val cI,.val cI],[.val cI,.val cI],λd=>[(d.1.length:Int)<=9223372036854775807],λd=>((cB d.1 d.2.1 d.2.2.1,tT d.1 d.2.1 d.2.2.1,()),())⟩
def aG5:bw NF.ps->ce:=(λd=>{loops:=(bp 7 (λS=>{ι:=Int×Int,qn:=ft,μ:=λi=>(d.2.2.1-i.1).toNat,inv:=λi=>0<=i.1/\i.1<=d.2.2.1/\i.2=fp (((d.1.drop d.2.1.toNat).take d.2.2.1.toNat).take i.1.toNat),keep:=[34,35],slots:=λi=>[(8,.int .i64 i.2),(36,.int .i64 i.1)]}) cC)})
def wS(a:ae)(b c:Int) :=
 ((length (cL a b.toNat (toNat (aj (b+c))))):Int)
def vP(a:ae)(b c:Int) :=
 take c.toNat (List.drop b.toNat a)
theorem Zo :
 ∀(a:ae)(b c:Int),(qF a)/\aq b/\aq c/\True->(ac a)<=9223372036854775807-> ∀(d:Bool),d=decide (c<1)->(ah (! d))/\(aE d)/\ ∀(e:Bool),(e=bif d then true else decide (7<c))->(ah (! e))/\(aE e)/\ao (bif e then true else decide (b<0)) (0=cB a b c/\1=tT a b c) (ao (decide (aj ((ac a) -c)<b)) (0=cB a b c/\3=tT a b c) (0<=b/\b<=aj (b+c)/\aj (b+c)<=(ac a)/\(∃(f:Int) (g:Int),(0<=f/\f<=c/\g=fp (take f.toNat (vP a b c)))/\0=g/\cL a b.toNat (toNat (aj (b+c)))=cL a b.toNat (toNat (aj (b+c)))/\(wS a b c)=(wS a b c)/\0=f/\True)/\ ∀(f g:Int),0<=f/\f<=c/\g=fp (take f.toNat (vP a b c))->ao (decide (f<(wS a b c))) (0<=f/\f<(wS a b c)/\(0:Int)<=8/\ ∃(h:Int) (i:Int),(0<=h/\h<=c/\i=fp (take h.toNat (vP a b c)))/\toNat (c -h)<toNat (c -f)/\bits BinOp.or IntKind.i64 (eM IntKind.i64 g (8:Int)) (aj (List.getD (cL a b.toNat
 (toNat (aj (b+c)))) f.toNat default))=i/\cL a b.toNat (toNat (aj (b+c)))=cL a b.toNat (toNat (aj (b+c)))/\(wS a b c)=(wS a b c)/\aj (f+1)=h/\True) (g=cB a b c/\0=tT a b c))):=by
  delta wS qF vP ah aE aj ac;rintro b a w ⟨⟨hl0,hx⟩,⟨a0,a1⟩,⟨w0,w1⟩,-⟩ hl
  (repeat (refine bX ?_;repeat refine bZ ?_));unfold cB tT;refine aw (λhc=>?_) (λhc=>?_)
  .have h:w<1∨7<w∨a<0:=by simp[dE] at hc;omega
   rw[am ab,am h];exact⟨rfl,rfl⟩
  have h:¬ (w<1∨7<w∨a<0):=by simp[dE] at hc;omega
  rw[aG (n:=(b.length:Int)-w) ab ab,af h];refine aw (λhd=>?_) (λhd=>?_)
  .have hd:=aI hd;rw[am ab,am hd];exact⟨rfl,rfl⟩
  have hd:=aL hd;rw[af ab,af hd,aG (n:=a+w) ab ab];have hsub:cL b a.toNat (a+w).toNat=(b.drop a.toNat).take w.toNat:=by
   unfold cL;rw[List.drop_take,show (a+w).toNat-a.toNat=w.toNat from by omega]
  rw[hsub];have hlen:((b.drop a.toNat).take w.toNat).length=w.toNat:=by rw[dA,fy];omega
  have hy:∀ y∈(b.drop a.toNat).take w.toNat,0<=y/\y<=255:=λy hy=>hx y (xg (oP hy));generalize (b.drop a.toNat).take w.toNat=m at *;rw[hlen];refine⟨ab,ab,ab,⟨0,0,⟨ab,ab,by simp[fp]⟩,aP⟩,?_⟩;rintro j n ⟨j0,j1,rfl⟩;refine bT (λhj=>?_) (λhj=>?_)
  .have ht:=uX (l:=m) j0 ab;obtain⟨x0,x1⟩:=hy _ (bR (xs:=m) j0 ab);have hb:=R8 (l:=m.take j.toNat) (by rw[dA];omega) (λy h=>hy y (oP h));refine⟨j0,hj,ab,j+1,_,⟨ab,ab,rfl⟩,ab,?_,rfl,rfl,aG ab ab,bv⟩;rw[ht,GK,Jj hb.1 ab x0 x1]
  .rw[fe ab];exact⟨rfl,rfl⟩
theorem Fy:aB 168 NF.spec:=aF Tryz.func168 aC aG5 Zo
def P9:Ct:=⟨[.val cI],[.val cI],λd=>[0<=d.1],λd=>((oc d.1,()),())⟩
def ab6:bw P9.ps->ce:=(λd=>{loops:=(bp 1 (λS=>{ι:=Int,μ:=λi=>i.toNat,inv:=λi=>0<=i/\i<=9223372036854775807/\oc i=oc d.1,keep:=[],slots:=λi=>[(0,.int .i64 i)]}) cC)})
theorem aL8 :
 ∀(a:Int),aq a/\True->0<=a->(∃(b:Int),(0<=b/\b<=9223372036854775807/\oc b=oc a)/\a=b/\True)/\ ∀(b:Int),0<=b/\b<=9223372036854775807/\oc b=oc a->ao (decide (65535<b)) ((0:Int)<=16/\ ∃(c:Int),(0<=c/\c<=9223372036854775807/\oc c=oc a)/\c.toNat<b.toNat/\aj (dF IntKind.i64 b (16:Int)+bits BinOp.and IntKind.i64 b (65535:Int))=c/\True) (b=oc a):=by
  delta aj;rintro n ⟨⟨n0,n1⟩,-⟩ h;refine⟨⟨n,⟨h,n1,rfl⟩,rfl,bv⟩,?_⟩;rintro m ⟨m0,m1,m2⟩;refine bT (λhm=>?_) (λhm=>?_)
  .have e:=xy (n:=m) (k:=2) m0 ab;have e2:(8:Int)*((2:Nat):Int)=16:=rfl;rw[e2] at e;rw[e,Cs,aG ab ab];have e3:(256:Int)^2=65536:=rfl;rw[e3];exact⟨ab,_,⟨ab,ab,by rw[Vk hm,m2]⟩,ab,rfl,bv⟩
  .rw[← m2,Vc m0 ab]
theorem al6:aB 207 P9.spec:=aF Tryz.func207 aC ab6 aL8
theorem WD{j:Int}(h0:0<=j)(h1:j<=9223372036854775807):bits .and .i64 j 1=j%2:=by
 obtain⟨m,rfl⟩:=pE h0
 have key:(BitVec.ofInt 64 (m:Int) &&& BitVec.ofInt 64 1).toNat=m%2:=by
  rw[BitVec.toNat_and,BitVec.toNat_ofInt,show (BitVec.ofInt 64 1).toNat=1 from by decide];have e1:((m:Int)%((2^64:Nat):Int)).toNat=m:=ab;rw[e1,nat_mask1]
 show IntKind.i64.wrap ((BitVec.ofInt 64 (m:Int) &&& BitVec.ofInt 64 1).toNat:Nat)=_
 rw[key,aG ab ab];omega
theorem aa2{n:Int}(h0:0<=n)(h1:n<=36028797018963967):eM .i64 n (IntKind.wrap .i64 (8*IntKind.wrap .i64 (1-1)))=n:=by
 show IntKind.i64.wrap (n*2^(min 0 64))=_
 rw[aG (by simp;omega) (by simp;omega)];simp
def Ny:Ct:=⟨[.val (.sl bN)],[.val cI],λd=>[(d.1.length:Int)<=1099511627776],λd=>((oc (bQ true d.1),()),())⟩
def aW4:bw Ny.ps->ce:=(λd=>{loops:=(bp 3 (λS=>{ι:=Int×Int,qn:=ft,μ:=λi=>(d.1.length-i.1).toNat,inv:=λi=>0<=i.1/\i.1<=d.1.length/\i.2=bQ true (d.1.take i.1.toNat)/\0<=i.2/\i.2<=65280*i.1,keep:=[0,6,7],slots:=λi=>[(3,.int .i64 i.2),(8,.int .i64 i.1)]}) cC)})
theorem ab5 :
 ∀(a:ae),(uq a)/\True->(ac a)<=1099511627776->(∃(b:Int) (c:Int),(0<=b/\b<=(ac a)/\c=bQ true (take b.toNat a)/\0<=c/\c<=65280*b)/\a=a/\0=c/\a=a/\(ac a)=(ac a)/\0=b/\True)/\ ∀(b c:Int),0<=b/\b<=(ac a)/\c=bQ true (take b.toNat a)/\0<=c/\c<=65280*b->ao (decide (b<(ac a))) (0<=b/\b<(ac a)/\0<=aj ((8:Int)*aj ((1:Int) -bits BinOp.and IntKind.i64 b (1:Int)))/\ ∃(d:Int) (e:Int),(0<=d/\d<=(ac a)/\e=bQ true (take d.toNat a)/\0<=e/\e<=65280*d)/\toNat ((ac a) -d)<toNat ((ac a) -b)/\a=a/\aj (c+eM IntKind.i64 (aj (ai a b)) (aj ((8:Int)*aj ((1:Int) -bits BinOp.and IntKind.i64 b (1:Int)))))=e/\a=a/\(ac a)=(ac a)/\aj (b+1)=d/\True) (0<=c/\oc c=oc (bQ true a)):=by
  delta uq aj ai ac;rintro l ⟨⟨-,hx⟩,-⟩ hl;refine⟨⟨0,0,⟨ab,ab,by simp[bQ],ab,ab⟩,aP⟩,?_⟩;rintro j n ⟨j0,j1,rfl,n0,n1⟩;refine bT (λhj=>?_) (λhj=>?_)
  .obtain⟨x0,x1⟩:=hx _ (bR j0 hj);have ht:=uX j0 hj;have hs:=Bo true (l.take j.toNat) [l.getD j.toNat default];rw[← ht] at hs;generalize l.getD j.toNat default=x at *;have hb:=WD j0 ab;rw[hb];have hlen:(l.take j.toNat).length=j.toNat:=by rw[dA];omega
   rw[hlen] at hs;have hv:0<=IntKind.wrap .i64 (8*IntKind.wrap .i64 (1-j%2))/\eM .i64 (IntKind.wrap .i64 x) (IntKind.wrap .i64 (8*IntKind.wrap .i64 (1-j%2)))=(if j%2=0 then x*256 else x):=by
    rw[aG (n:=x) ab ab];by_cases he:j%2=0
    .rw[he,am rfl];exact⟨bt,KB x0 ab⟩
    .rw[show j%2=1 from by omega,af bt];exact⟨bt,aa2 x0 ab⟩
   rw[hv.2];refine⟨j0,hj,hv.1,j+1,bQ true (l.take (j+1).toNat),⟨ab,ab,rfl,?_,?_⟩,ab,rfl,?_,rfl,rfl,aG ab ab,bv⟩
   all_goals rw[hs]
   all_goals by_cases he:j%2=0
   all_goals first
    | rw[am (show j.toNat%2=0 by omega)]
    | rw[af (show ¬ j.toNat%2=0 by omega)]
   all_goals simp only[bQ,he,if_true,if_false,Bool.not_true,BN]
   all_goals try omega
   all_goals rw[aG ab ab]
   all_goals omega
  .rw[fe ab] at n0 ⊢;exact⟨n0,rfl⟩
theorem Ym:aB 190 Ny.spec:=aF Tryz.func190 (av aC al6) aW4 ab5
def XY:Ct:=⟨[.val (.sl bN)],[.val cI],λd=>[(d.1.length:Int)<=1099511627776],λd=>((65535-oc (bQ true d.1),()),())⟩
def CI(a:ae) :=
 (uq a)/\True->(ac a)<=1099511627776->(ac a)<=1099511627776/\aj ((65535:Int) -oc (bQ true a))=65535 -oc (bQ true a)
theorem SY :
 ∀(a:ae),(CI a):=by
  delta CI uq aj ac;rintro l ⟨⟨-,hx⟩,-⟩ hl;have:=wH (AJ true l hx).1;exact⟨hl,aG ab ab⟩
theorem wZ:aB 169 XY.spec:=aF Tryz.func169 (av aC Ym) aT SY
def LQ:Ct:=⟨[.val (.sl bN),.val cI,.val cI],[.own 5 bN,.val cI],λd=>[(d.1.length:Int)<=1099511627776],λd=>((cQ d.1 d.2.1 d.2.2.1,qr d.2.1 d.2.2.1,()),())⟩
def ap8:bw LQ.ps->ce:=(λd=>{loops:=(bp 5 (λS=>{ι:=Int×ae,qn:=ft,μ:=λi=>(d.2.2.1-i.1).toNat,inv:=λi=>0<=i.1/\i.1<=d.2.2.1/\i.2=d.1++kJ d.2.1 d.2.2.1.toNat i.1.toNat,keep:=[1,2],slots:=λi=>[(8,.own 524288 1),(9,.int .i64 (d.2.2.1-1-i.1))],names:=λi=>[(524288,.live (.row 5 bN i.2))]}) cC)})
theorem Wl :
 ∀(a:ae)(b c:Int),(qF a)/\aq b/\aq c/\True->(ac a)<=1099511627776-> ∀(d:Bool),d=decide (c<1)->(ah (! d))/\(aE d)/\ ∀(e:Bool),(e=bif d then true else decide (7<c))->(ah (! e))/\(aE e)/\ ∀(f:Bool),(f=bif e then true else decide (b<0))->(ah (! f))/\((! f)->(ar (! f))/\0<=aj ((8:Int)*c)/\True)/\(xr f)/\(aE f)/\ao (bif f then true else decide (eM IntKind.i64 (1:Int) (aj ((8:Int)*c))<=b)) (([]:ae)=cQ a b c/\1=qr b c) (a.length*(1:Nat)<=(140737488355328:Nat)/\(∃(g:Int) (h:ae),(0<=g/\g<=c/\h=a++kJ b c.toNat g.toNat)/\b=b/\c=c/\aj (c -1)=c -1 -g/\a=h/\True)/\ ∀(g:Int)(h:ae),0<=g/\g<=c/\h=a++kJ b c.toNat g.toNat->ao (decide (0<=c -1 -g)) (0<=aj ((8:Int)*(c -1 -g))/\(h.length+length [IntKind.wrap .u8 (dF IntKind.i64 b (aj ((8:Int)*(c -1 -g))))])*(1:Nat)<=(140737488355328:Nat)/\ ∃(i:Int) (j:ae),(0<=i/\i<=c/\j=a++kJ b c.toNat
 i.toNat)/\toNat (c -i)<toNat (c -g)/\b=b/\c=c/\aj (c -1 -g -1)=c -1 -i/\h++[IntKind.wrap .u8 (dF IntKind.i64 b (aj ((8:Int)*(c -1 -g))))]=j/\True) (h=cQ a b c/\0=qr b c)):=by
  delta qF xr ah ar aE aj ac;rintro b n w ⟨-,⟨n0,n1⟩,⟨w0,w1⟩,-⟩ hl;rintro b1 rfl;refine⟨aA,aA,?_⟩;rintro b1 rfl;refine⟨aA,aA,?_⟩;rintro b1 rfl;have hpre:(!(bif (bif decide (w<1) then true else decide (7<w)) then true else decide (n<0)))=true->1<=w/\w<=7/\0<=n:=by
   simp[dE];omega
  refine⟨aA,λh=>⟨λ_=>h,by have:=hpre h;rw[aG ab ab];omega,bv⟩,λh=>⟨λ_=>h,λ_=>h,bv⟩,aA,?_⟩;refine aw (λhc=>?_) (λhc=>?_)
  .have hbad:oQ n w:=by
    unfold oQ;by_cases h:1<=w/\w<=7
    .rw[Fr h.1 h.2] at hc;simp[dE] at hc;omega
    .omega
   rw[cQ,qr,am hbad,am hbad];exact⟨rfl,rfl⟩
  .have hw:1<=w/\w<=7/\0<=n:=hpre (by
    cases h:(bif (bif decide (w<1) then true else decide (7<w)) then true else decide (n<0)) with
    | false=>rfl
    | true=>rw[h] at hc;simp at hc)
   obtain⟨h1,h7,hn⟩:=hw;rw[Fr h1 h7] at hc;have hgood:¬ oQ n w:=by
    unfold oQ;simp[dE] at hc;omega
   rw[cQ,qr,af hgood,af hgood];refine⟨ab,⟨0,b,⟨ab,ab,by simp[kJ]⟩,rfl,rfl,by rw[aG ab ab];omega,rfl,bv⟩,?_⟩;rintro k ys ⟨k0,k1,rfl⟩;refine bT (λhk=>?_) (λhk=>?_)
   .rw[aG (n:=8*(w-1-k)) ab ab];obtain⟨j,hj⟩:=pE (show 0<=w-1-k by omega);rw[hj,xy hn ab,IntKind.wrap_u8'];have hbl:=QU n w.toNat k.toNat
    refine⟨ab,by simp only[cA,gc,hbl];omega,k+1,_,⟨ab,ab,rfl⟩,ab,rfl,rfl,by rw[aG ab ab];omega,?_,bv⟩;rw[show (k+1).toNat=k.toNat+1 from by omega,Mb,iL,show w.toNat-1-k.toNat=j from by omega]
   .rw[show k=w from by omega];exact⟨rfl,rfl⟩
theorem Sx:aB 143 LQ.spec:=aF Tryz.func143 aC ap8 Wl
def aF3:Ct:=⟨[.val (.sl bN),.val cI,.val cI],[.own 5 bN],λd=>[(d.1.length:Int)<=1099511627776],λd=>((cQ d.1 d.2.1 d.2.2.1,()),())⟩
theorem av8 :
 ∀(a:ae)(b c:Int),(qF a)/\aq b/\aq c/\True->(ac a)<=1099511627776->(ac a)<=1099511627776/\cQ a b c=cQ a b c:=by
  delta qF ac;intro b n w _ h;exact⟨h,rfl⟩
theorem Ay:aB 77 aF3.spec:=aF Tryz.func77 (av aC Sx) aT av8
def LM:Ct:=⟨[.val (.sl bN),.val cI,.val cI],[.val cI,.val cI],λd=>[(d.1.length:Int)<=9223372036854775807],λd=>((cB d.1 d.2.1 d.2.2.1,tT d.1 d.2.1 d.2.2.1,()),())⟩
def ai7:bw LM.ps->ce:=(λd=>{loops:=(bp 7 (λS=>{ι:=Int×Int,qn:=ft,μ:=λi=>(d.2.2.1-i.1).toNat,inv:=λi=>0<=i.1/\i.1<=d.2.2.1/\i.2=fp (((d.1.drop d.2.1.toNat).take d.2.2.1.toNat).take i.1.toNat),keep:=[0,1,2],slots:=λi=>[(8,.int .i64 i.2),(9,.int .i64 i.1)]}) cC)})
theorem WM :
 ∀(a:ae)(b c:Int),(qF a)/\aq b/\aq c/\True->(ac a)<=9223372036854775807-> ∀(d:Bool),d=decide (c<1)->(ah (! d))/\(aE d)/\ ∀(e:Bool),(e=bif d then true else decide (7<c))->(ah (! e))/\(aE e)/\ao (bif e then true else decide (b<0)) (0=cB a b c/\1=tT a b c) (∀(f:Bool),f=decide ((ac a)<b)->(ah (! f))/\(xr f)/\(xr f)/\(aE f)/\ao (bif f then true else decide (aj ((ac a) -b)<c)) (0=cB a b c/\3=tT a b c) ((∃(g:Int) (h:Int),(0<=g/\g<=c/\h=fp (take g.toNat (vP a b c)))/\a=a/\b=b/\c=c/\0=h/\0=g/\True)/\ ∀(g h:Int),0<=g/\g<=c/\h=fp (take g.toNat (vP a b c))->ao (decide (g<c)) ((0:Int)<=8/\0<=aj (b+g)/\aj (b+g)<(ac a)/\ ∃(i:Int) (j:Int),(0<=i/\i<=c/\j=fp (take i.toNat (vP a b c)))/\toNat (c -i)<toNat (c -g)/\a=a/\b=b/\c=c/\bits BinOp.or IntKind.i64 (eM IntKind.i64 h (8:Int)) (aj (ai a (aj (b+g))))=j/\aj (g+1)=i/\True)
 (h=cB a b c/\0=tT a b c))):=by
  delta qF vP xr ah ar aE aj ai ac;rintro b a w ⟨⟨hl0,hx⟩,⟨a0,a1⟩,⟨w0,w1⟩,-⟩ hl;rintro b1 rfl;refine⟨aA,aA,?_⟩;rintro b1 rfl;refine⟨aA,aA,?_⟩;unfold cB tT;refine aw (λhc=>?_) (λhc=>?_)
  .have h:w<1∨7<w∨a<0:=by simp[dE] at hc;omega
   rw[am ab,am h];exact⟨rfl,rfl⟩
  have h:¬ (w<1∨7<w∨a<0):=by simp[dE] at hc;omega
  rintro b1 rfl;refine⟨aA,aA,aA,aA,?_⟩;rw[aG (n:=(b.length:Int)-a) ab ab,af h];refine aw (λhd=>?_) (λhd=>?_)
  .have hd:b.length<a∨b.length-a<w:=by simp[dE] at hd;omega
   rw[am ab,am ab];exact⟨rfl,rfl⟩
  have hd:¬ (b.length<a∨b.length-a<w):=by simp[dE] at hd;omega
  rw[af ab,af ab];have hlen:((b.drop a.toNat).take w.toNat).length=w.toNat:=by rw[dA,fy];omega
  have hy:∀ y∈(b.drop a.toNat).take w.toNat,0<=y/\y<=255:=λy hy=>hx y (xg (oP hy));have hget:∀ j:Int,0<=j->j<w->b.getD (a+j).toNat default=((b.drop a.toNat).take w.toNat).getD j.toNat default:=by
   intro j j0 j1;rw[bJ,bJ,qi,am ab,pV];congr 2;omega
  generalize (b.drop a.toNat).take w.toNat=m at *;refine⟨⟨0,0,⟨ab,ab,by simp[fp]⟩,aP⟩,?_⟩;rintro j n ⟨j0,j1,rfl⟩;refine bT (λhj=>?_) (λhj=>?_)
  .have ht:=uX (l:=m) j0 ab;obtain⟨x0,x1⟩:=hy _ (bR (xs:=m) j0 ab);have hb:=R8 (l:=m.take j.toNat) (by rw[dA];omega) (λy h=>hy y (oP h));rw[aG (n:=a+j) ab ab,hget j j0 hj];refine⟨ab,ab,ab,j+1,_,⟨ab,ab,rfl⟩,ab,rfl,rfl,rfl,?_,aG ab ab,bv⟩;rw[ht,GK,Jj hb.1 ab x0 x1]
  .rw[fe ab];exact⟨rfl,rfl⟩
theorem an1:aB 145 LM.spec:=aF Tryz.func145 aC ai7 WM
def aE6:Ct:=⟨[.val (.sl bN),.val cI,.val cI],[.val cI],λd=>[(d.1.length:Int)<=9223372036854775807],λd=>((cB d.1 d.2.1 d.2.2.1,()),())⟩
theorem ar0 :
 ∀(a:ae)(b c:Int),(qF a)/\aq b/\aq c/\True->(ac a)<=9223372036854775807->(ac a)<=9223372036854775807/\cB a b c=cB a b c:=by
  delta qF ac;intro b n w _ h;exact⟨h,rfl⟩
theorem KA:aB 79 aE6.spec:=aF Tryz.func79 (av aC an1) aT ar0
def XX:Ct:=⟨[.val cI],[.val .bool],λd=>[],λd=>((dj d.1,()),())⟩
theorem Yk :
 ∀(a:Int),aq a/\True->True-> ∀(b:Bool),b=decide (0<=a)->(ah b)/\(ar b)/\(bif b then decide (a<=65535) else false)=dj a:=by
  delta ah ar;rintro n - -
  (repeat (refine bX ?_;repeat refine bZ ?_));unfold dj;by_cases h:0<=n <;> simp[h]
theorem ad0:aB 177 XX.spec:=aF Tryz.func177 aC aT Yk
def Wr:Ct:=⟨[.val cI,.val cI],[.val cI],λd=>[],λd=>((if dj d.1&&dj d.2.1 then oc (d.1+d.2.1) else 0,()),())⟩
theorem ak6 :
 ∀(a b:Int),aq a/\aq b/\True->True-> ∀(c:Bool),c= ! dj a->(ah (! c))/\(ah (! c))/\(aE c)/\ao (bif c then true else ! dj b) (0=if (dj a&&dj b)=true then oc (a+b) else (0:Int)) ((0:Int)<=16/\aj (bits BinOp.and IntKind.i64 (aj (a+b)) (65535:Int)+dF IntKind.i64 (aj (a+b)) (16:Int))=if (dj a&&dj b)=true then oc (a+b) else (0:Int)):=by
  delta ah aE aj;rintro a b - -
  (repeat (refine bX ?_;repeat refine bZ ?_));refine aw (λhc=>?_) (λhc=>?_)
  .rw[af];intro h;simp at h;simp[h] at hc
  .have hw:dj a=true/\dj b=true:=by simpa[dE] using hc
   rw[am (by simp[hw])];have ha:0<=a/\a<=65535:=aI hw.1;have hb:0<=b/\b<=65535:=aI hw.2;rw[aG (n:=a+b) ab ab];have e:=xy (n:=a+b) (k:=2) ab ab;have e2:(8:Int)*((2:Nat):Int)=16:=rfl;have e3:(256:Int)^2=65536:=rfl;rw[e2,e3] at e;rw[e,Cs,aG ab ab];refine⟨ab,?_⟩;unfold oc;split <;> omega
theorem MO:aB 144 Wr.spec:=aF Tryz.func144 (av aC ad0) aT ak6
def Lh:Ct:=⟨[.val (.sl bN)],[.val cI],λd=>[(d.1.length:Int)<=1099511627776],λd=>((oc (bQ true d.1),()),())⟩
def aL0:bw Lh.ps->ce:=(λd=>{loops:=(bp 3 (λS=>{ι:=Int×Int,qn:=ft,μ:=λi=>(d.1.length+1-2*i.1).toNat,inv:=λi=>0<=i.1/\2*i.1<=d.1.length+1/\i.2=oc (bQ true (d.1.take (2*i.1).toNat))/\0<=i.2/\i.2<=65535,keep:=[0],slots:=λi=>[(3,.int .i64 i.2),(4,.int .i64 (2*i.1))]}) cC)})
theorem ag6 :
 ∀(a:ae),(uq a)/\True->(ac a)<=1099511627776->(∃(b:Int) (c:Int),(0<=b/\(2:Int)*b<=(ac a)+1/\c=oc (bQ true (take (toNat ((2:Int)*b)) a))/\0<=c/\c<=65535)/\a=a/\0=c/\(0:Int)=2*b/\True)/\ ∀(b c:Int),0<=b/\(2:Int)*b<=(ac a)+1/\c=oc (bQ true (take (toNat ((2:Int)*b)) a))/\0<=c/\c<=65535->ao (decide ((2:Int)*b<(ac a))) ((0:Int)<=2*b/\(2:Int)*b<(ac a)/\(0:Int)<=8/\ao (decide (aj ((2:Int)*b+1)<(ac a))) (0<=aj ((2:Int)*b+1)/\aj ((2:Int)*b+1)<(ac a)/\ ∃(d:Int) (e:Int),(0<=d/\(2:Int)*d<=(ac a)+1/\e=oc (bQ true (take (toNat ((2:Int)*d)) a))/\0<=e/\e<=65535)/\toNat ((ac a)+1 -2*d)<toNat ((ac a)+1 -2*b)/\a=a/\(if (dj c&&dj (aj (eM IntKind.i64 (aj (ai a ((2:Int)*b))) (8:Int)+aj (ai a (aj ((2:Int)*b+1))))))=true then oc (c+aj (eM IntKind.i64 (aj (ai a ((2:Int)*b))) (8:Int)+aj (ai a (aj ((2:Int)*b+1))))) else
 (0:Int))=e/\aj ((2:Int)*b+2)=2*d/\True) (∃(d:Int) (e:Int),(0<=d/\(2:Int)*d<=(ac a)+1/\e=oc (bQ true (take (toNat ((2:Int)*d)) a))/\0<=e/\e<=65535)/\toNat ((ac a)+1 -2*d)<toNat ((ac a)+1 -2*b)/\a=a/\(if (dj c&&dj (eM IntKind.i64 (aj (ai a ((2:Int)*b))) (8:Int)))=true then oc (c+eM IntKind.i64 (aj (ai a ((2:Int)*b))) (8:Int)) else (0:Int))=e/\aj ((2:Int)*b+2)=2*d/\True)) (c=oc (bQ true a)):=by
  delta uq aj ai ac;rintro l ⟨⟨-,hx⟩,-⟩ hl;refine⟨⟨0,0,⟨ab,ab,by simp[bQ,oc],ab,ab⟩,aP⟩,?_⟩;rintro k s ⟨k0,k1,rfl,s0,s1⟩;have hr:=AJ true (l.take (2*k).toNat) (λy h=>hx y (oP h));refine bT (λhk=>?_) (λhk=>?_)
  .obtain⟨x0,x1⟩:=hx _ (bR (xs:=l) (i:=2*k) ab hk);have ht:=uX (l:=l) (j:=2*k) ab hk;have hlen:(l.take (2*k).toNat).length%2=0:=by rw[dA];omega
   have hs:=Bo true (l.take (2*k).toNat);rw[am hlen] at hs;rw[aG (n:=2*k+1) ab ab,aG (n:=l.getD (2*k).toNat default) ab ab,KB x0 ab,aG (n:=2*k+2) ab ab];refine⟨ab,hk,ab,bT (λhc=>?_) (λhc=>?_)⟩
   .obtain⟨y0,y1⟩:=hx _ (bR (xs:=l) (i:=2*k+1) ab hc);have ht2:=uX (l:=l) (j:=2*k+1) ab hc;rw[ht,iL] at ht2;rw[aG (n:=l.getD (2*k+1).toNat default) ab ab,aG (n:=l.getD (2*k).toNat default*256+l.getD (2*k+1).toNat default) ab ab];rw[am (by simp only[dj,dM,mh];omega),Re hr.1 ab];have he:bQ true (l.take (2*(k+1)).toNat)=bQ true (l.take (2*k).toNat)+(l.getD (2*k).toNat default*256+l.getD (2*k+1).toNat default):=by
     rw[show 2*(k+1)=2*k+1+1 from by omega,ht2,hs];simp[bQ]
    refine⟨ab,hc,k+1,_,⟨ab,ab,rfl,?_,?_⟩,ab,rfl,by rw[he],ab,bv⟩
    .rw[he];exact (wH ab).1
    .rw[he];exact (wH ab).2
   .rw[am (by simp only[dj,dM,mh];omega),Re hr.1 ab];have he:bQ true (l.take (2*(k+1)).toNat)=bQ true (l.take (2*k).toNat)+l.getD (2*k).toNat default*256:=by
     rw[show l.take (2*(k+1)).toNat=l.take (2*k+1).toNat from by rw[fe ab,fe ab],ht,hs];simp[bQ]
    refine⟨k+1,_,⟨ab,ab,rfl,?_,?_⟩,ab,rfl,by rw[he],ab,bv⟩
    .rw[he];exact (wH ab).1
    .rw[he];exact (wH ab).2
  .rw[fe ab]
theorem Xn:aB 176 Lh.spec:=aF Tryz.func176 (av aC MO) aL0 ag6
def aS2:Ct:=⟨[.val (.sl bN)],[.val cI],λd=>[(d.1.length:Int)<=1099511627776],λd=>((65535-oc (bQ true d.1),()),())⟩
theorem ag7 :
 ∀(a:ae),(CI a):=by
  delta CI uq aj ac;rintro l ⟨⟨-,hx⟩,-⟩ hl;have:=wH (AJ true l hx).1;exact⟨hl,aG ab ab⟩
theorem G3:aB 140 aS2.spec:=aF Tryz.func140 (av aC Xn) aT ag7
def NM:Ct:=⟨[.val (.sl bN),.val (.sl bN)],[.val .bool],λd=>[],λd=>((decide (d.1=d.2.1),()),())⟩
def X8:bw NM.ps->ce:=(λd=>{loops:=(bp 4 (λS=>{ι:=Int,μ:=λi=>(d.1.length-i).toNat,inv:=λi=>0<=i/\i<=d.1.length/\d.1.take i.toNat=d.2.1.take i.toNat,keep:=[0,1],slots:=λi=>[(5,.int .i64 i)]}) cC)})
theorem Wc :
 ∀(a b:ae),(a.length<=maxLen/\ ∀(c:Int),c∈a->0<=c/\c<=255)/\(b.length<=maxLen/\ ∀(c:Int),c∈b->0<=c/\c<=255)/\True->True->ao (! decide ((ac a)=(ac b))) (false=decide (a=b)) ((∃(c:Int),(0<=c/\c<=(ac a)/\take c.toNat a=take c.toNat b)/\a=a/\b=b/\0=c/\True)/\ ∀(c:Int),0<=c/\c<=(ac a)/\take c.toNat a=take c.toNat b->ao (decide (c<(ac a))) (0<=c/\c<(ac a)/\0<=c/\c<(ac b)/\ao (! decide (ai a c=ai b c)) (false=decide (a=b)) (∃(d:Int),(0<=d/\d<=(ac a)/\take d.toNat a=take d.toNat b)/\toNat ((ac a) -d)<toNat ((ac a) -c)/\a=a/\b=b/\aj (c+1)=d/\True)) (true=decide (a=b))):=by
  delta aj ai ac;rintro l m ⟨⟨hl,-⟩,⟨hm,-⟩,-⟩ -;simp only[maxLen] at hl hm;refine aw (λhc=>?_) (λhc=>?_)
  .symm;apply dP;intro h;cases h;simp at hc
  .have hc:l.length=m.length:=by simp at hc;omega
   refine⟨⟨0,⟨ab,ab,aA⟩,aP⟩,?_⟩;rintro i ⟨h0,h1,h2⟩;refine bT (λhi=>?_) (λhi=>?_)
   .refine⟨h0,hi,h0,ab,aw (λhq=>?_) (λhq=>?_)⟩
    .symm;apply dP;intro h;cases h;simp at hq
    .simp only[vK,mh] at hq;refine⟨i+1,⟨ab,ab,?_⟩,ab,aP⟩;rw[uX h0 hi,uX h0 ab,h2,hq]
   .rw[fe ab,fe ab] at h2;symm;apply cM;rw[h2]
theorem aU4:aB 178 NM.spec:=aF Tryz.func178 aC X8 Wc
abbrev Jb:CT := .pair .bool (.pair cI (.pair cI (.sl bN)))
abbrev Pf:CT := .pair cI (.pair cI (.sl bN))
abbrev LR:CT := .pair cI (.pair cI (.sl bN))
abbrev AN:CT := .pair cI (.pair cI (.pair cI (.pair cI (.pair cI (.pair cI (.sl bN))))))
abbrev nO:Type:=Bool×Int×Int×ae
abbrev pY:Type:=Int×Int×ae
abbrev ro:Type:=Int×Int×ae
abbrev mL:Type:=Int×Int×Int×Int×Int×Int×ae
def dR(lim:Int)(l:ae):Bool:=l.all λn=>decide (0<=n/\n<=lim)
def w2(n:Int):ae:=[n/256%256,n%256]
def w4(n:Int):ae:=[n/16777216%256,n/65536%256,n/256%256,n%256]
def de(b:ae):Int:=65535-oc (bQ true b)
def cR(b:ae)(at':Nat)(n:Int):ae:=(b.set at' (n/256%256)).set (at'+1) (n%256)
def aH(b:ae)(at':Nat):Int:=fp ((b.drop at').take 2)
def Z8:Ct:=⟨[.val cI,.box 3 cI],[.val .bool],λ_=>[],λd=>((decide (d.1<0∨d.2.1<d.1),()),(d.2.1,()))⟩
theorem U3 :
 ∀(a b:Int),aq a/\aq b/\True->True-> ∀(c:Bool),c=decide (a<0)->((! c)->(ar (! c))/\(ar (! c))/\True)/\(aE c)/\(bif c then true else decide (b<a))=decide (a<0∨b<a)/\b=b:=by
  delta ar aE;rintro n lim - -;rintro b rfl;refine⟨aA,aA,?_,rfl⟩;rw[dE];by_cases h:n<0 <;> simp[h]
theorem ak3:aB 209 Z8.spec:=aF Tryz.func209 aC aT U3
def Mg:Cn:=⟨[.val (.sl cI),.fn 209 1,.box 3 cI],[.val cI],λ_=>[],λd y=>y.2.1=d.2.2.1 ∧ -1<=y.1.1/\(y.1.1 = -1↔dR d.2.2.1 d.1=true),λd h=>⟨((if dR d.2.2.1 d.1=true then -1 else 0,()),(d.2.2.1,())),rfl,by by_cases h:dR d.2.2.1 d.1=true <;> simp[h]⟩⟩
def VE:bw Mg.ps->ce:=(λd=>{loops:=(bp 2 (λS=>{ι:=Int,μ:=λi=>(d.1.length-i).toNat,inv:=λi=>0<=i/\i<=d.1.length/\dR d.2.2.1 (d.1.take i.toNat)=true,keep:=[0,1,6,7],slots:=λi=>[(8,.int .i64 i)],keepN:=[1048576]}) cC)})
theorem aR1 :
 ∀(a:ae)(b:Int),(a.length<=maxLen/\ ∀(c:Int),c∈a->aq c)/\True/\aq b/\True->True->(∃(c:Int),(0<=c/\c<=(ac a)/\dR b (take c.toNat a)=true)/\a=a/\a=a/\(ac a)=(ac a)/\0=c/\b=b/\True)/\ ∀(c:Int),0<=c/\c<=(ac a)/\dR b (take c.toNat a)=true->ao (decide (c<(ac a))) (0<=c/\c<(ac a)/\ao (decide (ai a c<0∨b<ai a c)) (b=b/\ -1<=c/\(c= -1↔dR b a=true)) (∃(d:Int),(0<=d/\d<=(ac a)/\dR b (take d.toNat a)=true)/\toNat ((ac a) -d)<toNat ((ac a) -c)/\a=a/\a=a/\(ac a)=(ac a)/\aj (c+1)=d/\b=b/\True)) (b=b/\(-1:Int)<= -1/\((-1:Int)= -1↔dR b a=true)):=by
  delta aj ai ac;rintro l lim ⟨⟨hl,-⟩,-⟩ -;simp only[maxLen] at hl;refine⟨⟨0,⟨ab,ab,by simp[dR]⟩,aP⟩,?_⟩;rintro j ⟨j0,j1,j2⟩;refine bT (λhj=>?_) (λhj=>?_)
  .have ht:=uX j0 hj;have hm:=bR (xs:=l) j0 hj;generalize l.getD j.toNat default=x at *;refine⟨j0,hj,bT (λhb=>?_) (λhb=>?_)⟩
   .refine⟨rfl,ab,⟨λh=>ab,λh=>?_⟩⟩;unfold dR at h;have:=aI (List.all_eq_true.1 h x hm);omega
   .refine⟨j+1,⟨ab,ab,?_⟩,ab,aP⟩;rw[ht];unfold dR at j2 ⊢;rw[List.all_append,j2];simp;omega
  .rw[fe ab] at j2;simp[j2]
theorem aM6:aB 227 Mg.spec:=qw Tryz.func227 (av aC ak3) VE aR1
def Ts:Ct:=⟨[.val (.sl cI),.fn 209 1,.box 3 cI],[.val .bool],λ_=>[],λd=>((!dR d.2.2.1 d.1,()),(d.2.2.1,()))⟩
theorem Zj :
 ∀(a:ae)(b:Int),(a.length<=maxLen/\ ∀(c:Int),c∈a->aq c)/\True/\aq b/\True->True-> ∀(c d:Int),d=b/\ -1<=c/\(c= -1↔dR b a=true)->decide (0<=c)= ! dR b a/\d=b:=by
  rintro l lim - - i b ⟨rfl,h1,h2⟩;refine⟨?_,rfl⟩;cases h:dR b l with
  | true=>rw[h2.2 h];rfl
  | false =>
   have:¬ i = -1:=λe=>by rw[h2.1 e] at h;cases h
   simp;omega
theorem XB:aB 208 Ts.spec:=aF Tryz.func208 (av aC aM6) aT Zj
def aV1:Ct:=⟨[.val cI,.val (.sl cI)],[.val .bool],λ_=>[],λd=>((dR d.1 d.2.1,()),())⟩
theorem aO8 :
 ∀(a:Int)(b:ae),aq a/\(b.length<=maxLen/\ ∀(c:Int),c∈b->aq c)/\True->True->(!! dR a b)=dR a b:=by
  rintro lim l - -;simp
theorem D3:aB 192 aV1.spec:=aF Tryz.func192 (av aC XB) aT aO8
theorem ai9(l:ae):(l.flatMap w2).length=2*l.length:=by
 induction l with
 | nil=>rfl
 | cons x l ih=>rw[List.flatMap_cons,cA,ih,dN];simp[w2];omega
theorem W8(n:Int):kJ n 2 2=w2 n:=by
 simp[kJ,w2,range,List.range.loop]
theorem Xp(n:Int):kJ n 4 4=w4 n:=by
 simp[kJ,w4,range,List.range.loop]
theorem VX(n:Int):kJ n 1 1=[n%256]:=by
 simp[kJ,range,List.range.loop]
theorem jQ{b:ae}{n:Int}(h0:0<=n)(h1:n<=65535):cQ b n 2=b++w2 n:=by
 rw[cQ,af,← W8]
 .rfl
 .unfold oQ;have:(256:Int)^(2:Int).toNat=65536:=rfl;rw[this];omega
theorem vW{b:ae}{n:Int}(h0:0<=n)(h1:n<=4294967295):cQ b n 4=b++w4 n:=by
 rw[cQ,af,← Xp]
 .rfl
 .unfold oQ;have:(256:Int)^(4:Int).toNat=4294967296:=rfl;rw[this];omega
theorem tQ{b:ae}{n:Int}(h0:0<=n)(h1:n<=255):cQ b n 1=b++[n]:=by
 rw[cQ,af,show kJ n (1:Int).toNat (1:Int).toNat=[n] from by
  have:=VX n;rw[Int.emod_eq_of_lt h0 ab] at this;exact this]
 unfold oQ
 have:(256:Int)^(1:Int).toNat=256:=rfl
 rw[this];omega
def L5:Ct:=⟨[.nils,.val (.sl cI)],[.own 5 bN],λd=>[dR 65535 d.2.1=true,(d.2.1.length:Int)<=1073741824],λd=>((d.2.1.flatMap w2,()),())⟩
def Tz:bw L5.ps->ce:=(λd=>{loops:=(bp 2 (λS=>{ι:=Int×ae,qn:=ft,μ:=λi=>(d.2.1.length-i.1).toNat,inv:=λi=>0<=i.1/\i.1<=d.2.1.length/\i.2=(d.2.1.take i.1.toNat).flatMap w2,keep:=[7,8],slots:=λi=>[(0,.own 524288 1),(9,.int .i64 i.1)],names:=λi=>[(524288,.live (.row 5 bN i.2))]}) cC)})
theorem XJ :
 ∀(a:ae),True/\(a.length<=maxLen/\ ∀(b:Int),b∈a->aq b)/\True->dR (65535:Int) a=true/\(ac a)<=1073741824->(∃(b:Int) (c:ae),(0<=b/\b<=(ac a)/\c=List.flatMap w2 (take b.toNat a))/\a=a/\(ac a)=(ac a)/\0=b/\c=([]:ae)/\True)/\ ∀(b:Int)(c:ae),0<=b/\b<=(ac a)/\c=List.flatMap w2 (take b.toNat a)->ao (decide (b<(ac a))) (0<=b/\b<(ac a)/\(ac c)<=1099511627776/\ ∃(d:Int) (e:ae),(0<=d/\d<=(ac a)/\e=List.flatMap w2 (take d.toNat a))/\toNat ((ac a) -d)<toNat ((ac a) -b)/\a=a/\(ac a)=(ac a)/\aj (b+1)=d/\cQ c (ai a b) (2:Int)=e/\True) (c=List.flatMap w2 a):=by
  delta aj ai ac;rintro l ⟨-,⟨hl,-⟩,-⟩⟨ha,hk⟩;refine⟨⟨0,[],⟨ab,ab,aA⟩,aP⟩,?_⟩;rintro j ys ⟨j0,j1,rfl⟩;refine bT (λhj=>?_) (λhj=>?_)
  .have ht:=uX j0 hj;have hm:=bR (xs:=l) j0 hj;have hlen:((l.take j.toNat).flatMap w2).length=2*j.toNat:=by
    rw[ai9,dA];omega
   generalize l.getD j.toNat default=x at *;have hx:=aI (List.all_eq_true.1 ha x hm);refine⟨j0,hj,ab,j+1,_,⟨ab,ab,rfl⟩,ab,rfl,rfl,aG ab ab,?_,bv⟩;rw[ht,List.flatMap_append,jQ hx.1 hx.2];simp
  .rw[fe ab]
theorem DG:aB 193 L5.spec:=aF Tryz.func193 (av aC Lv) Tz XJ
def ac9:Ct:=⟨[.val (.sl bN),.val cI],[.val cI],λd=>[0<=d.2.1,d.2.1+2<=d.1.length,(d.1.length:Int)<=1099511627776],λd=>((aH d.1 d.2.1.toNat,()),())⟩
theorem aU1 :
 ∀(a:ae)(b:Int),(a.length<=maxLen/\ ∀(c:Int),c∈a->0<=c/\c<=255)/\aq b/\True->0<=b/\b+2<=(ac a)/\(ac a)<=1099511627776->(ac a)<=9223372036854775807/\cB a b (2:Int)=aH a b.toNat:=by
  delta ac;rintro b a-⟨h0,h1,h2⟩;refine⟨ab,?_⟩;rw[cB,af ab];rfl
theorem A6:aB 171 ac9.spec:=aF Tryz.func171 (av aC Fy) aT aU1
theorem Jt{n:Int}(h0:0<=n):dF .i64 n 8=n/256:=by
 have e:=xy (n:=n) (k:=1) h0 (by omega)
 exact e
def Wm:Ct:=⟨[.val (.sl bN),.val cI,.val cI],[.own 5 bN],λd=>[0<=d.2.1,d.2.1+2<=d.1.length,(d.1.length:Int)<=1099511627776,0<=d.2.2.1,d.2.2.1<=65535],λd=>((cR d.1 d.2.1.toNat d.2.2.1,()),())⟩
def EB(a:ae)(b c:Int) :=
 (0:Int)<=8/\0<=b/\b<(ac a)/\0<=aj (b+1)/\aj (b+1)<((length (set a b.toNat (IntKind.wrap .u8 (dF IntKind.i64 c (8:Int))))):Int)/\set (set a b.toNat (IntKind.wrap .u8 (dF IntKind.i64 c (8:Int)))) (toNat (aj (b+1))) (IntKind.wrap .u8 c)=cR a b.toNat c
theorem ax0 :
 ∀(a:ae)(b c:Int),(a.length<=maxLen/\ ∀(d:Int),d∈a->0<=d/\d<=255)/\aq b/\aq c/\True->0<=b/\b+2<=(ac a)/\(ac a)<=1099511627776/\0<=c/\c<=65535->(ac a)<=1099511627776/\(EB a b c):=by
  delta EB aj ac;rintro b a n-⟨h0,h1,h2,n0,n1⟩;rw[aG (n:=a+1) ab ab,Jt n0,IntKind.wrap_u8',IntKind.wrap_u8',gC];refine⟨ab,ab,ab,ab,ab,ab,?_⟩;rw[cR,show (a+1).toNat=a.toNat+1 from by omega]
theorem Nn:aB 191 Wm.spec:=aF Tryz.func191 (av aC r4) aT ax0
def aJ2:Ct:=⟨[.val (.sl bN),.val cI,.val cI],[.own 5 bN,.val cI],λd=>[0<=d.2.1,d.2.1+2<=d.1.length,(d.1.length:Int)<=1099511627776,0<=d.2.2.1,d.2.2.1<=65535],λd=>((if (1480:Int)<d.1.length then [] else cR d.1 d.2.1.toNat d.2.2.1,if (1480:Int)<d.1.length then 5 else 0,()),())⟩
theorem SU :
 ∀(a:ae)(b c:Int),(a.length<=maxLen/\ ∀(d:Int),d∈a->0<=d/\d<=255)/\aq b/\aq c/\True->0<=b/\b+2<=(ac a)/\(ac a)<=1099511627776/\0<=c/\c<=65535->ao (decide (1480<(ac a))) ((([]:ae)=if 1480<(ac a) then ([]:ae) else cR a b.toNat c)/\5=if 1480<(ac a) then (5:Int) else (0:Int)) (0<=b/\b+2<=(ac a)/\(ac a)<=1099511627776/\0<=c/\c<=65535/\(cR a b.toNat c=if 1480<(ac a) then ([]:ae) else cR a b.toNat c)/\0=if 1480<(ac a) then (5:Int) else (0:Int)):=by
  delta ac;rintro b a n-⟨h0,h1,h2,n0,n1⟩;refine bT (λhb=>?_) (λhb=>?_)
  .rw[am hb,am hb];exact⟨rfl,rfl⟩
  .rw[af hb,af hb];exact⟨h0,h1,h2,n0,n1,rfl,rfl⟩
theorem JE:aB 228 aJ2.spec:=aF Tryz.func228 (av aC Nn) aT SU
def VW:Ct:=⟨[.val (.sl bN),.val cI],[.own 5 bN,.val cI],λd=>[0<=d.2.1,d.2.1+2<=d.1.length,(d.1.length:Int)<=1099511627776],λd=>((cR d.1 d.2.1.toNat 0,aH d.1 d.2.1.toNat,()),())⟩
theorem VF :
 ∀(a:ae)(b:Int),(a.length<=maxLen/\ ∀(c:Int),c∈a->0<=c/\c<=255)/\aq b/\True->0<=b/\b+2<=(ac a)/\(ac a)<=1099511627776->0<=b/\b+2<=(ac a)/\(ac a)<=1099511627776/\(0:Int)<=0/\(0:Int)<=65535/\0<=b/\b+2<=(ac a)/\(ac a)<=1099511627776/\cR a b.toNat (0:Int)=cR a b.toNat (0:Int)/\aH a b.toNat=aH a b.toNat:=by
  delta ac;rintro b a-⟨h0,h1,h2⟩;exact⟨h0,h1,h2,ab,ab,h0,h1,h2,rfl,rfl⟩
theorem Dq:aB 170 VW.spec:=aF Tryz.func170 (av (av aC Nn) A6) aT VF
def Yt:Ct:=⟨[.val (.sl bN),.val cI,.val cI],[.own 5 bN],λd=>[0<=d.2.1,d.2.1+2<=d.1.length,(d.1.length:Int)<=1099511627776,0<=d.2.2.1,d.2.2.1<=65535],λd=>((cR d.1 d.2.1.toNat d.2.2.1,()),())⟩
def ml :=
 (140737488355328:Nat)
theorem au2 :
 ∀(a:ae)(b c:Int),(a.length<=maxLen/\ ∀(d:Int),d∈a->0<=d/\d<=255)/\aq b/\aq c/\True->0<=b/\b+2<=(ac a)/\(ac a)<=1099511627776/\0<=c/\c<=65535->a.length*(1:Nat)<=(ml)/\(EB a b c):=by
  delta EB ml aj ac;rintro b a n-⟨h0,h1,h2,n0,n1⟩;rw[aG (n:=a+1) ab ab,Jt n0,IntKind.wrap_u8',IntKind.wrap_u8',gC];refine⟨ab,ab,ab,ab,ab,ab,?_⟩;rw[cR,show (a+1).toNat=a.toNat+1 from by omega]
theorem Hn:aB 142 Yt.spec:=aF Tryz.func142 aC aT au2
def aF4:Ct:=⟨[.val cI],[.val .bool],λd=>[],λd=>((dj d.1,()),())⟩
theorem ap9 :
 ∀(a:Int),aq a/\True->True-> ∀(b:Bool),b=decide (0<=a)->(ah b)/\(ar b)/\(bif b then decide (a<=65535) else false)=dj a:=by
  delta ah ar;rintro n - -
  (repeat (refine bX ?_;repeat refine bZ ?_));unfold dj;by_cases h:0<=n <;> simp[h] <;> omega
theorem Gm:aB 141 aF4.spec:=aF Tryz.func141 aC aT ap9
def WR:Ct:=⟨[.val cI],[.val .bool],λd=>[],λd=>((decide (0<=d.1/\d.1<=255),()),())⟩
theorem ac2 :
 ∀(a:Int),aq a/\True->True-> ∀(b:Bool),b=decide (0<=a)->(ah b)/\(ar b)/\(bif b then decide (a<=255) else false)=decide (0<=a/\a<=255):=by
  delta ah ar;rintro n - -
  (repeat (refine bX ?_;repeat refine bZ ?_));by_cases h:0<=n <;> simp[h] <;> omega
theorem RQ:aB 146 WR.spec:=aF Tryz.func146 aC aT ac2
def XC:Ct:=⟨[.val cI],[.val .bool],λd=>[],λd=>((decide (0<=d.1/\d.1<=4294967295),()),())⟩
theorem SC :
 ∀(a:Int),aq a/\True->True-> ∀(b:Bool),b=decide (0<=a)->(ah b)/\(ar b)/\(bif b then decide (a<4294967296) else false)=decide (0<=a/\a<=4294967295):=by
  delta ah ar;rintro n - -
  (repeat (refine bX ?_;repeat refine bZ ?_));by_cases h:0<=n <;> simp[h] <;> omega
theorem aV8:aB 147 XC.spec:=aF Tryz.func147 aC aT SC
def kG(e:nO):Int:=if ¬ (dj e.2.1=true/\dj e.2.2.1=true) then 1 else if (1472:Int)<e.2.2.2.length then 5 else 0
def cV(e:nO):ae:=[if e.1 then 0 else 8,0,0,0]++(w2 e.2.1++(w2 e.2.2.1++e.2.2.2))
def fN(e:nO):ae:=if kG e=0 then cR (cV e) 2 (de (cV e)) else []
def jK(n:pY):Int:=if ¬ ((n.1=3∨n.1=11)/\0<=n.2.1/\n.2.1<=255) then 1 else if (n.2.2.length:Int)<28 then 3 else if (1472:Int)<n.2.2.length then 5 else 0
def mT(n:pY):ae:=[n.1,n.2.1,0,0,0,0,0,0]++n.2.2
def iO(n:pY):ae:=if jK n=0 then cR (mT n) 2 (de (mT n)) else []
def xY(src dst proto:Int)(b:ae):ae:=w4 src++(w4 dst++(w2 proto++(w2 b.length++b)))
def fQ(src dst proto:Int)(b:ae):Int:=if ¬ (0<=proto/\proto<=255)∨(65535:Int)<b.length then 0 else de (xY src dst proto b)
def kS(src dst:Int)(b:ae):Int:=if fQ src dst 17 b=0 then 65535 else fQ src dst 17 b
def oa(u:ro):Int:=if ¬ (dj u.1=true/\dj u.2.1=true) then 1 else if (1472:Int)<u.2.2.length then 5 else 0
def fK(u:ro):ae:=w2 u.1++(w2 u.2.1++(w2 (8+u.2.2.length)++([0,0]++u.2.2)))
def mE(src dst:Int)(u:ro):ae:=if oa u=0 then cR (fK u) 6 (kS src dst (fK u)) else []
def pd(s:mL):Prop:=dj s.1=true/\dj s.2.1=true/\(0<=s.2.2.1/\s.2.2.1<=4294967295)/\(0<=s.2.2.2.1/\s.2.2.2.1<=4294967295)/\(0<=s.2.2.2.2.1/\s.2.2.2.2.1<=255)/\dj s.2.2.2.2.2.1=true
instance (s:mL):Decidable (pd s):=by unfold pd;infer_instance
def lJ(s:mL):Int:=if ¬ pd s then 1 else if (1460:Int)<s.2.2.2.2.2.2.length then 5 else 0
def kC(s:mL):ae:=w2 s.1++(w2 s.2.1++(w4 s.2.2.1++(w4 s.2.2.2.1++([80,s.2.2.2.2.1]++(w2 s.2.2.2.2.2.1++([0,0,0,0]++s.2.2.2.2.2.2))))))
def fI(src dst:Int)(s:mL):ae:=if lJ s=0 then cR (kC s) 16 (fQ src dst 6 (kC s)) else []
def bytes(l:ae):Prop:=∀ x∈l,0<=x/\x<=255
theorem iZ{a b:ae}(ha:bytes a)(hb:bytes b):bytes (a++b):=λx h=>(dB.1 h).elim (ha x) (hb x)
theorem mI(n:Int):bytes (w2 n):=by intro x h;simp[w2] at h;omega
theorem zU(n:Int):bytes (w4 n):=by intro x h;simp[w4] at h;omega
theorem nq{a:Int}{l:ae}(h0:0<=a)(h1:a<=255)(h:bytes l):bytes (a::l):=by
 intro x hx
 rcases dK.1 hx with rfl|hx
 .exact⟨h0,h1⟩
 .exact h x hx
theorem nM:bytes []:=by intro x h;cases h
theorem pK{b:ae}(h:bytes b):0<=de b/\de b<=65535:=by
 have:=wH (AJ true b h).1
 unfold de;omega
theorem Eb{p data B enc:ae}{a c err:Int}(hp:p++data=B)(ha:0<=a)(h8:a+2<=p.length)(hp1:p.length<=100)(hd:(data.length:Int)<=1073741824)(c0:0<=c)(c1:c<=65535)
  (he:enc=if (1480:Int)<B.length then [] else cR B a.toNat c) (hr:err=if (1480:Int)<B.length then 5 else 0) :
  0<=a/\a+2<=((p++data).length:Int)/\((p++data).length:Int)<=1099511627776/\0<=c/\c<=65535/\(if (1480:Int)<((p++data).length:Int) then [] else cR (p++data) a.toNat c)=enc/\(if (1480:Int)<((p++data).length:Int) then (5:Int) else 0)=err:=by
 have hl:(p++data).length=p.length+data.length:=cA
 rw[hp] at hl ⊢
 exact⟨ha,ab,ab,c0,c1,he.symm,hr.symm⟩
theorem oG{p data:ae}(hp1:p.length<=100)(hd:(data.length:Int)<=1073741824):(p.length+data.length)*1<=140737488355328/\((p++data).length:Int)<=1099511627776:=by
 rw[cA];omega
theorem D9(lim a b:Int):dR lim [a,b]=true↔(0<=a/\a<=lim)/\0<=b/\b<=lim:=by simp[dR]
theorem w7(lim a:Int):dR lim [a]=true↔0<=a/\a<=lim:=by simp[dR]
theorem jF(n:Int):dj n=true↔0<=n/\n<=65535:=by simp[dj]
theorem C1(e:nO):(cV e).length=8+e.2.2.2.length:=by simp[cV,w2];omega
theorem Q4{e:nO}(h:¬ (dj e.2.1=true/\dj e.2.2.1=true)):[]=fN e/\1=kG e:=by
 have:kG e=1:=by rw[kG,am h]
 rw[fN,this];simp
theorem R9{e:nO}(h:dj e.2.1=true/\dj e.2.2.1=true):(fN e=if (1480:Int)<(cV e).length then [] else cR (cV e) 2 (de (cV e)))/\kG e=if (1480:Int)<(cV e).length then 5 else 0:=by
 have hl:=C1 e
 have he:kG e=if (1480:Int)<(cV e).length then 5 else 0:=by
  rw[kG,af (λk=>k h)];by_cases hd:(1472:Int)<e.2.2.2.length
  .rw[am hd,am ab]
  .rw[af hd,af ab]
 refine⟨?_,he⟩
 rw[fN,he]
 by_cases hd:(1480:Int)<(cV e).length
 .rw[am hd,am hd];rfl
 .rw[af hd,af hd];rfl
theorem xl{e:nO}(h:bytes e.2.2.2):bytes (cV e):=by
 refine iZ (nq ?_ ?_ (nq ab ab (nq ab ab (nq ab ab nM)))) (iZ (mI _) (iZ (mI _) h))
 .split <;> omega
 .split <;> omega
theorem RJ(n:Int)(r:ae):w2 (n/65536)++(w2 (n%65536)++r)=w4 n++r:=by
 unfold w2 w4
 simp only[mF,si]
 have e1:n/65536/256%256=n/16777216%256:=ab
 have e2:n%65536/256%256=n/256%256:=ab
 have e3:n%65536%256=n%256:=ab
 rw[e1,e2,e3]
theorem E8{t k:Int}(t0:0<=t)(t1:t<=255)(k0:0<=k)(k1:k<=255):w2 (t*256+k)=[t,k]:=by
 unfold w2
 have e1:(t*256+k)/256%256=t:=ab
 have e2:(t*256+k)%256=k:=ab
 rw[e1,e2]
theorem QB{n x:Int}(h0:0<=n)(h1:n<=65535)(h2:0<=x)(h3:x<=255):bits .or .i64 (eM .i64 n 8) x=n*256+x:=by
 have:=Jj h0 ab h2 h3
 rwa [aG (n:=x) ab ab] at this
theorem H2{n:Int}(h0:0<=n):dF .i64 n 16=n/65536:=by
 have e:=xy (n:=n) (k:=2) h0 (by omega)
 exact e
theorem Lm{n:Int}(h0:0<=n)(h1:n<=4294967295):IntKind.wrap .i64 (dF .u32 n 16)=n/65536:=by
 have:dF .u32 n 16=n/65536:=by
  unfold dF;rw[AS _ bt];rfl
 rw[this,aG ab ab]
theorem Od{n:Int}(h0:0<=n)(h1:n<=4294967295):IntKind.wrap .i64 (bits .and .u32 n 65535)=n%65536:=by
 rw[u32_and n 65535 h0 ab bt bt]
 have:(n.toNat &&& toNat 65535)=n.toNat%65536:=zd n.toNat 16
 rw[this,aG ab ab];omega
theorem HL(e:pY):(mT e).length=8+e.2.2.length:=by simp[mT];omega
theorem Qu{e:pY}(h:¬ ((e.1=3∨e.1=11)/\0<=e.2.1/\e.2.1<=255)):[]=iO e/\1=jK e:=by
 have:jK e=1:=by rw[jK,am h]
 rw[iO,this];simp
theorem ao0{e:pY}(h:(e.1=3∨e.1=11)/\0<=e.2.1/\e.2.1<=255)(h2:(e.2.2.length:Int)<28):[]=iO e/\3=jK e:=by
 have:jK e=3:=by rw[jK,af (λk=>k h),am h2]
 rw[iO,this];simp
theorem aP5{e:pY}(h:(e.1=3∨e.1=11)/\0<=e.2.1/\e.2.1<=255)(h2:¬ (e.2.2.length:Int)<28):(iO e=if (1480:Int)<(mT e).length then [] else cR (mT e) 2 (de (mT e)))/\jK e=if (1480:Int)<(mT e).length then 5 else 0:=by
 have hl:=HL e
 have he:jK e=if (1480:Int)<(mT e).length then 5 else 0:=by
  rw[jK,af (λk=>k h),af h2];by_cases hd:(1472:Int)<e.2.2.length
  .rw[am hd,am ab]
  .rw[af hd,af ab]
 refine⟨?_,he⟩
 rw[iO,he]
 by_cases hd:(1480:Int)<(mT e).length
 .rw[am hd,am hd];rfl
 .rw[af hd,af hd];rfl
theorem Gn{e:pY}(h:(e.1=3∨e.1=11)/\0<=e.2.1/\e.2.1<=255)(hd:bytes e.2.2):bytes (mT e):=by
 refine iZ (nq ab ab (nq h.2.1 h.2.2 ?_)) hd
 intro x hx;simp at hx;omega
theorem Pe(e:ro):(fK e).length=8+e.2.2.length:=by simp[fK,w2];omega
theorem an9{a b:Int}{e:ro}(h:¬ (dj e.1=true/\dj e.2.1=true)):[]=mE a b e/\1=oa e:=by
 have:oa e=1:=by rw[oa,am h]
 rw[mE,this];simp
theorem Uo{a b:Int}{e:ro}(h:dj e.1=true/\dj e.2.1=true):(mE a b e=if (1480:Int)<(fK e).length then [] else cR (fK e) 6 (kS a b (fK e)))/\oa e=if (1480:Int)<(fK e).length then 5 else 0:=by
 have hl:=Pe e
 have he:oa e=if (1480:Int)<(fK e).length then 5 else 0:=by
  rw[oa,af (λk=>k h)];by_cases hd:(1472:Int)<e.2.2.length
  .rw[am hd,am ab]
  .rw[af hd,af ab]
 refine⟨?_,he⟩
 rw[mE,he]
 by_cases hd:(1480:Int)<(fK e).length
 .rw[am hd,am hd];rfl
 .rw[af hd,af hd];rfl
theorem Ch{e:ro}(h:bytes e.2.2):bytes (fK e) :=
 iZ (mI _) (iZ (mI _) (iZ (mI _) (iZ (nq ab ab (nq ab ab nM)) h)))
theorem Al(e:mL):(kC e).length=20+e.2.2.2.2.2.2.length:=by simp[kC,w2,w4];omega
theorem FO{a b:Int}{e:mL}(h:¬ pd e):[]=fI a b e/\1=lJ e:=by
 have:lJ e=1:=by rw[lJ,am h]
 rw[fI,this];simp
theorem OG{a b:Int}{e:mL}(h:pd e):(fI a b e=if (1480:Int)<(kC e).length then [] else cR (kC e) 16 (fQ a b 6 (kC e)))/\lJ e=if (1480:Int)<(kC e).length then 5 else 0:=by
 have hl:=Al e
 have he:lJ e=if (1480:Int)<(kC e).length then 5 else 0:=by
  rw[lJ,af (λk=>k h)];by_cases hd:(1460:Int)<e.2.2.2.2.2.2.length
  .rw[am hd,am ab]
  .rw[af hd,af ab]
 refine⟨?_,he⟩
 rw[fI,he]
 by_cases hd:(1480:Int)<(kC e).length
 .rw[am hd,am hd];rfl
 .rw[af hd,af hd];rfl
theorem Ag{e:mL}(h:pd e)(hd:bytes e.2.2.2.2.2.2):bytes (kC e):=by
 obtain⟨-,-,-,-,hf,-⟩:=h
 refine iZ (mI _) (iZ (mI _) (iZ (zU _) (iZ (zU _) (iZ (nq ab ab (nq hf.1 hf.2 nM)) (iZ (mI _) (iZ ?_ hd))))))
 intro x hx;simp at hx;omega
theorem Xi{a b p:Int}{l:ae}(h:bytes l):bytes (xY a b p l):=iZ (zU _) (iZ (zU _) (iZ (mI _) (iZ (mI _) h)))
theorem z9{a b p:Int}{l:ae}(h:bytes l):0<=fQ a b p l/\fQ a b p l<=65535:=by
 unfold fQ;split
 .omega
 .exact pK (Xi h)
theorem R0{a b:Int}{l:ae}(h:bytes l):0<=kS a b l/\kS a b l<=65535:=by
 have:=z9 (a:=a) (b:=b) (p:=17) h
 unfold kS;split <;> omega
theorem DV{err n:Int}(h:err=if (1480:Int)<n then 5 else 0)(hn:¬ (1480:Int)<n):0=err:=by rw[h,af hn]
def am5:Ct:=⟨[.agg Jb],[.own 5 bN,.val cI],λd=>[(d.1.2.2.2.length:Int)<=1073741824],λd=>((fN d.1,kG d.1,()),())⟩
def Je(a:Bool)(b c:Int)(d e:ae) :=
 (e.length+d.length)*(1:Nat)<=(ml)/\((length (e++d)):Int)<=1099511627776/\ ∀(f:Int),f=65535 -oc (bQ true (e++d))->(0:Int)<=2/\(2:Int)+2<=((length (e++d)):Int)/\((length (e++d)):Int)<=1099511627776/\0<=f/\f<=65535/\(if 1480<((length (e++d)):Int) then ([]:ae) else cR (e++d) (toNat 2) f)=fN (a,b,c,d)/\(if 1480<((length (e++d)):Int) then (5:Int) else (0:Int))=kG (a,b,c,d)
def wG(d:ae) :=
 d.length<=maxLen/\ ∀(e:Int),e∈d->0<=e/\e<=255
theorem aX6 :
 ∀(a:Bool)(b c:Int)(d:ae),(True/\aq b/\aq c/\(wG d))/\True->(ac d)<=1073741824->ao (! dR (65535:Int) [b,c]) (([]:ae)=fN (a,b,c,d)/\1=kG (a,b,c,d)) (ao a ((0:Int)<=8/\dR (65535:Int) [eM IntKind.i64 (0:Int) (8:Int),(0:Int),b,c]=true/\((length [eM IntKind.i64 (0:Int) (8:Int),(0:Int),b,c]):Int)<=1073741824/\ ∀(e:ae),e=List.flatMap w2 [eM IntKind.i64 (0:Int) (8:Int),(0:Int),b,c]->(Je a b c d e)) ((0:Int)<=8/\dR (65535:Int) [eM IntKind.i64 (8:Int) (8:Int),(0:Int),b,c]=true/\((length [eM IntKind.i64 (8:Int) (8:Int),(0:Int),b,c]):Int)<=1073741824/\ ∀(e:ae),e=List.flatMap w2 [eM IntKind.i64 (8:Int) (8:Int),(0:Int),b,c]->(Je a b c d e))):=by
  delta Je ml wG ac;rintro r i q data ⟨⟨-,-,-,-,hd⟩,-⟩ hl;refine aw (λh=>?_) (λh=>?_)
  .apply Q4;simp only[rP,← Bool.not_eq_true,D9] at h;simp only[jF];exact h
  have hw:dj i=true/\dj q=true:=by
   simp only[vK,D9] at h;simp only[jF];exact h
  have hw':=hw;simp only[jF] at hw';obtain⟨e1,e2⟩:=R9 (e:=(r,i,q,data)) hw;have hB:=pK (xl (e:=(r,i,q,data)) hd);cases r with
  | true =>
   refine aw (λ_=>?_) (λhr=>by cases hr);refine⟨ab,by rw[show eM .i64 0 8=0 from by decide];simp[dR];omega,aA,?_⟩;intro p hpe;have hp8:p.length=8:=by rw[hpe];simp[w2]
   have hp:p++data=cV (true,i,q,data):=by
    rw[hpe,show eM .i64 0 8=0 from by decide];simp[w2,cV]
   refine⟨(oG ab hl).1,(oG ab hl).2,?_⟩;intro c hc;have hc:c=de (cV (true,i,q,data)):=by rw[hc,hp];rfl
   exact Eb (a:=2) hp ab ab ab hl (by rw[hc];exact hB.1) (by rw[hc];exact hB.2) (by rw[hc];exact e1) e2
  | false =>
   refine aw (λhr=>by cases hr) (λ_=>?_);refine⟨ab,by rw[show eM .i64 8 8=2048 from by decide];simp[dR];omega,aA,?_⟩;intro p hpe;have hp8:p.length=8:=by rw[hpe];simp[w2]
   have hp:p++data=cV (false,i,q,data):=by
    rw[hpe,show eM .i64 8 8=2048 from by decide];simp[w2,cV]
   refine⟨(oG ab hl).1,(oG ab hl).2,?_⟩;intro c hc;have hc:c=de (cV (false,i,q,data)):=by rw[hc,hp];rfl
   exact Eb (a:=2) hp ab ab ab hl (by rw[hc];exact hB.1) (by rw[hc];exact hB.2) (by rw[hc];exact e1) e2
theorem Sr:aB 214 am5.spec:=aF Tryz.func214 (av (av (av (av aC D3) (Ct.named DG)) (Ct.named wZ)) JE) aT aX6
def aF6:Ct:=⟨[.agg Jb],[.own 5 bN,.val cI],λd=>[(d.1.2.2.2.length:Int)<=1073741824],λd=>((fN d.1,kG d.1,()),())⟩
def Jy(a:Bool)(b c:Int)(d f:ae) :=
 (ac f)<=1099511627776/\ ∀(g:ae),g=cQ f c (2:Int)->(g.length+d.length)*(1:Nat)<=(ml)/\((length (g++d)):Int)<=1099511627776/\ ∀(h:Int),h=65535 -oc (bQ true (g++d))->(0:Int)<=2/\(2:Int)+2<=((length (g++d)):Int)/\((length (g++d)):Int)<=1099511627776/\0<=h/\h<=65535/\cR (g++d) (toNat 2) h=fN (a,b,c,d)/\0=kG (a,b,c,d)
theorem SB :
 ∀(a:Bool)(b c:Int)(d:ae),(True/\aq b/\aq c/\(wG d))/\True->(ac d)<=1073741824-> ∀(e:Bool),e= ! dj b->(ah (! e))/\(ah (! e))/\(ah (! e))/\(aE e)/\ao (bif e then true else ! dj c) (([]:ae)=fN (a,b,c,d)/\1=kG (a,b,c,d)) (ao (decide (1480<aj ((ac d)+8))) (([]:ae)=fN (a,b,c,d)/\5=kG (a,b,c,d)) (ao a (((length [IntKind.wrap .u8 (0:Int),(0:Int),(0:Int),(0:Int)]):Int)<=1099511627776/\ ∀(f:ae),f=cQ [IntKind.wrap .u8 (0:Int),(0:Int),(0:Int),(0:Int)] b (2:Int)->(Jy a b c d f)) (((length [IntKind.wrap .u8 (8:Int),(0:Int),(0:Int),(0:Int)]):Int)<=1099511627776/\ ∀(f:ae),f=cQ [IntKind.wrap .u8 (8:Int),(0:Int),(0:Int),(0:Int)] b (2:Int)->(Jy a b c d f)))):=by
  delta Jy ml wG ah aE aj ac;rintro r i q data ⟨⟨-,-,-,-,hd⟩,-⟩ hl;rintro b rfl;refine⟨aA,aA,aA,aA,?_⟩;rw[aG (n:=(data.length:Int)+8) ab ab];refine aw (λh=>?_) (λh=>?_)
  .apply Q4;rintro⟨h1,h2⟩;simp at h1 h2;simp[h1,h2] at h
  have hw:dj i=true/\dj q=true:=by
   simp[dE] at h;exact h
  have hw':=hw;simp only[jF] at hw';obtain⟨e1,e2⟩:=R9 (e:=(r,i,q,data)) hw;have hB:=pK (xl (e:=(r,i,q,data)) hd);have hbl:=C1 (r,i,q,data);refine aw (λh5=>?_) (λh5=>?_)
  .have h5:=aI h5;rw[e1,e2,am (by simp only at hbl;omega),am (by simp only at hbl;omega)];exact⟨rfl,rfl⟩
  have h5:=aL h5;have h5:¬ (1480:Int)<(cV (r,i,q,data)).length:=by simp only at hbl;omega
  rw[af h5] at e1;cases r with
  | true =>
   refine aw (λ_=>?_) (λhr=>by cases hr);refine⟨aA,?_⟩;rintro p rfl;rw[jQ hw'.1.1 hw'.1.2];refine⟨by simp[w2],?_⟩;intro p hpe;rw[jQ hw'.2.1 hw'.2.2] at hpe;have hp8:p.length=8:=by rw[hpe];simp[w2]
   have hp:p++data=cV (true,i,q,data):=by
    rw[hpe,show IntKind.wrap .u8 0=0 from by decide];simp[w2,cV]
   refine⟨(oG ab hl).1,(oG ab hl).2,?_⟩;intro c hc;have hc:c=de (cV (true,i,q,data)):=by rw[hc,hp];rfl
   rw[hp,hc];exact⟨ab,ab,ab,hB.1,hB.2,e1.symm,DV e2 h5⟩
  | false =>
   refine aw (λhr=>by cases hr) (λ_=>?_);refine⟨aA,?_⟩;rintro p rfl;rw[jQ hw'.1.1 hw'.1.2];refine⟨by simp[w2],?_⟩;intro p hpe;rw[jQ hw'.2.1 hw'.2.2] at hpe;have hp8:p.length=8:=by rw[hpe];simp[w2]
   have hp:p++data=cV (false,i,q,data):=by
    rw[hpe,show IntKind.wrap .u8 8=8 from by decide];simp[w2,cV]
   refine⟨(oG ab hl).1,(oG ab hl).2,?_⟩;intro c hc;have hc:c=de (cV (false,i,q,data)):=by rw[hc,hp];rfl
   rw[hp,hc];exact⟨ab,ab,ab,hB.1,hB.2,e1.symm,DV e2 h5⟩
theorem as4:aB 76 aF6.spec:=aF Tryz.func76 (av (av (av (av aC Gm) (Ct.named Ay)) (Ct.named G3)) Hn) aT SB
def SZ:Ct:=⟨[.agg Pf],[.own 5 bN,.val cI],λd=>[(d.1.2.2.length:Int)<=1073741824],λd=>((iO d.1,jK d.1,()),())⟩
def Gj(a b:Int)(c:ae) :=
 ao (decide ((ac c)<28)) (([]:ae)=iO (a,b,c)/\3=jK (a,b,c)) ((0:Int)<=8/\dR (65535:Int) [bits BinOp.or IntKind.i64 (eM IntKind.i64 a (8:Int)) b,(0:Int),(0:Int),(0:Int)]=true/\((length [bits BinOp.or IntKind.i64 (eM IntKind.i64 a (8:Int)) b,(0:Int),(0:Int),(0:Int)]):Int)<=1073741824/\ ∀(f:ae),f=List.flatMap w2 [bits BinOp.or IntKind.i64 (eM IntKind.i64 a (8:Int)) b,(0:Int),(0:Int),(0:Int)]->(f.length+c.length)*(1:Nat)<=(ml)/\((length (f++c)):Int)<=1099511627776/\ ∀(g:Int),g=65535 -oc (bQ true (f++c))->(0:Int)<=2/\(2:Int)+2<=((length (f++c)):Int)/\((length (f++c)):Int)<=1099511627776/\0<=g/\g<=65535/\(if 1480<((length (f++c)):Int) then ([]:ae) else cR (f++c) (toNat 2) g)=iO (a,b,c)/\(if 1480<((length (f++c)):Int) then (5:Int) else (0:Int))=jK (a,b,c))
theorem Wv :
 ∀(a b:Int)(c:ae),(aq a/\aq b/\c.length<=maxLen/\ ∀(d:Int),d∈c->0<=d/\d<=255)/\True->(ac c)<=1073741824-> ∀(d:Bool),d= ! decide (a=3)->(ah d)/\(ah d)/\(ar d)/\ ∀(e:Bool),(e=bif d then ! decide (a=11) else false)->(ah (! e))/\ao (! e) ((ar (! e))/\(ah (! e))/\(aE e)/\ao (bif e then true else ! dR (255:Int) [b]) (([]:ae)=iO (a,b,c)/\1=jK (a,b,c)) (Gj a b c)) ((! e)=false/\(! e)=false/\(e=false->false=true)/\ao (bif e then true else false) (([]:ae)=iO (a,b,c)/\1=jK (a,b,c)) (Gj a b c)):=by
  delta Gj ml ah ar aE ac;rintro t k data ⟨⟨-,-,-,hd⟩,-⟩ hl;rintro b rfl;refine⟨aA,aA,aA,?_⟩;intro b hb;refine⟨aA,?_⟩;cases b with
  | true =>
   have ht:¬ (t=3∨t=11):=by
    simp at hb;omega
   refine aw (λh=>by cases h) (λ_=>⟨rfl,rfl,aA,aw (λ_=>Qu (λh=>ht h.1)) (λh=>by cases h)⟩)
  | false =>
   have ht:t=3∨t=11:=by
    by_cases h3:t=3
    .exact .inl h3
    .simp[h3] at hb;exact .inr hb
   refine aw (λ_=>⟨aA,aA,aA,?_⟩) (λh=>by cases h);refine aw (λh=>?_) (λh=>?_)
   .apply Qu;rintro⟨-,h2⟩;have:=(w7 255 k).2 h2;rw[this] at h;cases h
   have hk:0<=k/\k<=255:=by
    apply (w7 255 k).1;cases hx:dR 255 [k] with
    | true=>rfl
    | false=>rw[hx] at h;cases h
   refine aw (λh2=>ao0 ⟨ht,hk⟩ (aI h2)) (λh2=>?_);have h2:=aL h2;obtain⟨e1,e2⟩:=aP5 (e:=(t,k,data)) ⟨ht,hk⟩ h2;have hB:=pK (Gn (e:=(t,k,data)) ⟨ht,hk⟩ hd);rw[QB ab ab hk.1 hk.2];refine⟨ab,by simp[dR];omega,aA,?_⟩;intro p hpe;have hp8:p.length=8:=by rw[hpe];simp[w2]
   have hp:p++data=mT (t,k,data):=by
    rw[hpe];simp only[List.flatMap_cons,List.flatMap_nil,E8 (show 0<=t by omega) (show t<=255 by omega) hk.1 hk.2,show w2 0=[0,0] from rfl];rfl
   refine⟨(oG ab hl).1,(oG ab hl).2,?_⟩;intro c hc;have hc:c=de (mT (t,k,data)):=by rw[hc,hp];rfl
   exact Eb (a:=2) hp ab ab ab hl (by rw[hc];exact hB.1) (by rw[hc];exact hB.2) (by rw[hc];exact e1) e2
theorem aO3:aB 230 SZ.spec:=aF Tryz.func230 (av (av (av (av aC D3) (Ct.named DG)) (Ct.named wZ)) JE) aT Wv
def ZT:Ct:=⟨[.val cP,.val cP,.val cI,.val (.sl bN)],[.val cI],λd=>[(d.2.2.2.1.length:Int)<=1073741824],λd=>((fQ d.1 d.2.1 d.2.2.1 d.2.2.2.1,()),())⟩
theorem VT :
 ∀(a b c:Int)(d:ae),(0<=a/\a<=4294967295)/\(0<=b/\b<=4294967295)/\aq c/\(wG d)/\True->(ac d)<=1073741824-> ∀(e:Bool),e= ! dR (255:Int) [c]->(ah (! e))/\(ah (! e))/\(aE e)/\ao (bif e then true else decide (65535<(ac d))) (0=fQ a b c d) ((0:Int)<=16/\(0:Int)<=16/\dR (65535:Int) [aj (dF IntKind.u32 a (16:Int)),aj (bits BinOp.and IntKind.u32 a (65535:Int)),aj (dF IntKind.u32 b (16:Int)),aj (bits BinOp.and IntKind.u32 b (65535:Int)),c,(ac d)]=true/\((length [aj (dF IntKind.u32 a (16:Int)),aj (bits BinOp.and IntKind.u32 a (65535:Int)),aj (dF IntKind.u32 b (16:Int)),aj (bits BinOp.and IntKind.u32 b (65535:Int)),c,(ac d)]):Int)<=1073741824/\ ∀(f:ae),f=List.flatMap w2 [aj (dF IntKind.u32 a (16:Int)),aj (bits BinOp.and IntKind.u32 a (65535:Int)),aj (dF IntKind.u32 b (16:Int)),aj (bits BinOp.and IntKind.u32 b (65535:Int)),c,(ac
 d)]->(f.length+d.length)*(1:Nat)<=(ml)/\((length (f++d)):Int)<=1099511627776/\ ∀(g:Int),g=65535 -oc (bQ true (f++d))->g=fQ a b c d):=by
  delta ml wG ah aE aj ac;rintro a b p data ⟨⟨a0,a1⟩,⟨b0,b1⟩,-,⟨-,hd⟩,-⟩ hl;rintro x rfl;refine⟨aA,aA,aA,?_⟩;refine aw (λh=>?_) (λh=>?_)
  .rw[fQ,am];cases hx:dR 255 [p] with
   | false=>exact .inl (λk=>by rw[(w7 255 p).2 k] at hx;cases hx)
   | true=>rw[hx] at h;exact .inr (aI h)
  have hp:0<=p/\p<=255:=by
   apply (w7 255 p).1;cases hx:dR 255 [p] with
   | true=>rfl
   | false=>rw[hx] at h;cases h
  have hn:¬ (65535:Int)<data.length:=by
   rw[(w7 255 p).2 hp] at h;exact aL h
  rw[Lm a0 a1,Lm b0 b1,Od a0 a1,Od b0 b1];refine⟨ab,ab,by simp[dR];omega,aA,?_⟩;intro q hq;have hp8:q.length=12:=by rw[hq];simp[w2]
  have hB:q++data=xY a b p data:=by
   rw[hq];simp only[List.flatMap_cons,List.flatMap_nil,jx,iL,RJ];rfl
  refine⟨(oG ab hl).1,(oG ab hl).2,?_⟩;rintro c rfl;rw[hB,fQ,af ab];rfl
theorem GX:aB 172 ZT.spec:=aF Tryz.func172 (av (av (av aC D3) (Ct.named DG)) (Ct.named wZ)) aT VT
def ad9:Ct:=⟨[.val cP,.val cP,.val cI,.val (.sl bN)],[.val cI],λd=>[(d.2.2.2.1.length:Int)<=1073741824],λd=>((fQ d.1 d.2.1 d.2.2.1 d.2.2.2.1,()),())⟩
theorem aE7 :
 ∀(a b c:Int)(d:ae),(0<=a/\a<=4294967295)/\(0<=b/\b<=4294967295)/\aq c/\(wG d)/\True->(ac d)<=1073741824-> ∀(e:Bool),e= ! decide (0<=c/\c<=255)->(ah (! e))/\(ah (! e))/\(aE e)/\ao (bif e then true else decide (65535<(ac d))) (0=fQ a b c d) ((↑(0:Nat):Int)<=1099511627776/\ ∀(f:ae),f=cQ ([]:ae) (aj a) (4:Int)->(ac f)<=1099511627776/\ ∀(g:ae),g=cQ f (aj b) (4:Int)->(ac g)<=1099511627776/\ ∀(h:ae),h=cQ g c (2:Int)->(ac h)<=1099511627776/\ ∀(i:ae),i=cQ h (ac d) (2:Int)->(i.length+d.length)*(1:Nat)<=(ml)/\((length (i++d)):Int)<=1099511627776/\ ∀(j:Int),j=65535 -oc (bQ true (i++d))->j=fQ a b c d):=by
  delta ml wG ah aE aj ac;rintro a b p data ⟨⟨a0,a1⟩,⟨b0,b1⟩,-,⟨-,hd⟩,-⟩ hl;rintro x rfl;refine⟨aA,aA,aA,?_⟩;refine aw (λh=>?_) (λh=>?_)
  .rw[fQ,am];by_cases hx:0<=p/\p<=255
   .rw[cM hx] at h;exact .inr (aI h)
   .exact .inl hx
  have hp:0<=p/\p<=255:=fj λhk=>by rw[dP hk] at h;cases h
  have hn:¬ (65535:Int)<data.length:=by
   rw[cM hp] at h;exact aL h
  refine⟨aA,?_⟩;intro q1 h1;rw[aG (n:=a) ab ab,vW a0 a1,si] at h1;refine⟨by rw[h1];simp[w4],?_⟩;intro q2 h2;rw[aG (n:=b) ab ab,vW b0 b1] at h2;refine⟨by rw[h2,h1];simp[w4],?_⟩;intro q3 h3;rw[jQ hp.1 ab] at h3;refine⟨by rw[h3,h2,h1];simp[w2,w4],?_⟩;intro q hq;rw[jQ ab ab] at hq;have hp8:q.length=12:=by rw[hq,h3,h2,h1];simp[w2,w4]
  have hB:q++data=xY a b p data:=by
   rw[hq,h3,h2,h1];simp only[iL];rfl
  refine⟨(oG ab hl).1,(oG ab hl).2,?_⟩;rintro c rfl;rw[hB,fQ,af ab];rfl
theorem Jg:aB 80 ad9.spec:=aF Tryz.func80 (av (av (av aC RQ) (Ct.named Ay)) (Ct.named G3)) aT aE7
def aV5:Ct:=⟨[.val cP,.val cP,.val (.sl bN)],[.val cI],λd=>[(d.2.2.1.length:Int)<=1073741824],λd=>((kS d.1 d.2.1 d.2.2.1,()),())⟩
theorem ao3 :
 ∀(a b:Int)(c:ae),(0<=a/\a<=4294967295)/\(0<=b/\b<=4294967295)/\(c.length<=maxLen/\ ∀(d:Int),d∈c->0<=d/\d<=255)/\True->(ac c)<=1073741824->(ac c)<=1073741824/\ao (! decide (fQ a b (17:Int) c=0)) (fQ a b (17:Int) c=kS a b c) (65535=kS a b c):=by
  delta ac;rintro a b data-hl;refine⟨hl,aw (λh=>?_) (λh=>?_)⟩
  .rw[kS,af];intro k;rw[cM k] at h;cases h
  .rw[kS,am];exact fj λk=>by rw[dP k] at h;cases h
theorem ah7:aB 229 aV5.spec:=aF Tryz.func229 (av aC GX) aT ao3
def ZW:Ct:=⟨[.val cP,.val cP,.agg LR],[.own 5 bN,.val cI],λd=>[(d.2.2.1.2.2.length:Int)<=1073741824],λd=>((mE d.1 d.2.1 d.2.2.1,oa d.2.2.1,()),())⟩
def zK(e i:ae) :=
 ((length (i++[(0:Int),(0:Int)]++e)):Int)
theorem YC :
 ∀(a b c d:Int)(e:ae),(0<=a/\a<=4294967295)/\(0<=b/\b<=4294967295)/\(aq c/\aq d/\e.length<=maxLen/\ ∀(f:Int),f∈e->0<=f/\f<=255)/\True->(ac e)<=1073741824-> ∀(f:Bool),f= ! dj c->(ah (! f))/\(ah (! f))/\(ah (! f))/\(aE f)/\ao (bif f then true else ! dj d) (([]:ae)=mE a b (c,d,e)/\1=oa (c,d,e)) (ao (decide (1480<aj ((ac e)+8))) (([]:ae)=mE a b (c,d,e)/\5=oa (c,d,e)) ((↑(0:Nat):Int)<=1099511627776/\ ∀(g:ae),g=cQ ([]:ae) c (2:Int)->(ac g)<=1099511627776/\ ∀(h:ae),h=cQ g d (2:Int)->(ac h)<=1099511627776/\ ∀(i:ae),i=cQ h (aj ((ac e)+8)) (2:Int)->(i.length+length [(0:Int),(0:Int)])*(1:Nat)<=(ml)/\(length (i++[(0:Int),(0:Int)])+e.length)*(1:Nat)<=(ml)/\(zK e i)<=1073741824/\ ∀(j:Int),j=fQ a b (17:Int) (i++[(0:Int),(0:Int)]++e)->ao (decide (j=0)) ((0:Int)<=6/\(6:Int)+2<=(zK e i)/\(zK e
 i)<=1099511627776/\(0:Int)<=65535/\(65535:Int)<=65535/\cR (i++[(0:Int),(0:Int)]++e) (toNat 6) (65535:Int)=mE a b (c,d,e)/\0=oa (c,d,e)) ((0:Int)<=6/\(6:Int)+2<=(zK e i)/\(zK e i)<=1099511627776/\0<=j/\j<=65535/\cR (i++[(0:Int),(0:Int)]++e) (toNat 6) j=mE a b (c,d,e)/\0=oa (c,d,e)))):=by
  delta zK ml ah aE aj ac;rintro a b sp dp data ⟨-,-,⟨-,-,-,hd⟩,-⟩ hl;rintro x rfl;refine⟨aA,aA,aA,aA,?_⟩;rw[aG (n:=(data.length:Int)+8) ab ab];refine aw (λh=>?_) (λh=>?_)
  .apply an9;rintro⟨h1,h2⟩;simp at h1 h2;simp[h1,h2] at h
  have hw:dj sp=true/\dj dp=true:=by
   simp[dE] at h;exact h
  have hw':=hw;simp only[jF] at hw';obtain⟨e1,e2⟩:=Uo (a:=a) (b:=b) (e:=(sp,dp,data)) hw;have hB:=R0 (a:=a) (b:=b) (Ch (e:=(sp,dp,data)) hd);have hbl:=Pe (sp,dp,data);refine aw (λh5=>?_) (λh5=>?_)
  .have h5:=aI h5;rw[e1,e2,am (by simp only at hbl;omega),am (by simp only at hbl;omega)];exact⟨rfl,rfl⟩
  have h5:=aL h5;have h5':¬ (1480:Int)<(fK (sp,dp,data)).length:=by simp only at hbl;omega
  rw[af h5'] at e1;refine⟨aA,?_⟩;intro q1 h1;rw[jQ hw'.1.1 hw'.1.2,si] at h1;refine⟨by rw[h1];simp[w2],?_⟩;intro q2 h2;rw[jQ hw'.2.1 hw'.2.2] at h2;refine⟨by rw[h2,h1];simp[w2],?_⟩;intro q3 h3;rw[jQ ab ab] at h3;have hp8:q3.length=6:=by rw[h3,h2,h1];simp[w2]
  have hp:q3++[0,0]++data=fK (sp,dp,data):=by
   rw[h3,h2,h1];simp only[iL,fK];rw[Int.add_comm 8]
  rw[hp];refine⟨by simp only[dN,List.length_nil];omega,by simp only[cA,dN,List.length_nil];omega,by simp only at hbl;omega,?_⟩;rintro c rfl;have hs:∀ c,c=kS a b (fK (sp,dp,data))->cR (fK (sp,dp,data)) (toNat 6) c=mE a b (sp,dp,data)/\0=oa (sp,dp,data):=by
   rintro c rfl;exact⟨e1.symm,DV e2 h5'⟩
  refine bT (λhz=>?_) (λhz=>?_)
  .exact⟨ab,by simp only at hbl;omega,by simp only at hbl;omega,ab,ab,hs _ (by rw[kS,am hz])⟩
  .have hr:=z9 (a:=a) (b:=b) (p:=17) (Ch (e:=(sp,dp,data)) hd);exact⟨ab,by simp only at hbl;omega,by simp only at hbl;omega,hr.1,hr.2,hs _ (by rw[kS,af hz])⟩
theorem Ue:aB 81 ZW.spec:=aF Tryz.func81 (av (av (av (av aC Gm) (Ct.named Ay)) (Ct.named Jg)) Hn) aT YC
theorem Ys{f:Int}(h0:0<=f)(h1:f<=255):bits .or .i64 20480 f=80*256+f:=by
 have:=QB (n:=80) (x:=f) ab ab h0 h1
 rwa [show eM .i64 80 8=20480 from by decide] at this
theorem ad1{f:Int}(h0:0<=f)(h1:f<=255):w2 (80*256+f)=[80,f]:=E8 (by omega) (by omega) h0 h1
def aM8:Ct:=⟨[.val cP,.val cP,.agg AN],[.own 5 bN,.val cI],λd=>[(d.2.2.1.2.2.2.2.2.2.length:Int)<=1000000],λd=>((fI d.1 d.2.1 d.2.2.1,lJ d.2.2.1,()),())⟩
def Ge(a b:Int)(c:Int×Int×Int×Int×Int×Int×ae) :=
 (0:Int)<=16/\(0:Int)<=16/\dR (65535:Int) [c.1,c.2.1,dF IntKind.i64 c.2.2.1 (16:Int),bits BinOp.and IntKind.i64 c.2.2.1 (65535:Int),dF IntKind.i64 c.2.2.2.1 (16:Int),bits BinOp.and IntKind.i64 c.2.2.2.1 (65535:Int),bits BinOp.or IntKind.i64 (20480:Int) c.2.2.2.2.1,c.2.2.2.2.2.1,(0:Int),(0:Int)]=true/\((length [c.1,c.2.1,dF IntKind.i64 c.2.2.1 (16:Int),bits BinOp.and IntKind.i64 c.2.2.1 (65535:Int),dF IntKind.i64 c.2.2.2.1 (16:Int),bits BinOp.and IntKind.i64 c.2.2.2.1 (65535:Int),bits BinOp.or IntKind.i64 (20480:Int) c.2.2.2.2.1,c.2.2.2.2.2.1,(0:Int),(0:Int)]):Int)<=1073741824/\ ∀(f:ae),f=List.flatMap w2 [c.1,c.2.1,dF IntKind.i64 c.2.2.1 (16:Int),bits BinOp.and IntKind.i64 c.2.2.1 (65535:Int),dF IntKind.i64 c.2.2.2.1 (16:Int),bits BinOp.and IntKind.i64 c.2.2.2.1 (65535:Int),bits BinOp.or IntKind.i64 (20480:Int)
 c.2.2.2.2.1,c.2.2.2.2.2.1,(0:Int),(0:Int)]->(f.length+c.2.2.2.2.2.2.length)*(1:Nat)<=(ml)/\((length (f++c.2.2.2.2.2.2)):Int)<=1073741824/\ ∀(g:Int),g=fQ a b (6:Int) (f++c.2.2.2.2.2.2)->(0:Int)<=16/\(16:Int)+2<=((length (f++c.2.2.2.2.2.2)):Int)/\((length (f++c.2.2.2.2.2.2)):Int)<=1099511627776/\0<=g/\g<=65535/\(if 1480<((length (f++c.2.2.2.2.2.2)):Int) then ([]:ae) else cR (f++c.2.2.2.2.2.2) (toNat 16) g)=fI a b c/\(if 1480<((length (f++c.2.2.2.2.2.2)):Int) then (5:Int) else (0:Int))=lJ c
def Ia(a b:Int)(c:Int×Int×Int×Int×Int×Int×ae)(e:Bool) :=
 (ah (! e))/\ao (! e) ((ar (! e))/\(ah (! e))/\(aE e)/\ao (bif e then true else ! dR (255:Int) [c.2.2.2.2.1]) (([]:ae)=fI a b c/\1=lJ c) (Ge a b c)) ((! e)=false/\(! e)=false/\(e=false->false=true)/\ao (bif e then true else false) (([]:ae)=fI a b c/\1=lJ c) (Ge a b c))
theorem ae0 :
 ∀(a b:Int)(c:Int×Int×Int×Int×Int×Int×ae),(0<=a/\a<=4294967295)/\(0<=b/\b<=4294967295)/\CT.wf AN c/\True->(ac c.2.2.2.2.2.2)<=1000000-> ∀(d:Bool),d= ! dR (65535:Int) [c.1,c.2.1,c.2.2.2.2.2.1]->(ah (! d))/\(ah (! d))/\ao (! d) ((ar (! d))/\(ar (! d))/\(ah (! d))/\(aE d)/\ ∀(e:Bool),(e=bif d then true else ! dR (4294967295:Int) [c.2.2.1,c.2.2.2.1])->(Ia a b c e)) ((! d)=false/\(! d)=false/\(d=false->false=true)/\ ∀(e:Bool),(e=bif d then true else false)->(Ia a b c e)):=by
  delta Ge Ia ml ah ar aE ac;rintro a b e ⟨-,-,⟨-,-,-,-,-,-,-,hd⟩,-⟩ hl;intro b1 hb1;refine⟨aA,aA,?_⟩;cases b1 with
  | true =>
   have hbad:¬ pd e:=by
    rintro⟨h1,h2,-,-,-,h3⟩;rw[jF] at h1 h2 h3;rw[show dR 65535 [e.1,e.2.1,e.2.2.2.2.2.1]=true from by simp[dR];omega] at hb1;cases hb1
   refine aw (λh=>by cases h) (λ_=>⟨rfl,rfl,aA,?_⟩);intro b2 hb2;have hb2:b2=true:=hb2;subst hb2;exact⟨aA,aw (λh=>by cases h) (λ_=>⟨rfl,rfl,aA,aw (λ_=>FO hbad) (λh=>by cases h)⟩)⟩
  | false =>
   have h1:(0<=e.1/\e.1<=65535)/\(0<=e.2.1/\e.2.1<=65535)/\0<=e.2.2.2.2.2.1/\e.2.2.2.2.2.1<=65535:=by
    have:dR 65535 [e.1,e.2.1,e.2.2.2.2.2.1]=true:=by
     cases hx:dR 65535 [e.1,e.2.1,e.2.2.2.2.2.1] with
     | true=>rfl
     | false=>rw[hx] at hb1;cases hb1
    simpa[dR] using this
   refine aw (λ_=>⟨aA,aA,aA,aA,?_⟩) (λh=>by cases h);intro b2 hb2;refine⟨aA,?_⟩;cases b2 with
   | true =>
    have hbad:¬ pd e:=by
     rintro⟨-,-,h3,h4,-,-⟩;have:dR 4294967295 [e.2.2.1,e.2.2.2.1]=true:=(D9 _ _ _).2 ⟨h3,h4⟩;rw[this] at hb2;cases hb2
    exact aw (λh=>by cases h) (λ_=>⟨rfl,rfl,aA,aw (λ_=>FO hbad) (λh=>by cases h)⟩)
   | false =>
    have h2:(0<=e.2.2.1/\e.2.2.1<=4294967295)/\0<=e.2.2.2.1/\e.2.2.2.1<=4294967295:=by
     apply (D9 _ _ _).1;cases hx:dR 4294967295 [e.2.2.1,e.2.2.2.1] with
     | true=>rfl
     | false=>rw[hx] at hb2;cases hb2
    refine aw (λ_=>⟨aA,aA,aA,aw (λh=>?_) (λh=>?_)⟩) (λh=>by cases h)
    .apply FO;rintro⟨-,-,-,-,h3,-⟩;rw[(w7 _ _).2 h3] at h;cases h
    have h3:0<=e.2.2.2.2.1/\e.2.2.2.2.1<=255:=by
     apply (w7 _ _).1;cases hx:dR 255 [e.2.2.2.2.1] with
     | true=>rfl
     | false=>rw[hx] at h;cases h
    have hok:pd e:=⟨(jF _).2 h1.1,(jF _).2 h1.2.1,h2.1,h2.2,h3,(jF _).2 h1.2.2⟩
    obtain⟨e1,e2⟩:=OG (a:=a) (b:=b) hok;have hB:=z9 (a:=a) (b:=b) (p:=6) (Ag hok hd);have hbl:=Al e;rw[H2 h2.1.1,H2 h2.2.1,Cs,Cs,Ys h3.1 h3.2];refine⟨ab,ab,by simp[dR];omega,aA,?_⟩;intro p hpe;have hp8:p.length=20:=by rw[hpe];simp[w2]
    have hp:p++e.2.2.2.2.2.2=kC e:=by
     rw[hpe];simp only[List.flatMap_cons,List.flatMap_nil,jx,iL,RJ,show w2 0=[0,0] from rfl,ad1 h3.1 h3.2];rfl
    refine⟨(oG ab ab).1,by rw[cA];omega,?_⟩;intro c hc;have hc:c=fQ a b 6 (kC e):=by rw[hc,hp]
    exact Eb (a:=16) hp ab ab ab ab (by rw[hc];exact hB.1) (by rw[hc];exact hB.2) (by rw[hc];exact e1) e2
theorem aC1:aB 218 aM8.spec:=aF Tryz.func218 (av (av (av (av aC D3) (Ct.named DG)) (Ct.named GX)) JE) aT ae0
def To:Ct:=⟨[.val cP,.val cP,.agg AN],[.own 5 bN,.val cI],λd=>[(d.2.2.1.2.2.2.2.2.2.length:Int)<=1000000],λd=>((fI d.1 d.2.1 d.2.2.1,lJ d.2.2.1,()),())⟩
def zu(c:Int×Int×Int×Int×Int×Int×ae)(o:ae) :=
 o++[(0:Int),(0:Int),(0:Int),(0:Int)]++c.2.2.2.2.2.2
theorem ax9 :
 ∀(a b:Int)(c:Int×Int×Int×Int×Int×Int×ae),(0<=a/\a<=4294967295)/\(0<=b/\b<=4294967295)/\CT.wf AN c/\True->(ac c.2.2.2.2.2.2)<=1000000-> ∀(d:Bool),d= ! dj c.1->(ah (! d))/\(ah (! d))/\(ah (! d))/\(aE d)/\ ∀(e:Bool),(e=bif d then true else ! dj c.2.1)->(ah (! e))/\(ah (! e))/\(ah (! e))/\(aE e)/\ ∀(f:Bool),(f=bif e then true else ! decide (0<=c.2.2.1/\c.2.2.1<=4294967295))->(ah (! f))/\(ah (! f))/\(ah (! f))/\(aE f)/\ ∀(g:Bool),(g=bif f then true else ! decide (0<=c.2.2.2.1/\c.2.2.2.1<=4294967295))->(ah (! g))/\(ah (! g))/\(ah (! g))/\(aE g)/\ ∀(h:Bool),(h=bif g then true else ! decide (0<=c.2.2.2.2.1/\c.2.2.2.2.1<=255))->(ah (! h))/\(ah (! h))/\(ah (! h))/\(aE h)/\ao (bif h then true else ! dj c.2.2.2.2.2.1) (([]:ae)=fI a b c/\1=lJ c) (ao (decide (1480<aj ((ac c.2.2.2.2.2.2)+20))) (([]:ae)=fI a b c/\5=lJ c)
 ((↑(0:Nat):Int)<=1099511627776/\ ∀(i:ae),i=cQ ([]:ae) c.1 (2:Int)->(ac i)<=1099511627776/\ ∀(j:ae),j=cQ i c.2.1 (2:Int)->(ac j)<=1099511627776/\ ∀(k:ae),k=cQ j c.2.2.1 (4:Int)->(ac k)<=1099511627776/\ ∀(l:ae),l=cQ k c.2.2.2.1 (4:Int)->(ac l)<=1099511627776/\ ∀(m:ae),m=cQ l (80:Int) (1:Int)->(ac m)<=1099511627776/\ ∀(n:ae),n=cQ m c.2.2.2.2.1 (1:Int)->(ac n)<=1099511627776/\ ∀(o:ae),o=cQ n c.2.2.2.2.2.1 (2:Int)->(o.length+length [(0:Int),(0:Int),(0:Int),(0:Int)])*(1:Nat)<=(ml)/\(length (o++[(0:Int),(0:Int),(0:Int),(0:Int)])+c.2.2.2.2.2.2.length)*(1:Nat)<=(ml)/\((length (zu c o)):Int)<=1073741824/\ ∀(p:Int),p=fQ a b (6:Int) (zu c o)->(0:Int)<=16/\(16:Int)+2<=((length (zu c o)):Int)/\((length (zu c o)):Int)<=1099511627776/\0<=p/\p<=65535/\cR (zu c o) (toNat 16) p=fI a b
 c/\0=lJ c)):=by
  delta zu ml ah aE aj ac;rintro a b e ⟨-,-,⟨-,-,-,-,-,-,-,hd⟩,-⟩ hl;intro b1 h1;refine⟨aA,aA,aA,aA,?_⟩;intro b2 h2;refine⟨aA,aA,aA,aA,?_⟩;intro b3 h3;refine⟨aA,aA,aA,aA,?_⟩;intro b4 h4;refine⟨aA,aA,aA,aA,?_⟩;intro b5 h5;refine⟨aA,aA,aA,aA,?_⟩;rw[aG (n:=(e.2.2.2.2.2.2.length:Int)+20) ab ab];have hall:(bif b5 then true else !dj e.2.2.2.2.2.1) = !decide (pd e):=by
   rw[h5,h4,h3,h2,h1];by_cases w1:dj e.1=true
   all_goals by_cases w2:dj e.2.1=true
   all_goals by_cases w3:dj e.2.2.2.2.2.1=true
   all_goals by_cases q1:0<=e.2.2.1/\e.2.2.1<=4294967295
   all_goals by_cases q2:0<=e.2.2.2.1/\e.2.2.2.1<=4294967295
   all_goals by_cases q3:0<=e.2.2.2.2.1/\e.2.2.2.2.1<=255
   all_goals simp[pd,w1,w2,w3,q1,q2,q3]
  rw[hall];refine aw (λh=>FO (by simpa using h)) (λh=>?_);have hok:pd e:=by simpa using h
  obtain⟨e1,e2⟩:=OG (a:=a) (b:=b) hok;have hB:=z9 (a:=a) (b:=b) (p:=6) (Ag hok hd);have hbl:=Al e;refine aw (λh5=>?_) (λh5=>?_)
  .have h5:=aI h5;rw[e1,e2,am ab,am ab];exact⟨rfl,rfl⟩
  have h5:=aL h5;have h5':¬ (1480:Int)<(kC e).length:=ab;rw[af h5'] at e1;obtain⟨k1,k2,k3,k4,k5,k6⟩:=hok;rw[jF] at k1 k2 k6;refine⟨aA,?_⟩;intro q1 h1;rw[jQ k1.1 k1.2,si] at h1;have l1:q1.length=2:=by rw[h1];rfl
  refine⟨ab,?_⟩;intro q2 h2;rw[jQ k2.1 k2.2] at h2;have l2:q2.length=4:=by rw[h2,cA,l1];rfl
  refine⟨ab,?_⟩;intro q3 h3;rw[vW k3.1 k3.2] at h3;have l3:q3.length=8:=by rw[h3,cA,l2];rfl
  refine⟨ab,?_⟩;intro q4 h4;rw[vW k4.1 k4.2] at h4;have l4:q4.length=12:=by rw[h4,cA,l3];rfl
  refine⟨ab,?_⟩;intro q5 h5;rw[tQ ab ab] at h5;have l5:q5.length=13:=by rw[h5,cA,l4];rfl
  refine⟨ab,?_⟩;intro q6 h6;rw[tQ k5.1 k5.2] at h6;have l6:q6.length=14:=by rw[h6,cA,l5];rfl
  refine⟨ab,?_⟩;intro q7 h7;rw[jQ k6.1 k6.2] at h7;have l7:q7.length=16:=by rw[h7,cA,l6];rfl
  have hp:q7++[0,0,0,0]++e.2.2.2.2.2.2=kC e:=by
   rw[h7,h6,h5,h4,h3,h2,h1];simp only[iL];rfl
  rw[hp];refine⟨by simp only[dN,List.length_nil];omega,by simp only[cA,dN,List.length_nil];omega,ab,?_⟩;rintro c rfl;exact⟨ab,ab,ab,hB.1,hB.2,e1.symm,DV e2 h5'⟩
theorem aJ0:aB 82 To.spec:=aF Tryz.func82 (av (av (av (av (av (av aC Gm) RQ) aV8) (Ct.named Ay)) (Ct.named Jg)) Hn) aT ax9
def Cv(b:ae):Prop:=(b.getD (toNat 0) default=8∨b.getD (toNat 0) default=0)/\b.getD (toNat 1) default=0
instance (b:ae):Decidable (Cv b):=by unfold Cv;infer_instance
def jE(b:ae):Int:=if (b.length:Int)<8 then 3 else if ¬ Cv b then 2 else if (1480:Int)<b.length then 5 else if de (cR b (toNat 2) 0)≠aH b (toNat 2) then 4 else 0
def gn(b:ae):nO:=if jE b=0 then (decide (b.getD (toNat 0) default=0),aH b (toNat 4),aH b (toNat 6),b.drop 8) else (false,0,0,[])
def AT(b:ae):Prop:=(b.getD (toNat 0) default=3∨b.getD (toNat 0) default=11)/\aH b (toNat 4)=0/\aH b (toNat 6)=0
instance (b:ae):Decidable (AT b):=by unfold AT;infer_instance
def kD(b:ae):Int:=if (b.length:Int)<36 then 3 else if ¬ AT b then 2 else if (1480:Int)<b.length then 5 else if de (cR b (toNat 2) 0)≠aH b (toNat 2) then 4 else 0
def j8(b:ae):pY:=if kD b=0 then (b.getD (toNat 0) default,b.getD (toNat 1) default,b.drop 8) else (0,0,[])
def j6(s d:Int)(b:ae):Int:=if (b.length:Int)<8 then 3 else if ¬ aH b (toNat 4)=b.length then 2 else if (1480:Int)<b.length then 5 else if kS s d (cR b (toNat 6) 0)≠aH b (toNat 6) then 4 else 0
def qU(s d:Int)(b:ae):ro:=if j6 s d b=0 then (aH b (toNat 0),aH b (toNat 2),b.drop 8) else (0,0,[])
def Bz(b:ae):Prop:=b.getD (toNat 12) default=80/\aH b (toNat 18)=0
instance (b:ae):Decidable (Bz b):=by unfold Bz;infer_instance
def jL(s d:Int)(b:ae):Int:=if (b.length:Int)<20 then 3 else if ¬ Bz b then 2 else if (1480:Int)<b.length then 5 else if fQ s d 6 (cR b (toNat 16) 0)≠aH b (toNat 16) then 4 else 0
def fV(s d:Int)(b:ae):mL:=if jL s d b=0 then (aH b (toNat 0),aH b (toNat 2),aH b (toNat 4)*65536+aH b (toNat 6),aH b (toNat 8)*65536+aH b (toNat 10),b.getD (toNat 13) default,aH b (toNat 14),b.drop 20) else (0,0,0,0,0,0,[])
theorem EX{b:ae}{e:Int}(h:jE b=e)(he:e≠0):(false,0,0,[])=gn b/\e=jE b:=by
 rw[gn,af (by rw[h];exact he),h];exact⟨rfl,rfl⟩
theorem Dm{b:ae}{e:Int}(h:kD b=e)(he:e≠0):(0,0,[])=j8 b/\e=kD b:=by
 rw[j8,af (by rw[h];exact he),h];exact⟨rfl,rfl⟩
theorem Fe{s d:Int}{b:ae}{e:Int}(h:j6 s d b=e)(he:e≠0):(0,0,[])=qU s d b/\e=j6 s d b:=by
 rw[qU,af (by rw[h];exact he),h];exact⟨rfl,rfl⟩
theorem DD{s d:Int}{b:ae}{e:Int}(h:jL s d b=e)(he:e≠0):(0,0,0,0,0,0,[])=fV s d b/\e=jL s d b:=by
 rw[fV,af (by rw[h];exact he),h];exact⟨rfl,rfl⟩
theorem vX(b:ae)(k:Nat):cL b k (toNat (b.length:Int))=b.drop k:=by unfold cL;simp
theorem PU{b:ae}{i:Nat}{v:Int}(h:bytes b)(h0:0<=v)(h1:v<=255):bytes (b.set i v):=by
 intro x hx
 rcases AW hx with hx|rfl
 .exact h x hx
 .exact⟨h0,h1⟩
theorem tI{b:ae}{i:Nat}{v:Int}(h:bytes b):bytes (cR b i v):=PU (PU h ab ab) ab ab
theorem C8{b:ae}{k:Nat}(h:bytes b):0<=aH b k/\aH b k<=65535:=by
 have:=FC 2 ((b.drop k).take 2) (by rw[dA];omega) (λx hx=>h x (xg (oP hx)))
 have e:(256:Int)^2=65536:=rfl
 unfold aH;omega
theorem mP(b:ae)(i:Nat)(v:Int):(cR b i v).length=b.length:=by simp[cR]
theorem ie(x y:Int)(r:ae):aH (x::y::r) 0=x*256+y:=by simp[aH,fp]
theorem K2{n x:Int}(h0:0<=n)(h1:n<=65535)(h2:0<=x)(h3:x<=65535):bits .or .i64 (eM .i64 n 16) x=n*65536+x:=by
 have e:eM .i64 n 16=n*65536:=by
  show IntKind.i64.wrap (n*2^(min 16 64))=_;rw[aG (by simp;omega) (by simp;omega)];rfl
 rw[e]
 obtain⟨m,rfl⟩:=pE h0
 obtain⟨y,rfl⟩:=pE h2
 have:=Nd (m*65536) y ab ab
 rw[nat_join 16 (m*65536) y ab ab,show ((m*65536:Nat):Int)=(m:Int)*65536 from by omega,show ((m*65536+y:Nat):Int)=(m:Int)*65536+(y:Int) from by omega] at this
 exact this
def TO:Ct:=⟨[.val (.sl bN)],[.agg Jb,.val cI],λd=>[(d.1.length:Int)<=1000000],λd=>((gn d.1,jE d.1,()),())⟩
def AR :=
 (false,(0:Int),(0:Int),([]:ae))
theorem aT8 :
 ∀(a:ae),(a.length<=maxLen/\ ∀(b:Int),b∈a->0<=b/\b<=255)/\True->(ac a)<=1000000->ao (decide ((ac a)<8)) ((AR)=gn a/\3=jE a) ((0:Int)<=0/\0<(ac a)/\ ∀(b:Bool),b= ! decide (ai a (0:Int)=8)->(b->(ar b)/\(0:Int)<=0/\0<(ac a)/\True)/\(ah b)/\(ah b)/\(ar b)/\ ∀(c:Bool),(c=bif b then ! decide (ai a (0:Int)=0) else false)->((! c)->(ar (! c))/\(0:Int)<=1/\1<(ac a)/\True)/\(ah (! c))/\(ah (! c))/\(aE c)/\ao (bif c then true else ! decide (ai a (1:Int)=0)) ((AR)=gn a/\2=jE a) (ao (decide (1480<(ac a))) ((AR)=gn a/\5=jE a) ((0:Int)<=2/\(2:Int)+2<=(ac a)/\(ac a)<=1099511627776/\ ∀(d:ae)(e:Int),d=cR a (toNat 2) (0:Int)/\e=aH a (toNat 2)->(ac d)<=1099511627776/\ ∀(f:Int),f=65535 -oc (bQ true d)->ao (! decide (f=e)) ((AR)=gn a/\4=jE a) ((0:Int)<=0/\0<(ac a)/\(0:Int)<=4/\(4:Int)+2<=(ac a)/\(ac
 a)<=1099511627776/\(0:Int)<=6/\(6:Int)+2<=(ac a)/\(ac a)<=1099511627776/\(0:Int)<=8/\8<=(ac a)/\(ac a)<=(ac a)/\((length (cL a (toNat 8) (toNat (ac a)))):Int)<=1099511627776/\ ∀(g:ae),g=cL a (toNat 8) (toNat (ac a))->(decide (ai a (0:Int)=0),aH a (toNat 4),aH a (toNat 6),g)=gn a/\0=jE a)))):=by
  delta AR ah ar aE ai ac;rintro b ⟨⟨-,hb⟩,-⟩ hl;refine aw (λh=>?_) (λh8=>?_)
  .exact EX (by rw[jE,am (aI h)]) bt
  have h8:=aL h8;refine⟨ab,ab,?_⟩
  (repeat (refine bX ?_;repeat refine bZ ?_));refine aw (λh=>?_) (λhf=>?_)
  .refine EX (by rw[jE,af h8,am];rintro⟨f0,f1⟩;rw[cM f1] at h;rcases f0 with f0|f0 <;> rw[f0] at h <;> simp at h) bt
  have hf:Cv b:=by
   unfold Cv;by_cases k1:b.getD (toNat 1) default=0
   .by_cases k2:b.getD (toNat 0) default=8
    .exact⟨.inl k2,k1⟩
    .by_cases k3:b.getD (toNat 0) default=0
     .exact⟨.inr k3,k1⟩
     .rw[dP k2,dP k3] at hf;simp at hf
   .rw[dP k1] at hf;simp[dE] at hf
  refine aw (λh=>?_) (λh5=>?_)
  .exact EX (by rw[jE,af h8,af (λk=>k hf),am (aI h)]) bt
  have h5:=aL h5;refine⟨ab,ab,ab,?_⟩;rintro x w ⟨rfl,rfl⟩;refine⟨by simp[cR];omega,?_⟩;rintro c rfl;refine aw (λh=>?_) (λh=>?_)
  .refine EX (by rw[jE,af h8,af (λk=>k hf),af h5,am];intro k;rw[de] at k;rw[cM k] at h;cases h) bt
  have h0:jE b=0:=by
   rw[jE,af h8,af (λk=>k hf),af h5,af];intro k;rw[de] at k;rw[dP k] at h;cases h
  refine⟨ab,ab,ab,ab,ab,ab,ab,ab,ab,ab,ab,by rw[vX,fy];omega,?_⟩;rintro y rfl;rw[gn,am h0,h0,vX];exact⟨rfl,rfl⟩
theorem Pm:aB 125 TO.spec:=aF Tryz.func125 (av (av (av (av aC (Ct.named Dq)) (Ct.named wZ)) A6) (Ct.named r4)) aT aT8
theorem U8(p q r s:Prop) [Decidable p] [Decidable q] [Decidable r] [Decidable s]:(bif (bif (bif !decide p then !decide q else false) then true else !decide r) then true else !decide s) = !decide ((p∨q)/\r/\s):=by
 by_cases p <;> by_cases q <;> by_cases r <;> by_cases s <;> simp[*]
theorem JC{b:ae}{k:Nat}(h:k+2<=b.length):aH b k=b.getD k default*256+b.getD (k+1) default:=by
 have h0:k<b.length:=ab
 have h1:k+1<b.length:=ab
 have e:b.drop k=b[k]::b[k+1]::b.drop (k+1+1):=by rw[sm h0,sm h1]
 unfold aH
 rw[e,bJ,bJ,cK h0,cK h1]
 generalize b.drop (k+1+1)=r
 generalize b[k]=u
 generalize b[k+1]=v
 simp[fp]
theorem UC(p r:Prop) [Decidable p] [Decidable r]:(bif !decide p then true else !decide r) = !decide (p/\r):=by
 by_cases p <;> by_cases r <;> simp[*]
def ab7:Ct:=⟨[.val (.sl bN)],[.agg Pf,.val cI],λd=>[(d.1.length:Int)<=1000000],λd=>((j8 d.1,kD d.1,()),())⟩
def s9 :=
 ((0:Int),(0:Int),([]:ae))
theorem Wu :
 ∀(a:ae),(a.length<=maxLen/\ ∀(b:Int),b∈a->0<=b/\b<=255)/\True->(ac a)<=1000000->ao (decide ((ac a)<36)) ((s9)=j8 a/\3=kD a) ((0:Int)<=0/\0<(ac a)/\ ∀(b:Bool),b= ! decide (ai a (0:Int)=3)->(b->(ar b)/\(0:Int)<=0/\0<(ac a)/\True)/\(ah b)/\(ah b)/\(ar b)/\ ∀(c:Bool),(c=bif b then ! decide (ai a (0:Int)=11) else false)->((! c)->(ar (! c))/\(0:Int)<=4/\(4:Int)+2<=(ac a)/\(ac a)<=1099511627776/\True)/\(ah (! c))/\(aE c)/\ ∀(d:Bool),(d=bif c then true else ! decide (aH a (toNat 4)=0))->((! d)->(ar (! d))/\(0:Int)<=6/\(6:Int)+2<=(ac a)/\(ac a)<=1099511627776/\True)/\(ah (! d))/\(aE d)/\ao (bif d then true else ! decide (aH a (toNat 6)=0)) ((s9)=j8 a/\2=kD a) (ao (decide (1480<(ac a))) ((s9)=j8 a/\5=kD a) ((0:Int)<=2/\(2:Int)+2<=(ac a)/\(ac a)<=1099511627776/\ ∀(e:ae)(f:Int),e=cR a
 (toNat 2) (0:Int)/\f=aH a (toNat 2)->(ac e)<=1099511627776/\ ∀(g:Int),g=65535 -oc (bQ true e)->ao (! decide (g=f)) ((s9)=j8 a/\4=kD a) ((0:Int)<=0/\0<(ac a)/\(0:Int)<=1/\1<(ac a)/\(0:Int)<=8/\8<=(ac a)/\(ac a)<=(ac a)/\((length (cL a (toNat 8) (toNat (ac a)))):Int)<=1099511627776/\ ∀(h:ae),h=cL a (toNat 8) (toNat (ac a))->(aj (ai a (0:Int)),aj (ai a (1:Int)),h)=j8 a/\0=kD a)))):=by
  delta s9 ah ar aE aj ai ac;rintro b ⟨⟨-,hb⟩,-⟩ hl;refine aw (λh=>?_) (λh8=>?_)
  .exact Dm (by rw[kD,am (aI h)]) bt
  have h8:=aL h8;refine⟨ab,ab,?_⟩
  (repeat (refine bX ?_;repeat refine bZ ?_));have hall:(bif (bif (bif !decide (b.getD (toNat 0) default=3) then !decide (b.getD (toNat 0) default=11) else false) then true else !decide (aH b (toNat 4)=0)) then true else !decide (aH b (toNat 6)=0)) = !decide (AT b):=(U8 _ _ _ _).trans (jn (λx => !x) (decide_eq_decide.2 m5));rw[hall];refine aw (λh=>?_) (λhf=>?_)
  .exact Dm (by rw[kD,af h8,am];simpa using h) bt
  have hf:AT b:=by simpa using hf
  refine aw (λh=>?_) (λh5=>?_)
  .exact Dm (by rw[kD,af h8,af (λk=>k hf),am (aI h)]) bt
  have h5:=aL h5;refine⟨ab,ab,ab,?_⟩;rintro x w ⟨rfl,rfl⟩;refine⟨by rw[mP];omega,?_⟩;rintro c rfl;refine aw (λh=>?_) (λh=>?_)
  .refine Dm (by rw[kD,af h8,af (λk=>k hf),af h5,am];intro k;rw[de] at k;rw[cM k] at h;cases h) bt
  have h0:kD b=0:=by
   rw[kD,af h8,af (λk=>k hf),af h5,af];intro k;rw[de] at k;rw[dP k] at h;cases h
  rw[vX]
  repeat refine⟨ab,?_⟩
  refine⟨by rw[fy];omega,?_⟩;rintro y rfl;have g0:=hb _ (bR (xs:=b) (i:=0) ab ab);have g1:=hb _ (bR (xs:=b) (i:=1) ab ab);rw[j8,am h0,h0,aG ab ab,aG ab ab];exact⟨rfl,rfl⟩
theorem aT0:aB 127 ab7.spec:=aF Tryz.func127 (av (av (av (av aC (Ct.named Dq)) (Ct.named wZ)) A6) (Ct.named r4)) aT Wu
def Yp:Ct:=⟨[.val cP,.val cP,.val (.sl bN)],[.agg LR,.val cI],λd=>[(d.2.2.1.length:Int)<=1000000],λd=>((qU d.1 d.2.1 d.2.2.1,j6 d.1 d.2.1 d.2.2.1,()),())⟩
theorem aN4 :
 ∀(a b:Int)(c:ae),(0<=a/\a<=4294967295)/\(0<=b/\b<=4294967295)/\(c.length<=maxLen/\ ∀(d:Int),d∈c->0<=d/\d<=255)/\True->(ac c)<=1000000->ao (decide ((ac c)<8)) ((s9)=qU a b c/\3=j6 a b c) ((0:Int)<=4/\(4:Int)+2<=(ac c)/\(ac c)<=1099511627776/\ao (! decide (aH c (toNat 4)=(ac c))) ((s9)=qU a b c/\2=j6 a b c) (ao (decide (1480<(ac c))) ((s9)=qU a b c/\5=j6 a b c) ((0:Int)<=6/\(6:Int)+2<=(ac c)/\(ac c)<=1099511627776/\ ∀(d:ae)(e:Int),d=cR c (toNat 6) (0:Int)/\e=aH c (toNat 6)->(ac d)<=1073741824/\ ∀(f:Int),f=kS a b d->ao (! decide (f=e)) ((s9)=qU a b c/\4=j6 a b c) ((0:Int)<=0/\(0:Int)+2<=(ac c)/\(ac c)<=1099511627776/\(0:Int)<=2/\(2:Int)+2<=(ac c)/\(ac c)<=1099511627776/\(0:Int)<=8/\8<=(ac c)/\(ac c)<=(ac c)/\((length (cL c (toNat 8) (toNat (ac c)))):Int)<=1099511627776/\
 ∀(g:ae),g=cL c (toNat 8) (toNat (ac c))->(aH c (toNat 0),aH c (toNat 2),g)=qU a b c/\0=j6 a b c)))):=by
  delta s9 ac;rintro s d b ⟨-,-,⟨-,hb⟩,-⟩ hl;refine aw (λh=>?_) (λh8=>?_)
  .exact Fe (by rw[j6,am (aI h)]) bt
  have h8:=aL h8
  repeat refine⟨ab,?_⟩
  refine aw (λh=>?_) (λhf=>?_)
  .exact Fe (by rw[j6,af h8,am];simpa using h) bt
  have hf:aH b (toNat 4)=b.length:=by simpa using hf
  refine aw (λh=>?_) (λh5=>?_)
  .exact Fe (by rw[j6,af h8,af (λk=>k hf),am (aI h)]) bt
  have h5:=aL h5
  repeat refine⟨ab,?_⟩
  rintro x w ⟨rfl,rfl⟩;refine⟨by rw[mP];omega,?_⟩;rintro c rfl;refine aw (λh=>?_) (λh=>?_)
  .refine Fe (by rw[j6,af h8,af (λk=>k hf),af h5,am];intro k;rw[cM k] at h;cases h) bt
  have h0:j6 s d b=0:=by
   rw[j6,af h8,af (λk=>k hf),af h5,af];intro k;rw[dP k] at h;cases h
  rw[vX]
  repeat refine⟨ab,?_⟩
  refine⟨by rw[fy];omega,?_⟩;rintro y rfl;rw[qU,am h0,h0];exact⟨rfl,rfl⟩
theorem ac5:aB 216 Yp.spec:=aF Tryz.func216 (av (av (av (av aC (Ct.named Dq)) (Ct.named ah7)) A6) (Ct.named r4)) aT aN4
def ae9:Ct:=⟨[.val cP,.val cP,.val (.sl bN)],[.agg AN,.val cI],λd=>[(d.2.2.1.length:Int)<=1000000],λd=>((fV d.1 d.2.1 d.2.2.1,jL d.1 d.2.1 d.2.2.1,()),())⟩
def Cr :=
 ((0:Int),(0:Int),(0:Int),(0:Int),(0:Int),(0:Int),([]:ae))
theorem Uv :
 ∀(a b:Int)(c:ae),(0<=a/\a<=4294967295)/\(0<=b/\b<=4294967295)/\(c.length<=maxLen/\ ∀(d:Int),d∈c->0<=d/\d<=255)/\True->(ac c)<=1000000->ao (decide ((ac c)<20)) ((Cr)=fV a b c/\3=jL a b c) ((0:Int)<=12/\12<(ac c)/\ ∀(d:Bool),d= ! decide (ai c (12:Int)=80)->((! d)->(ar (! d))/\(0:Int)<=18/\(18:Int)+2<=(ac c)/\(ac c)<=1099511627776/\True)/\(ah (! d))/\(aE d)/\ao (bif d then true else ! decide (aH c (toNat 18)=0)) ((Cr)=fV a b c/\2=jL a b c) (ao (decide (1480<(ac c))) ((Cr)=fV a b c/\5=jL a b c) ((0:Int)<=16/\(16:Int)+2<=(ac c)/\(ac c)<=1099511627776/\ ∀(e:ae)(f:Int),e=cR c (toNat 16) (0:Int)/\f=aH c (toNat 16)->(ac e)<=1073741824/\ ∀(g:Int),g=fQ a b (6:Int) e->ao (! decide (g=f)) ((Cr)=fV a b c/\4=jL a b c) ((0:Int)<=0/\(0:Int)+2<=(ac c)/\(ac c)<=1099511627776/\(0:Int)<=2/\(2:Int)+2<=(ac
 c)/\(ac c)<=1099511627776/\(0:Int)<=4/\(4:Int)+2<=(ac c)/\(ac c)<=1099511627776/\(0:Int)<=16/\(0:Int)<=6/\(6:Int)+2<=(ac c)/\(ac c)<=1099511627776/\(0:Int)<=8/\(8:Int)+2<=(ac c)/\(ac c)<=1099511627776/\(0:Int)<=16/\(0:Int)<=10/\(10:Int)+2<=(ac c)/\(ac c)<=1099511627776/\(0:Int)<=13/\13<(ac c)/\(0:Int)<=14/\(14:Int)+2<=(ac c)/\(ac c)<=1099511627776/\(0:Int)<=20/\20<=(ac c)/\(ac c)<=(ac c)/\((length (cL c (toNat 20) (toNat (ac c)))):Int)<=1099511627776/\ ∀(h:ae),h=cL c (toNat 20) (toNat (ac c))->(aH c (toNat 0),aH c (toNat 2),bits BinOp.or IntKind.i64 (eM IntKind.i64 (aH c (toNat 4)) (16:Int)) (aH c (toNat 6)),bits BinOp.or IntKind.i64 (eM IntKind.i64 (aH c (toNat 8)) (16:Int)) (aH c (toNat 10)),aj (ai c (13:Int)),aH c (toNat 14),h)=fV a b c/\0=jL a b c)))):=by
  delta Cr ah ar aE aj ai ac;rintro s d b ⟨-,-,⟨-,hb⟩,-⟩ hl;refine aw (λh=>?_) (λh8=>?_)
  .exact DD (by rw[jL,am (aI h)]) bt
  have h8:=aL h8;refine⟨ab,ab,?_⟩
  (repeat (refine bX ?_;repeat refine bZ ?_));rw[show (bif !decide (b.getD (toNat 12) default=80) then true else !decide (aH b (toNat 18)=0)) = !decide (Bz b) from (UC _ _).trans (jn (λx => !x) (decide_eq_decide.2 m5))];refine aw (λh=>?_) (λhf=>?_)
  .exact DD (by rw[jL,af h8,am];simpa using h) bt
  have hf:Bz b:=by simpa using hf
  refine aw (λh=>?_) (λh5=>?_)
  .exact DD (by rw[jL,af h8,af (λk=>k hf),am (aI h)]) bt
  have h5:=aL h5
  repeat refine⟨ab,?_⟩
  rintro x w ⟨rfl,rfl⟩;refine⟨by rw[mP];omega,?_⟩;rintro c rfl;refine aw (λh=>?_) (λh=>?_)
  .exact DD (by rw[jL,af h8,af (λk=>k hf),af h5,am];intro k;rw[cM k] at h;cases h) bt
  have h0:jL s d b=0:=by
   rw[jL,af h8,af (λk=>k hf),af h5,af];intro k;rw[dP k] at h;cases h
  rw[vX]
  repeat refine⟨ab,?_⟩
  refine⟨by rw[fy];omega,?_⟩;rintro y rfl;have g:=hb _ (bR (xs:=b) (i:=13) ab ab);have v4:=C8 (k:=toNat 4) hb;have v6:=C8 (k:=toNat 6) hb;have v8:=C8 (k:=toNat 8) hb;have v10:=C8 (k:=toNat 10) hb;rw[fV,am h0,h0,aG ab ab,K2 v4.1 v4.2 v6.1 v6.2,K2 v8.1 v8.2 v10.1 v10.2];exact⟨rfl,rfl⟩
theorem Nr:aB 129 ae9.spec:=aF Tryz.func129 (av (av (av (av aC (Ct.named Dq)) (Ct.named GX)) A6) (Ct.named r4)) aT Uv
def Dp(data:ae)(e:nO):Prop:=(dj e.2.1=true/\dj e.2.2.1=true)/\e.2.2.2=data
def HQ(data:ae)(u:ro):Prop:=(dj u.1=true/\dj u.2.1=true)/\u.2.2=data
def Fc(data:ae)(s:mL):Prop:=pd s/\s.2.2.2.2.2.2=data
theorem mC{n:Int}(h0:0<=n)(h1:n<=65535):n/256%256*256+n%256=n:=by omega
theorem ax7{e:nO}(h:kG e=0):fN e=(if e.1 then 0 else 8)::0::(de (cV e)/256%256)::(de (cV e)%256)::(e.2.1/256%256)::(e.2.1%256)::(e.2.2.1/256%256)::(e.2.2.1%256)::e.2.2.2:=by
 rw[fN,am h];rfl
theorem E5{data:ae}{e:nO}(h:Dp data e)(hl:(data.length:Int)<=1472):kG e=0:=by
 rw[kG,af (λk=>k h.1),af (by rw[h.2];omega)]
theorem N9{data:ae}{e:nO}(h:Dp data e)(hd:bytes data)(hl:(data.length:Int)<=1472):jE (fN e)=0/\gn (fN e)=e:=by
 have h0:=E5 h hl
 rw[ax7 h0]
 obtain⟨⟨h1,h2⟩,h3⟩:=h
 rw[jF] at h1 h2
 have hc:=pK (xl (e:=e) (by rw[h3];exact hd))
 have hb:cV e=(if e.1 then 0 else 8)::0::0::0::(e.2.1/256%256)::(e.2.1%256)::(e.2.2.1/256%256)::(e.2.2.1%256)::e.2.2.2:=rfl
 obtain⟨r,i,q,l⟩:=e
 simp only at h1 h2 h3 hc hb ⊢
 subst h3
 have he:jE ((if r then 0 else 8)::0::(de (cV (r,i,q,l))/256%256)::(de (cV (r,i,q,l))%256)::(i/256%256)::(i%256)::(q/256%256)::(q%256)::l)=0:=by
  rw[jE,af (by simp only[dN];omega),af,af (by simp only[dN];omega),af]
  .have e2:aH ((if r then 0 else 8)::0::(de (cV (r,i,q,l))/256%256)::(de (cV (r,i,q,l))%256)::(i/256%256)::(i%256)::(q/256%256)::(q%256)::l) (toNat 2)=de (cV (r,i,q,l))/256%256*256+de (cV (r,i,q,l))%256:=ie _ _ _;rw[e2,mC hc.1 hc.2];have e3:cR ((if r then 0 else 8)::0::(de (cV (r,i,q,l))/256%256)::(de (cV (r,i,q,l))%256)::(i/256%256)::(i%256)::(q/256%256)::(q%256)::l) (toNat 2) 0=cV (r,i,q,l):=rfl;rw[e3];exact λk=>k rfl
  .intro k;apply k;refine⟨?_,rfl⟩;cases r
   .exact .inl rfl
   .exact .inr rfl
 refine⟨he,?_⟩
 rw[gn,am he]
 have e4:aH ((if r then 0 else 8)::0::(de (cV (r,i,q,l))/256%256)::(de (cV (r,i,q,l))%256)::(i/256%256)::(i%256)::(q/256%256)::(q%256)::l) (toNat 4)=i/256%256*256+i%256:=ie _ _ _
 have e6:aH ((if r then 0 else 8)::0::(de (cV (r,i,q,l))/256%256)::(de (cV (r,i,q,l))%256)::(i/256%256)::(i%256)::(q/256%256)::(q%256)::l) (toNat 6)=q/256%256*256+q%256:=ie _ _ _
 rw[e4,e6,mC h1.1 h1.2,mC h2.1 h2.2]
 cases r <;> rfl
theorem NH{data:ae}{u:ro}(h:HQ data u)(hl:(data.length:Int)<=1472):oa u=0:=by
 rw[oa,af (λk=>k h.1),af (by rw[h.2];omega)]
theorem Y0{s d:Int}{data:ae}{u:ro}(h:HQ data u)(hd:bytes data)(hl:(data.length:Int)<=1472):j6 s d (mE s d u)=0/\qU s d (mE s d u)=u:=by
 have h0:=NH h hl
 obtain⟨⟨h1,h2⟩,h3⟩:=h
 rw[jF] at h1 h2
 have hc:=R0 (a:=s) (b:=d) (Ch (e:=u) (by rw[h3];exact hd))
 obtain⟨sp,dp,l⟩:=u
 simp only at h1 h2 h3 hc
 subst h3
 generalize hB:mE s d (sp,dp,l)=B
 have hs:B=(sp/256%256)::(sp%256)::(dp/256%256)::(dp%256)::((8+l.length:Int)/256%256)::((8+l.length:Int)%256)::(kS s d (fK (sp,dp,l))/256%256)::(kS s d (fK (sp,dp,l))%256)::l:=by rw[← hB,mE,am h0];rfl
 have i0:aH B (toNat 0)=sp/256%256*256+sp%256:=by rw[hs];exact ie _ _ _
 have i2:aH B (toNat 2)=dp/256%256*256+dp%256:=by rw[hs];exact ie _ _ _
 have i4:aH B (toNat 4)=(8+l.length:Int)/256%256*256+(8+l.length:Int)%256:=by rw[hs];exact ie _ _ _
 have i6:aH B (toNat 6)=kS s d (fK (sp,dp,l))/256%256*256+kS s d (fK (sp,dp,l))%256:=by rw[hs];exact ie _ _ _
 have hset:cR B (toNat 6) 0=fK (sp,dp,l):=by rw[hs];rfl
 have hlen:(B.length:Int)=8+l.length:=by rw[hs];simp only[dN];omega
 have g8:B.drop 8=l:=by rw[hs];rfl
 have he:j6 s d B=0:=by
  rw[j6,af ab,af (λq=>q (by rw[i4];omega)),af ab,af];rw[hset,i6,mC hc.1 hc.2];exact λq=>q rfl
 refine⟨he,?_⟩
 rw[qU,am he,i0,i2,g8,mC h1.1 h1.2,mC h2.1 h2.2]
theorem ID{data:ae}{s:mL}(h:Fc data s)(hl:(data.length:Int)<=1460):lJ s=0:=by
 rw[lJ,af (λk=>k h.1),af (by rw[h.2];omega)]
theorem QM{n:Int}(h0:0<=n)(h1:n<=4294967295):(n/16777216%256*256+n/65536%256)*65536+(n/256%256*256+n%256)=n:=ab
theorem Sm{s d:Int}{data:ae}{u:mL}(h:Fc data u)(hd:bytes data)(hl:(data.length:Int)<=1460):jL s d (fI s d u)=0/\fV s d (fI s d u)=u:=by
 have h0:=ID h hl
 obtain⟨hok,h3⟩:=h
 have hc:=z9 (a:=s) (b:=d) (p:=6) (Ag hok (by rw[h3];exact hd))
 obtain⟨h1,h2,k3,k4,k5,k6⟩:=hok
 rw[jF] at h1 h2 k6
 obtain⟨sp,dp,sq,ak,fl,wi,l⟩:=u
 simp only at h1 h2 h3 hc k3 k4 k5 k6
 subst h3
 generalize hC:fQ s d 6 (kC (sp,dp,sq,ak,fl,wi,l))=c at hc
 generalize hB:fI s d (sp,dp,sq,ak,fl,wi,l)=B
 have hs:B=(sp/256%256)::(sp%256)::(dp/256%256)::(dp%256)::(sq/16777216%256)::(sq/65536%256)::(sq/256%256)::(sq%256)::(ak/16777216%256)::(ak/65536%256)::(ak/256%256)::(ak%256)::80::fl::(wi/256%256)::(wi%256)::(c/256%256)::(c%256)::0::0::l:=by rw[← hB,fI,am h0,hC];rfl
 have i0:aH B (toNat 0)=sp/256%256*256+sp%256:=by rw[hs];exact ie _ _ _
 have i2:aH B (toNat 2)=dp/256%256*256+dp%256:=by rw[hs];exact ie _ _ _
 have i4:aH B (toNat 4)=sq/16777216%256*256+sq/65536%256:=by rw[hs];exact ie _ _ _
 have i6:aH B (toNat 6)=sq/256%256*256+sq%256:=by rw[hs];exact ie _ _ _
 have i8:aH B (toNat 8)=ak/16777216%256*256+ak/65536%256:=by rw[hs];exact ie _ _ _
 have i10:aH B (toNat 10)=ak/256%256*256+ak%256:=by rw[hs];exact ie _ _ _
 have i14:aH B (toNat 14)=wi/256%256*256+wi%256:=by rw[hs];exact ie _ _ _
 have i16:aH B (toNat 16)=c/256%256*256+c%256:=by rw[hs];exact ie _ _ _
 have i18:aH B (toNat 18)=0:=by rw[hs];exact ie 0 0 _
 have hset:cR B (toNat 16) 0=kC (sp,dp,sq,ak,fl,wi,l):=by rw[hs];rfl
 have hlen:(B.length:Int)=20+l.length:=by rw[hs];simp only[dN];omega
 have g12:B.getD (toNat 12) default=80:=by rw[hs];rfl
 have g13:B.getD (toNat 13) default=fl:=by rw[hs];rfl
 have g20:B.drop 20=l:=by rw[hs];rfl
 have he:jL s d B=0:=by
  rw[jL,af ab,af (λq=>q ⟨g12,i18⟩),af ab,af];rw[hset,hC,i16,mC hc.1 hc.2];exact λq=>q rfl
 refine⟨he,?_⟩
 rw[fV,am he,i0,i2,i4,i6,i8,i10,g13,i14,g20,mC h1.1 h1.2,mC h2.1 h2.2,mC k6.1 k6.2,QM k3.1 k3.2,QM k4.1 k4.2]
def rS(s d p n:Int):ae:=w4 s++(w4 d++(w2 p++w2 n))
theorem IC(s d p:Int)(X:ae):bQ true (xY s d p X)=bQ true (rS s d p X.length)+bQ true X:=by
 have e:xY s d p X=rS s d p X.length++X:=by simp[xY,rS]
 have hl:(rS s d p X.length).length=12:=by simp[rS,w4,w2]
 rw[e,Bo,hl];rfl
theorem aa9(s d p n:Int):bQ true (rS s d p n)=bQ true (w4 s)+bQ true (w4 d)+bQ true (w2 p)+bQ true (w2 n):=by
 have h4:∀ n r,bQ true (w4 n++r)=bQ true (w4 n)+bQ true r:=λn r=>by rw[Bo,show (w4 n).length=4 from rfl];rfl
 have h2:∀ n r,bQ true (w2 n++r)=bQ true (w2 n)+bQ true r:=λn r=>by rw[Bo,show (w2 n).length=2 from rfl];rfl
 rw[rS,h4,h4,h2]
 omega
theorem Sy(e:nO):((fN e).length:Int)<=1480:=by
 unfold fN
 split
 next h=>
  rw[mP,C1];unfold kG at h;split at h
  .cases h
  .split at h
   .cases h
   .omega
 .simp
theorem CE(e:pY):((iO e).length:Int)<=1480:=by
 unfold iO
 split
 next h=>
  rw[mP,HL];unfold jK at h;split at h
  .cases h
  .split at h
   .cases h
   .split at h
    .cases h
    .omega
 .simp
theorem Xs(s d:Int)(e:mL):((fI s d e).length:Int)<=1480:=by
 unfold fI
 split
 next h=>
  rw[mP,Al];unfold lJ at h;split at h
  .cases h
  .split at h
   .cases h
   .omega
 .simp
theorem PD{l:ae}{i:Nat}{v:Int}(h:i<l.length):(l.set i v).getD i default=v:=by
 rw[bJ,List.getElem?_set_self h,f9]
theorem BF{l:ae}{i j:Nat}{v:Int}(h:i≠j):(l.set i v).getD j default=l.getD j default:=by
 rw[bJ,List.getElem?_set_ne h,← bJ]
theorem V7{b:ae}(h:jE b=0):8<=b.length/\de (cR b 2 0)=aH b 2:=by
 unfold jE at h
 split at h
 .cases h
 .split at h
  .cases h
  .split at h
   .cases h
   .split at h
    .cases h
    next h1 _ _ h4=>exact⟨ab,o8.1 h4⟩
theorem OM(s d p n:Int):p%256<=bQ true (rS s d p n):=by
 rw[aa9];simp[bQ,w4,w2];omega
end Go.RS
