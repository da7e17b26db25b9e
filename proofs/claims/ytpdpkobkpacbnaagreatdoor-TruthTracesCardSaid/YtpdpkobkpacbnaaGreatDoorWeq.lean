/- Wire: numbers in bytes, the Internet checksum. -/
import Derived.Test.YtpdpkobkpacbnaaGreatDoorIdent
set_option maxRecDepth 100000
set_option linter.unusedVariables false
open Int (toNat)
open List (length take set range)
namespace Go.RS
open Go.SX Go.Proofs
def kx(n:Int)(w k:Nat):ae:=(range k).map λj=>n/256^(w-1-j)%256
def oA(n w:Int):Prop:=w<1∨7<w∨n<0∨256^w.toNat<=n
instance (n w:Int):Decidable (oA n w):=by unfold oA;infer_instance
def cT(b:ae)(n w:Int):ae:=if oA n w then [] else b++kx n w.toNat w.toNat
def qO(n w:Int):Int:=if oA n w then 1 else 0
def fp(l:ae):Int:=l.foldl (λn x=>n*256+x) 0
def cB(b:ae)(at' w:Int):Int:=if w<1∨7<w∨at'<0∨b.length-w<at' then 0 else fp ((b.drop at'.toNat).take w.toNat)
def tV(b:ae)(at' w:Int):Int:=if w<1∨7<w∨at'<0 then 1 else if b.length-w<at' then 3 else 0
def oc(n:Int):Int:=if n=0 then 0 else (n-1)%65535+1
def bO:Bool->ae->Int
 | _,[]=>0
 | hi,x::r=>(if hi then x*256 else x)+bO (!hi) r
def dh(n:Int):Bool:=decide (0<=n/\n<=65535)
theorem Pt(a b:Nat)(ha:a<9223372036854775808)(hb:b<9223372036854775808):bits .or .i64 (a:Int) (b:Int)=((a ||| b:Nat):Int):=by
 have h:a ||| b<2^63:=Nat.or_lt_two_pow ab ab
 have key:(BitVec.ofInt 64 (a:Int) ||| BitVec.ofInt 64 (b:Int)).toNat=a ||| b:=by
  rw[BitVec.toNat_or,BitVec.toNat_ofInt,BitVec.toNat_ofInt];have e1:((a:Int)%((2^64:Nat):Int)).toNat=a:=ab;have e2:((b:Int)%((2^64:Nat):Int)).toNat=b:=ab;rw[e1,e2]
 show IntKind.i64.wrap ((BitVec.ofInt 64 (a:Int) ||| BitVec.ofInt 64 (b:Int)).toNat:Nat)=_
 rw[key,aG ab ab]
theorem IV{n:Int}(h0:0<=n)(h1:n<=36028797018963967):eO .i64 n 8=n*256:=by
 show IntKind.i64.wrap (n*2^(min 8 64))=_
 rw[aG (by simp;omega) (by simp;omega)];rfl
theorem Hp{n x:Int}(h0:0<=n)(h1:n<=36028797018963966)(h2:0<=x)(h3:x<=255):bits .or .i64 (eO .i64 n 8) (IntKind.wrap .i64 x)=n*256+x:=by
 rw[IV h0 ab,aG (n:=x) ab ab]
 obtain⟨m,rfl⟩:=pS h0
 obtain⟨y,rfl⟩:=pS h2
 have:=Pt (m*256) y ab ab
 rw[nat_join 8 (m*256) y ab ab] at this
 push_cast at this
 exact this
theorem yk{n:Int}{k:Nat}(h0:0<=n)(hk:k<8):dF .i64 n (8*k)=n/256^k:=by
 unfold dF
 have hm:min ((8*(k:Int))).toNat IntKind.i64.bits=8*k:=by simp only[IntKind.bits];omega
 rw[hm,Cx _ (Int.le_of_lt (Int.pow_pos bt)),Int.pow_mul]
 rfl
theorem Ed{w:Int}(h0:1<=w)(h1:w<=7):eO .i64 1 (IntKind.wrap .i64 (8*w))=256^w.toNat:=by
 have:w=1∨w=2∨w=3∨w=4∨w=5∨w=6∨w=7:=ab
 rcases this with rfl|rfl|rfl|rfl|rfl|rfl|rfl <;> decide
theorem Rv(n:Int)(w k:Nat):kx n w (k+1)=kx n w k++[n/256^(w-1-k)%256]:=by
 unfold kx;rw[m3,lL];rfl
theorem Si(n:Int)(w k:Nat):(kx n w k).length=k:=by unfold kx;simp
theorem Jp(l:ae)(x:Int):fp (l++[x])=fp l*256+x:=by unfold fp;rw[iG];rfl
theorem C3:∀(k:Nat)(l:ae),l.length<=k->(∀ x∈l,0<=x/\x<=255)->0<=fp l/\fp l<256^k:=by
 intro k
 induction k with
 | zero =>
  intro l hl _;have:l=[]:=oW ab;subst this;exact⟨bt,bt⟩
 | succ k ih =>
  intro l hl hx;rcases List.eq_nil_or_concat l with rfl|⟨m,x,rfl⟩
  .exact⟨bt,Int.pow_pos bt⟩
  .rw[List.concat_eq_append] at hl hx ⊢;have h1:=ih m (by simp at hl;omega) (λy hy=>hx y (gv _ hy));have h2:=hx x aA;rw[Jp,Int.pow_succ];generalize (256:Int)^k=P at h1 ⊢;omega
theorem RG{l:ae}(hl:l.length<=6)(hx:∀ x∈l,0<=x/\x<=255):0<=fp l/\fp l<=281474976710655:=by
 have:=C3 6 l hl hx
 have e:(256:Int)^6=281474976710656:=bt
 omega
theorem ad3{n:Int}(h:65535<n):oc (n/65536+n%65536)=oc n:=by
 unfold oc
 rw[af (by omega),af (by omega)];omega
theorem aI8{n:Int}(h0:0<=n)(h1:n<=65535):oc n=n:=by
 unfold oc;split
 .omega
 .omega
theorem wD{n:Int}(h0:0<=n):0<=oc n/\oc n<=65535:=by unfold oc;split <;> omega
theorem P8{m x:Int}(h0:0<=m)(h1:0<=x):oc (oc m+x)=oc (m+x):=by
 unfold oc
 by_cases h:m=0
 .simp[h]
 .rw[af h,af ab,af ab];omega
theorem A9(hi:Bool)(a b:ae):bO hi (a++b)=bO hi a+bO (if a.length%2=0 then hi else !hi) b:=by
 induction a generalizing hi with
 | nil=>simp[bO]
 | cons x a ih =>
  rw[me,bO,bO,ih,Int.add_assoc];congr 3;rw[dM];by_cases h:a.length%2=0
  .rw[am h,af ab]
  .rw[af h,am ab];simp
theorem zu(hi:Bool)(l:ae)(hx:∀ x∈l,0<=x/\x<=255):0<=bO hi l/\bO hi l<=65280*l.length:=by
 induction l generalizing hi with
 | nil=>simp[bO]
 | cons x l ih =>
  have h1:=ih (!hi) (λy hy=>hx y (fL _ hy));have h2:=hx x fW;rw[bO,dM];cases hi
  .simp at h1 ⊢;omega
  .simp at h1 ⊢;omega
theorem uW{l:ae}{j:Int}(h0:0<=j)(h1:j<l.length):l.take (j+1).toNat=l.take j.toNat++[l.getD j.toNat default]:=by
 have hj:j.toNat<l.length:=ab
 rw[show (j+1).toNat=j.toNat+1 from by omega,xJ hj,bL,cK hj,fZ]
def Wa:Ct:=⟨[.val (.sl bP)],[.own 5 bP],λd=>[(d.1.length:Int)<=1099511627776],λd=>((d.1,()),())⟩
def u4(a:ae) :=
 a.length<=maxLen/\ ∀(b:Int),b∈a->0<=b/\b<=255
theorem af9 :
 ∀(a:ae),(u4 a)/\True->(ac a)<=1099511627776-> ∀(b:Bool),(b=true->a.length=(0:Nat))->ao b (([]:ae)=a) (((0:Nat)+a.length)*(1:Nat)<=(140737488355328:Nat)/\a=a):=by
  delta u4 ac;rintro x ⟨⟨hl,-⟩,-⟩ h b hb;refine aw (λh1=>?_) (λh1=>⟨ab,rfl⟩);have:=hb h1;exact (oW this).symm
theorem sD:aB 44 Wa.spec:=aF Tryz.func44 aD aT af9
def Lx:Ct:=⟨[.val (.sl bP),.val cI,.val cI],[.own 5 bP,.val cI],λd=>[(d.1.length:Int)<=1099511627776],λd=>((cT d.1 d.2.1 d.2.2.1,qO d.2.1 d.2.2.1,()),())⟩
def as1:bw Lx.ps->ce:=(λd=>{loops:=(bq 5 (λS=>{ι:=Int×ae,qn:=fj,μ:=λi=>(d.2.2.1-i.1).toNat,inv:=λi=>0<=i.1/\i.1<=d.2.2.1/\i.2=d.1++kx d.2.1 d.2.2.1.toNat i.1.toNat,keep:=[1,2],slots:=λi=>[(8,.own 524288 1),(9,.int .i64 (8*(d.2.2.1-1-i.1)))],names:=λi=>[(524288,.live (.row 5 bP i.2))]}) cC)})
def rF(a:ae) :=
 a.length<=maxLen/\ ∀(d:Int),d∈a->0<=d/\d<=255
def yp(f:Bool) :=
 (! f)->(ar (! f))/\(ar (! f))/\True
theorem aA5 :
 ∀(a:ae)(b c:Int),(rF a)/\aq b/\aq c/\True->(ac a)<=1099511627776-> ∀(d:Bool),d=decide (c<1)->(ah (! d))/\(aE d)/\ ∀(e:Bool),(e=bif d then true else decide (7<c))->(ah (! e))/\(aE e)/\ ∀(f:Bool),(f=bif e then true else decide (b<0))->(ah (! f))/\((! f)->(ar (! f))/\0<=aj ((8:Int)*c)/\True)/\(yp f)/\(aE f)/\ao (bif f then true else decide (eO IntKind.i64 (1:Int) (aj ((8:Int)*c))<=b)) (([]:ae)=cT a b c/\1=qO b c) ((ac a)<=1099511627776/\(∃(g:Int) (h:ae),(0<=g/\g<=c/\h=a++kx b c.toNat g.toNat)/\b=b/\c=c/\aj ((8:Int)*aj (c -1))=8*(c -1 -g)/\a=h/\True)/\ ∀(g:Int)(h:ae),0<=g/\g<=c/\h=a++kx b c.toNat g.toNat->ao (decide ((0:Int)<=8*(c -1 -g))) ((0:Int)<=8*(c -1 -g)/\(h.length+length [IntKind.wrap .u8 (dF IntKind.i64 b ((8:Int)*(c -1 -g)))])*(1:Nat)<=(140737488355328:Nat)/\ ∃(i:Int) (j:ae),(0<=i/\i<=c/\j=a++kx b c.toNat
 i.toNat)/\toNat (c -i)<toNat (c -g)/\b=b/\c=c/\aj ((8:Int)*(c -1 -g) -8)=8*(c -1 -i)/\h++[IntKind.wrap .u8 (dF IntKind.i64 b ((8:Int)*(c -1 -g)))]=j/\True) (h=cT a b c/\0=qO b c)):=by
  delta rF yp ah ar aE aj ac;rintro b n w ⟨-,⟨n0,n1⟩,⟨w0,w1⟩,-⟩ hl;rintro b1 rfl;refine⟨aA,aA,?_⟩;rintro b1 rfl;refine⟨aA,aA,?_⟩;rintro b1 rfl;have hpre:(!(bif (bif decide (w<1) then true else decide (7<w)) then true else decide (n<0)))=true->1<=w/\w<=7/\0<=n:=by
   simp[dE];omega
  refine⟨aA,λh=>⟨λ_=>h,by have:=hpre h;rw[aG ab ab];omega,bv⟩,λh=>⟨λ_=>h,λ_=>h,bv⟩,aA,?_⟩;refine aw (λhc=>?_) (λhc=>?_)
  .have hbad:oA n w:=by
    unfold oA;by_cases h:1<=w/\w<=7
    .rw[Ed h.1 h.2] at hc;simp[dE] at hc;omega
    .omega
   rw[cT,qO,am hbad,am hbad];exact⟨rfl,rfl⟩
  .have hw:1<=w/\w<=7/\0<=n:=hpre (by
    cases h:(bif (bif decide (w<1) then true else decide (7<w)) then true else decide (n<0)) with
    | false=>rfl
    | true=>rw[h] at hc;simp at hc)
   obtain⟨h1,h7,hn⟩:=hw;rw[Ed h1 h7] at hc;have hgood:¬ oA n w:=by
    unfold oA;simp[dE] at hc;omega
   rw[cT,qO,af hgood,af hgood];refine⟨hl,⟨0,b,⟨ab,ab,by simp[kx]⟩,rfl,rfl,by rw[aG (n:=w-1) ab ab,aG ab ab];omega,rfl,bv⟩,?_⟩;rintro k ys ⟨k0,k1,rfl⟩;refine bU (λhk=>?_) (λhk=>?_)
   .obtain⟨j,hj⟩:=pS (show 0<=w-1-k by omega);rw[hj,yk hn ab,IntKind.wrap_u8'];have hbl:=Si n w.toNat k.toNat
    refine⟨ab,by simp only[cu,ga,hbl];omega,k+1,_,⟨ab,ab,rfl⟩,ab,rfl,rfl,by rw[aG ab ab];omega,?_,bv⟩;rw[show (k+1).toNat=k.toNat+1 from by omega,Rv,ia,show w.toNat-1-k.toNat=j from by omega]
   .rw[show k=w from by omega];exact⟨rfl,rfl⟩
theorem Lv:aB 210 Lx.spec:=aF Tryz.func210 (av aD sD) as1 aA5
def NT:Ct:=⟨[.val (.sl bP),.val cI,.val cI],[.val cI,.val cI],λd=>[(d.1.length:Int)<=9223372036854775807],λd=>((cB d.1 d.2.1 d.2.2.1,tV d.1 d.2.1 d.2.2.1,()),())⟩
def ag2:bw NT.ps->ce:=(λd=>{loops:=(bq 7 (λS=>{ι:=Int×Int,qn:=fj,μ:=λi=>(d.2.2.1-i.1).toNat,inv:=λi=>0<=i.1/\i.1<=d.2.2.1/\i.2=fp (((d.1.drop d.2.1.toNat).take d.2.2.1.toNat).take i.1.toNat),keep:=[34,35],slots:=λi=>[(8,.int .i64 i.2),(36,.int .i64 i.1)]}) cC)})
def xi(a:ae)(b c:Int) :=
 ((length (cO a b.toNat (toNat (aj (b+c))))):Int)
def wH(a:ae)(b c:Int) :=
 take c.toNat (List.drop b.toNat a)
theorem Tk :
 ∀(a:ae)(b c:Int),(rF a)/\aq b/\aq c/\True->(ac a)<=9223372036854775807-> ∀(d:Bool),d=decide (c<1)->(ah (! d))/\(aE d)/\ ∀(e:Bool),(e=bif d then true else decide (7<c))->(ah (! e))/\(aE e)/\ao (bif e then true else decide (b<0)) (0=cB a b c/\1=tV a b c) (ao (decide (aj ((ac a) -c)<b)) (0=cB a b c/\3=tV a b c) (0<=b/\b<=aj (b+c)/\aj (b+c)<=(ac a)/\(∃(f:Int) (g:Int),(0<=f/\f<=c/\g=fp (take f.toNat (wH a b c)))/\0=g/\cO a b.toNat (toNat (aj (b+c)))=cO a b.toNat (toNat (aj (b+c)))/\(xi a b c)=(xi a b c)/\0=f/\True)/\ ∀(f g:Int),0<=f/\f<=c/\g=fp (take f.toNat (wH a b c))->ao (decide (f<(xi a b c))) (0<=f/\f<(xi a b c)/\(0:Int)<=8/\ ∃(h:Int) (i:Int),(0<=h/\h<=c/\i=fp (take h.toNat (wH a b c)))/\toNat (c -h)<toNat (c -f)/\bits BinOp.or IntKind.i64 (eO IntKind.i64 g (8:Int)) (aj (List.getD (cO a b.toNat
 (toNat (aj (b+c)))) f.toNat default))=i/\cO a b.toNat (toNat (aj (b+c)))=cO a b.toNat (toNat (aj (b+c)))/\(xi a b c)=(xi a b c)/\aj (f+1)=h/\True) (g=cB a b c/\0=tV a b c))):=by
  delta xi rF wH ah aE aj ac;rintro b a w ⟨⟨hl0,hx⟩,⟨a0,a1⟩,⟨w0,w1⟩,-⟩ hl
  (repeat (refine bY ?_;repeat refine bZ ?_));unfold cB tV;refine aw (λhc=>?_) (λhc=>?_)
  .have h:w<1∨7<w∨a<0:=by simp[dE] at hc;omega
   rw[am ab,am h];exact⟨rfl,rfl⟩
  have h:¬ (w<1∨7<w∨a<0):=by simp[dE] at hc;omega
  rw[aG (n:=(b.length:Int)-w) ab ab,af h];refine aw (λhd=>?_) (λhd=>?_)
  .have hd:=aI hd;rw[am ab,am hd];exact⟨rfl,rfl⟩
  have hd:=aL hd;rw[af ab,af hd,aG (n:=a+w) ab ab];have hsub:cO b a.toNat (a+w).toNat=(b.drop a.toNat).take w.toNat:=by
   unfold cO;rw[List.drop_take,show (a+w).toNat-a.toNat=w.toNat from by omega]
  rw[hsub];have hlen:((b.drop a.toNat).take w.toNat).length=w.toNat:=by rw[dA,fv];omega
  have hy:∀ y∈(b.drop a.toNat).take w.toNat,0<=y/\y<=255:=λy hy=>hx y (yx (oI hy));generalize (b.drop a.toNat).take w.toNat=m at *;rw[hlen];refine⟨ab,ab,ab,⟨0,0,⟨ab,ab,by simp[fp]⟩,aP⟩,?_⟩;rintro j n ⟨j0,j1,rfl⟩;refine bU (λhj=>?_) (λhj=>?_)
  .have ht:=uW (l:=m) j0 ab;obtain⟨x0,x1⟩:=hy _ (bS (xs:=m) j0 ab);have hb:=RG (l:=m.take j.toNat) (by rw[dA];omega) (λy h=>hy y (oI h));refine⟨j0,hj,ab,j+1,_,⟨ab,ab,rfl⟩,ab,?_,rfl,rfl,aG ab ab,bv⟩;rw[ht,Jp,Hp hb.1 ab x0 x1]
  .rw[fi ab];exact⟨rfl,rfl⟩
theorem CV:aB 168 NT.spec:=aF Tryz.func168 aD ag2 Tk
def Qs:Ct:=⟨[.val cI],[.val cI],λd=>[0<=d.1],λd=>((oc d.1,()),())⟩
def VC:bw Qs.ps->ce:=(λd=>{loops:=(bq 1 (λS=>{ι:=Int,μ:=λi=>i.toNat,inv:=λi=>0<=i/\i<=9223372036854775807/\oc i=oc d.1,keep:=[],slots:=λi=>[(0,.int .i64 i)]}) cC)})
theorem Sq :
 ∀(a:Int),aq a/\True->0<=a->(∃(b:Int),(0<=b/\b<=9223372036854775807/\oc b=oc a)/\a=b/\True)/\ ∀(b:Int),0<=b/\b<=9223372036854775807/\oc b=oc a->ao (decide (65535<b)) ((0:Int)<=16/\ ∃(c:Int),(0<=c/\c<=9223372036854775807/\oc c=oc a)/\c.toNat<b.toNat/\aj (dF IntKind.i64 b (16:Int)+bits BinOp.and IntKind.i64 b (65535:Int))=c/\True) (b=oc a):=by
  delta aj;rintro n ⟨⟨n0,n1⟩,-⟩ h;refine⟨⟨n,⟨h,n1,rfl⟩,rfl,bv⟩,?_⟩;rintro m ⟨m0,m1,m2⟩;refine bU (λhm=>?_) (λhm=>?_)
  .have e:=yk (n:=m) (k:=2) m0 ab;have e2:(8:Int)*((2:Nat):Int)=16:=rfl;rw[e2] at e;rw[e,AQ,aG ab ab];have e3:(256:Int)^2=65536:=rfl;rw[e3];exact⟨ab,_,⟨ab,ab,by rw[ad3 hm,m2]⟩,ab,rfl,bv⟩
  .rw[← m2,aI8 m0 ab]
theorem Xy:aB 207 Qs.spec:=aF Tryz.func207 aD VC Sq
theorem Zl{j:Int}(h0:0<=j)(h1:j<=9223372036854775807):bits .and .i64 j 1=j%2:=by
 obtain⟨m,rfl⟩:=pS h0
 have key:(BitVec.ofInt 64 (m:Int) &&& BitVec.ofInt 64 1).toNat=m%2:=by
  rw[BitVec.toNat_and,BitVec.toNat_ofInt,show (BitVec.ofInt 64 1).toNat=1 from by decide];have e1:((m:Int)%((2^64:Nat):Int)).toNat=m:=ab;rw[e1,nat_mask1]
 show IntKind.i64.wrap ((BitVec.ofInt 64 (m:Int) &&& BitVec.ofInt 64 1).toNat:Nat)=_
 rw[key,aG ab ab];omega
theorem aK7{n:Int}(h0:0<=n)(h1:n<=36028797018963967):eO .i64 n (IntKind.wrap .i64 (8*IntKind.wrap .i64 (1-1)))=n:=by
 show IntKind.i64.wrap (n*2^(min 0 64))=_
 rw[aG (by simp;omega) (by simp;omega)];simp
def RX:Ct:=⟨[.val (.sl bP)],[.val cI],λd=>[(d.1.length:Int)<=1099511627776],λd=>((oc (bO true d.1),()),())⟩
def TF:bw RX.ps->ce:=(λd=>{loops:=(bq 3 (λS=>{ι:=Int×Int,qn:=fj,μ:=λi=>(d.1.length-i.1).toNat,inv:=λi=>0<=i.1/\i.1<=d.1.length/\i.2=bO true (d.1.take i.1.toNat)/\0<=i.2/\i.2<=65280*i.1,keep:=[0,6,7],slots:=λi=>[(3,.int .i64 i.2),(8,.int .i64 i.1)]}) cC)})
theorem Us :
 ∀(a:ae),(u4 a)/\True->(ac a)<=1099511627776->(∃(b:Int) (c:Int),(0<=b/\b<=(ac a)/\c=bO true (take b.toNat a)/\0<=c/\c<=65280*b)/\a=a/\0=c/\a=a/\(ac a)=(ac a)/\0=b/\True)/\ ∀(b c:Int),0<=b/\b<=(ac a)/\c=bO true (take b.toNat a)/\0<=c/\c<=65280*b->ao (decide (b<(ac a))) (0<=b/\b<(ac a)/\0<=aj ((8:Int)*aj ((1:Int) -bits BinOp.and IntKind.i64 b (1:Int)))/\ ∃(d:Int) (e:Int),(0<=d/\d<=(ac a)/\e=bO true (take d.toNat a)/\0<=e/\e<=65280*d)/\toNat ((ac a) -d)<toNat ((ac a) -b)/\a=a/\aj (c+eO IntKind.i64 (aj (ai a b)) (aj ((8:Int)*aj ((1:Int) -bits BinOp.and IntKind.i64 b (1:Int)))))=e/\a=a/\(ac a)=(ac a)/\aj (b+1)=d/\True) (0<=c/\oc c=oc (bO true a)):=by
  delta u4 aj ai ac;rintro l ⟨⟨-,hx⟩,-⟩ hl;refine⟨⟨0,0,⟨ab,ab,by simp[bO],ab,ab⟩,aP⟩,?_⟩;rintro j n ⟨j0,j1,rfl,n0,n1⟩;refine bU (λhj=>?_) (λhj=>?_)
  .obtain⟨x0,x1⟩:=hx _ (bS j0 hj);have ht:=uW j0 hj;have hs:=A9 true (l.take j.toNat) [l.getD j.toNat default];rw[← ht] at hs;generalize l.getD j.toNat default=x at *;have hb:=Zl j0 ab;rw[hb];have hlen:(l.take j.toNat).length=j.toNat:=by rw[dA];omega
   rw[hlen] at hs;have hv:0<=IntKind.wrap .i64 (8*IntKind.wrap .i64 (1-j%2))/\eO .i64 (IntKind.wrap .i64 x) (IntKind.wrap .i64 (8*IntKind.wrap .i64 (1-j%2)))=(if j%2=0 then x*256 else x):=by
    rw[aG (n:=x) ab ab];by_cases he:j%2=0
    .rw[he,am rfl];exact⟨bt,IV x0 ab⟩
    .rw[show j%2=1 from by omega,af bt];exact⟨bt,aK7 x0 ab⟩
   rw[hv.2];refine⟨j0,hj,hv.1,j+1,bO true (l.take (j+1).toNat),⟨ab,ab,rfl,?_,?_⟩,ab,rfl,?_,rfl,rfl,aG ab ab,bv⟩
   all_goals rw[hs]
   all_goals by_cases he:j%2=0
   all_goals first
    | rw[am (show j.toNat%2=0 by omega)]
    | rw[af (show ¬ j.toNat%2=0 by omega)]
   all_goals simp only[bO,he,if_true,if_false,Bool.not_true,BK]
   all_goals try omega
   all_goals rw[aG ab ab]
   all_goals omega
  .rw[fi ab] at n0 ⊢;exact⟨n0,rfl⟩
theorem Ys:aB 190 RX.spec:=aF Tryz.func190 (av aD Xy) TF Us
def ar1:Ct:=⟨[.val (.sl bP)],[.val cI],λd=>[(d.1.length:Int)<=1099511627776],λd=>((65535-oc (bO true d.1),()),())⟩
def Dw(a:ae) :=
 (u4 a)/\True->(ac a)<=1099511627776->(ac a)<=1099511627776/\aj ((65535:Int) -oc (bO true a))=65535 -oc (bO true a)
theorem av2 :
 ∀(a:ae),(Dw a):=by
  delta Dw u4 aj ac;rintro l ⟨⟨-,hx⟩,-⟩ hl;have:=wD (zu true l hx).1;exact⟨hl,aG ab ab⟩
theorem yr:aB 169 ar1.spec:=aF Tryz.func169 (av aD Ys) aT av2
def QT:Ct:=⟨[.val (.sl bP),.val cI,.val cI],[.own 5 bP,.val cI],λd=>[(d.1.length:Int)<=1099511627776],λd=>((cT d.1 d.2.1 d.2.2.1,qO d.2.1 d.2.2.1,()),())⟩
def ZN:bw QT.ps->ce:=(λd=>{loops:=(bq 5 (λS=>{ι:=Int×ae,qn:=fj,μ:=λi=>(d.2.2.1-i.1).toNat,inv:=λi=>0<=i.1/\i.1<=d.2.2.1/\i.2=d.1++kx d.2.1 d.2.2.1.toNat i.1.toNat,keep:=[1,2],slots:=λi=>[(8,.own 524288 1),(9,.int .i64 (d.2.2.1-1-i.1))],names:=λi=>[(524288,.live (.row 5 bP i.2))]}) cC)})
theorem aa7 :
 ∀(a:ae)(b c:Int),(rF a)/\aq b/\aq c/\True->(ac a)<=1099511627776-> ∀(d:Bool),d=decide (c<1)->(ah (! d))/\(aE d)/\ ∀(e:Bool),(e=bif d then true else decide (7<c))->(ah (! e))/\(aE e)/\ ∀(f:Bool),(f=bif e then true else decide (b<0))->(ah (! f))/\((! f)->(ar (! f))/\0<=aj ((8:Int)*c)/\True)/\(yp f)/\(aE f)/\ao (bif f then true else decide (eO IntKind.i64 (1:Int) (aj ((8:Int)*c))<=b)) (([]:ae)=cT a b c/\1=qO b c) (a.length*(1:Nat)<=(140737488355328:Nat)/\(∃(g:Int) (h:ae),(0<=g/\g<=c/\h=a++kx b c.toNat g.toNat)/\b=b/\c=c/\aj (c -1)=c -1 -g/\a=h/\True)/\ ∀(g:Int)(h:ae),0<=g/\g<=c/\h=a++kx b c.toNat g.toNat->ao (decide (0<=c -1 -g)) (0<=aj ((8:Int)*(c -1 -g))/\(h.length+length [IntKind.wrap .u8 (dF IntKind.i64 b (aj ((8:Int)*(c -1 -g))))])*(1:Nat)<=(140737488355328:Nat)/\ ∃(i:Int) (j:ae),(0<=i/\i<=c/\j=a++kx b c.toNat
 i.toNat)/\toNat (c -i)<toNat (c -g)/\b=b/\c=c/\aj (c -1 -g -1)=c -1 -i/\h++[IntKind.wrap .u8 (dF IntKind.i64 b (aj ((8:Int)*(c -1 -g))))]=j/\True) (h=cT a b c/\0=qO b c)):=by
  delta rF yp ah ar aE aj ac;rintro b n w ⟨-,⟨n0,n1⟩,⟨w0,w1⟩,-⟩ hl;rintro b1 rfl;refine⟨aA,aA,?_⟩;rintro b1 rfl;refine⟨aA,aA,?_⟩;rintro b1 rfl;have hpre:(!(bif (bif decide (w<1) then true else decide (7<w)) then true else decide (n<0)))=true->1<=w/\w<=7/\0<=n:=by
   simp[dE];omega
  refine⟨aA,λh=>⟨λ_=>h,by have:=hpre h;rw[aG ab ab];omega,bv⟩,λh=>⟨λ_=>h,λ_=>h,bv⟩,aA,?_⟩;refine aw (λhc=>?_) (λhc=>?_)
  .have hbad:oA n w:=by
    unfold oA;by_cases h:1<=w/\w<=7
    .rw[Ed h.1 h.2] at hc;simp[dE] at hc;omega
    .omega
   rw[cT,qO,am hbad,am hbad];exact⟨rfl,rfl⟩
  .have hw:1<=w/\w<=7/\0<=n:=hpre (by
    cases h:(bif (bif decide (w<1) then true else decide (7<w)) then true else decide (n<0)) with
    | false=>rfl
    | true=>rw[h] at hc;simp at hc)
   obtain⟨h1,h7,hn⟩:=hw;rw[Ed h1 h7] at hc;have hgood:¬ oA n w:=by
    unfold oA;simp[dE] at hc;omega
   rw[cT,qO,af hgood,af hgood];refine⟨ab,⟨0,b,⟨ab,ab,by simp[kx]⟩,rfl,rfl,by rw[aG ab ab];omega,rfl,bv⟩,?_⟩;rintro k ys ⟨k0,k1,rfl⟩;refine bU (λhk=>?_) (λhk=>?_)
   .rw[aG (n:=8*(w-1-k)) ab ab];obtain⟨j,hj⟩:=pS (show 0<=w-1-k by omega);rw[hj,yk hn ab,IntKind.wrap_u8'];have hbl:=Si n w.toNat k.toNat
    refine⟨ab,by simp only[cu,ga,hbl];omega,k+1,_,⟨ab,ab,rfl⟩,ab,rfl,rfl,by rw[aG ab ab];omega,?_,bv⟩;rw[show (k+1).toNat=k.toNat+1 from by omega,Rv,ia,show w.toNat-1-k.toNat=j from by omega]
   .rw[show k=w from by omega];exact⟨rfl,rfl⟩
theorem aV4:aB 143 QT.spec:=aF Tryz.func143 aD ZN aa7
def Xc:Ct:=⟨[.val (.sl bP),.val cI,.val cI],[.own 5 bP],λd=>[(d.1.length:Int)<=1099511627776],λd=>((cT d.1 d.2.1 d.2.2.1,()),())⟩
theorem Ww :
 ∀(a:ae)(b c:Int),(rF a)/\aq b/\aq c/\True->(ac a)<=1099511627776->(ac a)<=1099511627776/\cT a b c=cT a b c:=by
  delta rF ac;intro b n w _ h;exact⟨h,rfl⟩
theorem zj:aB 77 Xc.spec:=aF Tryz.func77 (av aD aV4) aT Ww
def Ps:Ct:=⟨[.val (.sl bP),.val cI,.val cI],[.val cI,.val cI],λd=>[(d.1.length:Int)<=9223372036854775807],λd=>((cB d.1 d.2.1 d.2.2.1,tV d.1 d.2.1 d.2.2.1,()),())⟩
def VA:bw Ps.ps->ce:=(λd=>{loops:=(bq 7 (λS=>{ι:=Int×Int,qn:=fj,μ:=λi=>(d.2.2.1-i.1).toNat,inv:=λi=>0<=i.1/\i.1<=d.2.2.1/\i.2=fp (((d.1.drop d.2.1.toNat).take d.2.2.1.toNat).take i.1.toNat),keep:=[0,1,2],slots:=λi=>[(8,.int .i64 i.2),(9,.int .i64 i.1)]}) cC)})
theorem UQ :
 ∀(a:ae)(b c:Int),(rF a)/\aq b/\aq c/\True->(ac a)<=9223372036854775807-> ∀(d:Bool),d=decide (c<1)->(ah (! d))/\(aE d)/\ ∀(e:Bool),(e=bif d then true else decide (7<c))->(ah (! e))/\(aE e)/\ao (bif e then true else decide (b<0)) (0=cB a b c/\1=tV a b c) (∀(f:Bool),f=decide ((ac a)<b)->(ah (! f))/\(yp f)/\(yp f)/\(aE f)/\ao (bif f then true else decide (aj ((ac a) -b)<c)) (0=cB a b c/\3=tV a b c) ((∃(g:Int) (h:Int),(0<=g/\g<=c/\h=fp (take g.toNat (wH a b c)))/\a=a/\b=b/\c=c/\0=h/\0=g/\True)/\ ∀(g h:Int),0<=g/\g<=c/\h=fp (take g.toNat (wH a b c))->ao (decide (g<c)) ((0:Int)<=8/\0<=aj (b+g)/\aj (b+g)<(ac a)/\ ∃(i:Int) (j:Int),(0<=i/\i<=c/\j=fp (take i.toNat (wH a b c)))/\toNat (c -i)<toNat (c -g)/\a=a/\b=b/\c=c/\bits BinOp.or IntKind.i64 (eO IntKind.i64 h (8:Int)) (aj (ai a (aj (b+g))))=j/\aj (g+1)=i/\True)
 (h=cB a b c/\0=tV a b c))):=by
  delta rF wH yp ah ar aE aj ai ac;rintro b a w ⟨⟨hl0,hx⟩,⟨a0,a1⟩,⟨w0,w1⟩,-⟩ hl;rintro b1 rfl;refine⟨aA,aA,?_⟩;rintro b1 rfl;refine⟨aA,aA,?_⟩;unfold cB tV;refine aw (λhc=>?_) (λhc=>?_)
  .have h:w<1∨7<w∨a<0:=by simp[dE] at hc;omega
   rw[am ab,am h];exact⟨rfl,rfl⟩
  have h:¬ (w<1∨7<w∨a<0):=by simp[dE] at hc;omega
  rintro b1 rfl;refine⟨aA,aA,aA,aA,?_⟩;rw[aG (n:=(b.length:Int)-a) ab ab,af h];refine aw (λhd=>?_) (λhd=>?_)
  .have hd:b.length<a∨b.length-a<w:=by simp[dE] at hd;omega
   rw[am ab,am ab];exact⟨rfl,rfl⟩
  have hd:¬ (b.length<a∨b.length-a<w):=by simp[dE] at hd;omega
  rw[af ab,af ab];have hlen:((b.drop a.toNat).take w.toNat).length=w.toNat:=by rw[dA,fv];omega
  have hy:∀ y∈(b.drop a.toNat).take w.toNat,0<=y/\y<=255:=λy hy=>hx y (yx (oI hy));have hget:∀ j:Int,0<=j->j<w->b.getD (a+j).toNat default=((b.drop a.toNat).take w.toNat).getD j.toNat default:=by
   intro j j0 j1;rw[bL,bL,pE,am ab,pd];congr 2;omega
  generalize (b.drop a.toNat).take w.toNat=m at *;refine⟨⟨0,0,⟨ab,ab,by simp[fp]⟩,aP⟩,?_⟩;rintro j n ⟨j0,j1,rfl⟩;refine bU (λhj=>?_) (λhj=>?_)
  .have ht:=uW (l:=m) j0 ab;obtain⟨x0,x1⟩:=hy _ (bS (xs:=m) j0 ab);have hb:=RG (l:=m.take j.toNat) (by rw[dA];omega) (λy h=>hy y (oI h));rw[aG (n:=a+j) ab ab,hget j j0 hj];refine⟨ab,ab,ab,j+1,_,⟨ab,ab,rfl⟩,ab,rfl,rfl,rfl,?_,aG ab ab,bv⟩;rw[ht,Jp,Hp hb.1 ab x0 x1]
  .rw[fi ab];exact⟨rfl,rfl⟩
theorem aq1:aB 145 Ps.spec:=aF Tryz.func145 aD VA UQ
def ay6:Ct:=⟨[.val (.sl bP),.val cI,.val cI],[.val cI],λd=>[(d.1.length:Int)<=9223372036854775807],λd=>((cB d.1 d.2.1 d.2.2.1,()),())⟩
theorem Tw :
 ∀(a:ae)(b c:Int),(rF a)/\aq b/\aq c/\True->(ac a)<=9223372036854775807->(ac a)<=9223372036854775807/\cB a b c=cB a b c:=by
  delta rF ac;intro b n w _ h;exact⟨h,rfl⟩
theorem Kb:aB 79 ay6.spec:=aF Tryz.func79 (av aD aq1) aT Tw
def ai6:Ct:=⟨[.val cI],[.val .bool],λd=>[],λd=>((dh d.1,()),())⟩
theorem ax0 :
 ∀(a:Int),aq a/\True->True-> ∀(b:Bool),b=decide (0<=a)->(ah b)/\(ar b)/\(bif b then decide (a<=65535) else false)=dh a:=by
  delta ah ar;rintro n - -
  (repeat (refine bY ?_;repeat refine bZ ?_));unfold dh;by_cases h:0<=n <;> simp[h]
theorem Uw:aB 177 ai6.spec:=aF Tryz.func177 aD aT ax0
def Yq:Ct:=⟨[.val cI,.val cI],[.val cI],λd=>[],λd=>((if dh d.1&&dh d.2.1 then oc (d.1+d.2.1) else 0,()),())⟩
theorem aW9 :
 ∀(a b:Int),aq a/\aq b/\True->True-> ∀(c:Bool),c= ! dh a->(ah (! c))/\(ah (! c))/\(aE c)/\ao (bif c then true else ! dh b) (0=if (dh a&&dh b)=true then oc (a+b) else (0:Int)) ((0:Int)<=16/\aj (bits BinOp.and IntKind.i64 (aj (a+b)) (65535:Int)+dF IntKind.i64 (aj (a+b)) (16:Int))=if (dh a&&dh b)=true then oc (a+b) else (0:Int)):=by
  delta ah aE aj;rintro a b - -
  (repeat (refine bY ?_;repeat refine bZ ?_));refine aw (λhc=>?_) (λhc=>?_)
  .rw[af];intro h;simp at h;simp[h] at hc
  .have hw:dh a=true/\dh b=true:=by simpa[dE] using hc
   rw[am (by simp[hw])];have ha:0<=a/\a<=65535:=aI hw.1;have hb:0<=b/\b<=65535:=aI hw.2;rw[aG (n:=a+b) ab ab];have e:=yk (n:=a+b) (k:=2) ab ab;have e2:(8:Int)*((2:Nat):Int)=16:=rfl;have e3:(256:Int)^2=65536:=rfl;rw[e2,e3] at e;rw[e,AQ,aG ab ab];refine⟨ab,?_⟩;unfold oc;split <;> omega
theorem O9:aB 144 Yq.spec:=aF Tryz.func144 (av aD Uw) aT aW9
def MB:Ct:=⟨[.val (.sl bP)],[.val cI],λd=>[(d.1.length:Int)<=1099511627776],λd=>((oc (bO true d.1),()),())⟩
def Tv:bw MB.ps->ce:=(λd=>{loops:=(bq 3 (λS=>{ι:=Int×Int,qn:=fj,μ:=λi=>(d.1.length+1-2*i.1).toNat,inv:=λi=>0<=i.1/\2*i.1<=d.1.length+1/\i.2=oc (bO true (d.1.take (2*i.1).toNat))/\0<=i.2/\i.2<=65535,keep:=[0],slots:=λi=>[(3,.int .i64 i.2),(4,.int .i64 (2*i.1))]}) cC)})
theorem aq7 :
 ∀(a:ae),(u4 a)/\True->(ac a)<=1099511627776->(∃(b:Int) (c:Int),(0<=b/\(2:Int)*b<=(ac a)+1/\c=oc (bO true (take (toNat ((2:Int)*b)) a))/\0<=c/\c<=65535)/\a=a/\0=c/\(0:Int)=2*b/\True)/\ ∀(b c:Int),0<=b/\(2:Int)*b<=(ac a)+1/\c=oc (bO true (take (toNat ((2:Int)*b)) a))/\0<=c/\c<=65535->ao (decide ((2:Int)*b<(ac a))) ((0:Int)<=2*b/\(2:Int)*b<(ac a)/\(0:Int)<=8/\ao (decide (aj ((2:Int)*b+1)<(ac a))) (0<=aj ((2:Int)*b+1)/\aj ((2:Int)*b+1)<(ac a)/\ ∃(d:Int) (e:Int),(0<=d/\(2:Int)*d<=(ac a)+1/\e=oc (bO true (take (toNat ((2:Int)*d)) a))/\0<=e/\e<=65535)/\toNat ((ac a)+1 -2*d)<toNat ((ac a)+1 -2*b)/\a=a/\(if (dh c&&dh (aj (eO IntKind.i64 (aj (ai a ((2:Int)*b))) (8:Int)+aj (ai a (aj ((2:Int)*b+1))))))=true then oc (c+aj (eO IntKind.i64 (aj (ai a ((2:Int)*b))) (8:Int)+aj (ai a (aj ((2:Int)*b+1))))) else
 (0:Int))=e/\aj ((2:Int)*b+2)=2*d/\True) (∃(d:Int) (e:Int),(0<=d/\(2:Int)*d<=(ac a)+1/\e=oc (bO true (take (toNat ((2:Int)*d)) a))/\0<=e/\e<=65535)/\toNat ((ac a)+1 -2*d)<toNat ((ac a)+1 -2*b)/\a=a/\(if (dh c&&dh (eO IntKind.i64 (aj (ai a ((2:Int)*b))) (8:Int)))=true then oc (c+eO IntKind.i64 (aj (ai a ((2:Int)*b))) (8:Int)) else (0:Int))=e/\aj ((2:Int)*b+2)=2*d/\True)) (c=oc (bO true a)):=by
  delta u4 aj ai ac;rintro l ⟨⟨-,hx⟩,-⟩ hl;refine⟨⟨0,0,⟨ab,ab,by simp[bO,oc],ab,ab⟩,aP⟩,?_⟩;rintro k s ⟨k0,k1,rfl,s0,s1⟩;have hr:=zu true (l.take (2*k).toNat) (λy h=>hx y (oI h));refine bU (λhk=>?_) (λhk=>?_)
  .obtain⟨x0,x1⟩:=hx _ (bS (xs:=l) (i:=2*k) ab hk);have ht:=uW (l:=l) (j:=2*k) ab hk;have hlen:(l.take (2*k).toNat).length%2=0:=by rw[dA];omega
   have hs:=A9 true (l.take (2*k).toNat);rw[am hlen] at hs;rw[aG (n:=2*k+1) ab ab,aG (n:=l.getD (2*k).toNat default) ab ab,IV x0 ab,aG (n:=2*k+2) ab ab];refine⟨ab,hk,ab,bU (λhc=>?_) (λhc=>?_)⟩
   .obtain⟨y0,y1⟩:=hx _ (bS (xs:=l) (i:=2*k+1) ab hc);have ht2:=uW (l:=l) (j:=2*k+1) ab hc;rw[ht,ia] at ht2;rw[aG (n:=l.getD (2*k+1).toNat default) ab ab,aG (n:=l.getD (2*k).toNat default*256+l.getD (2*k+1).toNat default) ab ab];rw[am (by simp only[dh,dK,lU];omega),P8 hr.1 ab];have he:bO true (l.take (2*(k+1)).toNat)=bO true (l.take (2*k).toNat)+(l.getD (2*k).toNat default*256+l.getD (2*k+1).toNat default):=by
     rw[show 2*(k+1)=2*k+1+1 from by omega,ht2,hs];simp[bO]
    refine⟨ab,hc,k+1,_,⟨ab,ab,rfl,?_,?_⟩,ab,rfl,by rw[he],ab,bv⟩
    .rw[he];exact (wD ab).1
    .rw[he];exact (wD ab).2
   .rw[am (by simp only[dh,dK,lU];omega),P8 hr.1 ab];have he:bO true (l.take (2*(k+1)).toNat)=bO true (l.take (2*k).toNat)+l.getD (2*k).toNat default*256:=by
     rw[show l.take (2*(k+1)).toNat=l.take (2*k+1).toNat from by rw[fi ab,fi ab],ht,hs];simp[bO]
    refine⟨k+1,_,⟨ab,ab,rfl,?_,?_⟩,ab,rfl,by rw[he],ab,bv⟩
    .rw[he];exact (wD ab).1
    .rw[he];exact (wD ab).2
  .rw[fi ab]
theorem aM9:aB 176 MB.spec:=aF Tryz.func176 (av aD O9) Tv aq7
def YT:Ct:=⟨[.val (.sl bP)],[.val cI],λd=>[(d.1.length:Int)<=1099511627776],λd=>((65535-oc (bO true d.1),()),())⟩
theorem Yj :
 ∀(a:ae),(Dw a):=by
  delta Dw u4 aj ac;rintro l ⟨⟨-,hx⟩,-⟩ hl;have:=wD (zu true l hx).1;exact⟨hl,aG ab ab⟩
theorem HU:aB 140 YT.spec:=aF Tryz.func140 (av aD aM9) aT Yj
def PE:Ct:=⟨[.val (.sl bP),.val (.sl bP)],[.val .bool],λd=>[],λd=>((decide (d.1=d.2.1),()),())⟩
def al6:bw PE.ps->ce:=(λd=>{loops:=(bq 4 (λS=>{ι:=Int,μ:=λi=>(d.1.length-i).toNat,inv:=λi=>0<=i/\i<=d.1.length/\d.1.take i.toNat=d.2.1.take i.toNat,keep:=[0,1],slots:=λi=>[(5,.int .i64 i)]}) cC)})
theorem ZE :
 ∀(a b:ae),(a.length<=maxLen/\ ∀(c:Int),c∈a->0<=c/\c<=255)/\(b.length<=maxLen/\ ∀(c:Int),c∈b->0<=c/\c<=255)/\True->True->ao (! decide ((ac a)=(ac b))) (false=decide (a=b)) ((∃(c:Int),(0<=c/\c<=(ac a)/\take c.toNat a=take c.toNat b)/\a=a/\b=b/\0=c/\True)/\ ∀(c:Int),0<=c/\c<=(ac a)/\take c.toNat a=take c.toNat b->ao (decide (c<(ac a))) (0<=c/\c<(ac a)/\0<=c/\c<(ac b)/\ao (! decide (ai a c=ai b c)) (false=decide (a=b)) (∃(d:Int),(0<=d/\d<=(ac a)/\take d.toNat a=take d.toNat b)/\toNat ((ac a) -d)<toNat ((ac a) -c)/\a=a/\b=b/\aj (c+1)=d/\True)) (true=decide (a=b))):=by
  delta aj ai ac;rintro l m ⟨⟨hl,-⟩,⟨hm,-⟩,-⟩ -;simp only[maxLen] at hl hm;refine aw (λhc=>?_) (λhc=>?_)
  .symm;apply dO;intro h;cases h;simp at hc
  .have hc:l.length=m.length:=by simp at hc;omega
   refine⟨⟨0,⟨ab,ab,aA⟩,aP⟩,?_⟩;rintro i ⟨h0,h1,h2⟩;refine bU (λhi=>?_) (λhi=>?_)
   .refine⟨h0,hi,h0,ab,aw (λhq=>?_) (λhq=>?_)⟩
    .symm;apply dO;intro h;cases h;simp at hq
    .simp only[wB,lU] at hq;refine⟨i+1,⟨ab,ab,?_⟩,ab,aP⟩;rw[uW h0 hi,uW h0 ab,h2,hq]
   .rw[fi ab,fi ab] at h2;symm;apply cM;rw[h2]
theorem aQ8:aB 178 PE.spec:=aF Tryz.func178 aD al6 ZE
abbrev JF:CT := .pair .bool (.pair cI (.pair cI (.sl bP)))
abbrev QO:CT := .pair cI (.pair cI (.sl bP))
abbrev Nf:CT := .pair cI (.pair cI (.sl bP))
abbrev B8:CT := .pair cI (.pair cI (.pair cI (.pair cI (.pair cI (.pair cI (.sl bP))))))
abbrev n9:Type:=Bool×Int×Int×ae
abbrev qj:Type:=Int×Int×ae
abbrev qD:Type:=Int×Int×ae
abbrev mO:Type:=Int×Int×Int×Int×Int×Int×ae
def dR(lim:Int)(l:ae):Bool:=l.all λn=>decide (0<=n/\n<=lim)
def w2(n:Int):ae:=[n/256%256,n%256]
def w4(n:Int):ae:=[n/16777216%256,n/65536%256,n/256%256,n%256]
def dg(b:ae):Int:=65535-oc (bO true b)
def cR(b:ae)(at':Nat)(n:Int):ae:=(b.set at' (n/256%256)).set (at'+1) (n%256)
def aH(b:ae)(at':Nat):Int:=fp ((b.drop at').take 2)
def aw9:Ct:=⟨[.val cI,.box 3 cI],[.val .bool],λ_=>[],λd=>((decide (d.1<0∨d.2.1<d.1),()),(d.2.1,()))⟩
theorem ah9 :
 ∀(a b:Int),aq a/\aq b/\True->True-> ∀(c:Bool),c=decide (a<0)->((! c)->(ar (! c))/\(ar (! c))/\True)/\(aE c)/\(bif c then true else decide (b<a))=decide (a<0∨b<a)/\b=b:=by
  delta ar aE;rintro n lim - -;rintro b rfl;refine⟨aA,aA,?_,rfl⟩;rw[dE];by_cases h:n<0 <;> simp[h]
theorem Wt:aB 209 aw9.spec:=aF Tryz.func209 aD aT ah9
def P4:Cn:=⟨[.val (.sl cI),.fn 209 1,.box 3 cI],[.val cI],λ_=>[],λd y=>y.2.1=d.2.2.1 ∧ -1<=y.1.1/\(y.1.1 = -1↔dR d.2.2.1 d.1=true),λd h=>⟨((if dR d.2.2.1 d.1=true then -1 else 0,()),(d.2.2.1,())),rfl,by by_cases h:dR d.2.2.1 d.1=true <;> simp[h]⟩⟩
def aa9:bw P4.ps->ce:=(λd=>{loops:=(bq 2 (λS=>{ι:=Int,μ:=λi=>(d.1.length-i).toNat,inv:=λi=>0<=i/\i<=d.1.length/\dR d.2.2.1 (d.1.take i.toNat)=true,keep:=[0,1,6,7],slots:=λi=>[(8,.int .i64 i)],keepN:=[1048576]}) cC)})
theorem aN9 :
 ∀(a:ae)(b:Int),(a.length<=maxLen/\ ∀(c:Int),c∈a->aq c)/\True/\aq b/\True->True->(∃(c:Int),(0<=c/\c<=(ac a)/\dR b (take c.toNat a)=true)/\a=a/\a=a/\(ac a)=(ac a)/\0=c/\b=b/\True)/\ ∀(c:Int),0<=c/\c<=(ac a)/\dR b (take c.toNat a)=true->ao (decide (c<(ac a))) (0<=c/\c<(ac a)/\ao (decide (ai a c<0∨b<ai a c)) (b=b/\ -1<=c/\(c= -1↔dR b a=true)) (∃(d:Int),(0<=d/\d<=(ac a)/\dR b (take d.toNat a)=true)/\toNat ((ac a) -d)<toNat ((ac a) -c)/\a=a/\a=a/\(ac a)=(ac a)/\aj (c+1)=d/\b=b/\True)) (b=b/\(-1:Int)<= -1/\((-1:Int)= -1↔dR b a=true)):=by
  delta aj ai ac;rintro l lim ⟨⟨hl,-⟩,-⟩ -;simp only[maxLen] at hl;refine⟨⟨0,⟨ab,ab,by simp[dR]⟩,aP⟩,?_⟩;rintro j ⟨j0,j1,j2⟩;refine bU (λhj=>?_) (λhj=>?_)
  .have ht:=uW j0 hj;have hm:=bS (xs:=l) j0 hj;generalize l.getD j.toNat default=x at *;refine⟨j0,hj,bU (λhb=>?_) (λhb=>?_)⟩
   .refine⟨rfl,ab,⟨λh=>ab,λh=>?_⟩⟩;unfold dR at h;have:=aI (List.all_eq_true.1 h x hm);omega
   .refine⟨j+1,⟨ab,ab,?_⟩,ab,aP⟩;rw[ht];unfold dR at j2 ⊢;rw[List.all_append,j2];simp;omega
  .rw[fi ab] at j2;simp[j2]
theorem YU:aB 227 P4.spec:=qV Tryz.func227 (av aD Wt) aa9 aN9
def UA:Ct:=⟨[.val (.sl cI),.fn 209 1,.box 3 cI],[.val .bool],λ_=>[],λd=>((!dR d.2.2.1 d.1,()),(d.2.2.1,()))⟩
theorem SG :
 ∀(a:ae)(b:Int),(a.length<=maxLen/\ ∀(c:Int),c∈a->aq c)/\True/\aq b/\True->True-> ∀(c d:Int),d=b/\ -1<=c/\(c= -1↔dR b a=true)->decide (0<=c)= ! dR b a/\d=b:=by
  rintro l lim - - i b ⟨rfl,h1,h2⟩;refine⟨?_,rfl⟩;cases h:dR b l with
  | true=>rw[h2.2 h];rfl
  | false =>
   have:¬ i = -1:=λe=>by rw[h2.1 e] at h;cases h
   simp;omega
theorem aB5:aB 208 UA.spec:=aF Tryz.func208 (av aD YU) aT SG
def aD9:Ct:=⟨[.val cI,.val (.sl cI)],[.val .bool],λ_=>[],λd=>((dR d.1 d.2.1,()),())⟩
theorem ae8 :
 ∀(a:Int)(b:ae),aq a/\(b.length<=maxLen/\ ∀(c:Int),c∈b->aq c)/\True->True->(!! dR a b)=dR a b:=by
  rintro lim l - -;simp
theorem CL:aB 192 aD9.spec:=aF Tryz.func192 (av aD aB5) aT ae8
theorem aC6(l:ae):(l.flatMap w2).length=2*l.length:=by
 induction l with
 | nil=>rfl
 | cons x l ih=>rw[List.flatMap_cons,cu,ih,dM];simp[w2];omega
theorem Yn(n:Int):kx n 2 2=w2 n:=by
 simp[kx,w2,range,List.range.loop]
theorem ab9(n:Int):kx n 4 4=w4 n:=by
 simp[kx,w4,range,List.range.loop]
theorem ag6(n:Int):kx n 1 1=[n%256]:=by
 simp[kx,range,List.range.loop]
theorem jM{b:ae}{n:Int}(h0:0<=n)(h1:n<=65535):cT b n 2=b++w2 n:=by
 rw[cT,af,← Yn]
 .rfl
 .unfold oA;have:(256:Int)^(2:Int).toNat=65536:=rfl;rw[this];omega
theorem vW{b:ae}{n:Int}(h0:0<=n)(h1:n<=4294967295):cT b n 4=b++w4 n:=by
 rw[cT,af,← ab9]
 .rfl
 .unfold oA;have:(256:Int)^(4:Int).toNat=4294967296:=rfl;rw[this];omega
theorem tZ{b:ae}{n:Int}(h0:0<=n)(h1:n<=255):cT b n 1=b++[n]:=by
 rw[cT,af,show kx n (1:Int).toNat (1:Int).toNat=[n] from by
  have:=ag6 n;rw[Int.emod_eq_of_lt h0 ab] at this;exact this]
 unfold oA
 have:(256:Int)^(1:Int).toNat=256:=rfl
 rw[this];omega
def Qk:Ct:=⟨[.nils,.val (.sl cI)],[.own 5 bP],λd=>[dR 65535 d.2.1=true,(d.2.1.length:Int)<=1073741824],λd=>((d.2.1.flatMap w2,()),())⟩
def aF6:bw Qk.ps->ce:=(λd=>{loops:=(bq 2 (λS=>{ι:=Int×ae,qn:=fj,μ:=λi=>(d.2.1.length-i.1).toNat,inv:=λi=>0<=i.1/\i.1<=d.2.1.length/\i.2=(d.2.1.take i.1.toNat).flatMap w2,keep:=[7,8],slots:=λi=>[(0,.own 524288 1),(9,.int .i64 i.1)],names:=λi=>[(524288,.live (.row 5 bP i.2))]}) cC)})
theorem aq8 :
 ∀(a:ae),True/\(a.length<=maxLen/\ ∀(b:Int),b∈a->aq b)/\True->dR (65535:Int) a=true/\(ac a)<=1073741824->(∃(b:Int) (c:ae),(0<=b/\b<=(ac a)/\c=List.flatMap w2 (take b.toNat a))/\a=a/\(ac a)=(ac a)/\0=b/\c=([]:ae)/\True)/\ ∀(b:Int)(c:ae),0<=b/\b<=(ac a)/\c=List.flatMap w2 (take b.toNat a)->ao (decide (b<(ac a))) (0<=b/\b<(ac a)/\(ac c)<=1099511627776/\ ∃(d:Int) (e:ae),(0<=d/\d<=(ac a)/\e=List.flatMap w2 (take d.toNat a))/\toNat ((ac a) -d)<toNat ((ac a) -b)/\a=a/\(ac a)=(ac a)/\aj (b+1)=d/\cT c (ai a b) (2:Int)=e/\True) (c=List.flatMap w2 a):=by
  delta aj ai ac;rintro l ⟨-,⟨hl,-⟩,-⟩⟨ha,hk⟩;refine⟨⟨0,[],⟨ab,ab,aA⟩,aP⟩,?_⟩;rintro j ys ⟨j0,j1,rfl⟩;refine bU (λhj=>?_) (λhj=>?_)
  .have ht:=uW j0 hj;have hm:=bS (xs:=l) j0 hj;have hlen:((l.take j.toNat).flatMap w2).length=2*j.toNat:=by
    rw[aC6,dA];omega
   generalize l.getD j.toNat default=x at *;have hx:=aI (List.all_eq_true.1 ha x hm);refine⟨j0,hj,ab,j+1,_,⟨ab,ab,rfl⟩,ab,rfl,rfl,aG ab ab,?_,bv⟩;rw[ht,List.flatMap_append,jM hx.1 hx.2];simp
  .rw[fi ab]
theorem Fz:aB 193 Qk.spec:=aF Tryz.func193 (av aD Lv) aF6 aq8
def au5:Ct:=⟨[.val (.sl bP),.val cI],[.val cI],λd=>[0<=d.2.1,d.2.1+2<=d.1.length,(d.1.length:Int)<=1099511627776],λd=>((aH d.1 d.2.1.toNat,()),())⟩
theorem aE1 :
 ∀(a:ae)(b:Int),(a.length<=maxLen/\ ∀(c:Int),c∈a->0<=c/\c<=255)/\aq b/\True->0<=b/\b+2<=(ac a)/\(ac a)<=1099511627776->(ac a)<=9223372036854775807/\cB a b (2:Int)=aH a b.toNat:=by
  delta ac;rintro b a-⟨h0,h1,h2⟩;refine⟨ab,?_⟩;rw[cB,af ab];rfl
theorem Cp:aB 171 au5.spec:=aF Tryz.func171 (av aD CV) aT aE1
theorem I3{n:Int}(h0:0<=n):dF .i64 n 8=n/256:=by
 have e:=yk (n:=n) (k:=1) h0 (by omega)
 exact e
def Xe:Ct:=⟨[.val (.sl bP),.val cI,.val cI],[.own 5 bP],λd=>[0<=d.2.1,d.2.1+2<=d.1.length,(d.1.length:Int)<=1099511627776,0<=d.2.2.1,d.2.2.1<=65535],λd=>((cR d.1 d.2.1.toNat d.2.2.1,()),())⟩
def CX(a:ae)(b c:Int) :=
 (0:Int)<=8/\0<=b/\b<(ac a)/\0<=aj (b+1)/\aj (b+1)<((length (set a b.toNat (IntKind.wrap .u8 (dF IntKind.i64 c (8:Int))))):Int)/\set (set a b.toNat (IntKind.wrap .u8 (dF IntKind.i64 c (8:Int)))) (toNat (aj (b+1))) (IntKind.wrap .u8 c)=cR a b.toNat c
theorem ac1 :
 ∀(a:ae)(b c:Int),(a.length<=maxLen/\ ∀(d:Int),d∈a->0<=d/\d<=255)/\aq b/\aq c/\True->0<=b/\b+2<=(ac a)/\(ac a)<=1099511627776/\0<=c/\c<=65535->(ac a)<=1099511627776/\(CX a b c):=by
  delta CX aj ac;rintro b a n-⟨h0,h1,h2,n0,n1⟩;rw[aG (n:=a+1) ab ab,I3 n0,IntKind.wrap_u8',IntKind.wrap_u8',gB];refine⟨ab,ab,ab,ab,ab,ab,?_⟩;rw[cR,show (a+1).toNat=a.toNat+1 from by omega]
theorem PC:aB 191 Xe.spec:=aF Tryz.func191 (av aD sD) aT ac1
def TA:Ct:=⟨[.val (.sl bP),.val cI,.val cI],[.own 5 bP,.val cI],λd=>[0<=d.2.1,d.2.1+2<=d.1.length,(d.1.length:Int)<=1099511627776,0<=d.2.2.1,d.2.2.1<=65535],λd=>((if (1480:Int)<d.1.length then [] else cR d.1 d.2.1.toNat d.2.2.1,if (1480:Int)<d.1.length then 5 else 0,()),())⟩
theorem Wi :
 ∀(a:ae)(b c:Int),(a.length<=maxLen/\ ∀(d:Int),d∈a->0<=d/\d<=255)/\aq b/\aq c/\True->0<=b/\b+2<=(ac a)/\(ac a)<=1099511627776/\0<=c/\c<=65535->ao (decide (1480<(ac a))) ((([]:ae)=if 1480<(ac a) then ([]:ae) else cR a b.toNat c)/\5=if 1480<(ac a) then (5:Int) else (0:Int)) (0<=b/\b+2<=(ac a)/\(ac a)<=1099511627776/\0<=c/\c<=65535/\(cR a b.toNat c=if 1480<(ac a) then ([]:ae) else cR a b.toNat c)/\0=if 1480<(ac a) then (5:Int) else (0:Int)):=by
  delta ac;rintro b a n-⟨h0,h1,h2,n0,n1⟩;refine bU (λhb=>?_) (λhb=>?_)
  .rw[am hb,am hb];exact⟨rfl,rfl⟩
  .rw[af hb,af hb];exact⟨h0,h1,h2,n0,n1,rfl,rfl⟩
theorem Js:aB 228 TA.spec:=aF Tryz.func228 (av aD PC) aT Wi
def aU4:Ct:=⟨[.val (.sl bP),.val cI],[.own 5 bP,.val cI],λd=>[0<=d.2.1,d.2.1+2<=d.1.length,(d.1.length:Int)<=1099511627776],λd=>((cR d.1 d.2.1.toNat 0,aH d.1 d.2.1.toNat,()),())⟩
theorem Z8 :
 ∀(a:ae)(b:Int),(a.length<=maxLen/\ ∀(c:Int),c∈a->0<=c/\c<=255)/\aq b/\True->0<=b/\b+2<=(ac a)/\(ac a)<=1099511627776->0<=b/\b+2<=(ac a)/\(ac a)<=1099511627776/\(0:Int)<=0/\(0:Int)<=65535/\0<=b/\b+2<=(ac a)/\(ac a)<=1099511627776/\cR a b.toNat (0:Int)=cR a b.toNat (0:Int)/\aH a b.toNat=aH a b.toNat:=by
  delta ac;rintro b a-⟨h0,h1,h2⟩;exact⟨h0,h1,h2,ab,ab,h0,h1,h2,rfl,rfl⟩
theorem FE:aB 170 aU4.spec:=aF Tryz.func170 (av (av aD PC) Cp) aT Z8
def SJ:Ct:=⟨[.val (.sl bP),.val cI,.val cI],[.own 5 bP],λd=>[0<=d.2.1,d.2.1+2<=d.1.length,(d.1.length:Int)<=1099511627776,0<=d.2.2.1,d.2.2.1<=65535],λd=>((cR d.1 d.2.1.toNat d.2.2.1,()),())⟩
def l8 :=
 (140737488355328:Nat)
theorem ZX :
 ∀(a:ae)(b c:Int),(a.length<=maxLen/\ ∀(d:Int),d∈a->0<=d/\d<=255)/\aq b/\aq c/\True->0<=b/\b+2<=(ac a)/\(ac a)<=1099511627776/\0<=c/\c<=65535->a.length*(1:Nat)<=(l8)/\(CX a b c):=by
  delta CX l8 aj ac;rintro b a n-⟨h0,h1,h2,n0,n1⟩;rw[aG (n:=a+1) ab ab,I3 n0,IntKind.wrap_u8',IntKind.wrap_u8',gB];refine⟨ab,ab,ab,ab,ab,ab,?_⟩;rw[cR,show (a+1).toNat=a.toNat+1 from by omega]
theorem HX:aB 142 SJ.spec:=aF Tryz.func142 aD aT ZX
def aS0:Ct:=⟨[.val cI],[.val .bool],λd=>[],λd=>((dh d.1,()),())⟩
theorem TV :
 ∀(a:Int),aq a/\True->True-> ∀(b:Bool),b=decide (0<=a)->(ah b)/\(ar b)/\(bif b then decide (a<=65535) else false)=dh a:=by
  delta ah ar;rintro n - -
  (repeat (refine bY ?_;repeat refine bZ ?_));unfold dh;by_cases h:0<=n <;> simp[h] <;> omega
theorem Hk:aB 141 aS0.spec:=aF Tryz.func141 aD aT TV
def US:Ct:=⟨[.val cI],[.val .bool],λd=>[],λd=>((decide (0<=d.1/\d.1<=255),()),())⟩
theorem WW :
 ∀(a:Int),aq a/\True->True-> ∀(b:Bool),b=decide (0<=a)->(ah b)/\(ar b)/\(bif b then decide (a<=255) else false)=decide (0<=a/\a<=255):=by
  delta ah ar;rintro n - -
  (repeat (refine bY ?_;repeat refine bZ ?_));by_cases h:0<=n <;> simp[h] <;> omega
theorem QJ:aB 146 US.spec:=aF Tryz.func146 aD aT WW
def aI1:Ct:=⟨[.val cI],[.val .bool],λd=>[],λd=>((decide (0<=d.1/\d.1<=4294967295),()),())⟩
theorem al7 :
 ∀(a:Int),aq a/\True->True-> ∀(b:Bool),b=decide (0<=a)->(ah b)/\(ar b)/\(bif b then decide (a<4294967296) else false)=decide (0<=a/\a<=4294967295):=by
  delta ah ar;rintro n - -
  (repeat (refine bY ?_;repeat refine bZ ?_));by_cases h:0<=n <;> simp[h] <;> omega
theorem ai9:aB 147 aI1.spec:=aF Tryz.func147 aD aT al7
def kK(e:n9):Int:=if ¬ (dh e.2.1=true/\dh e.2.2.1=true) then 1 else if (1472:Int)<e.2.2.2.length then 5 else 0
def cV(e:n9):ae:=[if e.1 then 0 else 8,0,0,0]++(w2 e.2.1++(w2 e.2.2.1++e.2.2.2))
def fH(e:n9):ae:=if kK e=0 then cR (cV e) 2 (dg (cV e)) else []
def jK(n:qj):Int:=if ¬ ((n.1=3∨n.1=11)/\0<=n.2.1/\n.2.1<=255) then 1 else if (n.2.2.length:Int)<28 then 3 else if (1472:Int)<n.2.2.length then 5 else 0
def mX(n:qj):ae:=[n.1,n.2.1,0,0,0,0,0,0]++n.2.2
def iE(n:qj):ae:=if jK n=0 then cR (mX n) 2 (dg (mX n)) else []
def wP(src dst proto:Int)(b:ae):ae:=w4 src++(w4 dst++(w2 proto++(w2 b.length++b)))
def fX(src dst proto:Int)(b:ae):Int:=if ¬ (0<=proto/\proto<=255)∨(65535:Int)<b.length then 0 else dg (wP src dst proto b)
def lD(src dst:Int)(b:ae):Int:=if fX src dst 17 b=0 then 65535 else fX src dst 17 b
def nV(u:qD):Int:=if ¬ (dh u.1=true/\dh u.2.1=true) then 1 else if (1472:Int)<u.2.2.length then 5 else 0
def fN(u:qD):ae:=w2 u.1++(w2 u.2.1++(w2 (8+u.2.2.length)++([0,0]++u.2.2)))
def mE(src dst:Int)(u:qD):ae:=if nV u=0 then cR (fN u) 6 (lD src dst (fN u)) else []
def pc(s:mO):Prop:=dh s.1=true/\dh s.2.1=true/\(0<=s.2.2.1/\s.2.2.1<=4294967295)/\(0<=s.2.2.2.1/\s.2.2.2.1<=4294967295)/\(0<=s.2.2.2.2.1/\s.2.2.2.2.1<=255)/\dh s.2.2.2.2.2.1=true
instance (s:mO):Decidable (pc s):=by unfold pc;infer_instance
def lJ(s:mO):Int:=if ¬ pc s then 1 else if (1460:Int)<s.2.2.2.2.2.2.length then 5 else 0
def kG(s:mO):ae:=w2 s.1++(w2 s.2.1++(w4 s.2.2.1++(w4 s.2.2.2.1++([80,s.2.2.2.2.1]++(w2 s.2.2.2.2.2.1++([0,0,0,0]++s.2.2.2.2.2.2))))))
def fQ(src dst:Int)(s:mO):ae:=if lJ s=0 then cR (kG s) 16 (fX src dst 6 (kG s)) else []
def bytes(l:ae):Prop:=∀ x∈l,0<=x/\x<=255
theorem iQ{a b:ae}(ha:bytes a)(hb:bytes b):bytes (a++b):=λx h=>(dw.1 h).elim (ha x) (hb x)
theorem mI(n:Int):bytes (w2 n):=by intro x h;simp[w2] at h;omega
theorem z6(n:Int):bytes (w4 n):=by intro x h;simp[w4] at h;omega
theorem mS{a:Int}{l:ae}(h0:0<=a)(h1:a<=255)(h:bytes l):bytes (a::l):=by
 intro x hx
 rcases dL.1 hx with rfl|hx
 .exact⟨h0,h1⟩
 .exact h x hx
theorem nM:bytes []:=by intro x h;cases h
theorem qe{b:ae}(h:bytes b):0<=dg b/\dg b<=65535:=by
 have:=wD (zu true b h).1
 unfold dg;omega
theorem Fl{p data B enc:ae}{a c err:Int}(hp:p++data=B)(ha:0<=a)(h8:a+2<=p.length)(hp1:p.length<=100)(hd:(data.length:Int)<=1073741824)(c0:0<=c)(c1:c<=65535)
  (he:enc=if (1480:Int)<B.length then [] else cR B a.toNat c) (hr:err=if (1480:Int)<B.length then 5 else 0) :
  0<=a/\a+2<=((p++data).length:Int)/\((p++data).length:Int)<=1099511627776/\0<=c/\c<=65535/\(if (1480:Int)<((p++data).length:Int) then [] else cR (p++data) a.toNat c)=enc/\(if (1480:Int)<((p++data).length:Int) then (5:Int) else 0)=err:=by
 have hl:(p++data).length=p.length+data.length:=cu
 rw[hp] at hl ⊢
 exact⟨ha,ab,ab,c0,c1,he.symm,hr.symm⟩
theorem oz{p data:ae}(hp1:p.length<=100)(hd:(data.length:Int)<=1073741824):(p.length+data.length)*1<=140737488355328/\((p++data).length:Int)<=1099511627776:=by
 rw[cu];omega
theorem Ez(lim a b:Int):dR lim [a,b]=true↔(0<=a/\a<=lim)/\0<=b/\b<=lim:=by simp[dR]
theorem xD(lim a:Int):dR lim [a]=true↔0<=a/\a<=lim:=by simp[dR]
theorem jL(n:Int):dh n=true↔0<=n/\n<=65535:=by simp[dh]
theorem Dj(e:n9):(cV e).length=8+e.2.2.2.length:=by simp[cV,w2];omega
theorem N9{e:n9}(h:¬ (dh e.2.1=true/\dh e.2.2.1=true)):[]=fH e/\1=kK e:=by
 have:kK e=1:=by rw[kK,am h]
 rw[fH,this];simp
theorem Nw{e:n9}(h:dh e.2.1=true/\dh e.2.2.1=true):(fH e=if (1480:Int)<(cV e).length then [] else cR (cV e) 2 (dg (cV e)))/\kK e=if (1480:Int)<(cV e).length then 5 else 0:=by
 have hl:=Dj e
 have he:kK e=if (1480:Int)<(cV e).length then 5 else 0:=by
  rw[kK,af (λk=>k h)];by_cases hd:(1472:Int)<e.2.2.2.length
  .rw[am hd,am ab]
  .rw[af hd,af ab]
 refine⟨?_,he⟩
 rw[fH,he]
 by_cases hd:(1480:Int)<(cV e).length
 .rw[am hd,am hd];rfl
 .rw[af hd,af hd];rfl
theorem xZ{e:n9}(h:bytes e.2.2.2):bytes (cV e):=by
 refine iQ (mS ?_ ?_ (mS ab ab (mS ab ab (mS ab ab nM)))) (iQ (mI _) (iQ (mI _) h))
 .split <;> omega
 .split <;> omega
theorem Q6(n:Int)(r:ae):w2 (n/65536)++(w2 (n%65536)++r)=w4 n++r:=by
 unfold w2 w4
 simp only[me,rx]
 have e1:n/65536/256%256=n/16777216%256:=ab
 have e2:n%65536/256%256=n/256%256:=ab
 have e3:n%65536%256=n%256:=ab
 rw[e1,e2,e3]
theorem D3{t k:Int}(t0:0<=t)(t1:t<=255)(k0:0<=k)(k1:k<=255):w2 (t*256+k)=[t,k]:=by
 unfold w2
 have e1:(t*256+k)/256%256=t:=ab
 have e2:(t*256+k)%256=k:=ab
 rw[e1,e2]
theorem R8{n x:Int}(h0:0<=n)(h1:n<=65535)(h2:0<=x)(h3:x<=255):bits .or .i64 (eO .i64 n 8) x=n*256+x:=by
 have:=Hp h0 ab h2 h3
 rwa [aG (n:=x) ab ab] at this
theorem HP{n:Int}(h0:0<=n):dF .i64 n 16=n/65536:=by
 have e:=yk (n:=n) (k:=2) h0 (by omega)
 exact e
theorem Sf{n:Int}(h0:0<=n)(h1:n<=4294967295):IntKind.wrap .i64 (dF .u32 n 16)=n/65536:=by
 have:dF .u32 n 16=n/65536:=by
  unfold dF;rw[Cx _ bt];rfl
 rw[this,aG ab ab]
theorem RN{n:Int}(h0:0<=n)(h1:n<=4294967295):IntKind.wrap .i64 (bits .and .u32 n 65535)=n%65536:=by
 rw[u32_and n 65535 h0 ab bt bt]
 have:(n.toNat &&& toNat 65535)=n.toNat%65536:=yT n.toNat 16
 rw[this,aG ab ab];omega
theorem HO(e:qj):(mX e).length=8+e.2.2.length:=by simp[mX];omega
theorem LV{e:qj}(h:¬ ((e.1=3∨e.1=11)/\0<=e.2.1/\e.2.1<=255)):[]=iE e/\1=jK e:=by
 have:jK e=1:=by rw[jK,am h]
 rw[iE,this];simp
theorem Vn{e:qj}(h:(e.1=3∨e.1=11)/\0<=e.2.1/\e.2.1<=255)(h2:(e.2.2.length:Int)<28):[]=iE e/\3=jK e:=by
 have:jK e=3:=by rw[jK,af (λk=>k h),am h2]
 rw[iE,this];simp
theorem YQ{e:qj}(h:(e.1=3∨e.1=11)/\0<=e.2.1/\e.2.1<=255)(h2:¬ (e.2.2.length:Int)<28):(iE e=if (1480:Int)<(mX e).length then [] else cR (mX e) 2 (dg (mX e)))/\jK e=if (1480:Int)<(mX e).length then 5 else 0:=by
 have hl:=HO e
 have he:jK e=if (1480:Int)<(mX e).length then 5 else 0:=by
  rw[jK,af (λk=>k h),af h2];by_cases hd:(1472:Int)<e.2.2.length
  .rw[am hd,am ab]
  .rw[af hd,af ab]
 refine⟨?_,he⟩
 rw[iE,he]
 by_cases hd:(1480:Int)<(mX e).length
 .rw[am hd,am hd];rfl
 .rw[af hd,af hd];rfl
theorem Ja{e:qj}(h:(e.1=3∨e.1=11)/\0<=e.2.1/\e.2.1<=255)(hd:bytes e.2.2):bytes (mX e):=by
 refine iQ (mS ab ab (mS h.2.1 h.2.2 ?_)) hd
 intro x hx;simp at hx;omega
theorem Qh(e:qD):(fN e).length=8+e.2.2.length:=by simp[fN,w2];omega
theorem aR9{a b:Int}{e:qD}(h:¬ (dh e.1=true/\dh e.2.1=true)):[]=mE a b e/\1=nV e:=by
 have:nV e=1:=by rw[nV,am h]
 rw[mE,this];simp
theorem Vl{a b:Int}{e:qD}(h:dh e.1=true/\dh e.2.1=true):(mE a b e=if (1480:Int)<(fN e).length then [] else cR (fN e) 6 (lD a b (fN e)))/\nV e=if (1480:Int)<(fN e).length then 5 else 0:=by
 have hl:=Qh e
 have he:nV e=if (1480:Int)<(fN e).length then 5 else 0:=by
  rw[nV,af (λk=>k h)];by_cases hd:(1472:Int)<e.2.2.length
  .rw[am hd,am ab]
  .rw[af hd,af ab]
 refine⟨?_,he⟩
 rw[mE,he]
 by_cases hd:(1480:Int)<(fN e).length
 .rw[am hd,am hd];rfl
 .rw[af hd,af hd];rfl
theorem B6{e:qD}(h:bytes e.2.2):bytes (fN e) :=
 iQ (mI _) (iQ (mI _) (iQ (mI _) (iQ (mS ab ab (mS ab ab nM)) h)))
theorem zC(e:mO):(kG e).length=20+e.2.2.2.2.2.2.length:=by simp[kG,w2,w4];omega
theorem E8{a b:Int}{e:mO}(h:¬ pc e):[]=fQ a b e/\1=lJ e:=by
 have:lJ e=1:=by rw[lJ,am h]
 rw[fQ,this];simp
theorem LF{a b:Int}{e:mO}(h:pc e):(fQ a b e=if (1480:Int)<(kG e).length then [] else cR (kG e) 16 (fX a b 6 (kG e)))/\lJ e=if (1480:Int)<(kG e).length then 5 else 0:=by
 have hl:=zC e
 have he:lJ e=if (1480:Int)<(kG e).length then 5 else 0:=by
  rw[lJ,af (λk=>k h)];by_cases hd:(1460:Int)<e.2.2.2.2.2.2.length
  .rw[am hd,am ab]
  .rw[af hd,af ab]
 refine⟨?_,he⟩
 rw[fQ,he]
 by_cases hd:(1480:Int)<(kG e).length
 .rw[am hd,am hd];rfl
 .rw[af hd,af hd];rfl
theorem AA{e:mO}(h:pc e)(hd:bytes e.2.2.2.2.2.2):bytes (kG e):=by
 obtain⟨-,-,-,-,hf,-⟩:=h
 refine iQ (mI _) (iQ (mI _) (iQ (z6 _) (iQ (z6 _) (iQ (mS ab ab (mS hf.1 hf.2 nM)) (iQ (mI _) (iQ ?_ hd))))))
 intro x hx;simp at hx;omega
theorem aQ7{a b p:Int}{l:ae}(h:bytes l):bytes (wP a b p l):=iQ (z6 _) (iQ (z6 _) (iQ (mI _) (iQ (mI _) h)))
theorem yY{a b p:Int}{l:ae}(h:bytes l):0<=fX a b p l/\fX a b p l<=65535:=by
 unfold fX;split
 .omega
 .exact qe (aQ7 h)
theorem QR{a b:Int}{l:ae}(h:bytes l):0<=lD a b l/\lD a b l<=65535:=by
 have:=yY (a:=a) (b:=b) (p:=17) h
 unfold lD;split <;> omega
theorem Dk{err n:Int}(h:err=if (1480:Int)<n then 5 else 0)(hn:¬ (1480:Int)<n):0=err:=by rw[h,af hn]
def Yi:Ct:=⟨[.agg JF],[.own 5 bP,.val cI],λd=>[(d.1.2.2.2.length:Int)<=1073741824],λd=>((fH d.1,kK d.1,()),())⟩
def JZ(a:Bool)(b c:Int)(d e:ae) :=
 (e.length+d.length)*(1:Nat)<=(l8)/\((length (e++d)):Int)<=1099511627776/\ ∀(f:Int),f=65535 -oc (bO true (e++d))->(0:Int)<=2/\(2:Int)+2<=((length (e++d)):Int)/\((length (e++d)):Int)<=1099511627776/\0<=f/\f<=65535/\(if 1480<((length (e++d)):Int) then ([]:ae) else cR (e++d) (toNat 2) f)=fH (a,b,c,d)/\(if 1480<((length (e++d)):Int) then (5:Int) else (0:Int))=kK (a,b,c,d)
def vw(d:ae) :=
 d.length<=maxLen/\ ∀(e:Int),e∈d->0<=e/\e<=255
theorem V9 :
 ∀(a:Bool)(b c:Int)(d:ae),(True/\aq b/\aq c/\(vw d))/\True->(ac d)<=1073741824->ao (! dR (65535:Int) [b,c]) (([]:ae)=fH (a,b,c,d)/\1=kK (a,b,c,d)) (ao a ((0:Int)<=8/\dR (65535:Int) [eO IntKind.i64 (0:Int) (8:Int),(0:Int),b,c]=true/\((length [eO IntKind.i64 (0:Int) (8:Int),(0:Int),b,c]):Int)<=1073741824/\ ∀(e:ae),e=List.flatMap w2 [eO IntKind.i64 (0:Int) (8:Int),(0:Int),b,c]->(JZ a b c d e)) ((0:Int)<=8/\dR (65535:Int) [eO IntKind.i64 (8:Int) (8:Int),(0:Int),b,c]=true/\((length [eO IntKind.i64 (8:Int) (8:Int),(0:Int),b,c]):Int)<=1073741824/\ ∀(e:ae),e=List.flatMap w2 [eO IntKind.i64 (8:Int) (8:Int),(0:Int),b,c]->(JZ a b c d e))):=by
  delta JZ l8 vw ac;rintro r i q data ⟨⟨-,-,-,-,hd⟩,-⟩ hl;refine aw (λh=>?_) (λh=>?_)
  .apply N9;simp only[sa,← Bool.not_eq_true,Ez] at h;simp only[jL];exact h
  have hw:dh i=true/\dh q=true:=by
   simp only[wB,Ez] at h;simp only[jL];exact h
  have hw':=hw;simp only[jL] at hw';obtain⟨e1,e2⟩:=Nw (e:=(r,i,q,data)) hw;have hB:=qe (xZ (e:=(r,i,q,data)) hd);cases r with
  | true =>
   refine aw (λ_=>?_) (λhr=>by cases hr);refine⟨ab,by rw[show eO .i64 0 8=0 from by decide];simp[dR];omega,aA,?_⟩;intro p hpe;have hp8:p.length=8:=by rw[hpe];simp[w2]
   have hp:p++data=cV (true,i,q,data):=by
    rw[hpe,show eO .i64 0 8=0 from by decide];simp[w2,cV]
   refine⟨(oz ab hl).1,(oz ab hl).2,?_⟩;intro c hc;have hc:c=dg (cV (true,i,q,data)):=by rw[hc,hp];rfl
   exact Fl (a:=2) hp ab ab ab hl (by rw[hc];exact hB.1) (by rw[hc];exact hB.2) (by rw[hc];exact e1) e2
  | false =>
   refine aw (λhr=>by cases hr) (λ_=>?_);refine⟨ab,by rw[show eO .i64 8 8=2048 from by decide];simp[dR];omega,aA,?_⟩;intro p hpe;have hp8:p.length=8:=by rw[hpe];simp[w2]
   have hp:p++data=cV (false,i,q,data):=by
    rw[hpe,show eO .i64 8 8=2048 from by decide];simp[w2,cV]
   refine⟨(oz ab hl).1,(oz ab hl).2,?_⟩;intro c hc;have hc:c=dg (cV (false,i,q,data)):=by rw[hc,hp];rfl
   exact Fl (a:=2) hp ab ab ab hl (by rw[hc];exact hB.1) (by rw[hc];exact hB.2) (by rw[hc];exact e1) e2
theorem ad2:aB 214 Yi.spec:=aF Tryz.func214 (av (av (av (av aD CL) (Ct.named Fz)) (Ct.named yr)) Js) aT V9
def Z0:Ct:=⟨[.agg JF],[.own 5 bP,.val cI],λd=>[(d.1.2.2.2.length:Int)<=1073741824],λd=>((fH d.1,kK d.1,()),())⟩
def IP(a:Bool)(b c:Int)(d f:ae) :=
 (ac f)<=1099511627776/\ ∀(g:ae),g=cT f c (2:Int)->(g.length+d.length)*(1:Nat)<=(l8)/\((length (g++d)):Int)<=1099511627776/\ ∀(h:Int),h=65535 -oc (bO true (g++d))->(0:Int)<=2/\(2:Int)+2<=((length (g++d)):Int)/\((length (g++d)):Int)<=1099511627776/\0<=h/\h<=65535/\cR (g++d) (toNat 2) h=fH (a,b,c,d)/\0=kK (a,b,c,d)
theorem ZS :
 ∀(a:Bool)(b c:Int)(d:ae),(True/\aq b/\aq c/\(vw d))/\True->(ac d)<=1073741824-> ∀(e:Bool),e= ! dh b->(ah (! e))/\(ah (! e))/\(ah (! e))/\(aE e)/\ao (bif e then true else ! dh c) (([]:ae)=fH (a,b,c,d)/\1=kK (a,b,c,d)) (ao (decide (1480<aj ((ac d)+8))) (([]:ae)=fH (a,b,c,d)/\5=kK (a,b,c,d)) (ao a (((length [IntKind.wrap .u8 (0:Int),(0:Int),(0:Int),(0:Int)]):Int)<=1099511627776/\ ∀(f:ae),f=cT [IntKind.wrap .u8 (0:Int),(0:Int),(0:Int),(0:Int)] b (2:Int)->(IP a b c d f)) (((length [IntKind.wrap .u8 (8:Int),(0:Int),(0:Int),(0:Int)]):Int)<=1099511627776/\ ∀(f:ae),f=cT [IntKind.wrap .u8 (8:Int),(0:Int),(0:Int),(0:Int)] b (2:Int)->(IP a b c d f)))):=by
  delta IP l8 vw ah aE aj ac;rintro r i q data ⟨⟨-,-,-,-,hd⟩,-⟩ hl;rintro b rfl;refine⟨aA,aA,aA,aA,?_⟩;rw[aG (n:=(data.length:Int)+8) ab ab];refine aw (λh=>?_) (λh=>?_)
  .apply N9;rintro⟨h1,h2⟩;simp at h1 h2;simp[h1,h2] at h
  have hw:dh i=true/\dh q=true:=by
   simp[dE] at h;exact h
  have hw':=hw;simp only[jL] at hw';obtain⟨e1,e2⟩:=Nw (e:=(r,i,q,data)) hw;have hB:=qe (xZ (e:=(r,i,q,data)) hd);have hbl:=Dj (r,i,q,data);refine aw (λh5=>?_) (λh5=>?_)
  .have h5:=aI h5;rw[e1,e2,am (by simp only at hbl;omega),am (by simp only at hbl;omega)];exact⟨rfl,rfl⟩
  have h5:=aL h5;have h5:¬ (1480:Int)<(cV (r,i,q,data)).length:=by simp only at hbl;omega
  rw[af h5] at e1;cases r with
  | true =>
   refine aw (λ_=>?_) (λhr=>by cases hr);refine⟨aA,?_⟩;rintro p rfl;rw[jM hw'.1.1 hw'.1.2];refine⟨by simp[w2],?_⟩;intro p hpe;rw[jM hw'.2.1 hw'.2.2] at hpe;have hp8:p.length=8:=by rw[hpe];simp[w2]
   have hp:p++data=cV (true,i,q,data):=by
    rw[hpe,show IntKind.wrap .u8 0=0 from by decide];simp[w2,cV]
   refine⟨(oz ab hl).1,(oz ab hl).2,?_⟩;intro c hc;have hc:c=dg (cV (true,i,q,data)):=by rw[hc,hp];rfl
   rw[hp,hc];exact⟨ab,ab,ab,hB.1,hB.2,e1.symm,Dk e2 h5⟩
  | false =>
   refine aw (λhr=>by cases hr) (λ_=>?_);refine⟨aA,?_⟩;rintro p rfl;rw[jM hw'.1.1 hw'.1.2];refine⟨by simp[w2],?_⟩;intro p hpe;rw[jM hw'.2.1 hw'.2.2] at hpe;have hp8:p.length=8:=by rw[hpe];simp[w2]
   have hp:p++data=cV (false,i,q,data):=by
    rw[hpe,show IntKind.wrap .u8 8=8 from by decide];simp[w2,cV]
   refine⟨(oz ab hl).1,(oz ab hl).2,?_⟩;intro c hc;have hc:c=dg (cV (false,i,q,data)):=by rw[hc,hp];rfl
   rw[hp,hc];exact⟨ab,ab,ab,hB.1,hB.2,e1.symm,Dk e2 h5⟩
theorem UB:aB 76 Z0.spec:=aF Tryz.func76 (av (av (av (av aD Hk) (Ct.named zj)) (Ct.named HU)) HX) aT ZS
def So:Ct:=⟨[.agg QO],[.own 5 bP,.val cI],λd=>[(d.1.2.2.length:Int)<=1073741824],λd=>((iE d.1,jK d.1,()),())⟩
def Kq(a b:Int)(c:ae) :=
 ao (decide ((ac c)<28)) (([]:ae)=iE (a,b,c)/\3=jK (a,b,c)) ((0:Int)<=8/\dR (65535:Int) [bits BinOp.or IntKind.i64 (eO IntKind.i64 a (8:Int)) b,(0:Int),(0:Int),(0:Int)]=true/\((length [bits BinOp.or IntKind.i64 (eO IntKind.i64 a (8:Int)) b,(0:Int),(0:Int),(0:Int)]):Int)<=1073741824/\ ∀(f:ae),f=List.flatMap w2 [bits BinOp.or IntKind.i64 (eO IntKind.i64 a (8:Int)) b,(0:Int),(0:Int),(0:Int)]->(f.length+c.length)*(1:Nat)<=(l8)/\((length (f++c)):Int)<=1099511627776/\ ∀(g:Int),g=65535 -oc (bO true (f++c))->(0:Int)<=2/\(2:Int)+2<=((length (f++c)):Int)/\((length (f++c)):Int)<=1099511627776/\0<=g/\g<=65535/\(if 1480<((length (f++c)):Int) then ([]:ae) else cR (f++c) (toNat 2) g)=iE (a,b,c)/\(if 1480<((length (f++c)):Int) then (5:Int) else (0:Int))=jK (a,b,c))
theorem aI2 :
 ∀(a b:Int)(c:ae),(aq a/\aq b/\c.length<=maxLen/\ ∀(d:Int),d∈c->0<=d/\d<=255)/\True->(ac c)<=1073741824-> ∀(d:Bool),d= ! decide (a=3)->(ah d)/\(ah d)/\(ar d)/\ ∀(e:Bool),(e=bif d then ! decide (a=11) else false)->(ah (! e))/\ao (! e) ((ar (! e))/\(ah (! e))/\(aE e)/\ao (bif e then true else ! dR (255:Int) [b]) (([]:ae)=iE (a,b,c)/\1=jK (a,b,c)) (Kq a b c)) ((! e)=false/\(! e)=false/\(e=false->false=true)/\ao (bif e then true else false) (([]:ae)=iE (a,b,c)/\1=jK (a,b,c)) (Kq a b c)):=by
  delta Kq l8 ah ar aE ac;rintro t k data ⟨⟨-,-,-,hd⟩,-⟩ hl;rintro b rfl;refine⟨aA,aA,aA,?_⟩;intro b hb;refine⟨aA,?_⟩;cases b with
  | true =>
   have ht:¬ (t=3∨t=11):=by
    simp at hb;omega
   refine aw (λh=>by cases h) (λ_=>⟨rfl,rfl,aA,aw (λ_=>LV (λh=>ht h.1)) (λh=>by cases h)⟩)
  | false =>
   have ht:t=3∨t=11:=by
    by_cases h3:t=3
    .exact .inl h3
    .simp[h3] at hb;exact .inr hb
   refine aw (λ_=>⟨aA,aA,aA,?_⟩) (λh=>by cases h);refine aw (λh=>?_) (λh=>?_)
   .apply LV;rintro⟨-,h2⟩;have:=(xD 255 k).2 h2;rw[this] at h;cases h
   have hk:0<=k/\k<=255:=by
    apply (xD 255 k).1;cases hx:dR 255 [k] with
    | true=>rfl
    | false=>rw[hx] at h;cases h
   refine aw (λh2=>Vn ⟨ht,hk⟩ (aI h2)) (λh2=>?_);have h2:=aL h2;obtain⟨e1,e2⟩:=YQ (e:=(t,k,data)) ⟨ht,hk⟩ h2;have hB:=qe (Ja (e:=(t,k,data)) ⟨ht,hk⟩ hd);rw[R8 ab ab hk.1 hk.2];refine⟨ab,by simp[dR];omega,aA,?_⟩;intro p hpe;have hp8:p.length=8:=by rw[hpe];simp[w2]
   have hp:p++data=mX (t,k,data):=by
    rw[hpe];simp only[List.flatMap_cons,List.flatMap_nil,D3 (show 0<=t by omega) (show t<=255 by omega) hk.1 hk.2,show w2 0=[0,0] from rfl];rfl
   refine⟨(oz ab hl).1,(oz ab hl).2,?_⟩;intro c hc;have hc:c=dg (mX (t,k,data)):=by rw[hc,hp];rfl
   exact Fl (a:=2) hp ab ab ab hl (by rw[hc];exact hB.1) (by rw[hc];exact hB.2) (by rw[hc];exact e1) e2
theorem ay5:aB 230 So.spec:=aF Tryz.func230 (av (av (av (av aD CL) (Ct.named Fz)) (Ct.named yr)) Js) aT aI2
def Tn:Ct:=⟨[.val cP,.val cP,.val cI,.val (.sl bP)],[.val cI],λd=>[(d.2.2.2.1.length:Int)<=1073741824],λd=>((fX d.1 d.2.1 d.2.2.1 d.2.2.2.1,()),())⟩
theorem Ze :
 ∀(a b c:Int)(d:ae),(0<=a/\a<=4294967295)/\(0<=b/\b<=4294967295)/\aq c/\(vw d)/\True->(ac d)<=1073741824-> ∀(e:Bool),e= ! dR (255:Int) [c]->(ah (! e))/\(ah (! e))/\(aE e)/\ao (bif e then true else decide (65535<(ac d))) (0=fX a b c d) ((0:Int)<=16/\(0:Int)<=16/\dR (65535:Int) [aj (dF IntKind.u32 a (16:Int)),aj (bits BinOp.and IntKind.u32 a (65535:Int)),aj (dF IntKind.u32 b (16:Int)),aj (bits BinOp.and IntKind.u32 b (65535:Int)),c,(ac d)]=true/\((length [aj (dF IntKind.u32 a (16:Int)),aj (bits BinOp.and IntKind.u32 a (65535:Int)),aj (dF IntKind.u32 b (16:Int)),aj (bits BinOp.and IntKind.u32 b (65535:Int)),c,(ac d)]):Int)<=1073741824/\ ∀(f:ae),f=List.flatMap w2 [aj (dF IntKind.u32 a (16:Int)),aj (bits BinOp.and IntKind.u32 a (65535:Int)),aj (dF IntKind.u32 b (16:Int)),aj (bits BinOp.and IntKind.u32 b (65535:Int)),c,(ac
 d)]->(f.length+d.length)*(1:Nat)<=(l8)/\((length (f++d)):Int)<=1099511627776/\ ∀(g:Int),g=65535 -oc (bO true (f++d))->g=fX a b c d):=by
  delta l8 vw ah aE aj ac;rintro a b p data ⟨⟨a0,a1⟩,⟨b0,b1⟩,-,⟨-,hd⟩,-⟩ hl;rintro x rfl;refine⟨aA,aA,aA,?_⟩;refine aw (λh=>?_) (λh=>?_)
  .rw[fX,am];cases hx:dR 255 [p] with
   | false=>exact .inl (λk=>by rw[(xD 255 p).2 k] at hx;cases hx)
   | true=>rw[hx] at h;exact .inr (aI h)
  have hp:0<=p/\p<=255:=by
   apply (xD 255 p).1;cases hx:dR 255 [p] with
   | true=>rfl
   | false=>rw[hx] at h;cases h
  have hn:¬ (65535:Int)<data.length:=by
   rw[(xD 255 p).2 hp] at h;exact aL h
  rw[Sf a0 a1,Sf b0 b1,RN a0 a1,RN b0 b1];refine⟨ab,ab,by simp[dR];omega,aA,?_⟩;intro q hq;have hp8:q.length=12:=by rw[hq];simp[w2]
  have hB:q++data=wP a b p data:=by
   rw[hq];simp only[List.flatMap_cons,List.flatMap_nil,jG,ia,Q6];rfl
  refine⟨(oz ab hl).1,(oz ab hl).2,?_⟩;rintro c rfl;rw[hB,fX,af ab];rfl
theorem IF:aB 172 Tn.spec:=aF Tryz.func172 (av (av (av aD CL) (Ct.named Fz)) (Ct.named yr)) aT Ze
def W3:Ct:=⟨[.val cP,.val cP,.val cI,.val (.sl bP)],[.val cI],λd=>[(d.2.2.2.1.length:Int)<=1073741824],λd=>((fX d.1 d.2.1 d.2.2.1 d.2.2.2.1,()),())⟩
theorem ZA :
 ∀(a b c:Int)(d:ae),(0<=a/\a<=4294967295)/\(0<=b/\b<=4294967295)/\aq c/\(vw d)/\True->(ac d)<=1073741824-> ∀(e:Bool),e= ! decide (0<=c/\c<=255)->(ah (! e))/\(ah (! e))/\(aE e)/\ao (bif e then true else decide (65535<(ac d))) (0=fX a b c d) ((↑(0:Nat):Int)<=1099511627776/\ ∀(f:ae),f=cT ([]:ae) (aj a) (4:Int)->(ac f)<=1099511627776/\ ∀(g:ae),g=cT f (aj b) (4:Int)->(ac g)<=1099511627776/\ ∀(h:ae),h=cT g c (2:Int)->(ac h)<=1099511627776/\ ∀(i:ae),i=cT h (ac d) (2:Int)->(i.length+d.length)*(1:Nat)<=(l8)/\((length (i++d)):Int)<=1099511627776/\ ∀(j:Int),j=65535 -oc (bO true (i++d))->j=fX a b c d):=by
  delta l8 vw ah aE aj ac;rintro a b p data ⟨⟨a0,a1⟩,⟨b0,b1⟩,-,⟨-,hd⟩,-⟩ hl;rintro x rfl;refine⟨aA,aA,aA,?_⟩;refine aw (λh=>?_) (λh=>?_)
  .rw[fX,am];by_cases hx:0<=p/\p<=255
   .rw[cM hx] at h;exact .inr (aI h)
   .exact .inl hx
  have hp:0<=p/\p<=255:=fq λhk=>by rw[dO hk] at h;cases h
  have hn:¬ (65535:Int)<data.length:=by
   rw[cM hp] at h;exact aL h
  refine⟨aA,?_⟩;intro q1 h1;rw[aG (n:=a) ab ab,vW a0 a1,rx] at h1;refine⟨by rw[h1];simp[w4],?_⟩;intro q2 h2;rw[aG (n:=b) ab ab,vW b0 b1] at h2;refine⟨by rw[h2,h1];simp[w4],?_⟩;intro q3 h3;rw[jM hp.1 ab] at h3;refine⟨by rw[h3,h2,h1];simp[w2,w4],?_⟩;intro q hq;rw[jM ab ab] at hq;have hp8:q.length=12:=by rw[hq,h3,h2,h1];simp[w2,w4]
  have hB:q++data=wP a b p data:=by
   rw[hq,h3,h2,h1];simp only[ia];rfl
  refine⟨(oz ab hl).1,(oz ab hl).2,?_⟩;rintro c rfl;rw[hB,fX,af ab];rfl
theorem IW:aB 80 W3.spec:=aF Tryz.func80 (av (av (av aD QJ) (Ct.named zj)) (Ct.named HU)) aT ZA
def Vb:Ct:=⟨[.val cP,.val cP,.val (.sl bP)],[.val cI],λd=>[(d.2.2.1.length:Int)<=1073741824],λd=>((lD d.1 d.2.1 d.2.2.1,()),())⟩
theorem ZC :
 ∀(a b:Int)(c:ae),(0<=a/\a<=4294967295)/\(0<=b/\b<=4294967295)/\(c.length<=maxLen/\ ∀(d:Int),d∈c->0<=d/\d<=255)/\True->(ac c)<=1073741824->(ac c)<=1073741824/\ao (! decide (fX a b (17:Int) c=0)) (fX a b (17:Int) c=lD a b c) (65535=lD a b c):=by
  delta ac;rintro a b data-hl;refine⟨hl,aw (λh=>?_) (λh=>?_)⟩
  .rw[lD,af];intro k;rw[cM k] at h;cases h
  .rw[lD,am];exact fq λk=>by rw[dO k] at h;cases h
theorem Wy:aB 229 Vb.spec:=aF Tryz.func229 (av aD IF) aT ZC
def ay0:Ct:=⟨[.val cP,.val cP,.agg Nf],[.own 5 bP,.val cI],λd=>[(d.2.2.1.2.2.length:Int)<=1073741824],λd=>((mE d.1 d.2.1 d.2.2.1,nV d.2.2.1,()),())⟩
def z8(e i:ae) :=
 ((length (i++[(0:Int),(0:Int)]++e)):Int)
theorem aR5 :
 ∀(a b c d:Int)(e:ae),(0<=a/\a<=4294967295)/\(0<=b/\b<=4294967295)/\(aq c/\aq d/\e.length<=maxLen/\ ∀(f:Int),f∈e->0<=f/\f<=255)/\True->(ac e)<=1073741824-> ∀(f:Bool),f= ! dh c->(ah (! f))/\(ah (! f))/\(ah (! f))/\(aE f)/\ao (bif f then true else ! dh d) (([]:ae)=mE a b (c,d,e)/\1=nV (c,d,e)) (ao (decide (1480<aj ((ac e)+8))) (([]:ae)=mE a b (c,d,e)/\5=nV (c,d,e)) ((↑(0:Nat):Int)<=1099511627776/\ ∀(g:ae),g=cT ([]:ae) c (2:Int)->(ac g)<=1099511627776/\ ∀(h:ae),h=cT g d (2:Int)->(ac h)<=1099511627776/\ ∀(i:ae),i=cT h (aj ((ac e)+8)) (2:Int)->(i.length+length [(0:Int),(0:Int)])*(1:Nat)<=(l8)/\(length (i++[(0:Int),(0:Int)])+e.length)*(1:Nat)<=(l8)/\(z8 e i)<=1073741824/\ ∀(j:Int),j=fX a b (17:Int) (i++[(0:Int),(0:Int)]++e)->ao (decide (j=0)) ((0:Int)<=6/\(6:Int)+2<=(z8 e i)/\(z8 e
 i)<=1099511627776/\(0:Int)<=65535/\(65535:Int)<=65535/\cR (i++[(0:Int),(0:Int)]++e) (toNat 6) (65535:Int)=mE a b (c,d,e)/\0=nV (c,d,e)) ((0:Int)<=6/\(6:Int)+2<=(z8 e i)/\(z8 e i)<=1099511627776/\0<=j/\j<=65535/\cR (i++[(0:Int),(0:Int)]++e) (toNat 6) j=mE a b (c,d,e)/\0=nV (c,d,e)))):=by
  delta z8 l8 ah aE aj ac;rintro a b sp dp data ⟨-,-,⟨-,-,-,hd⟩,-⟩ hl;rintro x rfl;refine⟨aA,aA,aA,aA,?_⟩;rw[aG (n:=(data.length:Int)+8) ab ab];refine aw (λh=>?_) (λh=>?_)
  .apply aR9;rintro⟨h1,h2⟩;simp at h1 h2;simp[h1,h2] at h
  have hw:dh sp=true/\dh dp=true:=by
   simp[dE] at h;exact h
  have hw':=hw;simp only[jL] at hw';obtain⟨e1,e2⟩:=Vl (a:=a) (b:=b) (e:=(sp,dp,data)) hw;have hB:=QR (a:=a) (b:=b) (B6 (e:=(sp,dp,data)) hd);have hbl:=Qh (sp,dp,data);refine aw (λh5=>?_) (λh5=>?_)
  .have h5:=aI h5;rw[e1,e2,am (by simp only at hbl;omega),am (by simp only at hbl;omega)];exact⟨rfl,rfl⟩
  have h5:=aL h5;have h5':¬ (1480:Int)<(fN (sp,dp,data)).length:=by simp only at hbl;omega
  rw[af h5'] at e1;refine⟨aA,?_⟩;intro q1 h1;rw[jM hw'.1.1 hw'.1.2,rx] at h1;refine⟨by rw[h1];simp[w2],?_⟩;intro q2 h2;rw[jM hw'.2.1 hw'.2.2] at h2;refine⟨by rw[h2,h1];simp[w2],?_⟩;intro q3 h3;rw[jM ab ab] at h3;have hp8:q3.length=6:=by rw[h3,h2,h1];simp[w2]
  have hp:q3++[0,0]++data=fN (sp,dp,data):=by
   rw[h3,h2,h1];simp only[ia,fN];rw[Int.add_comm 8]
  rw[hp];refine⟨by simp only[dM,List.length_nil];omega,by simp only[cu,dM,List.length_nil];omega,by simp only at hbl;omega,?_⟩;rintro c rfl;have hs:∀ c,c=lD a b (fN (sp,dp,data))->cR (fN (sp,dp,data)) (toNat 6) c=mE a b (sp,dp,data)/\0=nV (sp,dp,data):=by
   rintro c rfl;exact⟨e1.symm,Dk e2 h5'⟩
  refine bU (λhz=>?_) (λhz=>?_)
  .exact⟨ab,by simp only at hbl;omega,by simp only at hbl;omega,ab,ab,hs _ (by rw[lD,am hz])⟩
  .have hr:=yY (a:=a) (b:=b) (p:=17) (B6 (e:=(sp,dp,data)) hd);exact⟨ab,by simp only at hbl;omega,by simp only at hbl;omega,hr.1,hr.2,hs _ (by rw[lD,af hz])⟩
theorem Uc:aB 81 ay0.spec:=aF Tryz.func81 (av (av (av (av aD Hk) (Ct.named zj)) (Ct.named IW)) HX) aT aR5
theorem VH{f:Int}(h0:0<=f)(h1:f<=255):bits .or .i64 20480 f=80*256+f:=by
 have:=R8 (n:=80) (x:=f) ab ab h0 h1
 rwa [show eO .i64 80 8=20480 from by decide] at this
theorem Wb{f:Int}(h0:0<=f)(h1:f<=255):w2 (80*256+f)=[80,f]:=D3 (by omega) (by omega) h0 h1
def ap5:Ct:=⟨[.val cP,.val cP,.agg B8],[.own 5 bP,.val cI],λd=>[(d.2.2.1.2.2.2.2.2.2.length:Int)<=1000000],λd=>((fQ d.1 d.2.1 d.2.2.1,lJ d.2.2.1,()),())⟩
def FU(a b:Int)(c:Int×Int×Int×Int×Int×Int×ae) :=
 (0:Int)<=16/\(0:Int)<=16/\dR (65535:Int) [c.1,c.2.1,dF IntKind.i64 c.2.2.1 (16:Int),bits BinOp.and IntKind.i64 c.2.2.1 (65535:Int),dF IntKind.i64 c.2.2.2.1 (16:Int),bits BinOp.and IntKind.i64 c.2.2.2.1 (65535:Int),bits BinOp.or IntKind.i64 (20480:Int) c.2.2.2.2.1,c.2.2.2.2.2.1,(0:Int),(0:Int)]=true/\((length [c.1,c.2.1,dF IntKind.i64 c.2.2.1 (16:Int),bits BinOp.and IntKind.i64 c.2.2.1 (65535:Int),dF IntKind.i64 c.2.2.2.1 (16:Int),bits BinOp.and IntKind.i64 c.2.2.2.1 (65535:Int),bits BinOp.or IntKind.i64 (20480:Int) c.2.2.2.2.1,c.2.2.2.2.2.1,(0:Int),(0:Int)]):Int)<=1073741824/\ ∀(f:ae),f=List.flatMap w2 [c.1,c.2.1,dF IntKind.i64 c.2.2.1 (16:Int),bits BinOp.and IntKind.i64 c.2.2.1 (65535:Int),dF IntKind.i64 c.2.2.2.1 (16:Int),bits BinOp.and IntKind.i64 c.2.2.2.1 (65535:Int),bits BinOp.or IntKind.i64 (20480:Int)
 c.2.2.2.2.1,c.2.2.2.2.2.1,(0:Int),(0:Int)]->(f.length+c.2.2.2.2.2.2.length)*(1:Nat)<=(l8)/\((length (f++c.2.2.2.2.2.2)):Int)<=1073741824/\ ∀(g:Int),g=fX a b (6:Int) (f++c.2.2.2.2.2.2)->(0:Int)<=16/\(16:Int)+2<=((length (f++c.2.2.2.2.2.2)):Int)/\((length (f++c.2.2.2.2.2.2)):Int)<=1099511627776/\0<=g/\g<=65535/\(if 1480<((length (f++c.2.2.2.2.2.2)):Int) then ([]:ae) else cR (f++c.2.2.2.2.2.2) (toNat 16) g)=fQ a b c/\(if 1480<((length (f++c.2.2.2.2.2.2)):Int) then (5:Int) else (0:Int))=lJ c
def II(a b:Int)(c:Int×Int×Int×Int×Int×Int×ae)(e:Bool) :=
 (ah (! e))/\ao (! e) ((ar (! e))/\(ah (! e))/\(aE e)/\ao (bif e then true else ! dR (255:Int) [c.2.2.2.2.1]) (([]:ae)=fQ a b c/\1=lJ c) (FU a b c)) ((! e)=false/\(! e)=false/\(e=false->false=true)/\ao (bif e then true else false) (([]:ae)=fQ a b c/\1=lJ c) (FU a b c))
theorem aK3 :
 ∀(a b:Int)(c:Int×Int×Int×Int×Int×Int×ae),(0<=a/\a<=4294967295)/\(0<=b/\b<=4294967295)/\CT.wf B8 c/\True->(ac c.2.2.2.2.2.2)<=1000000-> ∀(d:Bool),d= ! dR (65535:Int) [c.1,c.2.1,c.2.2.2.2.2.1]->(ah (! d))/\(ah (! d))/\ao (! d) ((ar (! d))/\(ar (! d))/\(ah (! d))/\(aE d)/\ ∀(e:Bool),(e=bif d then true else ! dR (4294967295:Int) [c.2.2.1,c.2.2.2.1])->(II a b c e)) ((! d)=false/\(! d)=false/\(d=false->false=true)/\ ∀(e:Bool),(e=bif d then true else false)->(II a b c e)):=by
  delta FU II l8 ah ar aE ac;rintro a b e ⟨-,-,⟨-,-,-,-,-,-,-,hd⟩,-⟩ hl;intro b1 hb1;refine⟨aA,aA,?_⟩;cases b1 with
  | true =>
   have hbad:¬ pc e:=by
    rintro⟨h1,h2,-,-,-,h3⟩;rw[jL] at h1 h2 h3;rw[show dR 65535 [e.1,e.2.1,e.2.2.2.2.2.1]=true from by simp[dR];omega] at hb1;cases hb1
   refine aw (λh=>by cases h) (λ_=>⟨rfl,rfl,aA,?_⟩);intro b2 hb2;have hb2:b2=true:=hb2;subst hb2;exact⟨aA,aw (λh=>by cases h) (λ_=>⟨rfl,rfl,aA,aw (λ_=>E8 hbad) (λh=>by cases h)⟩)⟩
  | false =>
   have h1:(0<=e.1/\e.1<=65535)/\(0<=e.2.1/\e.2.1<=65535)/\0<=e.2.2.2.2.2.1/\e.2.2.2.2.2.1<=65535:=by
    have:dR 65535 [e.1,e.2.1,e.2.2.2.2.2.1]=true:=by
     cases hx:dR 65535 [e.1,e.2.1,e.2.2.2.2.2.1] with
     | true=>rfl
     | false=>rw[hx] at hb1;cases hb1
    simpa[dR] using this
   refine aw (λ_=>⟨aA,aA,aA,aA,?_⟩) (λh=>by cases h);intro b2 hb2;refine⟨aA,?_⟩;cases b2 with
   | true =>
    have hbad:¬ pc e:=by
     rintro⟨-,-,h3,h4,-,-⟩;have:dR 4294967295 [e.2.2.1,e.2.2.2.1]=true:=(Ez _ _ _).2 ⟨h3,h4⟩;rw[this] at hb2;cases hb2
    exact aw (λh=>by cases h) (λ_=>⟨rfl,rfl,aA,aw (λ_=>E8 hbad) (λh=>by cases h)⟩)
   | false =>
    have h2:(0<=e.2.2.1/\e.2.2.1<=4294967295)/\0<=e.2.2.2.1/\e.2.2.2.1<=4294967295:=by
     apply (Ez _ _ _).1;cases hx:dR 4294967295 [e.2.2.1,e.2.2.2.1] with
     | true=>rfl
     | false=>rw[hx] at hb2;cases hb2
    refine aw (λ_=>⟨aA,aA,aA,aw (λh=>?_) (λh=>?_)⟩) (λh=>by cases h)
    .apply E8;rintro⟨-,-,-,-,h3,-⟩;rw[(xD _ _).2 h3] at h;cases h
    have h3:0<=e.2.2.2.2.1/\e.2.2.2.2.1<=255:=by
     apply (xD _ _).1;cases hx:dR 255 [e.2.2.2.2.1] with
     | true=>rfl
     | false=>rw[hx] at h;cases h
    have hok:pc e:=⟨(jL _).2 h1.1,(jL _).2 h1.2.1,h2.1,h2.2,h3,(jL _).2 h1.2.2⟩
    obtain⟨e1,e2⟩:=LF (a:=a) (b:=b) hok;have hB:=yY (a:=a) (b:=b) (p:=6) (AA hok hd);have hbl:=zC e;rw[HP h2.1.1,HP h2.2.1,AQ,AQ,VH h3.1 h3.2];refine⟨ab,ab,by simp[dR];omega,aA,?_⟩;intro p hpe;have hp8:p.length=20:=by rw[hpe];simp[w2]
    have hp:p++e.2.2.2.2.2.2=kG e:=by
     rw[hpe];simp only[List.flatMap_cons,List.flatMap_nil,jG,ia,Q6,show w2 0=[0,0] from rfl,Wb h3.1 h3.2];rfl
    refine⟨(oz ab ab).1,by rw[cu];omega,?_⟩;intro c hc;have hc:c=fX a b 6 (kG e):=by rw[hc,hp]
    exact Fl (a:=16) hp ab ab ab ab (by rw[hc];exact hB.1) (by rw[hc];exact hB.2) (by rw[hc];exact e1) e2
theorem VW:aB 218 ap5.spec:=aF Tryz.func218 (av (av (av (av aD CL) (Ct.named Fz)) (Ct.named IF)) Js) aT aK3
def aH6:Ct:=⟨[.val cP,.val cP,.agg B8],[.own 5 bP,.val cI],λd=>[(d.2.2.1.2.2.2.2.2.2.length:Int)<=1000000],λd=>((fQ d.1 d.2.1 d.2.2.1,lJ d.2.2.1,()),())⟩
def zN(c:Int×Int×Int×Int×Int×Int×ae)(o:ae) :=
 o++[(0:Int),(0:Int),(0:Int),(0:Int)]++c.2.2.2.2.2.2
theorem UN :
 ∀(a b:Int)(c:Int×Int×Int×Int×Int×Int×ae),(0<=a/\a<=4294967295)/\(0<=b/\b<=4294967295)/\CT.wf B8 c/\True->(ac c.2.2.2.2.2.2)<=1000000-> ∀(d:Bool),d= ! dh c.1->(ah (! d))/\(ah (! d))/\(ah (! d))/\(aE d)/\ ∀(e:Bool),(e=bif d then true else ! dh c.2.1)->(ah (! e))/\(ah (! e))/\(ah (! e))/\(aE e)/\ ∀(f:Bool),(f=bif e then true else ! decide (0<=c.2.2.1/\c.2.2.1<=4294967295))->(ah (! f))/\(ah (! f))/\(ah (! f))/\(aE f)/\ ∀(g:Bool),(g=bif f then true else ! decide (0<=c.2.2.2.1/\c.2.2.2.1<=4294967295))->(ah (! g))/\(ah (! g))/\(ah (! g))/\(aE g)/\ ∀(h:Bool),(h=bif g then true else ! decide (0<=c.2.2.2.2.1/\c.2.2.2.2.1<=255))->(ah (! h))/\(ah (! h))/\(ah (! h))/\(aE h)/\ao (bif h then true else ! dh c.2.2.2.2.2.1) (([]:ae)=fQ a b c/\1=lJ c) (ao (decide (1480<aj ((ac c.2.2.2.2.2.2)+20))) (([]:ae)=fQ a b c/\5=lJ c)
 ((↑(0:Nat):Int)<=1099511627776/\ ∀(i:ae),i=cT ([]:ae) c.1 (2:Int)->(ac i)<=1099511627776/\ ∀(j:ae),j=cT i c.2.1 (2:Int)->(ac j)<=1099511627776/\ ∀(k:ae),k=cT j c.2.2.1 (4:Int)->(ac k)<=1099511627776/\ ∀(l:ae),l=cT k c.2.2.2.1 (4:Int)->(ac l)<=1099511627776/\ ∀(m:ae),m=cT l (80:Int) (1:Int)->(ac m)<=1099511627776/\ ∀(n:ae),n=cT m c.2.2.2.2.1 (1:Int)->(ac n)<=1099511627776/\ ∀(o:ae),o=cT n c.2.2.2.2.2.1 (2:Int)->(o.length+length [(0:Int),(0:Int),(0:Int),(0:Int)])*(1:Nat)<=(l8)/\(length (o++[(0:Int),(0:Int),(0:Int),(0:Int)])+c.2.2.2.2.2.2.length)*(1:Nat)<=(l8)/\((length (zN c o)):Int)<=1073741824/\ ∀(p:Int),p=fX a b (6:Int) (zN c o)->(0:Int)<=16/\(16:Int)+2<=((length (zN c o)):Int)/\((length (zN c o)):Int)<=1099511627776/\0<=p/\p<=65535/\cR (zN c o) (toNat 16) p=fQ a b
 c/\0=lJ c)):=by
  delta zN l8 ah aE aj ac;rintro a b e ⟨-,-,⟨-,-,-,-,-,-,-,hd⟩,-⟩ hl;intro b1 h1;refine⟨aA,aA,aA,aA,?_⟩;intro b2 h2;refine⟨aA,aA,aA,aA,?_⟩;intro b3 h3;refine⟨aA,aA,aA,aA,?_⟩;intro b4 h4;refine⟨aA,aA,aA,aA,?_⟩;intro b5 h5;refine⟨aA,aA,aA,aA,?_⟩;rw[aG (n:=(e.2.2.2.2.2.2.length:Int)+20) ab ab];have hall:(bif b5 then true else !dh e.2.2.2.2.2.1) = !decide (pc e):=by
   rw[h5,h4,h3,h2,h1];by_cases w1:dh e.1=true
   all_goals by_cases w2:dh e.2.1=true
   all_goals by_cases w3:dh e.2.2.2.2.2.1=true
   all_goals by_cases q1:0<=e.2.2.1/\e.2.2.1<=4294967295
   all_goals by_cases q2:0<=e.2.2.2.1/\e.2.2.2.1<=4294967295
   all_goals by_cases q3:0<=e.2.2.2.2.1/\e.2.2.2.2.1<=255
   all_goals simp[pc,w1,w2,w3,q1,q2,q3]
  rw[hall];refine aw (λh=>E8 (by simpa using h)) (λh=>?_);have hok:pc e:=by simpa using h
  obtain⟨e1,e2⟩:=LF (a:=a) (b:=b) hok;have hB:=yY (a:=a) (b:=b) (p:=6) (AA hok hd);have hbl:=zC e;refine aw (λh5=>?_) (λh5=>?_)
  .have h5:=aI h5;rw[e1,e2,am ab,am ab];exact⟨rfl,rfl⟩
  have h5:=aL h5;have h5':¬ (1480:Int)<(kG e).length:=ab;rw[af h5'] at e1;obtain⟨k1,k2,k3,k4,k5,k6⟩:=hok;rw[jL] at k1 k2 k6;refine⟨aA,?_⟩;intro q1 h1;rw[jM k1.1 k1.2,rx] at h1;have l1:q1.length=2:=by rw[h1];rfl
  refine⟨ab,?_⟩;intro q2 h2;rw[jM k2.1 k2.2] at h2;have l2:q2.length=4:=by rw[h2,cu,l1];rfl
  refine⟨ab,?_⟩;intro q3 h3;rw[vW k3.1 k3.2] at h3;have l3:q3.length=8:=by rw[h3,cu,l2];rfl
  refine⟨ab,?_⟩;intro q4 h4;rw[vW k4.1 k4.2] at h4;have l4:q4.length=12:=by rw[h4,cu,l3];rfl
  refine⟨ab,?_⟩;intro q5 h5;rw[tZ ab ab] at h5;have l5:q5.length=13:=by rw[h5,cu,l4];rfl
  refine⟨ab,?_⟩;intro q6 h6;rw[tZ k5.1 k5.2] at h6;have l6:q6.length=14:=by rw[h6,cu,l5];rfl
  refine⟨ab,?_⟩;intro q7 h7;rw[jM k6.1 k6.2] at h7;have l7:q7.length=16:=by rw[h7,cu,l6];rfl
  have hp:q7++[0,0,0,0]++e.2.2.2.2.2.2=kG e:=by
   rw[h7,h6,h5,h4,h3,h2,h1];simp only[ia];rfl
  rw[hp];refine⟨by simp only[dM,List.length_nil];omega,by simp only[cu,dM,List.length_nil];omega,ab,?_⟩;rintro c rfl;exact⟨ab,ab,ab,hB.1,hB.2,e1.symm,Dk e2 h5'⟩
theorem aC1:aB 82 aH6.spec:=aF Tryz.func82 (av (av (av (av (av (av aD Hk) QJ) ai9) (Ct.named zj)) (Ct.named IW)) HX) aT UN
def Bl(b:ae):Prop:=(b.getD (toNat 0) default=8∨b.getD (toNat 0) default=0)/\b.getD (toNat 1) default=0
instance (b:ae):Decidable (Bl b):=by unfold Bl;infer_instance
def jF(b:ae):Int:=if (b.length:Int)<8 then 3 else if ¬ Bl b then 2 else if (1480:Int)<b.length then 5 else if dg (cR b (toNat 2) 0)≠aH b (toNat 2) then 4 else 0
def gn(b:ae):n9:=if jF b=0 then (decide (b.getD (toNat 0) default=0),aH b (toNat 4),aH b (toNat 6),b.drop 8) else (false,0,0,[])
def BE(b:ae):Prop:=(b.getD (toNat 0) default=3∨b.getD (toNat 0) default=11)/\aH b (toNat 4)=0/\aH b (toNat 6)=0
instance (b:ae):Decidable (BE b):=by unfold BE;infer_instance
def kJ(b:ae):Int:=if (b.length:Int)<36 then 3 else if ¬ BE b then 2 else if (1480:Int)<b.length then 5 else if dg (cR b (toNat 2) 0)≠aH b (toNat 2) then 4 else 0
def kr(b:ae):qj:=if kJ b=0 then (b.getD (toNat 0) default,b.getD (toNat 1) default,b.drop 8) else (0,0,[])
def j6(s d:Int)(b:ae):Int:=if (b.length:Int)<8 then 3 else if ¬ aH b (toNat 4)=b.length then 2 else if (1480:Int)<b.length then 5 else if lD s d (cR b (toNat 6) 0)≠aH b (toNat 6) then 4 else 0
def rb(s d:Int)(b:ae):qD:=if j6 s d b=0 then (aH b (toNat 0),aH b (toNat 2),b.drop 8) else (0,0,[])
def BC(b:ae):Prop:=b.getD (toNat 12) default=80/\aH b (toNat 18)=0
instance (b:ae):Decidable (BC b):=by unfold BC;infer_instance
def jC(s d:Int)(b:ae):Int:=if (b.length:Int)<20 then 3 else if ¬ BC b then 2 else if (1480:Int)<b.length then 5 else if fX s d 6 (cR b (toNat 16) 0)≠aH b (toNat 16) then 4 else 0
def fR(s d:Int)(b:ae):mO:=if jC s d b=0 then (aH b (toNat 0),aH b (toNat 2),aH b (toNat 4)*65536+aH b (toNat 6),aH b (toNat 8)*65536+aH b (toNat 10),b.getD (toNat 13) default,aH b (toNat 14),b.drop 20) else (0,0,0,0,0,0,[])
theorem DM{b:ae}{e:Int}(h:jF b=e)(he:e≠0):(false,0,0,[])=gn b/\e=jF b:=by
 rw[gn,af (by rw[h];exact he),h];exact⟨rfl,rfl⟩
theorem EV{b:ae}{e:Int}(h:kJ b=e)(he:e≠0):(0,0,[])=kr b/\e=kJ b:=by
 rw[kr,af (by rw[h];exact he),h];exact⟨rfl,rfl⟩
theorem FK{s d:Int}{b:ae}{e:Int}(h:j6 s d b=e)(he:e≠0):(0,0,[])=rb s d b/\e=j6 s d b:=by
 rw[rb,af (by rw[h];exact he),h];exact⟨rfl,rfl⟩
theorem EF{s d:Int}{b:ae}{e:Int}(h:jC s d b=e)(he:e≠0):(0,0,0,0,0,0,[])=fR s d b/\e=jC s d b:=by
 rw[fR,af (by rw[h];exact he),h];exact⟨rfl,rfl⟩
theorem wC(b:ae)(k:Nat):cO b k (toNat (b.length:Int))=b.drop k:=by unfold cO;simp
theorem Le{b:ae}{i:Nat}{v:Int}(h:bytes b)(h0:0<=v)(h1:v<=255):bytes (b.set i v):=by
 intro x hx
 rcases Ck hx with hx|rfl
 .exact h x hx
 .exact⟨h0,h1⟩
theorem tW{b:ae}{i:Nat}{v:Int}(h:bytes b):bytes (cR b i v):=Le (Le h ab ab) ab ab
theorem ES{b:ae}{k:Nat}(h:bytes b):0<=aH b k/\aH b k<=65535:=by
 have:=C3 2 ((b.drop k).take 2) (by rw[dA];omega) (λx hx=>h x (yx (oI hx)))
 have e:(256:Int)^2=65536:=rfl
 unfold aH;omega
theorem mN(b:ae)(i:Nat)(v:Int):(cR b i v).length=b.length:=by simp[cR]
theorem ip(x y:Int)(r:ae):aH (x::y::r) 0=x*256+y:=by simp[aH,fp]
theorem QF{n x:Int}(h0:0<=n)(h1:n<=65535)(h2:0<=x)(h3:x<=65535):bits .or .i64 (eO .i64 n 16) x=n*65536+x:=by
 have e:eO .i64 n 16=n*65536:=by
  show IntKind.i64.wrap (n*2^(min 16 64))=_;rw[aG (by simp;omega) (by simp;omega)];rfl
 rw[e]
 obtain⟨m,rfl⟩:=pS h0
 obtain⟨y,rfl⟩:=pS h2
 have:=Pt (m*65536) y ab ab
 rw[nat_join 16 (m*65536) y ab ab,show ((m*65536:Nat):Int)=(m:Int)*65536 from by omega,show ((m*65536+y:Nat):Int)=(m:Int)*65536+(y:Int) from by omega] at this
 exact this
def aN3:Ct:=⟨[.val (.sl bP)],[.agg JF,.val cI],λd=>[(d.1.length:Int)<=1000000],λd=>((gn d.1,jF d.1,()),())⟩
def AW :=
 (false,(0:Int),(0:Int),([]:ae))
theorem ad1 :
 ∀(a:ae),(a.length<=maxLen/\ ∀(b:Int),b∈a->0<=b/\b<=255)/\True->(ac a)<=1000000->ao (decide ((ac a)<8)) ((AW)=gn a/\3=jF a) ((0:Int)<=0/\0<(ac a)/\ ∀(b:Bool),b= ! decide (ai a (0:Int)=8)->(b->(ar b)/\(0:Int)<=0/\0<(ac a)/\True)/\(ah b)/\(ah b)/\(ar b)/\ ∀(c:Bool),(c=bif b then ! decide (ai a (0:Int)=0) else false)->((! c)->(ar (! c))/\(0:Int)<=1/\1<(ac a)/\True)/\(ah (! c))/\(ah (! c))/\(aE c)/\ao (bif c then true else ! decide (ai a (1:Int)=0)) ((AW)=gn a/\2=jF a) (ao (decide (1480<(ac a))) ((AW)=gn a/\5=jF a) ((0:Int)<=2/\(2:Int)+2<=(ac a)/\(ac a)<=1099511627776/\ ∀(d:ae)(e:Int),d=cR a (toNat 2) (0:Int)/\e=aH a (toNat 2)->(ac d)<=1099511627776/\ ∀(f:Int),f=65535 -oc (bO true d)->ao (! decide (f=e)) ((AW)=gn a/\4=jF a) ((0:Int)<=0/\0<(ac a)/\(0:Int)<=4/\(4:Int)+2<=(ac a)/\(ac
 a)<=1099511627776/\(0:Int)<=6/\(6:Int)+2<=(ac a)/\(ac a)<=1099511627776/\(0:Int)<=8/\8<=(ac a)/\(ac a)<=(ac a)/\((length (cO a (toNat 8) (toNat (ac a)))):Int)<=1099511627776/\ ∀(g:ae),g=cO a (toNat 8) (toNat (ac a))->(decide (ai a (0:Int)=0),aH a (toNat 4),aH a (toNat 6),g)=gn a/\0=jF a)))):=by
  delta AW ah ar aE ai ac;rintro b ⟨⟨-,hb⟩,-⟩ hl;refine aw (λh=>?_) (λh8=>?_)
  .exact DM (by rw[jF,am (aI h)]) bt
  have h8:=aL h8;refine⟨ab,ab,?_⟩
  (repeat (refine bY ?_;repeat refine bZ ?_));refine aw (λh=>?_) (λhf=>?_)
  .refine DM (by rw[jF,af h8,am];rintro⟨f0,f1⟩;rw[cM f1] at h;rcases f0 with f0|f0 <;> rw[f0] at h <;> simp at h) bt
  have hf:Bl b:=by
   unfold Bl;by_cases k1:b.getD (toNat 1) default=0
   .by_cases k2:b.getD (toNat 0) default=8
    .exact⟨.inl k2,k1⟩
    .by_cases k3:b.getD (toNat 0) default=0
     .exact⟨.inr k3,k1⟩
     .rw[dO k2,dO k3] at hf;simp at hf
   .rw[dO k1] at hf;simp[dE] at hf
  refine aw (λh=>?_) (λh5=>?_)
  .exact DM (by rw[jF,af h8,af (λk=>k hf),am (aI h)]) bt
  have h5:=aL h5;refine⟨ab,ab,ab,?_⟩;rintro x w ⟨rfl,rfl⟩;refine⟨by simp[cR];omega,?_⟩;rintro c rfl;refine aw (λh=>?_) (λh=>?_)
  .refine DM (by rw[jF,af h8,af (λk=>k hf),af h5,am];intro k;rw[dg] at k;rw[cM k] at h;cases h) bt
  have h0:jF b=0:=by
   rw[jF,af h8,af (λk=>k hf),af h5,af];intro k;rw[dg] at k;rw[dO k] at h;cases h
  refine⟨ab,ab,ab,ab,ab,ab,ab,ab,ab,ab,ab,by rw[wC,fv];omega,?_⟩;rintro y rfl;rw[gn,am h0,h0,wC];exact⟨rfl,rfl⟩
theorem L7:aB 125 aN3.spec:=aF Tryz.func125 (av (av (av (av aD (Ct.named FE)) (Ct.named yr)) Cp) (Ct.named sD)) aT ad1
theorem aX7(p q r s:Prop) [Decidable p] [Decidable q] [Decidable r] [Decidable s]:(bif (bif (bif !decide p then !decide q else false) then true else !decide r) then true else !decide s) = !decide ((p∨q)/\r/\s):=by
 by_cases p <;> by_cases q <;> by_cases r <;> by_cases s <;> simp[*]
theorem Iw{b:ae}{k:Nat}(h:k+2<=b.length):aH b k=b.getD k default*256+b.getD (k+1) default:=by
 have h0:k<b.length:=ab
 have h1:k+1<b.length:=ab
 have e:b.drop k=b[k]::b[k+1]::b.drop (k+1+1):=by rw[sI h0,sI h1]
 unfold aH
 rw[e,bL,bL,cK h0,cK h1]
 generalize b.drop (k+1+1)=r
 generalize b[k]=u
 generalize b[k+1]=v
 simp[fp]
theorem U2(p r:Prop) [Decidable p] [Decidable r]:(bif !decide p then true else !decide r) = !decide (p/\r):=by
 by_cases p <;> by_cases r <;> simp[*]
def ap4:Ct:=⟨[.val (.sl bP)],[.agg QO,.val cI],λd=>[(d.1.length:Int)<=1000000],λd=>((kr d.1,kJ d.1,()),())⟩
def td :=
 ((0:Int),(0:Int),([]:ae))
theorem at6 :
 ∀(a:ae),(a.length<=maxLen/\ ∀(b:Int),b∈a->0<=b/\b<=255)/\True->(ac a)<=1000000->ao (decide ((ac a)<36)) ((td)=kr a/\3=kJ a) ((0:Int)<=0/\0<(ac a)/\ ∀(b:Bool),b= ! decide (ai a (0:Int)=3)->(b->(ar b)/\(0:Int)<=0/\0<(ac a)/\True)/\(ah b)/\(ah b)/\(ar b)/\ ∀(c:Bool),(c=bif b then ! decide (ai a (0:Int)=11) else false)->((! c)->(ar (! c))/\(0:Int)<=4/\(4:Int)+2<=(ac a)/\(ac a)<=1099511627776/\True)/\(ah (! c))/\(aE c)/\ ∀(d:Bool),(d=bif c then true else ! decide (aH a (toNat 4)=0))->((! d)->(ar (! d))/\(0:Int)<=6/\(6:Int)+2<=(ac a)/\(ac a)<=1099511627776/\True)/\(ah (! d))/\(aE d)/\ao (bif d then true else ! decide (aH a (toNat 6)=0)) ((td)=kr a/\2=kJ a) (ao (decide (1480<(ac a))) ((td)=kr a/\5=kJ a) ((0:Int)<=2/\(2:Int)+2<=(ac a)/\(ac a)<=1099511627776/\ ∀(e:ae)(f:Int),e=cR a
 (toNat 2) (0:Int)/\f=aH a (toNat 2)->(ac e)<=1099511627776/\ ∀(g:Int),g=65535 -oc (bO true e)->ao (! decide (g=f)) ((td)=kr a/\4=kJ a) ((0:Int)<=0/\0<(ac a)/\(0:Int)<=1/\1<(ac a)/\(0:Int)<=8/\8<=(ac a)/\(ac a)<=(ac a)/\((length (cO a (toNat 8) (toNat (ac a)))):Int)<=1099511627776/\ ∀(h:ae),h=cO a (toNat 8) (toNat (ac a))->(aj (ai a (0:Int)),aj (ai a (1:Int)),h)=kr a/\0=kJ a)))):=by
  delta td ah ar aE aj ai ac;rintro b ⟨⟨-,hb⟩,-⟩ hl;refine aw (λh=>?_) (λh8=>?_)
  .exact EV (by rw[kJ,am (aI h)]) bt
  have h8:=aL h8;refine⟨ab,ab,?_⟩
  (repeat (refine bY ?_;repeat refine bZ ?_));have hall:(bif (bif (bif !decide (b.getD (toNat 0) default=3) then !decide (b.getD (toNat 0) default=11) else false) then true else !decide (aH b (toNat 4)=0)) then true else !decide (aH b (toNat 6)=0)) = !decide (BE b):=(aX7 _ _ _ _).trans (jt (λx => !x) (decide_eq_decide.2 nh));rw[hall];refine aw (λh=>?_) (λhf=>?_)
  .exact EV (by rw[kJ,af h8,am];simpa using h) bt
  have hf:BE b:=by simpa using hf
  refine aw (λh=>?_) (λh5=>?_)
  .exact EV (by rw[kJ,af h8,af (λk=>k hf),am (aI h)]) bt
  have h5:=aL h5;refine⟨ab,ab,ab,?_⟩;rintro x w ⟨rfl,rfl⟩;refine⟨by rw[mN];omega,?_⟩;rintro c rfl;refine aw (λh=>?_) (λh=>?_)
  .refine EV (by rw[kJ,af h8,af (λk=>k hf),af h5,am];intro k;rw[dg] at k;rw[cM k] at h;cases h) bt
  have h0:kJ b=0:=by
   rw[kJ,af h8,af (λk=>k hf),af h5,af];intro k;rw[dg] at k;rw[dO k] at h;cases h
  rw[wC]
  repeat refine⟨ab,?_⟩
  refine⟨by rw[fv];omega,?_⟩;rintro y rfl;have g0:=hb _ (bS (xs:=b) (i:=0) ab ab);have g1:=hb _ (bS (xs:=b) (i:=1) ab ab);rw[kr,am h0,h0,aG ab ab,aG ab ab];exact⟨rfl,rfl⟩
theorem Vm:aB 127 ap4.spec:=aF Tryz.func127 (av (av (av (av aD (Ct.named FE)) (Ct.named yr)) Cp) (Ct.named sD)) aT at6
def aA0:Ct:=⟨[.val cP,.val cP,.val (.sl bP)],[.agg Nf,.val cI],λd=>[(d.2.2.1.length:Int)<=1000000],λd=>((rb d.1 d.2.1 d.2.2.1,j6 d.1 d.2.1 d.2.2.1,()),())⟩
theorem Zd :
 ∀(a b:Int)(c:ae),(0<=a/\a<=4294967295)/\(0<=b/\b<=4294967295)/\(c.length<=maxLen/\ ∀(d:Int),d∈c->0<=d/\d<=255)/\True->(ac c)<=1000000->ao (decide ((ac c)<8)) ((td)=rb a b c/\3=j6 a b c) ((0:Int)<=4/\(4:Int)+2<=(ac c)/\(ac c)<=1099511627776/\ao (! decide (aH c (toNat 4)=(ac c))) ((td)=rb a b c/\2=j6 a b c) (ao (decide (1480<(ac c))) ((td)=rb a b c/\5=j6 a b c) ((0:Int)<=6/\(6:Int)+2<=(ac c)/\(ac c)<=1099511627776/\ ∀(d:ae)(e:Int),d=cR c (toNat 6) (0:Int)/\e=aH c (toNat 6)->(ac d)<=1073741824/\ ∀(f:Int),f=lD a b d->ao (! decide (f=e)) ((td)=rb a b c/\4=j6 a b c) ((0:Int)<=0/\(0:Int)+2<=(ac c)/\(ac c)<=1099511627776/\(0:Int)<=2/\(2:Int)+2<=(ac c)/\(ac c)<=1099511627776/\(0:Int)<=8/\8<=(ac c)/\(ac c)<=(ac c)/\((length (cO c (toNat 8) (toNat (ac c)))):Int)<=1099511627776/\
 ∀(g:ae),g=cO c (toNat 8) (toNat (ac c))->(aH c (toNat 0),aH c (toNat 2),g)=rb a b c/\0=j6 a b c)))):=by
  delta td ac;rintro s d b ⟨-,-,⟨-,hb⟩,-⟩ hl;refine aw (λh=>?_) (λh8=>?_)
  .exact FK (by rw[j6,am (aI h)]) bt
  have h8:=aL h8
  repeat refine⟨ab,?_⟩
  refine aw (λh=>?_) (λhf=>?_)
  .exact FK (by rw[j6,af h8,am];simpa using h) bt
  have hf:aH b (toNat 4)=b.length:=by simpa using hf
  refine aw (λh=>?_) (λh5=>?_)
  .exact FK (by rw[j6,af h8,af (λk=>k hf),am (aI h)]) bt
  have h5:=aL h5
  repeat refine⟨ab,?_⟩
  rintro x w ⟨rfl,rfl⟩;refine⟨by rw[mN];omega,?_⟩;rintro c rfl;refine aw (λh=>?_) (λh=>?_)
  .refine FK (by rw[j6,af h8,af (λk=>k hf),af h5,am];intro k;rw[cM k] at h;cases h) bt
  have h0:j6 s d b=0:=by
   rw[j6,af h8,af (λk=>k hf),af h5,af];intro k;rw[dO k] at h;cases h
  rw[wC]
  repeat refine⟨ab,?_⟩
  refine⟨by rw[fv];omega,?_⟩;rintro y rfl;rw[rb,am h0,h0];exact⟨rfl,rfl⟩
theorem Vj:aB 216 aA0.spec:=aF Tryz.func216 (av (av (av (av aD (Ct.named FE)) (Ct.named Wy)) Cp) (Ct.named sD)) aT Zd
def aO1:Ct:=⟨[.val cP,.val cP,.val (.sl bP)],[.agg B8,.val cI],λd=>[(d.2.2.1.length:Int)<=1000000],λd=>((fR d.1 d.2.1 d.2.2.1,jC d.1 d.2.1 d.2.2.1,()),())⟩
def BX :=
 ((0:Int),(0:Int),(0:Int),(0:Int),(0:Int),(0:Int),([]:ae))
theorem T7 :
 ∀(a b:Int)(c:ae),(0<=a/\a<=4294967295)/\(0<=b/\b<=4294967295)/\(c.length<=maxLen/\ ∀(d:Int),d∈c->0<=d/\d<=255)/\True->(ac c)<=1000000->ao (decide ((ac c)<20)) ((BX)=fR a b c/\3=jC a b c) ((0:Int)<=12/\12<(ac c)/\ ∀(d:Bool),d= ! decide (ai c (12:Int)=80)->((! d)->(ar (! d))/\(0:Int)<=18/\(18:Int)+2<=(ac c)/\(ac c)<=1099511627776/\True)/\(ah (! d))/\(aE d)/\ao (bif d then true else ! decide (aH c (toNat 18)=0)) ((BX)=fR a b c/\2=jC a b c) (ao (decide (1480<(ac c))) ((BX)=fR a b c/\5=jC a b c) ((0:Int)<=16/\(16:Int)+2<=(ac c)/\(ac c)<=1099511627776/\ ∀(e:ae)(f:Int),e=cR c (toNat 16) (0:Int)/\f=aH c (toNat 16)->(ac e)<=1073741824/\ ∀(g:Int),g=fX a b (6:Int) e->ao (! decide (g=f)) ((BX)=fR a b c/\4=jC a b c) ((0:Int)<=0/\(0:Int)+2<=(ac c)/\(ac c)<=1099511627776/\(0:Int)<=2/\(2:Int)+2<=(ac
 c)/\(ac c)<=1099511627776/\(0:Int)<=4/\(4:Int)+2<=(ac c)/\(ac c)<=1099511627776/\(0:Int)<=16/\(0:Int)<=6/\(6:Int)+2<=(ac c)/\(ac c)<=1099511627776/\(0:Int)<=8/\(8:Int)+2<=(ac c)/\(ac c)<=1099511627776/\(0:Int)<=16/\(0:Int)<=10/\(10:Int)+2<=(ac c)/\(ac c)<=1099511627776/\(0:Int)<=13/\13<(ac c)/\(0:Int)<=14/\(14:Int)+2<=(ac c)/\(ac c)<=1099511627776/\(0:Int)<=20/\20<=(ac c)/\(ac c)<=(ac c)/\((length (cO c (toNat 20) (toNat (ac c)))):Int)<=1099511627776/\ ∀(h:ae),h=cO c (toNat 20) (toNat (ac c))->(aH c (toNat 0),aH c (toNat 2),bits BinOp.or IntKind.i64 (eO IntKind.i64 (aH c (toNat 4)) (16:Int)) (aH c (toNat 6)),bits BinOp.or IntKind.i64 (eO IntKind.i64 (aH c (toNat 8)) (16:Int)) (aH c (toNat 10)),aj (ai c (13:Int)),aH c (toNat 14),h)=fR a b c/\0=jC a b c)))):=by
  delta BX ah ar aE aj ai ac;rintro s d b ⟨-,-,⟨-,hb⟩,-⟩ hl;refine aw (λh=>?_) (λh8=>?_)
  .exact EF (by rw[jC,am (aI h)]) bt
  have h8:=aL h8;refine⟨ab,ab,?_⟩
  (repeat (refine bY ?_;repeat refine bZ ?_));rw[show (bif !decide (b.getD (toNat 12) default=80) then true else !decide (aH b (toNat 18)=0)) = !decide (BC b) from (U2 _ _).trans (jt (λx => !x) (decide_eq_decide.2 nh))];refine aw (λh=>?_) (λhf=>?_)
  .exact EF (by rw[jC,af h8,am];simpa using h) bt
  have hf:BC b:=by simpa using hf
  refine aw (λh=>?_) (λh5=>?_)
  .exact EF (by rw[jC,af h8,af (λk=>k hf),am (aI h)]) bt
  have h5:=aL h5
  repeat refine⟨ab,?_⟩
  rintro x w ⟨rfl,rfl⟩;refine⟨by rw[mN];omega,?_⟩;rintro c rfl;refine aw (λh=>?_) (λh=>?_)
  .exact EF (by rw[jC,af h8,af (λk=>k hf),af h5,am];intro k;rw[cM k] at h;cases h) bt
  have h0:jC s d b=0:=by
   rw[jC,af h8,af (λk=>k hf),af h5,af];intro k;rw[dO k] at h;cases h
  rw[wC]
  repeat refine⟨ab,?_⟩
  refine⟨by rw[fv];omega,?_⟩;rintro y rfl;have g:=hb _ (bS (xs:=b) (i:=13) ab ab);have v4:=ES (k:=toNat 4) hb;have v6:=ES (k:=toNat 6) hb;have v8:=ES (k:=toNat 8) hb;have v10:=ES (k:=toNat 10) hb;rw[fR,am h0,h0,aG ab ab,QF v4.1 v4.2 v6.1 v6.2,QF v8.1 v8.2 v10.1 v10.2];exact⟨rfl,rfl⟩
theorem Rr:aB 129 aO1.spec:=aF Tryz.func129 (av (av (av (av aD (Ct.named FE)) (Ct.named IF)) Cp) (Ct.named sD)) aT T7
def EX(data:ae)(e:n9):Prop:=(dh e.2.1=true/\dh e.2.2.1=true)/\e.2.2.2=data
def Jg(data:ae)(u:qD):Prop:=(dh u.1=true/\dh u.2.1=true)/\u.2.2=data
def Dz(data:ae)(s:mO):Prop:=pc s/\s.2.2.2.2.2.2=data
theorem mG{n:Int}(h0:0<=n)(h1:n<=65535):n/256%256*256+n%256=n:=by omega
theorem ar3{e:n9}(h:kK e=0):fH e=(if e.1 then 0 else 8)::0::(dg (cV e)/256%256)::(dg (cV e)%256)::(e.2.1/256%256)::(e.2.1%256)::(e.2.2.1/256%256)::(e.2.2.1%256)::e.2.2.2:=by
 rw[fH,am h];rfl
theorem Du{data:ae}{e:n9}(h:EX data e)(hl:(data.length:Int)<=1472):kK e=0:=by
 rw[kK,af (λk=>k h.1),af (by rw[h.2];omega)]
theorem QS{data:ae}{e:n9}(h:EX data e)(hd:bytes data)(hl:(data.length:Int)<=1472):jF (fH e)=0/\gn (fH e)=e:=by
 have h0:=Du h hl
 rw[ar3 h0]
 obtain⟨⟨h1,h2⟩,h3⟩:=h
 rw[jL] at h1 h2
 have hc:=qe (xZ (e:=e) (by rw[h3];exact hd))
 have hb:cV e=(if e.1 then 0 else 8)::0::0::0::(e.2.1/256%256)::(e.2.1%256)::(e.2.2.1/256%256)::(e.2.2.1%256)::e.2.2.2:=rfl
 obtain⟨r,i,q,l⟩:=e
 simp only at h1 h2 h3 hc hb ⊢
 subst h3
 have he:jF ((if r then 0 else 8)::0::(dg (cV (r,i,q,l))/256%256)::(dg (cV (r,i,q,l))%256)::(i/256%256)::(i%256)::(q/256%256)::(q%256)::l)=0:=by
  rw[jF,af (by simp only[dM];omega),af,af (by simp only[dM];omega),af]
  .have e2:aH ((if r then 0 else 8)::0::(dg (cV (r,i,q,l))/256%256)::(dg (cV (r,i,q,l))%256)::(i/256%256)::(i%256)::(q/256%256)::(q%256)::l) (toNat 2)=dg (cV (r,i,q,l))/256%256*256+dg (cV (r,i,q,l))%256:=ip _ _ _;rw[e2,mG hc.1 hc.2];have e3:cR ((if r then 0 else 8)::0::(dg (cV (r,i,q,l))/256%256)::(dg (cV (r,i,q,l))%256)::(i/256%256)::(i%256)::(q/256%256)::(q%256)::l) (toNat 2) 0=cV (r,i,q,l):=rfl;rw[e3];exact λk=>k rfl
  .intro k;apply k;refine⟨?_,rfl⟩;cases r
   .exact .inl rfl
   .exact .inr rfl
 refine⟨he,?_⟩
 rw[gn,am he]
 have e4:aH ((if r then 0 else 8)::0::(dg (cV (r,i,q,l))/256%256)::(dg (cV (r,i,q,l))%256)::(i/256%256)::(i%256)::(q/256%256)::(q%256)::l) (toNat 4)=i/256%256*256+i%256:=ip _ _ _
 have e6:aH ((if r then 0 else 8)::0::(dg (cV (r,i,q,l))/256%256)::(dg (cV (r,i,q,l))%256)::(i/256%256)::(i%256)::(q/256%256)::(q%256)::l) (toNat 6)=q/256%256*256+q%256:=ip _ _ _
 rw[e4,e6,mG h1.1 h1.2,mG h2.1 h2.2]
 cases r <;> rfl
theorem R0{data:ae}{u:qD}(h:Jg data u)(hl:(data.length:Int)<=1472):nV u=0:=by
 rw[nV,af (λk=>k h.1),af (by rw[h.2];omega)]
theorem ai7{s d:Int}{data:ae}{u:qD}(h:Jg data u)(hd:bytes data)(hl:(data.length:Int)<=1472):j6 s d (mE s d u)=0/\rb s d (mE s d u)=u:=by
 have h0:=R0 h hl
 obtain⟨⟨h1,h2⟩,h3⟩:=h
 rw[jL] at h1 h2
 have hc:=QR (a:=s) (b:=d) (B6 (e:=u) (by rw[h3];exact hd))
 obtain⟨sp,dp,l⟩:=u
 simp only at h1 h2 h3 hc
 subst h3
 generalize hB:mE s d (sp,dp,l)=B
 have hs:B=(sp/256%256)::(sp%256)::(dp/256%256)::(dp%256)::((8+l.length:Int)/256%256)::((8+l.length:Int)%256)::(lD s d (fN (sp,dp,l))/256%256)::(lD s d (fN (sp,dp,l))%256)::l:=by rw[← hB,mE,am h0];rfl
 have i0:aH B (toNat 0)=sp/256%256*256+sp%256:=by rw[hs];exact ip _ _ _
 have i2:aH B (toNat 2)=dp/256%256*256+dp%256:=by rw[hs];exact ip _ _ _
 have i4:aH B (toNat 4)=(8+l.length:Int)/256%256*256+(8+l.length:Int)%256:=by rw[hs];exact ip _ _ _
 have i6:aH B (toNat 6)=lD s d (fN (sp,dp,l))/256%256*256+lD s d (fN (sp,dp,l))%256:=by rw[hs];exact ip _ _ _
 have hset:cR B (toNat 6) 0=fN (sp,dp,l):=by rw[hs];rfl
 have hlen:(B.length:Int)=8+l.length:=by rw[hs];simp only[dM];omega
 have g8:B.drop 8=l:=by rw[hs];rfl
 have he:j6 s d B=0:=by
  rw[j6,af ab,af (λq=>q (by rw[i4];omega)),af ab,af];rw[hset,i6,mG hc.1 hc.2];exact λq=>q rfl
 refine⟨he,?_⟩
 rw[rb,am he,i0,i2,g8,mG h1.1 h1.2,mG h2.1 h2.2]
theorem Kr{data:ae}{s:mO}(h:Dz data s)(hl:(data.length:Int)<=1460):lJ s=0:=by
 rw[lJ,af (λk=>k h.1),af (by rw[h.2];omega)]
theorem Oq{n:Int}(h0:0<=n)(h1:n<=4294967295):(n/16777216%256*256+n/65536%256)*65536+(n/256%256*256+n%256)=n:=ab
theorem OC{s d:Int}{data:ae}{u:mO}(h:Dz data u)(hd:bytes data)(hl:(data.length:Int)<=1460):jC s d (fQ s d u)=0/\fR s d (fQ s d u)=u:=by
 have h0:=Kr h hl
 obtain⟨hok,h3⟩:=h
 have hc:=yY (a:=s) (b:=d) (p:=6) (AA hok (by rw[h3];exact hd))
 obtain⟨h1,h2,k3,k4,k5,k6⟩:=hok
 rw[jL] at h1 h2 k6
 obtain⟨sp,dp,sq,ak,fl,wi,l⟩:=u
 simp only at h1 h2 h3 hc k3 k4 k5 k6
 subst h3
 generalize hC:fX s d 6 (kG (sp,dp,sq,ak,fl,wi,l))=c at hc
 generalize hB:fQ s d (sp,dp,sq,ak,fl,wi,l)=B
 have hs:B=(sp/256%256)::(sp%256)::(dp/256%256)::(dp%256)::(sq/16777216%256)::(sq/65536%256)::(sq/256%256)::(sq%256)::(ak/16777216%256)::(ak/65536%256)::(ak/256%256)::(ak%256)::80::fl::(wi/256%256)::(wi%256)::(c/256%256)::(c%256)::0::0::l:=by rw[← hB,fQ,am h0,hC];rfl
 have i0:aH B (toNat 0)=sp/256%256*256+sp%256:=by rw[hs];exact ip _ _ _
 have i2:aH B (toNat 2)=dp/256%256*256+dp%256:=by rw[hs];exact ip _ _ _
 have i4:aH B (toNat 4)=sq/16777216%256*256+sq/65536%256:=by rw[hs];exact ip _ _ _
 have i6:aH B (toNat 6)=sq/256%256*256+sq%256:=by rw[hs];exact ip _ _ _
 have i8:aH B (toNat 8)=ak/16777216%256*256+ak/65536%256:=by rw[hs];exact ip _ _ _
 have i10:aH B (toNat 10)=ak/256%256*256+ak%256:=by rw[hs];exact ip _ _ _
 have i14:aH B (toNat 14)=wi/256%256*256+wi%256:=by rw[hs];exact ip _ _ _
 have i16:aH B (toNat 16)=c/256%256*256+c%256:=by rw[hs];exact ip _ _ _
 have i18:aH B (toNat 18)=0:=by rw[hs];exact ip 0 0 _
 have hset:cR B (toNat 16) 0=kG (sp,dp,sq,ak,fl,wi,l):=by rw[hs];rfl
 have hlen:(B.length:Int)=20+l.length:=by rw[hs];simp only[dM];omega
 have g12:B.getD (toNat 12) default=80:=by rw[hs];rfl
 have g13:B.getD (toNat 13) default=fl:=by rw[hs];rfl
 have g20:B.drop 20=l:=by rw[hs];rfl
 have he:jC s d B=0:=by
  rw[jC,af ab,af (λq=>q ⟨g12,i18⟩),af ab,af];rw[hset,hC,i16,mG hc.1 hc.2];exact λq=>q rfl
 refine⟨he,?_⟩
 rw[fR,am he,i0,i2,i4,i6,i8,i10,g13,i14,g20,mG h1.1 h1.2,mG h2.1 h2.2,mG k6.1 k6.2,Oq k3.1 k3.2,Oq k4.1 k4.2]
def sH(s d p n:Int):ae:=w4 s++(w4 d++(w2 p++w2 n))
theorem FY(s d p:Int)(X:ae):bO true (wP s d p X)=bO true (sH s d p X.length)+bO true X:=by
 have e:wP s d p X=sH s d p X.length++X:=by simp[wP,sH]
 have hl:(sH s d p X.length).length=12:=by simp[sH,w4,w2]
 rw[e,A9,hl];rfl
theorem ap2(s d p n:Int):bO true (sH s d p n)=bO true (w4 s)+bO true (w4 d)+bO true (w2 p)+bO true (w2 n):=by
 have h4:∀ n r,bO true (w4 n++r)=bO true (w4 n)+bO true r:=λn r=>by rw[A9,show (w4 n).length=4 from rfl];rfl
 have h2:∀ n r,bO true (w2 n++r)=bO true (w2 n)+bO true r:=λn r=>by rw[A9,show (w2 n).length=2 from rfl];rfl
 rw[sH,h4,h4,h2]
 omega
theorem Tj(e:n9):((fH e).length:Int)<=1480:=by
 unfold fH
 split
 next h=>
  rw[mN,Dj];unfold kK at h;split at h
  .cases h
  .split at h
   .cases h
   .omega
 .simp
theorem FG(e:qj):((iE e).length:Int)<=1480:=by
 unfold iE
 split
 next h=>
  rw[mN,HO];unfold jK at h;split at h
  .cases h
  .split at h
   .cases h
   .split at h
    .cases h
    .omega
 .simp
theorem UL(s d:Int)(e:mO):((fQ s d e).length:Int)<=1480:=by
 unfold fQ
 split
 next h=>
  rw[mN,zC];unfold lJ at h;split at h
  .cases h
  .split at h
   .cases h
   .omega
 .simp
theorem PG{l:ae}{i:Nat}{v:Int}(h:i<l.length):(l.set i v).getD i default=v:=by
 rw[bL,List.getElem?_set_self h,fZ]
theorem BN{l:ae}{i j:Nat}{v:Int}(h:i≠j):(l.set i v).getD j default=l.getD j default:=by
 rw[bL,List.getElem?_set_ne h,← bL]
theorem U7{b:ae}(h:jF b=0):8<=b.length/\dg (cR b 2 0)=aH b 2:=by
 unfold jF at h
 split at h
 .cases h
 .split at h
  .cases h
  .split at h
   .cases h
   .split at h
    .cases h
    next h1 _ _ h4=>exact⟨ab,o4.1 h4⟩
theorem MC(s d p n:Int):p%256<=bO true (sH s d p n):=by
 rw[ap2];simp[bO,w4,w2];omega
end Go.RS
