/- Wire: numbers in bytes, the Internet checksum. -/
import Derived.Test.YtoipogagjfkjlaaGreatDoorIdent
set_option maxRecDepth 100000
set_option linter.unusedVariables false
open Int (toNat)
open List (take set range)
namespace Go.RS
open Go.SX Go.Proofs
def oT(n:Int)(w k:Nat):ac:=(range k).map λj=>n/256^(w-1-j)%256
def rx(n w:Int):Prop:=w<1∨7<w∨n<0∨256^w.toNat<=n
instance (n w:Int):Decidable (rx n w):=by unfold rx;infer_instance
def putB(b:ac)(n w:Int):ac:=if rx n w then [] else b++oT n w.toNat w.toNat
def uc(n w:Int):Int:=if rx n w then 1 else 0
def gX(l:ac):Int:=l.foldl (λn x=>n*256+x) 0
def dQ(b:ac)(at' w:Int):Int:=if w<1∨7<w∨at'<0∨b.length-w<at' then 0 else gX ((b.drop at'.toNat).take w.toNat)
def tO(b:ac)(at' w:Int):Int:=if w<1∨7<w∨at'<0 then 1 else if b.length-w<at' then 3 else 0
def oc(n:Int):Int:=if n=0 then 0 else (n-1)%65535+1
def cU:Bool->ac->Int
 | _,[]=>0
 | hi,x::r=>(if hi then x*256 else x)+cU (!hi) r
def dL(n:Int):Bool:=decide (0<=n/\n<=65535)
theorem Wu(a b:Nat)(ha:a<9223372036854775808)(hb:b<9223372036854775808):bits .or .i64 (a:Int) (b:Int)=((a ||| b:Nat):Int):=by
 have h:a ||| b<2^63:=Nat.or_lt_two_pow ab ab
 have key:(BitVec.ofInt 64 (a:Int) ||| BitVec.ofInt 64 (b:Int)).toNat=a ||| b:=by
  rw[BitVec.toNat_or,BitVec.toNat_ofInt,BitVec.toNat_ofInt];have e1:((a:Int)%((2^64:Nat):Int)).toNat=a:=ab;have e2:((b:Int)%((2^64:Nat):Int)).toNat=b:=ab;rw[e1,e2]
 show IntKind.i64.wrap ((BitVec.ofInt 64 (a:Int) ||| BitVec.ofInt 64 (b:Int)).toNat:Nat)=_
 rw[key,aL ab ab]
theorem LJ{n:Int}(h0:0<=n)(h1:n<=36028797018963967):gW .i64 n 8=n*256:=by
 show IntKind.i64.wrap (n*2^(min 8 64))=_
 rw[aL (by simp;omega) (by simp;omega)];rfl
theorem N3{n x:Int}(h0:0<=n)(h1:n<=36028797018963966)(h2:0<=x)(h3:x<=255):bits .or .i64 (gW .i64 n 8) (IntKind.wrap .i64 x)=n*256+x:=by
 rw[LJ h0 ab,aL (n:=x) ab ab]
 obtain⟨m,rfl⟩:=sC h0
 obtain⟨y,rfl⟩:=sC h2
 have:=Wu (m*256) y ab ab
 rw[nat_join 8 (m*256) y ab ab] at this
 push_cast at this
 exact this
theorem C2{n:Int}{k:Nat}(h0:0<=n)(hk:k<8):fy .i64 n (8*k)=n/256^k:=by
 unfold fy
 have hm:min ((8*(k:Int))).toNat IntKind.i64.bits=8*k:=by simp only[IntKind.bits];omega
 rw[hm,Fm _ (Int.le_of_lt (Int.pow_pos bo)),Int.pow_mul]
 rfl
theorem Kg{w:Int}(h0:1<=w)(h1:w<=7):gW .i64 1 (IntKind.wrap .i64 (8*w))=256^w.toNat:=by
 have:w=1∨w=2∨w=3∨w=4∨w=5∨w=6∨w=7:=ab
 rcases this with rfl|rfl|rfl|rfl|rfl|rfl|rfl <;> decide
theorem UD(n:Int)(w k:Nat):oT n w (k+1)=oT n w k++[n/256^(w-1-k)%256]:=by
 unfold oT;rw[lP,lx];rfl
theorem KV(n:Int)(w k:Nat):(oT n w k).length=k:=by unfold oT;simp
theorem Pq(l:ac)(x:Int):gX (l++[x])=gX l*256+x:=by unfold gX;rw[ld];rfl
theorem Kh:∀(k:Nat)(l:ac),l.length<=k->(∀ x∈l,0<=x/\x<=255)->0<=gX l/\gX l<256^k:=by
 intro k
 induction k with
 | zero =>
  intro l hl _;have:l=[]:=BC ab;subst this;exact⟨bo,bo⟩
 | succ k ih =>
  intro l hl hx;rcases List.eq_nil_or_concat l with rfl|⟨m,x,rfl⟩
  .exact⟨bo,Int.pow_pos bo⟩
  .rw[List.concat_eq_append] at hl hx ⊢;have h1:=ih m (by simp at hl;omega) (λy hy=>hx y (iA _ hy));have h2:=hx x aw;rw[Pq,Int.pow_succ];generalize (256:Int)^k=P at h1 ⊢;omega
theorem Uq{l:ac}(hl:l.length<=6)(hx:∀ x∈l,0<=x/\x<=255):0<=gX l/\gX l<=281474976710655:=by
 have:=Kh 6 l hl hx
 have e:(256:Int)^6=281474976710656:=bo
 omega
theorem az7{n:Int}(h:65535<n):oc (n/65536+n%65536)=oc n:=by
 unfold oc
 rw[ah (by omega),ah (by omega)];omega
theorem ae8{n:Int}(h0:0<=n)(h1:n<=65535):oc n=n:=by
 unfold oc;split
 .omega
 .omega
theorem xT{n:Int}(h0:0<=n):0<=oc n/\oc n<=65535:=by unfold oc;split <;> omega
theorem Xd{m x:Int}(h0:0<=m)(h1:0<=x):oc (oc m+x)=oc (m+x):=by
 unfold oc
 by_cases h:m=0
 .simp[h]
 .rw[ah h,ah ab,ah ab];omega
theorem Ea(hi:Bool)(a b:ac):cU hi (a++b)=cU hi a+cU (if a.length%2=0 then hi else !hi) b:=by
 induction a generalizing hi with
 | nil=>simp[cU]
 | cons x a ih =>
  rw[nO,cU,cU,ih,Int.add_assoc];congr 3;rw[dP];by_cases h:a.length%2=0
  .rw[aj h,ah ab]
  .rw[ah h,aj ab];simp
theorem DU(hi:Bool)(l:ac)(hx:∀ x∈l,0<=x/\x<=255):0<=cU hi l/\cU hi l<=65280*l.length:=by
 induction l generalizing hi with
 | nil=>simp[cU]
 | cons x l ih =>
  have h1:=ih (!hi) (λy hy=>hx y (fu _ hy));have h2:=hx x fp;rw[cU,dP];cases hi
  .simp at h1 ⊢;omega
  .simp at h1 ⊢;omega
theorem Bm{l:ac}{j:Int}(h0:0<=j)(h1:j<l.length):l.take (j+1).toNat=l.take j.toNat++[l.getD j.toNat default]:=by
 have hj:j.toNat<l.length:=ab
 rw[show (j+1).toNat=j.toNat+1 from by omega,DS hj,ct,cM hj,jo]
def bM2:Ct:=⟨[.val (.sl bq)],[.own 5 bq],λd=>[(d.1.length:Int)<=1099511627776],λd=>((d.1,()),())⟩
def cH(a:Int):=a<=1099511627776
def aG(a:ac):=cH (ae a)
def bv(a:Nat):=a<=140737488355328
def jj(a b c:Prop):=∀(d:Bool),(d->a)->au d b c
def fM(a:ac):=[]=a
theorem bx9:
 ∀(a:ac),ai (aV a)->aG a->jj (a.length=0) (fM a) (bv ((0+a.length)*1)/\a=a):= by
  delta ae aV aG cH bv ai jj aD fM
  rintro x ⟨⟨hl,-⟩,-⟩ h b hb
  refine ay (λh1=>?_) (λh1=>⟨ab,rfl⟩)
  have:=hb h1
  exact (BC this).symm
theorem na:aB 73 bM2.spec:=aF Tryz.func73 aC aS bx9
def QS:Ct:=⟨[.val (.sl bq),.val cI,.val cI],[.own 5 bq,.val cI],λd=>[(d.1.length:Int)<=1099511627776],λd=>((putB d.1 d.2.1 d.2.2.1,uc d.2.1 d.2.2.1,()),())⟩
def a65:bp QS.ps->bI:=(λd=>{loops:=(bt 5 (λS=>{ι:=Int×ac,qn:=eO,μ:=λi=>(d.2.2.1-i.1).toNat,inv:=λi=>0<=i.1/\i.1<=d.2.2.1/\i.2=d.1++oT d.2.1 d.2.2.1.toNat i.1.toNat,keep:=[1,2],slots:=λi=>[(8,.own 524288 1),(9,.int .i64 (8*(d.2.2.1-1-i.1)))],names:=λi=>[(524288,.live (.row 5 bq i.2))]}) bZ)})
def gk(a b:ac):=bv ((a.length+b.length)*1)
def zS(a b:Int)(c d:ac)(e:Int):=ao a (a<=b) (c=d++oT e b.toNat a.toNat)
def JV(a:Int)(b c:Bool)(d:Prop)(e:Bool)(f g:Prop):=∀(h:Bool),h=av a 1->bO h/\br h/\ ∀(i:Bool),i=bn h b->bO i/\br i/\ ∀(j:Bool),j=bn i c->bO j/\( !j->( !j-> !j)/\d)/\fZ j/\br j/\au (bn j e) f g
def gD(a:Int):=decide (0<=a)
def lX(a:ac)(b:Int):=fM a/\1=b
theorem aW5:
 ∀(a:ac)(b c:Int),aV a/\dI b c->aG a->JV c (av 7 c) (dw b) (ai (0<=ap (8*c))) (decide (gW IntKind.i64 1 (ap (8*c))<=b)) (lX (putB a b c) (uc b c)) (aG a/\(∃(d:Int) (e:ac),zS d c e a b/\aU b c (ap (8*ap (c -1))=8*(c -1 -d)) (ai (a=e)))/\ ∀(d:Int)(e:ac),zS d c e a b->au (gD (8*(c -1 -d))) (ao (8*(c -1 -d)) (gk e (bN (IntKind.wrap IntKind.u8 (fy IntKind.i64 b (8*(c -1 -d)))))) (∃(f:Int) (g:ac),zS f c g a b/\aZ c f d/\aU b c (ap (8*(c -1 -d) -8)=8*(c -1 -f)) (ai (e++bN (IntKind.wrap IntKind.u8 (fy IntKind.i64 b (8*(c -1 -d))))=g)))) (e=putB a b c/\0=uc b c)):= by
  delta ae ap aq aI bO aV aT aU aG cH aA bn aZ cu gk ao br fZ bv bN dI ai zS aD dw d7 JV av gD lX fM
  rintro b n w ⟨-,⟨n0,n1⟩,⟨w0,w1⟩,-⟩ hl
  rintro b1 rfl
  refine⟨aw,aw,?_⟩
  rintro b1 rfl
  refine⟨aw,aw,?_⟩
  rintro b1 rfl
  have hpre:(!(bif (bif decide (w<1) then true else decide (7<w)) then true else decide (n<0)))=true->1<=w/\w<=7/\0<=n:=by
   simp[gb];omega
  refine⟨aw,λh=>⟨λ_=>h,by have:=hpre h;rw[aL ab ab];omega,aN⟩,λh=>⟨λ_=>h,λ_=>h,aN⟩,aw,?_⟩
  refine ay (λhc=>?_) (λhc=>?_)
  .have hbad:rx n w:=by
    unfold rx
    by_cases h:1<=w/\w<=7
    .rw[Kg h.1 h.2] at hc
     simp[gb] at hc;omega
    .omega
   rw[putB,uc,aj hbad,aj hbad];exact⟨rfl,rfl⟩
  .have hw:1<=w/\w<=7/\0<=n:=hpre (by
    cases h:(bif (bif decide (w<1) then true else decide (7<w)) then true else decide (n<0)) with
    | false=>rfl
    | true=>rw[h] at hc;simp at hc)
   obtain⟨h1,h7,hn⟩:=hw
   rw[Kg h1 h7] at hc
   have hgood:¬ rx n w:=by
    unfold rx
    simp[gb] at hc;omega
   rw[putB,uc,ah hgood,ah hgood]
   refine⟨hl,⟨0,b,⟨ab,ab,by simp[oT]⟩,rfl,rfl,by rw[aL (n:=w-1) ab ab,aL ab ab];omega,rfl,aN⟩,?_⟩
   rintro k ys ⟨k0,k1,rfl⟩
   refine bP (λhk=>?_) (λhk=>?_)
   .obtain⟨j,hj⟩:=sC (show 0<=w-1-k by omega)
    rw[hj,C2 hn ab,IntKind.wrap_u8']
    have hbl:=KV n w.toNat k.toNat
    refine⟨ab,by simp only[cL,gC,hbl];omega,k+1,_,⟨ab,ab,rfl⟩,ab,rfl,rfl,by rw[aL ab ab];omega,?_,aN⟩
    rw[show (k+1).toNat=k.toNat+1 from by omega,UD,je,show w.toNat-1-k.toNat=j from by omega]
   .rw[show k=w from by omega];exact⟨rfl,rfl⟩
theorem L3:aB 217 QS.spec:=aF Tryz.func217 (am aC na) a65 aW5
def Sm:Ct:=⟨[.val (.sl bq),.val cI,.val cI],[.val cI,.val cI],λd=>[(d.1.length:Int)<=9223372036854775807],λd=>((dQ d.1 d.2.1 d.2.2.1,tO d.1 d.2.1 d.2.2.1,()),())⟩
def Y6:bp Sm.ps->bI:=(λd=>{loops:=(bt 7 (λS=>{ι:=Int×Int,qn:=eO,μ:=λi=>(d.2.2.1-i.1).toNat,inv:=λi=>0<=i.1/\i.1<=d.2.2.1/\i.2=gX (((d.1.drop d.2.1.toNat).take d.2.2.1.toNat).take i.1.toNat),keep:=[34,35],slots:=λi=>[(8,.int .i64 i.2),(36,.int .i64 i.1)]}) bZ)})
def fE(a b:Int)(c d e f:Prop):=au (av a b) (ao a c d) (e/\f)
def Ae(a b c d:Int)(e:ac):=ao a (a<=b) (c=gX (take a.toNat (take b.toNat (List.drop d.toNat e))))
def qZ(a:ac)(b c:Int):=fA a b.toNat (toNat (ap (b+c)))
theorem bF6:
 ∀(a:ac)(b c:Int),aV a/\dI b c->aI (ae a)->zZ (av c 1) (av 7 c) (dw b) (0=dQ a b c/\1=tO a b c) (au (av (ap (ae a -c)) b) (0=dQ a b c/\3=tO a b c) (bM b (ap (b+c)) (ap (b+c)<=ae a) ((∃(d e:Int),Ae d c e b a/\0=e/\qZ a b c=qZ a b c/\aA (ae (qZ a b c)) (0=d) True)/\ ∀(d e:Int),Ae d c e b a->fE d (ae (qZ a b c)) (d<ae (qZ a b c)) ((0:Int)<=(8:Int)/\ ∃(f g:Int),Ae f c g b a/\aZ c f d/\bits BinOp.or IntKind.i64 (gW IntKind.i64 e 8) (ap (af (qZ a b c) d))=g/\qZ a b c=qZ a b c/\aA (ae (qZ a b c)) (aY d f) True) (e=dQ a b c) (0=tO a b c)))):= by
  delta af ae ap aq aI bO aV aT aA bn aZ cu ao br fE nt dI Ae aY ai qZ aD dw bM av zZ jW
  rintro b a w ⟨⟨hl0,hx⟩,⟨a0,a1⟩,⟨w0,w1⟩,-⟩ hl
  (repeat (refine dq ?_;repeat refine dm ?_))
  unfold dQ tO
  refine ay (λhc=>?_) (λhc=>?_)
  .have h:w<1∨7<w∨a<0:=by simp[gb] at hc;omega
   rw[aj ab,aj h];exact⟨rfl,rfl⟩
  have h:¬ (w<1∨7<w∨a<0):=by simp[gb] at hc;omega
  rw[aL (n:=(b.length:Int)-w) ab ab,ah h]
  refine ay (λhd=>?_) (λhd=>?_)
  .have hd:=aX hd
   rw[aj ab,aj hd];exact⟨rfl,rfl⟩
  have hd:=bi hd
  rw[ah ab,ah hd,aL (n:=a+w) ab ab]
  have hsub:fA b a.toNat (a+w).toNat=(b.drop a.toNat).take w.toNat:=by
   unfold fA;rw[List.drop_take,show (a+w).toNat-a.toNat=w.toNat from by omega]
  rw[hsub]
  have hlen:((b.drop a.toNat).take w.toNat).length=w.toNat:=by rw[dG,ib];omega
  have hy:∀ y∈(b.drop a.toNat).take w.toNat,0<=y/\y<=255:=λy hy=>hx y (zA (qr hy))
  generalize (b.drop a.toNat).take w.toNat=m at *
  rw[hlen]
  refine⟨ab,ab,ab,⟨0,0,⟨ab,ab,by simp[gX]⟩,aK⟩,?_⟩
  rintro j n ⟨j0,j1,rfl⟩
  refine bP (λhj=>?_) (λhj=>?_)
  .have ht:=Bm (l:=m) j0 ab
   obtain⟨x0,x1⟩:=hy _ (cA (xs:=m) j0 ab)
   have hb:=Uq (l:=m.take j.toNat) (by rw[dG];omega) (λy h=>hy y (qr h))
   refine⟨j0,hj,ab,j+1,_,⟨ab,ab,rfl⟩,ab,?_,rfl,rfl,aL ab ab,aN⟩
   rw[ht,Pq,N3 hb.1 ab x0 x1]
  .rw[fH ab];exact⟨rfl,rfl⟩
theorem Ez:aB 212 Sm.spec:=aF Tryz.func212 aC Y6 bF6
def Xu:Ct:=⟨[.val cI],[.val cI],λd=>[0<=d.1],λd=>((oc d.1,()),())⟩
def Yr:bp Xu.ps->bI:=(λd=>{loops:=(bt 1 (λS=>{ι:=Int,μ:=λi=>i.toNat,inv:=λi=>0<=i/\i<=9223372036854775807/\oc i=oc d.1,keep:=[],slots:=λi=>[(0,.int .i64 i)]}) bZ)})
theorem aq7:
 ∀(a:Int),ai (aq a)->0<=a->(∃(b:Int),ao b (aI b) (oc b=oc a)/\ai (a=b))/\ ∀(b:Int),ao b (aI b) (oc b=oc a)->au (av 65535 b) ((0:Int)<=(16:Int)/\ ∃(c:Int),ao c (aI c) (oc c=oc a)/\cu c b/\ai (ap (fy IntKind.i64 b 16+bits BinOp.and IntKind.i64 b 65535)=c)) (b=oc a):= by
  delta ap aq aI cu ao ai av
  rintro n ⟨⟨n0,n1⟩,-⟩ h
  refine⟨⟨n,⟨h,n1,rfl⟩,rfl,aN⟩,?_⟩
  rintro m ⟨m0,m1,m2⟩
  refine bP (λhm=>?_) (λhm=>?_)
  .have e:=C2 (n:=m) (k:=2) m0 ab
   have e2:(8:Int)*((2:Nat):Int)=16:=rfl
   rw[e2] at e
   rw[e,EU,aL ab ab]
   have e3:(256:Int)^2=65536:=rfl
   rw[e3]
   exact⟨ab,_,⟨ab,ab,by rw[az7 hm,m2]⟩,ab,rfl,aN⟩
  .rw[← m2,ae8 m0 ab]
theorem TS:aB 303 Xu.spec:=aF Tryz.func303 aC Yr aq7
theorem bB4{j:Int}(h0:0<=j)(h1:j<=9223372036854775807):bits .and .i64 j 1=j%2:=by
 obtain⟨m,rfl⟩:=sC h0
 have key:(BitVec.ofInt 64 (m:Int) &&& BitVec.ofInt 64 1).toNat=m%2:=by
  rw[BitVec.toNat_and,BitVec.toNat_ofInt,show (BitVec.ofInt 64 1).toNat=1 from by decide];have e1:((m:Int)%((2^64:Nat):Int)).toNat=m:=ab;rw[e1,nat_mask1]
 show IntKind.i64.wrap ((BitVec.ofInt 64 (m:Int) &&& BitVec.ofInt 64 1).toNat:Nat)=_
 rw[key,aL ab ab];omega
theorem Zk{n:Int}(h0:0<=n)(h1:n<=36028797018963967):gW .i64 n (IntKind.wrap .i64 (8*IntKind.wrap .i64 (1-1)))=n:=by
 show IntKind.i64.wrap (n*2^(min 0 64))=_
 rw[aL (by simp;omega) (by simp;omega)];simp
def XG:Ct:=⟨[.val (.sl bq)],[.val cI],λd=>[(d.1.length:Int)<=1099511627776],λd=>((oc (cU true d.1),()),())⟩
def bn9:bp XG.ps->bI:=(λd=>{loops:=(bt 3 (λS=>{ι:=Int×Int,qn:=eO,μ:=λi=>(d.1.length-i.1).toNat,inv:=λi=>0<=i.1/\i.1<=d.1.length/\i.2=cU true (d.1.take i.1.toNat)/\0<=i.2/\i.2<=65280*i.1,keep:=[0,6,7],slots:=λi=>[(3,.int .i64 i.2),(8,.int .i64 i.1)]}) bZ)})
def KO(a:Int)(b:ac)(c:Int):=bM a (ae b) (c=cU true (take a.toNat b)) (aD c (65280*a))
def qd(a:ac)(b c:Prop):=ai (aV a)->aG a->b/\c
theorem a02:
 ∀(a:ac),qd a (∃(b c:Int),KO b a c/\a=a/\0=c/\a=a/\aA (ae a) (0=b) True) (∀(b c:Int),KO b a c->fE b (ae a) (b<ae a) (0<=ap (8*ap (1 -bits BinOp.and IntKind.i64 b 1))/\ ∃(d e:Int),KO d a e/\aZ (ae a) d b/\a=a/\ap (c+gW IntKind.i64 (ap (af a b)) (ap (8*ap (1 -bits BinOp.and IntKind.i64 b 1))))=e/\a=a/\aA (ae a) (aY b d) True) (0<=c) (oc c=oc (cU true a))):= by
  delta af ae ap aV aG cH aA aZ cu ao fE aY ai aD bM av KO qd
  rintro l ⟨⟨-,hx⟩,-⟩ hl
  refine⟨⟨0,0,⟨ab,ab,by simp[cU],ab,ab⟩,aK⟩,?_⟩
  rintro j n ⟨j0,j1,rfl,n0,n1⟩
  refine bP (λhj=>?_) (λhj=>?_)
  .obtain⟨x0,x1⟩:=hx _ (cA j0 hj)
   have ht:=Bm j0 hj
   have hs:=Ea true (l.take j.toNat) [l.getD j.toNat default]
   rw[← ht] at hs
   generalize l.getD j.toNat default=x at *
   have hb:=bB4 j0 ab
   rw[hb]
   have hlen:(l.take j.toNat).length=j.toNat:=by rw[dG];omega
   rw[hlen] at hs
   have hv:0<=IntKind.wrap .i64 (8*IntKind.wrap .i64 (1-j%2))/\gW .i64 (IntKind.wrap .i64 x) (IntKind.wrap .i64 (8*IntKind.wrap .i64 (1-j%2)))=(if j%2=0 then x*256 else x):=by
    rw[aL (n:=x) ab ab]
    by_cases he:j%2=0
    .rw[he,aj rfl];exact⟨bo,LJ x0 ab⟩
    .rw[show j%2=1 from by omega,ah bo]
     exact⟨bo,Zk x0 ab⟩
   rw[hv.2]
   refine⟨j0,hj,hv.1,j+1,cU true (l.take (j+1).toNat),⟨ab,ab,rfl,?_,?_⟩,ab,rfl,?_,rfl,rfl,aL ab ab,aN⟩
   all_goals rw[hs]
   all_goals by_cases he:j%2=0
   all_goals first
    | rw[aj (show j.toNat%2=0 by omega)]
    | rw[ah (show ¬ j.toNat%2=0 by omega)]
   all_goals simp only[cU,he,if_true,if_false,Bool.not_true,GC]
   all_goals try omega
   all_goals rw[aL ab ab]
   all_goals omega
  .rw[fH ab] at n0 ⊢
   exact⟨n0,rfl⟩
theorem aF3:aB 269 XG.spec:=aF Tryz.func269 (am aC TS) bn9 a02
def bi3:Ct:=⟨[.val (.sl bq)],[.val cI],λd=>[(d.1.length:Int)<=1099511627776],λd=>((65535-oc (cU true d.1),()),())⟩
def m7(a:ac):=65535 -oc (cU true a)
def KS:=∀(a:ac),qd a (aG a) (ap (m7 a)=m7 a)
theorem bB8:
 KS:= by
 delta ae ap aV aG cH ai m7 aD qd KS
 rintro l ⟨⟨-,hx⟩,-⟩ hl
 have:=xT (DU true l hx).1
 exact⟨hl,aL ab ab⟩
theorem AE:aB 218 bi3.spec:=aF Tryz.func218 (am aC aF3) aS bB8
def SG:Ct:=⟨[.val (.sl bq),.val cI,.val cI],[.own 5 bq,.val cI],λd=>[(d.1.length:Int)<=1099511627776],λd=>((putB d.1 d.2.1 d.2.2.1,uc d.2.1 d.2.2.1,()),())⟩
def aA4:bp SG.ps->bI:=(λd=>{loops:=(bt 5 (λS=>{ι:=Int×ac,qn:=eO,μ:=λi=>(d.2.2.1-i.1).toNat,inv:=λi=>0<=i.1/\i.1<=d.2.2.1/\i.2=d.1++oT d.2.1 d.2.2.1.toNat i.1.toNat,keep:=[1,2],slots:=λi=>[(8,.own 524288 1),(9,.int .i64 (d.2.2.1-1-i.1))],names:=λi=>[(524288,.live (.row 5 bq i.2))]}) bZ)})
theorem ag8:
 ∀(a:ac)(b c:Int),aV a/\dI b c->aG a->JV c (av 7 c) (dw b) (ai (0<=ap (8*c))) (decide (gW IntKind.i64 1 (ap (8*c))<=b)) (lX (putB a b c) (uc b c)) (bv (a.length*1)/\(∃(d:Int) (e:ac),zS d c e a b/\aU b c (ap (c -1)=c -1 -d) (ai (a=e)))/\ ∀(d:Int)(e:ac),zS d c e a b->au (gD (c -1 -d)) (ao (ap (8*(c -1 -d))) (gk e (bN (IntKind.wrap IntKind.u8 (fy IntKind.i64 b (ap (8*(c -1 -d))))))) (∃(f:Int) (g:ac),zS f c g a b/\aZ c f d/\aU b c (ap (c -1 -d -1)=c -1 -f) (ai (e++bN (IntKind.wrap IntKind.u8 (fy IntKind.i64 b (ap (8*(c -1 -d)))))=g)))) (e=putB a b c/\0=uc b c)):= by
  delta ae ap aq aI bO aV aT aU aG cH aA bn aZ cu gk ao br fZ bv bN dI ai zS aD dw d7 JV av gD lX fM
  rintro b n w ⟨-,⟨n0,n1⟩,⟨w0,w1⟩,-⟩ hl
  rintro b1 rfl
  refine⟨aw,aw,?_⟩
  rintro b1 rfl
  refine⟨aw,aw,?_⟩
  rintro b1 rfl
  have hpre:(!(bif (bif decide (w<1) then true else decide (7<w)) then true else decide (n<0)))=true->1<=w/\w<=7/\0<=n:=by
   simp[gb];omega
  refine⟨aw,λh=>⟨λ_=>h,by have:=hpre h;rw[aL ab ab];omega,aN⟩,λh=>⟨λ_=>h,λ_=>h,aN⟩,aw,?_⟩
  refine ay (λhc=>?_) (λhc=>?_)
  .have hbad:rx n w:=by
    unfold rx
    by_cases h:1<=w/\w<=7
    .rw[Kg h.1 h.2] at hc
     simp[gb] at hc;omega
    .omega
   rw[putB,uc,aj hbad,aj hbad];exact⟨rfl,rfl⟩
  .have hw:1<=w/\w<=7/\0<=n:=hpre (by
    cases h:(bif (bif decide (w<1) then true else decide (7<w)) then true else decide (n<0)) with
    | false=>rfl
    | true=>rw[h] at hc;simp at hc)
   obtain⟨h1,h7,hn⟩:=hw
   rw[Kg h1 h7] at hc
   have hgood:¬ rx n w:=by
    unfold rx
    simp[gb] at hc;omega
   rw[putB,uc,ah hgood,ah hgood]
   refine⟨ab,⟨0,b,⟨ab,ab,by simp[oT]⟩,rfl,rfl,by rw[aL ab ab];omega,rfl,aN⟩,?_⟩
   rintro k ys ⟨k0,k1,rfl⟩
   refine bP (λhk=>?_) (λhk=>?_)
   .rw[aL (n:=8*(w-1-k)) ab ab]
    obtain⟨j,hj⟩:=sC (show 0<=w-1-k by omega)
    rw[hj,C2 hn ab,IntKind.wrap_u8']
    have hbl:=KV n w.toNat k.toNat
    refine⟨ab,by simp only[cL,gC,hbl];omega,k+1,_,⟨ab,ab,rfl⟩,ab,rfl,rfl,by rw[aL ab ab];omega,?_,aN⟩
    rw[show (k+1).toNat=k.toNat+1 from by omega,UD,je,show w.toNat-1-k.toNat=j from by omega]
   .rw[show k=w from by omega];exact⟨rfl,rfl⟩
theorem a80:aB 155 SG.spec:=aF Tryz.func155 aC aA4 ag8
def aD0:Ct:=⟨[.val (.sl bq),.val cI,.val cI],[.own 5 bq],λd=>[(d.1.length:Int)<=1099511627776],λd=>((putB d.1 d.2.1 d.2.2.1,()),())⟩
theorem bB5:
 ∀(a:ac)(b c:Int),aV a/\dI b c->aG a->aG a/\putB a b c=putB a b c:= by
  delta ae aq aI aV aG cH dI ai aD
  intro b n w _ h
  exact⟨h,rfl⟩
theorem BP:aB 78 aD0.spec:=aF Tryz.func78 (am aC a80) aS bB5
def UI:Ct:=⟨[.val (.sl bq),.val cI,.val cI],[.val cI,.val cI],λd=>[(d.1.length:Int)<=9223372036854775807],λd=>((dQ d.1 d.2.1 d.2.2.1,tO d.1 d.2.1 d.2.2.1,()),())⟩
def bp9:bp UI.ps->bI:=(λd=>{loops:=(bt 7 (λS=>{ι:=Int×Int,qn:=eO,μ:=λi=>(d.2.2.1-i.1).toNat,inv:=λi=>0<=i.1/\i.1<=d.2.2.1/\i.2=gX (((d.1.drop d.2.1.toNat).take d.2.2.1.toNat).take i.1.toNat),keep:=[0,1,2],slots:=λi=>[(8,.int .i64 i.2),(9,.int .i64 i.1)]}) bZ)})
def Em(a b:Bool)(c d:Prop):=∀(e:Bool),e=a->bO e/\fZ e/\fZ e/\br e/\au (bn e b) c d
theorem bo4:
 ∀(a:ac)(b c:Int),aV a/\dI b c->aI (ae a)->zZ (av c 1) (av 7 c) (dw b) (0=dQ a b c/\1=tO a b c) (Em (av (ae a) b) (av (ap (ae a -b)) c) (0=dQ a b c/\3=tO a b c) ((∃(d e:Int),Ae d c e b a/\a=a/\aU b c (0=e) (ai (0=d)))/\ ∀(d e:Int),Ae d c e b a->au (av d c) (ao 8 (0<=ap (b+d)) (ap (b+d)<ae a/\ ∃(f g:Int),Ae f c g b a/\aZ c f d/\a=a/\aU b c (bits BinOp.or IntKind.i64 (gW IntKind.i64 e 8) (ap (af a (ap (b+d))))=g) (ai (aY d f)))) (e=dQ a b c/\0=tO a b c))):= by
  delta af ae ap aq aI bO aV aT aU aA bn aZ cu ao br fZ nt dI Ae aY ai aD dw d7 av Em zZ jW
  rintro b a w ⟨⟨hl0,hx⟩,⟨a0,a1⟩,⟨w0,w1⟩,-⟩ hl
  rintro b1 rfl
  refine⟨aw,aw,?_⟩
  rintro b1 rfl
  refine⟨aw,aw,?_⟩
  unfold dQ tO
  refine ay (λhc=>?_) (λhc=>?_)
  .have h:w<1∨7<w∨a<0:=by simp[gb] at hc;omega
   rw[aj ab,aj h];exact⟨rfl,rfl⟩
  have h:¬ (w<1∨7<w∨a<0):=by simp[gb] at hc;omega
  rintro b1 rfl
  refine⟨aw,aw,aw,aw,?_⟩
  rw[aL (n:=(b.length:Int)-a) ab ab,ah h]
  refine ay (λhd=>?_) (λhd=>?_)
  .have hd:b.length<a∨b.length-a<w:=by simp[gb] at hd;omega
   rw[aj ab,aj ab];exact⟨rfl,rfl⟩
  have hd:¬ (b.length<a∨b.length-a<w):=by simp[gb] at hd;omega
  rw[ah ab,ah ab]
  have hlen:((b.drop a.toNat).take w.toNat).length=w.toNat:=by rw[dG,ib];omega
  have hy:∀ y∈(b.drop a.toNat).take w.toNat,0<=y/\y<=255:=λy hy=>hx y (zA (qr hy))
  have hget:∀ j:Int,0<=j->j<w->b.getD (a+j).toNat default=((b.drop a.toNat).take w.toNat).getD j.toNat default:=by
   intro j j0 j1
   rw[ct,ct,vw,aj ab,wH]
   congr 2;omega
  generalize (b.drop a.toNat).take w.toNat=m at *
  refine⟨⟨0,0,⟨ab,ab,by simp[gX]⟩,aK⟩,?_⟩
  rintro j n ⟨j0,j1,rfl⟩
  refine bP (λhj=>?_) (λhj=>?_)
  .have ht:=Bm (l:=m) j0 ab
   obtain⟨x0,x1⟩:=hy _ (cA (xs:=m) j0 ab)
   have hb:=Uq (l:=m.take j.toNat) (by rw[dG];omega) (λy h=>hy y (qr h))
   rw[aL (n:=a+j) ab ab,hget j j0 hj]
   refine⟨ab,ab,ab,j+1,_,⟨ab,ab,rfl⟩,ab,rfl,rfl,rfl,?_,aL ab ab,aN⟩
   rw[ht,Pq,N3 hb.1 ab x0 x1]
  .rw[fH ab];exact⟨rfl,rfl⟩
theorem aG9:aB 157 UI.spec:=aF Tryz.func157 aC bp9 bo4
def ZV:Ct:=⟨[.val (.sl bq),.val cI,.val cI],[.val cI],λd=>[(d.1.length:Int)<=9223372036854775807],λd=>((dQ d.1 d.2.1 d.2.2.1,()),())⟩
theorem aY3:
 ∀(a:ac)(b c:Int),aV a/\dI b c->aI (ae a)->aI (ae a)/\dQ a b c=dQ a b c:= by
  delta ae aq aI aV dI ai aD
  intro b n w _ h
  exact⟨h,rfl⟩
theorem by3:aB 80 ZV.spec:=aF Tryz.func80 (am aC aG9) aS aY3
def bk5:Ct:=⟨[.val cI],[.val .bool],λd=>[],λd=>((dL d.1,()),())⟩
def bw(a b:Bool):=bif a then b else false
def uG(a b c:Bool):=∀(d:Bool),d=a->(d->aT d)/\(d->d)/\bw d b=c
def wu(a:Int)(b c:Bool):=ft (aq a) (uG (gD a) b c)
def Dr:=∀(a:Int),wu a (decide (a<=65535)) (dL a)
theorem aK8:
 Dr:= by
 delta aq aI aT bw wu ai gD ft Dr uG
 rintro n - -
 (repeat (refine dq ?_;repeat refine dm ?_))
 unfold dL
 by_cases h:0<=n <;> simp[h]
theorem bS6:aB 222 bk5.spec:=aF Tryz.func222 aC aS aK8
def by0:Ct:=⟨[.val cI,.val cI],[.val cI],λd=>[],λd=>((if dL d.1&&dL d.2.1 then oc (d.1+d.2.1) else 0,()),())⟩
def uh(a b:Int):=if dL a&&dL b then oc (a+b) else (0:Int)
theorem bx0:
 ∀(a b:Int),dI a b->True->lw ( !dL a) ( !dL b) (0=uh a b) ((0:Int)<=(16:Int)/\ap (bits BinOp.and IntKind.i64 (ap (a+b)) 65535+fy IntKind.i64 (ap (a+b)) 16)=uh a b):= by
  delta ap aq aI bO aT bn cX br lw dI ai uh
  rintro a b - -
  (repeat (refine dq ?_;repeat refine dm ?_))
  refine ay (λhc=>?_) (λhc=>?_)
  .rw[ah]
   intro h;simp at h;simp[h] at hc
  .have hw:dL a=true/\dL b=true:=by simpa[gb] using hc
   rw[aj (by simp[hw])]
   have ha:0<=a/\a<=65535:=aX hw.1
   have hb:0<=b/\b<=65535:=aX hw.2
   rw[aL (n:=a+b) ab ab]
   have e:=C2 (n:=a+b) (k:=2) ab ab
   have e2:(8:Int)*((2:Nat):Int)=16:=rfl
   have e3:(256:Int)^2=65536:=rfl
   rw[e2,e3] at e
   rw[e,EU,aL ab ab]
   refine⟨ab,?_⟩
   unfold oc;split <;> omega
theorem Xa:aB 156 by0.spec:=aF Tryz.func156 (am aC bS6) aS bx0
def Ul:Ct:=⟨[.val (.sl bq)],[.val cI],λd=>[(d.1.length:Int)<=1099511627776],λd=>((oc (cU true d.1),()),())⟩
def bH4:bp Ul.ps->bI:=(λd=>{loops:=(bt 3 (λS=>{ι:=Int×Int,qn:=eO,μ:=λi=>(d.1.length+1-2*i.1).toNat,inv:=λi=>0<=i.1/\2*i.1<=d.1.length+1/\i.2=oc (cU true (d.1.take (2*i.1).toNat))/\0<=i.2/\i.2<=65535,keep:=[0],slots:=λi=>[(3,.int .i64 i.2),(4,.int .i64 (2*i.1))]}) bZ)})
def H6(a:Int)(b:ac)(c:Int):=ao a (2*a<=ae b+1) (c=oc (cU true (take (toNat (2*a)) b))/\aD c 65535)
def bu(a b:Int)(c d:Prop):=ao a (a<b) (c/\d)
def Mq(a:ac)(b c d:Int):=∃(e f:Int),H6 e a f/\aZ (ae a+1) (2*e) (2*b)/\a=a/\c=f/\ai (d=2*e)
theorem ax8:
 ∀(a:ac),qd a (∃(b c:Int),H6 b a c/\a=a/\0=c/\ai (0=2*b)) (∀(b c:Int),H6 b a c->au (av (2*b) (ae a)) (bu (2*b) (ae a) ((0:Int)<=(8:Int)) (au (av (ap (2*b+1)) (ae a)) (ao (ap (2*b+1)) (ap (2*b+1)<ae a) (Mq a b (uh c (ap (gW IntKind.i64 (ap (af a (2*b))) 8+ap (af a (ap (2*b+1)))))) (ap (2*b+2)))) (Mq a b (uh c (gW IntKind.i64 (ap (af a (2*b))) 8)) (ap (2*b+2))))) (c=oc (cU true a))):= by
  delta af ae ap aV aG cH aZ cu ao H6 ai aD bu av qd uh Mq
  rintro l ⟨⟨-,hx⟩,-⟩ hl
  refine⟨⟨0,0,⟨ab,ab,by simp[cU,oc],ab,ab⟩,aK⟩,?_⟩
  rintro k s ⟨k0,k1,rfl,s0,s1⟩
  have hr:=DU true (l.take (2*k).toNat) (λy h=>hx y (qr h))
  refine bP (λhk=>?_) (λhk=>?_)
  .obtain⟨x0,x1⟩:=hx _ (cA (xs:=l) (i:=2*k) ab hk)
   have ht:=Bm (l:=l) (j:=2*k) ab hk
   have hlen:(l.take (2*k).toNat).length%2=0:=by rw[dG];omega
   have hs:=Ea true (l.take (2*k).toNat)
   rw[aj hlen] at hs
   rw[aL (n:=2*k+1) ab ab,aL (n:=l.getD (2*k).toNat default) ab ab,LJ x0 ab,aL (n:=2*k+2) ab ab]
   refine⟨ab,hk,ab,bP (λhc=>?_) (λhc=>?_)⟩
   .obtain⟨y0,y1⟩:=hx _ (cA (xs:=l) (i:=2*k+1) ab hc)
    have ht2:=Bm (l:=l) (j:=2*k+1) ab hc
    rw[ht,je] at ht2
    rw[aL (n:=l.getD (2*k+1).toNat default) ab ab,aL (n:=l.getD (2*k).toNat default*256+l.getD (2*k+1).toNat default) ab ab]
    rw[aj (by simp only[dL,fe,pD];omega),Xd hr.1 ab]
    have he:cU true (l.take (2*(k+1)).toNat)=cU true (l.take (2*k).toNat)+(l.getD (2*k).toNat default*256+l.getD (2*k+1).toNat default):=by
     rw[show 2*(k+1)=2*k+1+1 from by omega,ht2,hs]
     simp[cU]
    refine⟨ab,hc,k+1,_,⟨ab,ab,rfl,?_,?_⟩,ab,rfl,by rw[he],ab,aN⟩
    .rw[he];exact (xT ab).1
    .rw[he];exact (xT ab).2
   .rw[aj (by simp only[dL,fe,pD];omega),Xd hr.1 ab]
    have he:cU true (l.take (2*(k+1)).toNat)=cU true (l.take (2*k).toNat)+l.getD (2*k).toNat default*256:=by
     rw[show l.take (2*(k+1)).toNat=l.take (2*k+1).toNat from by rw[fH ab,fH ab],ht,hs]
     simp[cU]
    refine⟨k+1,_,⟨ab,ab,rfl,?_,?_⟩,ab,rfl,by rw[he],ab,aN⟩
    .rw[he];exact (xT ab).1
    .rw[he];exact (xT ab).2
  .rw[fH ab]
theorem ae9:aB 221 Ul.spec:=aF Tryz.func221 (am aC Xa) bH4 ax8
def ah1:Ct:=⟨[.val (.sl bq)],[.val cI],λd=>[(d.1.length:Int)<=1099511627776],λd=>((65535-oc (cU true d.1),()),())⟩
theorem YF:
 KS:= by
 delta ae ap aV aG cH ai m7 aD qd KS
 rintro l ⟨⟨-,hx⟩,-⟩ hl
 have:=xT (DU true l hx).1
 exact⟨hl,aL ab ab⟩
theorem NO:aB 152 ah1.spec:=aF Tryz.func152 (am aC ae9) aS YF
abbrev Pn:CT := .pair .bool (.pair cI (.pair cI (.sl bq)))
abbrev XE:CT := .pair cI (.pair cI (.sl bq))
abbrev Ol:CT := .pair cI (.pair cI (.sl bq))
abbrev D1:CT := .pair cI (.pair cI (.pair cI (.pair cI (.pair cI (.pair cI (.sl bq))))))
abbrev qk:Type:=Bool×Int×Int×ac
abbrev gJ:Type:=Int×Int×ac
abbrev uu:Type:=Int×Int×ac
abbrev mI:Type:=Int×Int×Int×Int×Int×Int×ac
def fL(lim:Int)(l:ac):Bool:=l.all λn=>decide (0<=n/\n<=lim)
def w2(n:Int):ac:=[n/256%256,n%256]
def w4(n:Int):ac:=[n/16777216%256,n/65536%256,n/256%256,n%256]
def dM(b:ac):Int:=65535-oc (cU true b)
def de(b:ac)(at':Nat)(n:Int):ac:=(b.set at' (n/256%256)).set (at'+1) (n%256)
def aR(b:ac)(at':Nat):Int:=gX ((b.drop at').take 2)
def ZI:Ct:=⟨[.val cI,.box 3 cI],[.val .bool],λ_=>[],λd=>((decide (d.1<0∨d.2.1<d.1),()),(d.2.1,()))⟩
theorem br3:
 ∀(a b:Int),dI a b->True-> ∀(c:Bool),c=dw a->fZ c/\br c/\bn c (av b a)=decide (a<0∨b<a)/\b=b:= by
  delta aq aI aT bn br fZ dI ai dw d7 av
  simp_all
theorem aZ1:aB 300 ZI.spec:=aF Tryz.func300 aC aS br3
def XH:Cn:=⟨[.val (.sl cI),.fn 300 1,.box 3 cI],[.val cI],λ_=>[],λd y=>y.2.1=d.2.2.1 ∧ -1<=y.1.1/\(y.1.1 = -1↔fL d.2.2.1 d.1=true),λd h=>⟨((if fL d.2.2.1 d.1=true then -1 else 0,()),(d.2.2.1,())),rfl,by by_cases h:fL d.2.2.1 d.1=true <;> simp[h]⟩⟩
def bR1:bp XH.ps->bI:=(λd=>{loops:=(bt 2 (λS=>{ι:=Int,μ:=λi=>(d.1.length-i).toNat,inv:=λi=>0<=i/\i<=d.1.length/\fL d.2.2.1 (d.1.take i.toNat)=true,keep:=[0,1,6,7],slots:=λi=>[(8,.int .i64 i)],keepN:=[1048576]}) bZ)})
def Jn(a:Int)(b:ac)(c:Int):=ao a (a<=ae b) (fL c (take a.toNat b))
theorem bb5:
 ∀(a:ac)(b:Int),cB a/\True/\ai (aq b)->True->(∃(c:Int),Jn c a b/\a=a/\a=a/\aA (ae a) (0=c) (ai (b=b)))/\ ∀(c:Int),Jn c a b->au (av c (ae a)) (fw c (ae a) (decide (af a c<0∨b<af a c)) (aA b ((-1)<=c) (c=(-1)↔fL b a)) (∃(d:Int),Jn d a b/\aZ (ae a) d c/\a=a/\a=a/\aA (ae a) (aY c d) (ai (b=b)))) (aA b ((-1:Int)<=(-1:Int)) ((-1:Int)=(-1:Int)↔fL b a)):= by
  delta af ae ap aq aI cB aA aZ cu ao aY ai av fw Jn
  rintro l lim ⟨⟨hl,-⟩,-⟩ -
  simp only[maxLen] at hl
  refine⟨⟨0,⟨ab,ab,by simp[fL]⟩,aK⟩,?_⟩
  rintro j ⟨b,j1,c⟩
  refine bP (λa=>?_) (λa=>?_)
  .have ht:=Bm b a
   have hm:=cA b a
   generalize l.getD j.toNat default=x at *
   refine⟨b,a,bP (λhb=>?_) (λhb=>?_)⟩
   .refine⟨rfl,ab,⟨λh=>ab,λh=>?_⟩⟩
    unfold fL at h
    grind
   .refine⟨j+1,⟨ab,ab,?_⟩,ab,aK⟩
    unfold fL at c ⊢
    simp_all
  .rw[fH ab] at c
   simp[c]
theorem aD7:aB 325 XH.spec:=nB Tryz.func325 (am aC aZ1) bR1 bb5
def bq1:Ct:=⟨[.val (.sl cI),.fn 300 1,.box 3 cI],[.val .bool],λ_=>[],λd=>((!fL d.2.2.1 d.1,()),(d.2.2.1,()))⟩
theorem ab8:
 ∀(a:ac)(b:Int),cB a/\True/\ai (aq b)->True-> ∀(c d:Int),d=b/\(-1)<=c/\(c=(-1)↔fL b a)->gD c=( !fL b a)/\d=b:= by
  delta aq aI cB ai gD
  grind
theorem aA2:aB 299 bq1.spec:=aF Tryz.func299 (am aC aD7) aS ab8
def Zn:Ct:=⟨[.val cI,.val (.sl cI)],[.val .bool],λ_=>[],λd=>((fL d.1 d.2.1,()),())⟩
theorem aH7:
 ∀(a:Int)(b:ac),aq a/\ai (cB b)->True->( !( !fL a b))=fL a b:= by
  delta aq aI cB ai
  simp
theorem FQ:aB 262 Zn.spec:=aF Tryz.func262 (am aC aA2) aS aH7
theorem bp7(l:ac):(l.flatMap w2).length=2*l.length:=by
 induction l with
 | nil=>rfl
 | cons x l ih=>rw[List.flatMap_cons,cL,ih,dP];simp[w2];omega
theorem aw4(n:Int):oT n 2 2=w2 n:=by
 simp[oT,w2,range,List.range.loop]
theorem aq6(n:Int):oT n 4 4=w4 n:=by
 simp[oT,w4,range,List.range.loop]
theorem af4(n:Int):oT n 1 1=[n%256]:=by
 simp[oT,range,List.range.loop]
theorem lI{b:ac}{n:Int}(h0:0<=n)(h1:n<=65535):putB b n 2=b++w2 n:=by
 rw[putB,ah,← aw4]
 .rfl
 .unfold rx;grind
theorem zu{b:ac}{n:Int}(h0:0<=n)(h1:n<=4294967295):putB b n 4=b++w4 n:=by
 rw[putB,ah,← aq6]
 .rfl
 .unfold rx;grind
theorem wK{b:ac}{n:Int}(h0:0<=n)(h1:n<=255):putB b n 1=b++[n]:=by
 rw[putB,ah,show oT n (1:Int).toNat (1:Int).toNat=[n] from by
  have:=af4 n;rw[Int.emod_eq_of_lt h0 ab] at this;exact this]
 unfold rx
 grind
def U7:Ct:=⟨[.nils,.val (.sl cI)],[.own 5 bq],λd=>[fL 65535 d.2.1=true,(d.2.1.length:Int)<=1073741824],λd=>((d.2.1.flatMap w2,()),())⟩
def ba3:bp U7.ps->bI:=(λd=>{loops:=(bt 2 (λS=>{ι:=Int×ac,qn:=eO,μ:=λi=>(d.2.1.length-i.1).toNat,inv:=λi=>0<=i.1/\i.1<=d.2.1.length/\i.2=(d.2.1.take i.1.toNat).flatMap w2,keep:=[7,8],slots:=λi=>[(0,.own 524288 1),(9,.int .i64 i.1)],names:=λi=>[(524288,.live (.row 5 bq i.2))]}) bZ)})
def dj(a:ac):=ae a<=1073741824
def J2(a:Int)(b c:ac):=ao a (a<=ae b) (c=List.flatMap w2 (take a.toNat b))
theorem aV1:
 ∀(a:ac),True/\ai (cB a)->fL 65535 a/\dj a->(∃(b:Int) (c:ac),J2 b a c/\a=a/\aA (ae a) (0=b) (ai (c=[])))/\ ∀(b:Int)(c:ac),J2 b a c->au (av b (ae a)) (bu b (ae a) (aG c) (∃(d:Int) (e:ac),J2 d a e/\aZ (ae a) d b/\a=a/\aA (ae a) (aY b d) (ai (putB c (af a b) 2=e)))) (c=List.flatMap w2 a):= by
  delta af ae ap aq aI cB aG cH aA aZ cu ao dj aY ai bu av J2
  rintro l ⟨-,⟨hl,-⟩,-⟩⟨ha,hk⟩
  refine⟨⟨0,[],⟨ab,ab,aw⟩,aK⟩,?_⟩
  rintro j ys ⟨b,j1,rfl⟩
  refine bP (λa=>?_) (λa=>?_)
  .have ht:=Bm b a
   have hm:=cA b a
   have hlen:((l.take j.toNat).flatMap w2).length=2*j.toNat:=by
    rw[bp7,dG];omega
   generalize l.getD j.toNat default=x at *
   have c:=aX (List.all_eq_true.1 ha x hm)
   refine⟨b,a,ab,j+1,_,⟨ab,ab,rfl⟩,ab,rfl,rfl,aL ab ab,?_,aN⟩
   rw[ht,List.flatMap_append,lI c.1 c.2];simp
  .rw[fH ab]
theorem Gb:aB 263 U7.spec:=aF Tryz.func263 (am aC L3) ba3 aV1
def bg1:Ct:=⟨[.val (.sl bq),.val cI],[.val cI],λd=>[0<=d.2.1,d.2.1+2<=d.1.length,(d.1.length:Int)<=1099511627776],λd=>((aR d.1 d.2.1.toNat,()),())⟩
theorem ar9:
 ∀(a:ac)(b:Int),aV a/\ai (aq b)->ao b (b+2<=ae a) (aG a)->aI (ae a)/\dQ a b 2=aR a b.toNat:= by
  delta ae aq aI aV aG cH ao ai aD
  rintro b a-⟨h0,h1,h2⟩
  refine⟨ab,?_⟩
  rw[dQ,ah ab];rfl
theorem Gk:aB 280 bg1.spec:=aF Tryz.func280 (am aC Ez) aS ar9
theorem J0{n:Int}(h0:0<=n):fy .i64 n 8=n/256:=by
 have e:=C2 (n:=n) (k:=1) h0 (by omega)
 exact e
def aP1:Ct:=⟨[.val (.sl bq),.val cI,.val cI],[.own 5 bq],λd=>[0<=d.2.1,d.2.1+2<=d.1.length,(d.1.length:Int)<=1099511627776,0<=d.2.2.1,d.2.2.1<=65535],λd=>((de d.1 d.2.1.toNat d.2.2.1,()),())⟩
def KK(a:Int)(b:ac)(c:Int):=ao 8 (0<=a) (a<ae b/\ao (ap (a+1)) (ap (a+1)<ae (set b a.toNat (IntKind.wrap IntKind.u8 (fy IntKind.i64 c 8)))) (set (set b a.toNat (IntKind.wrap IntKind.u8 (fy IntKind.i64 c 8))) (toNat (ap (a+1))) (IntKind.wrap IntKind.u8 c)=de b a.toNat c))
def BS(a:Int)(b:ac)(c:Int):=ao a (a+2<=ae b) (aG b/\aD c 65535)
theorem bM0:
 ∀(a:ac)(b c:Int),aV a/\dI b c->BS b a c->aG a/\KK b a c:= by
  delta ae ap aq aI aV aG cH ao dI ai KK aD BS
  rintro b a n-⟨h0,h1,h2,n0,n1⟩
  rw[aL ab ab,J0 n0,IntKind.wrap_u8',IntKind.wrap_u8',fF]
  refine⟨ab,ab,ab,ab,ab,ab,?_⟩
  rw[de,show (a+1).toNat=a.toNat+1 from by omega]
theorem Uu:aB 301 aP1.spec:=aF Tryz.func301 (am aC na) aS bM0
def bR0:Ct:=⟨[.val (.sl bq),.val cI,.val cI],[.own 5 bq,.val cI],λd=>[0<=d.2.1,d.2.1+2<=d.1.length,(d.1.length:Int)<=1099511627776,0<=d.2.2.1,d.2.2.1<=65535],λd=>((if (1480:Int)<d.1.length then [] else de d.1 d.2.1.toNat d.2.2.1,if (1480:Int)<d.1.length then 5 else 0,()),())⟩
def xk(a:ac):=if 1480<ae a then (5:Int) else (0:Int)
def vZ(a:Int)(b:ac):=if 1480<a then ([]:ac) else b
theorem bw1:
 ∀(a:ac)(b c:Int),aV a/\dI b c->BS b a c->au (av 1480 (ae a)) (fM (vZ (ae a) (de a b.toNat c))/\5=xk a) (ao b (b+2<=ae a) (aG a/\bM c 65535 (de a b.toNat c=vZ (ae a) (de a b.toNat c)) (0=xk a))):= by
  delta ae aq aI aV aG cH ao dI ai aD bM av xk fM vZ BS
  rintro b a n-⟨h0,h1,h2,n0,n1⟩
  refine bP (λhb=>?_) (λhb=>?_)
  .simp_all
  .grind
theorem J7:aB 264 bR0.spec:=aF Tryz.func264 (am aC Uu) aS bw1
def aK6:Ct:=⟨[.val (.sl bq),.val cI],[.own 5 bq,.val cI],λd=>[0<=d.2.1,d.2.1+2<=d.1.length,(d.1.length:Int)<=1099511627776],λd=>((de d.1 d.2.1.toNat 0,aR d.1 d.2.1.toNat,()),())⟩
theorem bC6:
 ∀(a:ac)(b:Int),aV a/\ai (aq b)->ao b (b+2<=ae a) (aG a)->ao b (b+2<=ae a) (aG a/\ao 0 ((0:Int)<=(65535:Int)) (ao b (b+2<=ae a) (aG a/\de a b.toNat 0=de a b.toNat 0/\aR a b.toNat=aR a b.toNat))):= by
  delta ae aq aI aV aG cH ao ai aD
  simp_all
theorem Ig:aB 279 aK6.spec:=aF Tryz.func279 (am (am aC Uu) Gk) aS bC6
def aW1:Ct:=⟨[.val (.sl bq),.val cI,.val cI],[.own 5 bq],λd=>[0<=d.2.1,d.2.1+2<=d.1.length,(d.1.length:Int)<=1099511627776,0<=d.2.2.1,d.2.2.1<=65535],λd=>((de d.1 d.2.1.toNat d.2.2.1,()),())⟩
theorem aQ7:
 ∀(a:ac)(b c:Int),aV a/\dI b c->BS b a c->bv (a.length*1)/\KK b a c:= by
  delta ae ap aq aI aV aG cH ao bv dI ai KK aD BS
  rintro b a n-⟨h0,h1,h2,n0,n1⟩
  rw[aL ab ab,J0 n0,IntKind.wrap_u8',IntKind.wrap_u8',fF]
  refine⟨ab,ab,ab,ab,ab,ab,?_⟩
  rw[de,show (a+1).toNat=a.toNat+1 from by omega]
theorem Mk:aB 154 aW1.spec:=aF Tryz.func154 aC aS aQ7
def aR9:Ct:=⟨[.val cI],[.val .bool],λd=>[],λd=>((dL d.1,()),())⟩
theorem ay1:
 Dr:= by
 delta aq aI aT bw wu ai gD ft Dr uG
 unfold dL
 simp_all
theorem MM:aB 153 aR9.spec:=aF Tryz.func153 aC aS ay1
def aT8:Ct:=⟨[.val cI],[.val .bool],λd=>[],λd=>((decide (0<=d.1/\d.1<=255),()),())⟩
theorem aE7:
 ∀(a:Int),wu a (decide (a<=255)) (decide (0<=a/\a<=255)):= by
  delta aq aI aT bw wu ai gD ft uG
  simp_all
theorem Sw:aB 158 aT8.spec:=aF Tryz.func158 aC aS aE7
def bA3:Ct:=⟨[.val cI],[.val .bool],λd=>[],λd=>((decide (0<=d.1/\d.1<=4294967295),()),())⟩
def FZ(a:Int):=decide (0<=a/\a<=4294967295)
theorem bc2:
 ∀(a:Int),wu a (av a 4294967296) (FZ a):= by
  delta aq aI aT bw wu ai av gD ft uG FZ
  grind
theorem aU0:aB 159 bA3.spec:=aF Tryz.func159 aC aS bc2
def kL(e:qk):Int:=if ¬ (dL e.2.1=true/\dL e.2.2.1=true) then 1 else if (1472:Int)<e.2.2.2.length then 5 else 0
def dB(e:qk):ac:=[if e.1 then 0 else 8,0,0,0]++(w2 e.2.1++(w2 e.2.2.1++e.2.2.2))
def fP(e:qk):ac:=if kL e=0 then de (dB e) 2 (dM (dB e)) else []
def lf(n:gJ):Int:=if ¬ ((n.1=3∨n.1=11)/\0<=n.2.1/\n.2.1<=255) then 1 else if (n.2.2.length:Int)<28 then 3 else if (1472:Int)<n.2.2.length then 5 else 0
def pQ(n:gJ):ac:=[n.1,n.2.1,0,0,0,0,0,0]++n.2.2
def jL(n:gJ):ac:=if lf n=0 then de (pQ n) 2 (dM (pQ n)) else []
def Aq(src dst proto:Int)(b:ac):ac:=w4 src++(w4 dst++(w2 proto++(w2 b.length++b)))
def f6(src dst proto:Int)(b:ac):Int:=if ¬ (0<=proto/\proto<=255)∨(65535:Int)<b.length then 0 else dM (Aq src dst proto b)
def lh(src dst:Int)(b:ac):Int:=if f6 src dst 17 b=0 then 65535 else f6 src dst 17 b
def mF(u:uu):Int:=if ¬ (dL u.1=true/\dL u.2.1=true) then 1 else if (1472:Int)<u.2.2.length then 5 else 0
def fO(u:uu):ac:=w2 u.1++(w2 u.2.1++(w2 (8+u.2.2.length)++([0,0]++u.2.2)))
def kZ(src dst:Int)(u:uu):ac:=if mF u=0 then de (fO u) 6 (lh src dst (fO u)) else []
def rJ(s:mI):Prop:=dL s.1=true/\dL s.2.1=true/\(0<=s.2.2.1/\s.2.2.1<=4294967295)/\(0<=s.2.2.2.1/\s.2.2.2.1<=4294967295)/\(0<=s.2.2.2.2.1/\s.2.2.2.2.1<=255)/\dL s.2.2.2.2.2.1=true
instance (s:mI):Decidable (rJ s):=by unfold rJ;infer_instance
def mO(s:mI):Int:=if ¬ rJ s then 1 else if (1460:Int)<s.2.2.2.2.2.2.length then 5 else 0
def mT(s:mI):ac:=w2 s.1++(w2 s.2.1++(w4 s.2.2.1++(w4 s.2.2.2.1++([80,s.2.2.2.2.1]++(w2 s.2.2.2.2.2.1++([0,0,0,0]++s.2.2.2.2.2.2))))))
def gc(src dst:Int)(s:mI):ac:=if mO s=0 then de (mT s) 16 (f6 src dst 6 (mT s)) else []
def bytes(l:ac):Prop:=∀ x∈l,0<=x/\x<=255
theorem jN{a b:ac}(ha:bytes a)(hb:bytes b):bytes (a++b):=λx h=>(fC.1 h).elim (ha x) (hb x)
theorem ou(n:Int):bytes (w2 n):=by intro x h;simp[w2] at h;omega
theorem DV(n:Int):bytes (w4 n):=by intro x h;simp[w4] at h;omega
theorem pd{a:Int}{l:ac}(h0:0<=a)(h1:a<=255)(h:bytes l):bytes (a::l):=by
 intro x b
 rcases eZ.1 b with rfl|b
 .exact⟨h0,h1⟩
 .exact h x b
theorem qw:bytes []:=by intro x h;cases h
theorem rX{b:ac}(h:bytes b):0<=dM b/\dM b<=65535:=by
 have:=xT (DU true b h).1
 unfold dM;omega
theorem Yx{p data B b:ac}{a c d:Int}(hp:p++data=B)(ha:0<=a)(h8:a+2<=p.length)(hp1:p.length<=100)(hd:(data.length:Int)<=1073741824)(c0:0<=c)(c1:c<=65535)
  (he:b=if (1480:Int)<B.length then [] else de B a.toNat c) (hr:d=if (1480:Int)<B.length then 5 else 0) :
  0<=a/\a+2<=((p++data).length:Int)/\((p++data).length:Int)<=1099511627776/\0<=c/\c<=65535/\(if (1480:Int)<((p++data).length:Int) then [] else de (p++data) a.toNat c)=b/\(if (1480:Int)<((p++data).length:Int) then (5:Int) else 0)=d:=by
 grind
theorem qx{p data:ac}(hp1:p.length<=100)(hd:(data.length:Int)<=1073741824):(p.length+data.length)*1<=140737488355328/\((p++data).length:Int)<=1099511627776:=by
 grind
theorem BU(lim a b:Int):fL lim [a,b]=true↔(0<=a/\a<=lim)/\0<=b/\b<=lim:=by simp[fL]
theorem B5(lim a:Int):fL lim [a]=true↔0<=a/\a<=lim:=by simp[fL]
theorem iQ(n:Int):dL n=true↔0<=n/\n<=65535:=by simp[dL]
theorem JY(e:qk):(dB e).length=8+e.2.2.2.length:=by simp[dB,w2];omega
theorem Uy{e:qk}(h:¬ (dL e.2.1=true/\dL e.2.2.1=true)):[]=fP e/\1=kL e:=by
 have:kL e=1:=by rw[kL,aj h]
 rw[fP,this];simp
theorem Qf{e:qk}(h:dL e.2.1=true/\dL e.2.2.1=true):(fP e=if (1480:Int)<(dB e).length then [] else de (dB e) 2 (dM (dB e)))/\kL e=if (1480:Int)<(dB e).length then 5 else 0:=by
 have hl:=JY e
 have he:kL e=if (1480:Int)<(dB e).length then 5 else 0:=by
  rw[kL,ah (λk=>k h)];grind
 rw[fP,he]
 grind
theorem BF{e:qk}(h:bytes e.2.2.2):bytes (dB e):=by
 refine jN (pd ?_ ?_ (pd ab ab (pd ab ab (pd ab ab qw)))) (jN (ou _) (jN (ou _) h))
 .omega
 .omega
theorem Qo(n:Int)(r:ac):w2 (n/65536)++(w2 (n%65536)++r)=w4 n++r:=by
 unfold w2 w4
 have e1:n/65536/256%256=n/16777216%256:=ab
 grind
theorem Kn{t k:Int}(t0:0<=t)(t1:t<=255)(k0:0<=k)(k1:k<=255):w2 (t*256+k)=[t,k]:=by
 unfold w2
 grind
theorem VJ{n x:Int}(h0:0<=n)(h1:n<=65535)(h2:0<=x)(h3:x<=255):bits .or .i64 (gW .i64 n 8) x=n*256+x:=by
 have:=N3 h0 ab h2 h3
 rwa [aL ab ab] at this
theorem QM{n:Int}(h0:0<=n):fy .i64 n 16=n/65536:=by
 have e:=C2 (n:=n) (k:=2) h0 (by omega)
 exact e
theorem Uz{n:Int}(h0:0<=n)(h1:n<=4294967295):IntKind.wrap .i64 (fy .u32 n 16)=n/65536:=by
 have:fy .u32 n 16=n/65536:=by
  unfold fy;rw[Fm _ bo];rfl
 rw[this,aL ab ab]
theorem QG{n:Int}(h0:0<=n)(h1:n<=4294967295):IntKind.wrap .i64 (bits .and .u32 n 65535)=n%65536:=by
 rw[u32_and n 65535 h0 ab bo bo]
 have:(n.toNat &&& toNat 65535)=n.toNat%65536:=Es n.toNat 16
 rw[this,aL ab ab];omega
theorem Mu(e:gJ):(pQ e).length=8+e.2.2.length:=by simp[pQ];omega
theorem SD{e:gJ}(h:¬ ((e.1=3∨e.1=11)/\0<=e.2.1/\e.2.1<=255)):[]=jL e/\1=lf e:=by
 have:lf e=1:=by rw[lf,aj h]
 rw[jL,this];simp
theorem bj7{e:gJ}(h:(e.1=3∨e.1=11)/\0<=e.2.1/\e.2.1<=255)(h2:(e.2.2.length:Int)<28):[]=jL e/\3=lf e:=by
 have:lf e=3:=by rw[lf,ah (λk=>k h),aj h2]
 rw[jL,this];simp
theorem bG5{e:gJ}(h:(e.1=3∨e.1=11)/\0<=e.2.1/\e.2.1<=255)(h2:¬ (e.2.2.length:Int)<28):(jL e=if (1480:Int)<(pQ e).length then [] else de (pQ e) 2 (dM (pQ e)))/\lf e=if (1480:Int)<(pQ e).length then 5 else 0:=by
 have hl:=Mu e
 have he:lf e=if (1480:Int)<(pQ e).length then 5 else 0:=by
  rw[lf,ah (λk=>k h),ah h2];grind
 rw[jL,he]
 grind
theorem LY{e:gJ}(h:(e.1=3∨e.1=11)/\0<=e.2.1/\e.2.1<=255)(hd:bytes e.2.2):bytes (pQ e):=by
 refine jN (pd ab ab (pd h.2.1 h.2.2 ?_)) hd
 intro x hx;simp at hx;omega
theorem OL(e:uu):(fO e).length=8+e.2.2.length:=by simp[fO,w2];omega
theorem Ua{a b:Int}{e:uu}(h:¬ (dL e.1=true/\dL e.2.1=true)):[]=kZ a b e/\1=mF e:=by
 have:mF e=1:=by rw[mF,aj h]
 rw[kZ,this];simp
theorem UT{a b:Int}{e:uu}(h:dL e.1=true/\dL e.2.1=true):(kZ a b e=if (1480:Int)<(fO e).length then [] else de (fO e) 6 (lh a b (fO e)))/\mF e=if (1480:Int)<(fO e).length then 5 else 0:=by
 have hl:=OL e
 have he:mF e=if (1480:Int)<(fO e).length then 5 else 0:=by
  rw[mF,ah (λk=>k h)];grind
 rw[kZ,he]
 grind
theorem Gq{e:uu}(h:bytes e.2.2):bytes (fO e) :=
 jN (ou _) (jN (ou _) (jN (ou _) (jN (pd ab ab (pd ab ab qw)) h)))
theorem ET(e:mI):(mT e).length=20+e.2.2.2.2.2.2.length:=by simp[mT,w2,w4];omega
theorem Kl{a b:Int}{e:mI}(h:¬ rJ e):[]=gc a b e/\1=mO e:=by
 have:mO e=1:=by rw[mO,aj h]
 rw[gc,this];simp
theorem U8{a b:Int}{e:mI}(h:rJ e):(gc a b e=if (1480:Int)<(mT e).length then [] else de (mT e) 16 (f6 a b 6 (mT e)))/\mO e=if (1480:Int)<(mT e).length then 5 else 0:=by
 have hl:=ET e
 have he:mO e=if (1480:Int)<(mT e).length then 5 else 0:=by
  rw[mO,ah (λk=>k h)];grind
 rw[gc,he]
 grind
theorem CZ{e:mI}(h:rJ e)(hd:bytes e.2.2.2.2.2.2):bytes (mT e):=by
 obtain⟨-,-,-,-,a,-⟩:=h
 refine jN (ou _) (jN (ou _) (jN (DV _) (jN (DV _) (jN (pd ab ab (pd a.1 a.2 qw)) (jN (ou _) (jN ?_ hd))))))
 intro x hx;simp at hx;omega
theorem a37{a b p:Int}{l:ac}(h:bytes l):bytes (Aq a b p l):=jN (DV _) (jN (DV _) (jN (ou _) (jN (ou _) h)))
theorem B6{a b p:Int}{l:ac}(h:bytes l):0<=f6 a b p l/\f6 a b p l<=65535:=by
 unfold f6;split
 .omega
 .exact rX (a37 h)
theorem Pl{a b:Int}{l:ac}(h:bytes l):0<=lh a b l/\lh a b l<=65535:=by
 have:=B6 (a:=a) (b:=b) (p:=17) h
 unfold lh;split <;> omega
theorem aT0{err n:Int}(h:err=if (1480:Int)<n then 5 else 0)(hn:¬ (1480:Int)<n):0=err:=by rw[h,ah hn]
def aT3:Ct:=⟨[.agg Pn],[.own 5 bq,.val cI],λd=>[(d.1.2.2.2.length:Int)<=1073741824],λd=>((fP d.1,kL d.1,()),())⟩
def Gf(a b c:ac)(d:Int)(e:Nat)(f:ac)(g:Int):=ao 8 (fL 65535 a) (dj a/\ ∀(h:ac),h=b->gk h c/\aG (h++c)/\ ∀(i:Int),i=m7 (h++c)->ao 2 (d<=ae (h++c)) (aG (h++c)/\bM i 65535 (vZ (ae (h++c)) (de (h++c) e i)=f) (xk (h++c)=g)))
theorem ab2:
 ∀(a:Bool)(b c:Int)(d:ac),ai (True/\aq b/\aq c/\aV d)->dj d->au ( !fL 65535 (b::bN c)) (lX (fP (a,b,c,d)) (kL (a,b,c,d))) (au a (Gf (gW IntKind.i64 0 8::0::b::bN c) (List.flatMap w2 (gW IntKind.i64 0 8::0::b::bN c)) d (2+2) (toNat 2) (fP (a,b,c,d)) (kL (a,b,c,d))) (Gf (gW IntKind.i64 8 8::0::b::bN c) (List.flatMap w2 (gW IntKind.i64 8 8::0::b::bN c)) d (2+2) (toNat 2) (fP (a,b,c,d)) (kL (a,b,c,d)))):= by
  delta ae aq aI aV aG cH gk ao bv dj Gf bN ai m7 aD bM lX xk fM vZ
  rintro r i q data ⟨⟨-,-,-,-,hd⟩,-⟩ hl
  refine ay (λh=>?_) (λh=>?_)
  .apply Uy
   simp only[pF,← Bool.not_eq_true,BU] at h
   simp only[iQ];exact h
  have f:dL i=true/\dL q=true:=by
   simp only[zR,BU] at h
   simp only[iQ];exact h
  have hw':=f
  simp only[iQ] at hw'
  obtain⟨e1,e2⟩:=Qf (e:=(r,i,q,data)) f
  have hB:=rX (BF (e:=(r,i,q,data)) hd)
  cases r with
  | true =>
   refine⟨ab,by rw[show gW .i64 0 8=0 from by decide];simp[fL];omega,aw,?_⟩
   intro p a
   have b:p.length=8:=by rw[a];simp[w2]
   have d:p++data=dB (true,i,q,data):=by
    rw[a,show gW .i64 0 8=0 from by decide];simp[w2,dB]
   refine⟨(qx ab hl).1,(qx ab hl).2,?_⟩
   intro c hc
   have hc:c=dM (dB (true,i,q,data)):=by rw[hc,d];rfl
   grind
  | false =>
   refine⟨ab,by rw[show gW .i64 8 8=2048 from by decide];simp[fL];omega,aw,?_⟩
   intro p a
   have b:p.length=8:=by rw[a];simp[w2]
   have d:p++data=dB (false,i,q,data):=by
    rw[a,show gW .i64 8 8=2048 from by decide];simp[w2,dB]
   refine⟨(qx ab hl).1,(qx ab hl).2,?_⟩
   intro c hc
   have hc:c=dM (dB (false,i,q,data)):=by rw[hc,d];rfl
   grind
theorem S0:aB 211 aT3.spec:=aF Tryz.func211 (am (am (am (am aC FQ) (Ct.named Gb)) (Ct.named AE)) J7) aS ab2
def a75:Ct:=⟨[.agg Pn],[.own 5 bq,.val cI],λd=>[(d.1.2.2.2.length:Int)<=1073741824],λd=>((fP d.1,kL d.1,()),())⟩
def pm:=bN 0
def gR:=(0:Int)::pm
def lR(a:Bool)(b c:Prop):=cX a (bO a) (b/\c)
def oa(a b:Bool)(c d:Prop):=∀(e:Bool),e=a->lR e (br e) (au (bn e b) c d)
def QE(a:Int)(b c d:ac)(e f:Prop):=a=m7 b->ao 2 (2+2<=ae (c++d)) (aG (c++d)/\bM a 65535 e f)
def LQ(a:ac)(b:Int)(c:ac)(d:Bool)(e:Int):=aG a/\ ∀(f:ac),f=putB a b 2->gk f c/\aG (f++c)/\ ∀(g:Int),QE g (f++c) f c (de (f++c) (toNat 2) g=fP (d,e,b,c)) (0=kL (d,e,b,c))
theorem aQ1:
 ∀(a:Bool)(b c:Int)(d:ac),ai (True/\aq b/\aq c/\aV d)->dj d->oa ( !dL b) ( !dL c) (lX (fP (a,b,c,d)) (kL (a,b,c,d))) (au (av 1480 (ap (ae d+8))) (fM (fP (a,b,c,d))/\5=kL (a,b,c,d)) (au a (aG (IntKind.wrap IntKind.u8 0::0::gR)/\ ∀(e:ac),e=putB (IntKind.wrap IntKind.u8 0::0::gR) b 2->LQ e c d a b) (aG (IntKind.wrap IntKind.u8 8::0::gR)/\ ∀(e:ac),e=putB (IntKind.wrap IntKind.u8 8::0::gR) b 2->LQ e c d a b))):= by
  delta ae ap aq aI bO aV aT aG cH bn gk cX ao br gR bv dj pm bN oa QE ai m7 LQ aD bM av lX fM lR
  rintro r i q data ⟨⟨-,-,-,-,hd⟩,-⟩ hl
  rintro b rfl
  refine⟨aw,aw,aw,aw,?_⟩
  rw[aL ab ab]
  refine ay (λh=>?_) (λh=>?_)
  .apply Uy
   grind
  have k:dL i=true/\dL q=true:=by
   simp_all
  have a:=k
  simp only[iQ] at a
  obtain⟨e1,e2⟩:=Qf (e:=(r,i,q,data)) k
  have hB:=rX (BF (e:=(r,i,q,data)) hd)
  have hbl:=JY (r,i,q,data)
  refine ay (λh5=>?_) (λh5=>?_)
  .grind
  cases r with
  | true =>
   refine⟨aw,?_⟩
   rintro p rfl
   rw[lI a.1.1 a.1.2]
   refine⟨by simp[w2],?_⟩
   intro p d
   rw[lI a.2.1 a.2.2] at d
   have g:p.length=8:=by rw[d];simp[w2]
   have j:p++data=dB (true,i,q,data):=by
    rw[d,show IntKind.wrap .u8 0=0 from by decide];simp[w2,dB]
   refine⟨(qx ab hl).1,(qx ab hl).2,?_⟩
   intro c f
   have f:c=dM (dB (true,i,q,data)):=by rw[f,j];rfl
   grind
  | false =>
   refine⟨aw,?_⟩
   rintro p rfl
   rw[lI a.1.1 a.1.2]
   refine⟨by simp[w2],?_⟩
   intro p d
   rw[lI a.2.1 a.2.2] at d
   have g:p.length=8:=by rw[d];simp[w2]
   have j:p++data=dB (false,i,q,data):=by
    rw[d,show IntKind.wrap .u8 8=8 from by decide];simp[w2,dB]
   refine⟨(qx ab hl).1,(qx ab hl).2,?_⟩
   intro c f
   have f:c=dM (dB (false,i,q,data)):=by rw[f,j];rfl
   grind
theorem Zd:aB 77 a75.spec:=aF Tryz.func77 (am (am (am (am aC MM) (Ct.named BP)) (Ct.named NO)) Mk) aS aQ1
def aM9:Ct:=⟨[.agg XE],[.own 5 bq,.val cI],λd=>[(d.1.2.2.length:Int)<=1073741824],λd=>((jL d.1,lf d.1,()),())⟩
def cG(a:Bool)(b c d e:Prop):=(a->aT b)/\(b->c)/\d/\e
def Pi(a:ac)(b c:Int):=au (av (ae a) 28) (fM (jL (b,c,a))/\3=lf (b,c,a)) (Gf (bits BinOp.or IntKind.i64 (gW IntKind.i64 b 8) c::0::gR) (List.flatMap w2 (bits BinOp.or IntKind.i64 (gW IntKind.i64 b 8) c::0::gR)) a (2+2) (toNat 2) (jL (b,c,a)) (lf (b,c,a)))
def pJ(a:Bool)(b c d e f:Prop):=au a ((b->b)/\c/\d) (a=false/\e/\f)
def bW(a b:Int):=!decide (a=b)
theorem by4:
 ∀(a b:Int)(c:ac),ai (aq a/\aq b/\aV c)->dj c-> ∀(d:Bool),d=bW a 3->cG d d (aT d) (d->d) (∀(e:Bool),e=bw d (bW a 11)->bO e/\pJ ( !e) ( !e) (bO e) (br e/\au (bn e ( !fL 255 (bN b))) (lX (jL (a,b,c)) (lf (a,b,c))) (Pi c a b)) (( !e)=false) ((e=false->false)/\au (bn e false) (lX (jL (a,b,c)) (lf (a,b,c))) (Pi c a b))):= by
  delta ae aq aI bO aV aT aG cH bn cG bw gk ao br gR bv dj pm Gf bN Pi ai m7 pJ aD bW bM av lX xk fM vZ
  rintro t k data ⟨⟨-,-,-,hd⟩,-⟩ hl
  rintro b rfl
  refine⟨aw,aw,aw,?_⟩
  intro b hb
  refine⟨aw,?_⟩
  cases b with
  | true =>
   have f:¬ (t=3∨t=11):=by
    simp at hb;omega
   refine ay (λh=>by cases h) (λ_=>⟨rfl,rfl,aw,ay (λ_=>SD (λh=>f h.1)) (λh=>by cases h)⟩)
  | false =>
   have f:t=3∨t=11:=by
    grind
   refine ay (λ_=>⟨aw,aw,aw,?_⟩) (λh=>by cases h)
   refine ay (λh=>?_) (λh=>?_)
   .apply SD
    rintro⟨-,a⟩
    have:=(B5 255 k).2 a
    rw[this] at h;cases h
   have d:0<=k/\k<=255:=by
    apply (B5 255 k).1
    simp_all
   refine ay (λa=>bj7 ⟨f,d⟩ (aX a)) (λa=>?_)
   have a:=bi a
   obtain⟨e1,e2⟩:=bG5 (e:=(t,k,data)) ⟨f,d⟩ a
   have hB:=rX (LY (e:=(t,k,data)) ⟨f,d⟩ hd)
   rw[VJ ab ab d.1 d.2]
   refine⟨ab,by simp[fL];omega,aw,?_⟩
   intro p hpe
   have hp8:p.length=8:=by rw[hpe];simp[w2]
   have hp:p++data=pQ (t,k,data):=by
    rw[hpe]
    simp only[List.flatMap_cons,List.flatMap_nil,Kn (show 0<=t by omega) (show t<=255 by omega) d.1 d.2,show w2 0=[0,0] from rfl];rfl
   refine⟨(qx ab hl).1,(qx ab hl).2,?_⟩
   intro c g
   have g:c=dM (pQ (t,k,data)):=by rw[g,hp];rfl
   grind
theorem az5:aB 327 aM9.spec:=aF Tryz.func327 (am (am (am (am aC FQ) (Ct.named Gb)) (Ct.named AE)) J7) aS by4
def aH5:Ct:=⟨[.val db,.val db,.val cI,.val (.sl bq)],[.val cI],λd=>[(d.2.2.2.1.length:Int)<=1073741824],λd=>((f6 d.1 d.2.1 d.2.2.1 d.2.2.2.1,()),())⟩
def pN(a b c d e:Int)(f:ac):=a::b::c::d::e::f
def Ki(a b c:Int)(d:ac):=pN (ap (fy IntKind.u32 a 16)) (ap (bits BinOp.and IntKind.u32 a 65535)) (ap (fy IntKind.u32 b 16)) (ap (bits BinOp.and IntKind.u32 b 65535)) c (bN (ae d))
def GG(a b:ac)(c:Int):=∀(d:ac),d=a->gk d b/\aG (d++b)/\ ∀(e:Int),e=m7 (d++b)->e=c
theorem bR4:
 ∀(a b c:Int)(d:ac),aQ a/\aQ b/\aq c/\ai (aV d)->dj d->lw ( !fL 255 (bN c)) (av 65535 (ae d)) (0=f6 a b c d) (ao 16 ((0:Int)<=(16:Int)) (fL 65535 (Ki a b c d)/\dj (Ki a b c d)/\GG (List.flatMap w2 (Ki a b c d)) d (f6 a b c d))):= by
  delta ae ap aq aI bO aV aQ aT aG cH bn gk cX ao br bv dj lw bN ai Ki m7 pN aD av GG
  rintro a b p data ⟨⟨e,f⟩,⟨b0,g⟩,-,⟨-,hd⟩,-⟩ hl
  rintro x rfl
  refine⟨aw,aw,aw,?_⟩
  refine ay (λh=>?_) (λh=>?_)
  .rw[f6,aj]
   cases d:fL 255 [p] with
   | false=>exact .inl (λk=>by rw[(B5 255 p).2 k] at d;cases d)
   | true=>rw[d] at h;exact .inr (aX h)
  have hp:0<=p/\p<=255:=by
   apply (B5 255 p).1
   simp_all
  have hn:¬ (65535:Int)<data.length:=by
   simp_all
  rw[Uz e f,Uz b0 g,QG e f,QG b0 g]
  refine⟨ab,ab,by simp[fL];omega,aw,?_⟩
  intro q hq
  have hp8:q.length=12:=by rw[hq];simp[w2]
  have hB:q++data=Aq a b p data:=by
   rw[hq]
   simp only[List.flatMap_cons,List.flatMap_nil,kY,je,Qo]
   rfl
  refine⟨(qx ab hl).1,(qx ab hl).2,?_⟩
  rintro c rfl
  rw[hB,f6,ah ab];rfl
theorem L9:aB 267 aH5.spec:=aF Tryz.func267 (am (am (am aC FQ) (Ct.named Gb)) (Ct.named AE)) aS bR4
def a54:Ct:=⟨[.val db,.val db,.val cI,.val (.sl bq)],[.val cI],λd=>[(d.2.2.2.1.length:Int)<=1073741824],λd=>((f6 d.1 d.2.1 d.2.2.1 d.2.2.2.1,()),())⟩
def r5:=cH (↑((0:Nat)):Int)
theorem aK7:
 ∀(a b c:Int)(d:ac),aQ a/\aQ b/\aq c/\ai (aV d)->dj d->lw ( !decide (0<=c/\c<=255)) (av 65535 (ae d)) (0=f6 a b c d) (r5/\ ∀(e:ac),e=putB [] (ap a) 4->aG e/\ ∀(f:ac),f=putB e (ap b) 4->aG f/\ ∀(g:ac),g=putB f c 2->aG g/\GG (putB g (ae d) 2) d (f6 a b c d)):= by
  delta ae ap aq aI bO aV aQ aT aG cH bn gk cX br bv dj lw ai m7 aD av r5 GG
  rintro a b p data ⟨⟨a0,a1⟩,⟨b0,b1⟩,-,⟨-,hd⟩,-⟩ hl
  rintro x rfl
  refine⟨aw,aw,aw,?_⟩
  refine ay (λh=>?_) (λh=>?_)
  .rw[f6,aj]
   grind
  have hp:0<=p/\p<=255:=i5 λhk=>by rw[fh hk] at h;cases h
  have hn:¬ (65535:Int)<data.length:=by
   simp_all
  refine⟨aw,?_⟩
  intro q1 d
  rw[aL ab ab,zu a0 a1,uy] at d
  refine⟨by rw[d];simp[w4],?_⟩
  intro q2 e
  rw[aL ab ab,zu b0 b1] at e
  refine⟨by rw[e,d];simp[w4],?_⟩
  intro q3 f
  rw[lI hp.1 ab] at f
  refine⟨by rw[f,e,d];simp[w2,w4],?_⟩
  intro q g
  rw[lI ab ab] at g
  have hp8:q.length=12:=by rw[g,f,e,d];simp[w2,w4]
  have hB:q++data=Aq a b p data:=by
   rw[g,f,e,d]
   rfl
  refine⟨(qx ab hl).1,(qx ab hl).2,?_⟩
  rintro c rfl
  rw[hB,f6,ah ab];rfl
theorem Nn:aB 81 a54.spec:=aF Tryz.func81 (am (am (am aC Sw) (Ct.named BP)) (Ct.named NO)) aS aK7
def ba0:Ct:=⟨[.val db,.val db,.val (.sl bq)],[.val cI],λd=>[(d.2.2.1.length:Int)<=1073741824],λd=>((lh d.1 d.2.1 d.2.2.1,()),())⟩
def bJ(a:Int):=bW a 0
theorem aF6:
 ∀(a b:Int)(c:ac),aQ a/\aQ b/\ai (aV c)->dj c->dj c/\au (bJ (f6 a b 17 c)) (f6 a b 17 c=lh a b c) (65535=lh a b c):= by
  delta ae aV aQ bJ dj ai aD bW
  rintro a b data-hl
  refine⟨hl,ay (λh=>?_) (λh=>?_)⟩
  .rw[lh,ah];intro k;rw[fm k] at h;cases h
  .rw[lh,aj]
   simp_all
theorem XD:aB 266 ba0.spec:=aF Tryz.func266 (am aC L9) aS aF6
def bg4:Ct:=⟨[.val db,.val db,.agg Ol],[.own 5 bq,.val cI],λd=>[(d.2.2.1.2.2.length:Int)<=1073741824],λd=>((kZ d.1 d.2.1 d.2.2.1,mF d.2.2.1,()),())⟩
theorem aO9:
 ∀(a b c d:Int)(e:ac),aQ a/\aQ b/\ai (aq c/\aq d/\aV e)->dj e->au ( !fL 65535 (c::bN d)) (lX (kZ a b (c,d,e)) (mF (c,d,e))) (au (av 1472 (ae e)) (fM (kZ a b (c,d,e))/\5=mF (c,d,e)) (fL 65535 (c::d::ap (8+ae e)::pm)/\dj (c::d::ap (8+ae e)::pm)/\ ∀(f:ac),f=List.flatMap w2 (c::d::ap (8+ae e)::pm)->gk f e/\dj (f++e)/\ ∀(g:Int),g=lh a b (f++e)->ao 6 (6+2<=ae (f++e)) (aG (f++e)/\bM g 65535 (vZ (ae (f++e)) (de (f++e) (toNat 6) g)=kZ a b (c,d,e)) (xk (f++e)=mF (c,d,e))))):= by
  delta ae ap aq aI aV aQ aG cH gk ao bv dj pm bN ai aD bM av lX xk fM vZ
  rintro a b sp c data ⟨-,-,⟨-,-,-,hd⟩,-⟩ hl
  refine ay (λh=>?_) (λh=>?_)
  .apply Ua
   simp only[pF,← Bool.not_eq_true,BU] at h
   simp only[iQ];exact h
  have g:dL sp=true/\dL c=true:=by
   simp only[zR,BU] at h
   simp only[iQ];exact h
  have d:=g
  simp only[iQ] at d
  obtain⟨e1,e2⟩:=UT (a:=a) (b:=b) (e:=(sp,c,data)) g
  have hB:=Pl (a:=a) (b:=b) (Gq (e:=(sp,c,data)) hd)
  have hbl:=OL (sp,c,data)
  refine ay (λf=>?_) (λf=>?_)
  .grind
  have f:=bi f
  rw[aL ab ab]
  refine⟨by simp[fL];omega,aw,?_⟩
  intro p hpe
  have hp8:p.length=8:=by rw[hpe];simp[w2]
  have hp:p++data=fO (sp,c,data):=by
   rw[hpe]
   rfl
  refine⟨(qx ab hl).1,by rw[cL];omega,?_⟩
  grind
theorem Zf:aB 214 bg4.spec:=aF Tryz.func214 (am (am (am (am aC FQ) (Ct.named Gb)) (Ct.named XD)) J7) aS aO9
def bC9:Ct:=⟨[.val db,.val db,.agg Ol],[.own 5 bq,.val cI],λd=>[(d.2.2.1.2.2.length:Int)<=1073741824],λd=>((kZ d.1 d.2.1 d.2.2.1,mF d.2.2.1,()),())⟩
def eG(a:Int):=decide (a=0)
theorem aI1:
 ∀(a b c d:Int)(e:ac),aQ a/\aQ b/\ai (aq c/\aq d/\aV e)->dj e->oa ( !dL c) ( !dL d) (lX (kZ a b (c,d,e)) (mF (c,d,e))) (au (av 1480 (ap (ae e+8))) (fM (kZ a b (c,d,e))/\5=mF (c,d,e)) (r5/\ ∀(f:ac),f=putB [] c 2->aG f/\ ∀(g:ac),g=putB f d 2->aG g/\ ∀(h:ac),h=putB g (ap (ae e+8)) 2->gk h gR/\gk (h++gR) e/\dj (h++gR++e)/\ ∀(i:Int),i=f6 a b 17 (h++gR++e)->au (eG i) (ao 6 (6+2<=ae (h++gR++e)) (aG (h++gR++e)/\bM 65535 65535 (de (h++gR++e) (toNat 6) 65535=kZ a b (c,d,e)) (0=mF (c,d,e)))) (ao 6 (6+2<=ae (h++gR++e)) (aG (h++gR++e)/\bM i 65535 (de (h++gR++e) (toNat 6) i=kZ a b (c,d,e)) (0=mF (c,d,e)))))):= by
  delta ae ap aq aI bO aV aQ aT aG cH bn gk cX ao br gR bv dj pm bN oa ai aD bM av eG lX fM r5 lR
  rintro a b sp g data ⟨-,-,⟨-,-,-,hd⟩,-⟩ hl
  rintro x rfl
  refine⟨aw,aw,aw,aw,?_⟩
  rw[aL ab ab]
  refine ay (λh=>?_) (λh=>?_)
  .apply Ua
   grind
  have o:dL sp=true/\dL g=true:=by
   simp_all
  have f:=o
  simp only[iQ] at f
  obtain⟨e1,e2⟩:=UT (a:=a) (b:=b) (e:=(sp,g,data)) o
  have d:=OL (sp,g,data)
  refine ay (λk=>?_) (λk=>?_)
  .grind
  have k:=bi k
  have l:¬ (1480:Int)<(fO (sp,g,data)).length:=by simp only at d;omega
  rw[ah l] at e1
  refine⟨aw,?_⟩
  intro q1 i
  rw[lI f.1.1 f.1.2,uy] at i
  refine⟨by rw[i];simp[w2],?_⟩
  intro q2 j
  rw[lI f.2.1 f.2.2] at j
  refine⟨by rw[j,i];simp[w2],?_⟩
  intro q m
  rw[lI ab ab] at m
  have hp8:q.length=6:=by rw[m,j,i];simp[w2]
  have hp:q++[0,0]++data=fO (sp,g,data):=by
   rw[m,j,i]
   simp only[je,fO]
   rw[Int.add_comm 8]
  rw[hp]
  refine⟨by simp;omega,by simp;omega,by simp only at d;omega,?_⟩
  rintro c rfl
  have r:∀ c,c=lh a b (fO (sp,g,data))->de (fO (sp,g,data)) (toNat 6) c=kZ a b (sp,g,data)/\0=mF (sp,g,data):=by
   simp_all
  refine bP (λn=>?_) (λn=>?_)
  .exact⟨ab,by simp only at d;omega,by simp only at d;omega,ab,ab,r _ (by rw[lh,aj n])⟩
  .have s:=B6 (a:=a) (b:=b) (p:=17) (Gq (e:=(sp,g,data)) hd)
   exact⟨ab,by simp only at d;omega,by simp only at d;omega,s.1,s.2,r _ (by rw[lh,ah n])⟩
theorem bf2:aB 82 bC9.spec:=aF Tryz.func82 (am (am (am (am aC MM) (Ct.named BP)) (Ct.named Nn)) Mk) aS aI1
theorem bS5{f:Int}(h0:0<=f)(h1:f<=255):bits .or .i64 20480 f=80*256+f:=by
 have:=VJ (n:=80) ab ab h0 h1
 rwa [show gW .i64 80 8=20480 from by decide] at this
theorem bJ3{f:Int}(h0:0<=f)(h1:f<=255):w2 (80*256+f)=[80,f]:=Kn (by omega) (by omega) h0 h1
def bN1:Ct:=⟨[.val db,.val db,.agg D1],[.own 5 bq,.val cI],λd=>[(d.2.2.1.2.2.2.2.2.2.length:Int)<=1000000],λd=>((gc d.1 d.2.1 d.2.2.1,mO d.2.2.1,()),())⟩
def uP(a b c d e f:Int):=pN a b (fy IntKind.i64 c 16) (bits BinOp.and IntKind.i64 c 65535) (fy IntKind.i64 d 16) (bits BinOp.and IntKind.i64 d 65535::bits BinOp.or IntKind.i64 20480 e::f::gR)
def bY(a:ac):=ae a<=1000000
def FL(a b:ac)(c d:Int)(e:mI):=gk a b/\dj (a++b)/\ ∀(f:Int),f=f6 c d 6 (a++b)->ao 16 (16+2<=ae (a++b)) (aG (a++b)/\bM f 65535 (vZ (ae (a++b)) (de (a++b) (toNat 16) f)=gc c d e) (xk (a++b)=mO e))
def P8(a b:Bool)(c:ac)(d:Int)(e f g:Prop):=pJ ( !a) ( !a) (bO a) (br a/\au (bn a ( !b)) (lX c d) (ao 16 ((0:Int)<=(16:Int)) (e/\f))) (( !a)=false) ((a=false->false)/\au (bn a false) (lX c d) (ao 16 ((0:Int)<=(16:Int)) (e/\g)))
theorem aN1:
 ∀(a b:Int)(c:mI),aQ a/\aQ b/\ai (CT.wf D1 c)->bY c.2.2.2.2.2.2-> ∀(d:Bool),d=( !fL 65535 (c.1::c.2.1::bN c.2.2.2.2.2.1))->bO d/\bO d/\pJ ( !d) ( !d) ( !d-> !d) (bO d/\br d/\ ∀(e:Bool),e=bn d ( !fL 4294967295 (c.2.2.1::bN c.2.2.2.1))->bO e/\P8 e (fL 255 (bN c.2.2.2.2.1)) (gc a b c) (mO c) (fL 65535 (uP c.1 c.2.1 c.2.2.1 c.2.2.2.1 c.2.2.2.2.1 c.2.2.2.2.2.1)) (dj (uP c.1 c.2.1 c.2.2.1 c.2.2.2.1 c.2.2.2.2.1 c.2.2.2.2.2.1)/\ ∀(f:ac),f=List.flatMap w2 (uP c.1 c.2.1 c.2.2.1 c.2.2.2.1 c.2.2.2.2.1 c.2.2.2.2.2.1)->FL f c.2.2.2.2.2.2 a b c) (dj (uP c.1 c.2.1 c.2.2.1 c.2.2.2.1 c.2.2.2.2.1 c.2.2.2.2.2.1)/\ ∀(f:ac),f=List.flatMap w2 (uP c.1 c.2.1 c.2.2.1 c.2.2.2.1 c.2.2.2.2.1 c.2.2.2.2.2.1)->FL f c.2.2.2.2.2.2 a b c)) (( !d)=false) ((d=false->false)/\ ∀(e:Bool),e=bn d false->bO e/\P8 e (fL 255 (bN c.2.2.2.2.1))
 (gc a b c) (mO c) (fL 65535 (uP c.1 c.2.1 c.2.2.1 c.2.2.2.1 c.2.2.2.2.1 c.2.2.2.2.2.1)) (dj (uP c.1 c.2.1 c.2.2.1 c.2.2.2.1 c.2.2.2.2.1 c.2.2.2.2.2.1)/\ ∀(f:ac),f=List.flatMap w2 (uP c.1 c.2.1 c.2.2.1 c.2.2.2.1 c.2.2.2.2.1 c.2.2.2.2.2.1)->FL f c.2.2.2.2.2.2 a b c) (dj (uP c.1 c.2.1 c.2.2.1 c.2.2.2.1 c.2.2.2.2.1 c.2.2.2.2.2.1)/\ ∀(f:ac),f=List.flatMap w2 (uP c.1 c.2.1 c.2.2.1 c.2.2.2.1 c.2.2.2.2.1 c.2.2.2.2.2.1)->FL f c.2.2.2.2.2.2 a b c)):= by
  delta ae bO aQ aT aG cH bn uP gk ao br gR bv dj bY pm FL bN ai P8 pN pJ aD bM lX xk fM vZ
  rintro a b e ⟨-,-,⟨-,-,-,-,-,-,-,hd⟩,-⟩ hl
  intro b1 hb1
  refine⟨aw,aw,?_⟩
  cases b1 with
  | true =>
   have f:¬ rJ e:=by
    rintro⟨j,i,-,-,-,g⟩
    rw[iQ] at j i g
    rw[show fL 65535 [e.1,e.2.1,e.2.2.2.2.2.1]=true from by simp[fL];omega] at hb1;cases hb1
   refine ay (λh=>by cases h) (λ_=>⟨rfl,rfl,aw,?_⟩)
   intro m hb2
   subst hb2
   exact⟨aw,ay (λh=>by cases h) (λ_=>⟨rfl,rfl,aw,ay (λ_=>Kl f) (λh=>by cases h)⟩)⟩
  | false =>
   have j:(0<=e.1/\e.1<=65535)/\(0<=e.2.1/\e.2.1<=65535)/\0<=e.2.2.2.2.2.1/\e.2.2.2.2.2.1<=65535:=by
    have:fL 65535 [e.1,e.2.1,e.2.2.2.2.2.1]=true:=by
     simp_all
    simpa[fL] using this
   refine ay (λ_=>⟨aw,aw,aw,aw,?_⟩) (λh=>by cases h)
   intro m hb2
   refine⟨aw,?_⟩
   cases m with
   | true =>
    have f:¬ rJ e:=by
     rintro⟨-,-,g,h4,-,-⟩
     have:fL 4294967295 [e.2.2.1,e.2.2.2.1]=true:=(BU _ _ _).2 ⟨g,h4⟩
     rw[this] at hb2;cases hb2
    exact ay (λh=>by cases h) (λ_=>⟨rfl,rfl,aw,ay (λ_=>Kl f) (λh=>by cases h)⟩)
   | false =>
    have i:(0<=e.2.2.1/\e.2.2.1<=4294967295)/\0<=e.2.2.2.1/\e.2.2.2.1<=4294967295:=by
     apply (BU _ _ _).1
     grind
    refine ay (λ_=>⟨aw,aw,aw,ay (λh=>?_) (λh=>?_)⟩) (λh=>by cases h)
    .apply Kl
     rintro⟨-,-,-,-,g,-⟩
     rw[(B5 _ _).2 g] at h;cases h
    have g:0<=e.2.2.2.2.1/\e.2.2.2.2.1<=255:=by
     apply (B5 _ _).1
     grind
    have k:rJ e:=⟨(iQ _).2 j.1,(iQ _).2 j.2.1,i.1,i.2,g,(iQ _).2 j.2.2⟩
    obtain⟨e1,e2⟩:=U8 k
    have n:=B6 (a:=a) (b:=b) (p:=6) (CZ k hd)
    rw[QM i.1.1,QM i.2.1,EU,EU,bS5 g.1 g.2]
    refine⟨ab,ab,by simp[fL];omega,aw,?_⟩
    intro p hpe
    have hp8:p.length=20:=by rw[hpe];simp[w2]
    have o:p++e.2.2.2.2.2.2=mT e:=by
     rw[hpe]
     simp only[List.flatMap_cons,List.flatMap_nil,kY,je,Qo,show w2 0=[0,0] from rfl,bJ3 g.1 g.2]
     rfl
    refine⟨(qx ab ab).1,by rw[cL];omega,?_⟩
    intro c l
    have l:c=f6 a b 6 (mT e):=by rw[l,o]
    exact Yx o ab ab ab ab (by rw[l];exact n.1) (by rw[l];exact n.2) (by rw[l];exact e1) e2
theorem Ve:aB 215 bN1.spec:=aF Tryz.func215 (am (am (am (am aC FQ) (Ct.named Gb)) (Ct.named L9)) J7) aS aN1
def ae7:Ct:=⟨[.val db,.val db,.agg D1],[.own 5 bq,.val cI],λd=>[(d.2.2.1.2.2.2.2.2.2.length:Int)<=1000000],λd=>((gc d.1 d.2.1 d.2.2.1,mO d.2.2.1,()),())⟩
def Dg(a b c d:Bool)(e f:Prop):=∀(g:Bool),g=a->lR g (br g) (∀(h:Bool),h=bn g b->lR h (br h) (oa (bn h c) d e f))
def tD:=(0:Int)::(0:Int)::gR
theorem bd8:
 ∀(a b:Int)(c:mI),aQ a/\aQ b/\ai (CT.wf D1 c)->bY c.2.2.2.2.2.2-> ∀(d:Bool),d=( !dL c.1)->lR d (br d) (∀(e:Bool),e=bn d ( !dL c.2.1)->lR e (br e) (Dg (bn e ( !FZ c.2.2.1)) ( !FZ c.2.2.2.1) ( !decide (0<=c.2.2.2.2.1/\c.2.2.2.2.1<=255)) ( !dL c.2.2.2.2.2.1) (lX (gc a b c) (mO c)) (au (av 1480 (ap (ae c.2.2.2.2.2.2+20))) (fM (gc a b c)/\5=mO c) (r5/\ ∀(f:ac),f=putB [] c.1 2->aG f/\ ∀(g:ac),g=putB f c.2.1 2->aG g/\ ∀(h:ac),h=putB g c.2.2.1 4->aG h/\ ∀(i:ac),i=putB h c.2.2.2.1 4->aG i/\ ∀(j:ac),j=putB i 80 1->aG j/\ ∀(k:ac),k=putB j c.2.2.2.2.1 1->aG k/\ ∀(l:ac),l=putB k c.2.2.2.2.2.1 2->gk l tD/\gk (l++tD) c.2.2.2.2.2.2/\dj (l++tD++c.2.2.2.2.2.2)/\ ∀(m:Int),m=f6 a b 6 (l++tD++c.2.2.2.2.2.2)->ao 16 (16+2<=ae (l++tD++c.2.2.2.2.2.2)) (aG
 (l++tD++c.2.2.2.2.2.2)/\bM m 65535 (de (l++tD++c.2.2.2.2.2.2) (toNat 16) m=gc a b c) (0=mO c)))))):= by
  delta ae ap bO aQ aT aG cH bn gk cX ao br gR bv dj bY pm bN oa ai Dg aD bM av lX fM r5 tD lR FZ
  rintro a b e ⟨-,-,⟨-,-,-,-,-,-,-,hd⟩,-⟩ hl
  intro b1 h1
  refine⟨aw,aw,aw,aw,?_⟩
  intro b2 h2
  refine⟨aw,aw,aw,aw,?_⟩
  intro b3 h3
  refine⟨aw,aw,aw,aw,?_⟩
  intro b4 h4
  refine⟨aw,aw,aw,aw,?_⟩
  intro b5 h5
  refine⟨aw,aw,aw,aw,?_⟩
  rw[aL (n:=(e.2.2.2.2.2.2.length:Int)+20) ab ab]
  have hall:(bif b5 then true else !dL e.2.2.2.2.2.1) = !decide (rJ e):=by
   rw[h5,h4,h3,h2,h1]
   by_cases w1:dL e.1=true
   all_goals by_cases w2:dL e.2.1=true
   all_goals by_cases w3:dL e.2.2.2.2.2.1=true
   all_goals by_cases q1:0<=e.2.2.1/\e.2.2.1<=4294967295
   all_goals by_cases q2:0<=e.2.2.2.1/\e.2.2.2.1<=4294967295
   all_goals by_cases q3:0<=e.2.2.2.2.1/\e.2.2.2.2.1<=255
   all_goals simp[rJ,w1,w2,w3,q1,q2,q3]
  rw[hall]
  refine ay (λh=>Kl (by simpa using h)) (λh=>?_)
  have hok:rJ e:=by simpa using h
  obtain⟨e1,e2⟩:=U8 (a:=a) (b:=b) hok
  have hB:=B6 (a:=a) (b:=b) (p:=6) (CZ hok hd)
  have hbl:=ET e
  refine ay (λh5=>?_) (λh5=>?_)
  .have h5:=aX h5
   rw[e1,e2,aj ab,aj ab];exact⟨rfl,rfl⟩
  have h5:=bi h5
  have h5':¬ (1480:Int)<(mT e).length:=ab
  rw[ah h5'] at e1
  obtain⟨k1,k2,k3,k4,k5,k6⟩:=hok
  rw[iQ] at k1 k2 k6
  refine⟨aw,?_⟩
  intro q1 h1
  rw[lI k1.1 k1.2,uy] at h1
  have l1:q1.length=2:=by rw[h1];rfl
  refine⟨ab,?_⟩
  intro q2 h2
  rw[lI k2.1 k2.2] at h2
  have l2:q2.length=4:=by rw[h2,cL,l1];rfl
  refine⟨ab,?_⟩
  intro q3 h3
  rw[zu k3.1 k3.2] at h3
  have l3:q3.length=8:=by rw[h3,cL,l2];rfl
  refine⟨ab,?_⟩
  intro q4 h4
  rw[zu k4.1 k4.2] at h4
  have l4:q4.length=12:=by rw[h4,cL,l3];rfl
  refine⟨ab,?_⟩
  intro q5 h5
  rw[wK ab ab] at h5
  have l5:q5.length=13:=by rw[h5,cL,l4];rfl
  refine⟨ab,?_⟩
  intro q6 h6
  rw[wK k5.1 k5.2] at h6
  have l6:q6.length=14:=by rw[h6,cL,l5];rfl
  refine⟨ab,?_⟩
  intro q7 h7
  rw[lI k6.1 k6.2] at h7
  have l7:q7.length=16:=by rw[h7,cL,l6];rfl
  have hp:q7++[0,0,0,0]++e.2.2.2.2.2.2=mT e:=by
   rw[h7,h6,h5,h4,h3,h2,h1]
   simp only[je]
   rfl
  rw[hp]
  refine⟨by simp only[dP,List.length_nil];omega,by simp only[cL,dP,List.length_nil];omega,ab,?_⟩
  rintro c rfl
  exact⟨ab,ab,ab,hB.1,hB.2,e1.symm,aT0 e2 h5'⟩
theorem ak5:aB 83 ae7.spec:=aF Tryz.func83 (am (am (am (am (am (am aC MM) Sw) aU0) (Ct.named BP)) (Ct.named Nn)) Mk) aS bd8
def E0(b:ac):Prop:=(b.getD (toNat 0) default=8∨b.getD (toNat 0) default=0)/\b.getD (toNat 1) default=0
instance (b:ac):Decidable (E0 b):=by unfold E0;infer_instance
def kX(b:ac):Int:=if (b.length:Int)<8 then 3 else if ¬ E0 b then 2 else if (1480:Int)<b.length then 5 else if dM (de b (toNat 2) 0)≠aR b (toNat 2) then 4 else 0
def g7(b:ac):qk:=if kX b=0 then (decide (b.getD (toNat 0) default=0),aR b (toNat 4),aR b (toNat 6),b.drop 8) else (false,0,0,[])
def GA(b:ac):Prop:=(b.getD (toNat 0) default=3∨b.getD (toNat 0) default=11)/\aR b (toNat 4)=0/\aR b (toNat 6)=0
instance (b:ac):Decidable (GA b):=by unfold GA;infer_instance
def mZ(b:ac):Int:=if (b.length:Int)<36 then 3 else if ¬ GA b then 2 else if (1480:Int)<b.length then 5 else if dM (de b (toNat 2) 0)≠aR b (toNat 2) then 4 else 0
def nq(b:ac):gJ:=if mZ b=0 then (b.getD (toNat 0) default,b.getD (toNat 1) default,b.drop 8) else (0,0,[])
def md(s d:Int)(b:ac):Int:=if (b.length:Int)<8 then 3 else if ¬ aR b (toNat 4)=b.length then 2 else if (1480:Int)<b.length then 5 else if lh s d (de b (toNat 6) 0)≠aR b (toNat 6) then 4 else 0
def tR(s d:Int)(b:ac):uu:=if md s d b=0 then (aR b (toNat 0),aR b (toNat 2),b.drop 8) else (0,0,[])
def DZ(b:ac):Prop:=b.getD (toNat 12) default=80/\aR b (toNat 18)=0
instance (b:ac):Decidable (DZ b):=by unfold DZ;infer_instance
def lr(s d:Int)(b:ac):Int:=if (b.length:Int)<20 then 3 else if ¬ DZ b then 2 else if (1480:Int)<b.length then 5 else if f6 s d 6 (de b (toNat 16) 0)≠aR b (toNat 16) then 4 else 0
def gF(s d:Int)(b:ac):mI:=if lr s d b=0 then (aR b (toNat 0),aR b (toNat 2),aR b (toNat 4)*65536+aR b (toNat 6),aR b (toNat 8)*65536+aR b (toNat 10),b.getD (toNat 13) default,aR b (toNat 14),b.drop 20) else (0,0,0,0,0,0,[])
theorem KP{b:ac}{e:Int}(h:kX b=e)(he:e≠0):(false,0,0,[])=g7 b/\e=kX b:=by
 rw[g7,ah (by rw[h];exact he),h];exact⟨rfl,rfl⟩
theorem G9{b:ac}{e:Int}(h:mZ b=e)(he:e≠0):(0,0,[])=nq b/\e=mZ b:=by
 rw[nq,ah (by rw[h];exact he),h];exact⟨rfl,rfl⟩
theorem H5{s d:Int}{b:ac}{e:Int}(h:md s d b=e)(he:e≠0):(0,0,[])=tR s d b/\e=md s d b:=by
 rw[tR,ah (by rw[h];exact he),h];exact⟨rfl,rfl⟩
theorem Hu{s d:Int}{b:ac}{e:Int}(h:lr s d b=e)(he:e≠0):(0,0,0,0,0,0,[])=gF s d b/\e=lr s d b:=by
 rw[gF,ah (by rw[h];exact he),h];exact⟨rfl,rfl⟩
theorem BJ(b:ac)(k:Nat):fA b k (toNat (b.length:Int))=b.drop k:=by unfold fA;simp
theorem TH{b:ac}{i:Nat}{v:Int}(h:bytes b)(h0:0<=v)(h1:v<=255):bytes (b.set i v):=by
 intro x hx
 rcases zt hx with hx|rfl
 .exact h x hx
 .exact⟨h0,h1⟩
theorem wJ{b:ac}{i:Nat}{v:Int}(h:bytes b):bytes (de b i v):=TH (TH h ab ab) ab ab
theorem Kv{b:ac}{k:Nat}(h:bytes b):0<=aR b k/\aR b k<=65535:=by
 have:=Kh 2 ((b.drop k).take 2) (by rw[dG];omega) (λx hx=>h x (zA (qr hx)))
 have e:(256:Int)^2=65536:=rfl
 unfold aR;omega
theorem ng(b:ac)(i:Nat)(v:Int):(de b i v).length=b.length:=by simp[de]
theorem ju(x y:Int)(r:ac):aR (x::y::r) 0=x*256+y:=by simp[aR,gX]
theorem RL{n x:Int}(h0:0<=n)(h1:n<=65535)(h2:0<=x)(h3:x<=65535):bits .or .i64 (gW .i64 n 16) x=n*65536+x:=by
 have e:gW .i64 n 16=n*65536:=by
  show IntKind.i64.wrap (n*2^(min 16 64))=_;rw[aL (by simp;omega) (by simp;omega)];rfl
 rw[e]
 obtain⟨m,rfl⟩:=sC h0
 obtain⟨y,rfl⟩:=sC h2
 have:=Wu (m*65536) y ab ab
 rw[nat_join 16 (m*65536) y ab ab,show ((m*65536:Nat):Int)=(m:Int)*65536 from by omega,show ((m*65536+y:Nat):Int)=(m:Int)*65536+(y:Int) from by omega] at this
 exact this
def aS5:Ct:=⟨[.val (.sl bq)],[.agg Pn,.val cI],λd=>[(d.1.length:Int)<=1000000],λd=>((g7 d.1,kX d.1,()),())⟩
def gA:=((0:Int),([]:ac))
def yx(a:ac):=fA a (toNat 8) (toNat (ae a))
def Bw(a:Prop)(b:Int)(c:Prop)(d:Int)(e f:Prop):=∀(g:Int),a/\g=b->c/\ ∀(h:Int),h=d->au (bW h g) e f
def IF(a:ac)(b c:Prop):=∀(d:ac),Bw (d=de a (toNat 2) 0) (aR a (toNat 2)) (aG d) (m7 d) b c
def vI(a:Bool)(b:Int):=(a->a)/\ao 0 (0<b) True
theorem ay9:
 ∀(a:ac),ai (aV a)->bY a->au (av (ae a) 8) ((false,0,gA)=g7 a/\3=kX a) (ao 0 (0<ae a) (∀(b:Bool),b=bW (af a 0) 8->(b->vI b (ae a))/\cG b b (aT b) (b->b) (∀(c:Bool),c=bw b (bJ (af a 0))->( !c->( !c-> !c)/\ao 1 (1<ae a) True)/\cX c (br c) (au (bn c (bJ (af a 1))) ((false,0,gA)=g7 a/\2=kX a) (au (av 1480 (ae a)) ((false,0,gA)=g7 a/\5=kX a) (ao 2 (2+2<=ae a) (aG a/\IF a ((false,0,gA)=g7 a/\4=kX a) (ao 0 (0<ae a) (ao 4 (4+2<=ae a) (aG a/\ao 6 (6+2<=ae a) (aG a/\bM 8 (ae a) (ae a<=ae a) (aG (yx a)/\ ∀(d:ac),d=yx a->(eG (af a 0),aR a (toNat 4),aR a (toNat 6),d)=g7 a/\0=kX a)))))))))))):= by
  delta af ae bO aV aT aG cH bn cG bw cX ao br bJ bY gA ai m7 aD bW bM av yx eG IF Bw vI
  rintro b ⟨⟨-,hb⟩,-⟩ hl
  refine ay (λh=>?_) (λh8=>?_)
  .exact KP (by rw[kX,aj (aX h)]) bo
  have h8:=bi h8
  refine⟨ab,ab,?_⟩
  (repeat (refine dq ?_;repeat refine dm ?_))
  refine ay (λh=>?_) (λhf=>?_)
  .refine KP (by rw[kX,ah h8,aj];rintro⟨f0,f1⟩;rw[fm f1] at h;rcases f0 with f0|f0 <;> rw[f0] at h <;> simp at h) bo
  have hf:E0 b:=by
   unfold E0
   by_cases k1:b.getD (toNat 1) default=0
   .by_cases k2:b.getD (toNat 0) default=8
    .exact⟨.inl k2,k1⟩
    .by_cases k3:b.getD (toNat 0) default=0
     .exact⟨.inr k3,k1⟩
     .rw[fh k2,fh k3] at hf;simp at hf
   .rw[fh k1] at hf;simp[gb] at hf
  refine ay (λh=>?_) (λh5=>?_)
  .exact KP (by rw[kX,ah h8,ah (λk=>k hf),aj (aX h)]) bo
  have h5:=bi h5
  refine⟨ab,ab,ab,?_⟩
  rintro x w ⟨rfl,rfl⟩
  refine⟨by simp[de];omega,?_⟩
  rintro c rfl
  refine ay (λh=>?_) (λh=>?_)
  .refine KP (by rw[kX,ah h8,ah (λk=>k hf),ah h5,aj];intro k;rw[dM] at k;rw[fm k] at h;cases h) bo
  have h0:kX b=0:=by
   rw[kX,ah h8,ah (λk=>k hf),ah h5,ah]
   intro k;rw[dM] at k;rw[fh k] at h;cases h
  refine⟨ab,ab,ab,ab,ab,ab,ab,ab,ab,ab,ab,by rw[BJ,ib];omega,?_⟩
  rintro y rfl
  rw[g7,aj h0,h0,BJ];exact⟨rfl,rfl⟩
theorem VT:aB 240 aS5.spec:=aF Tryz.func240 (am (am (am (am aC (Ct.named Ig)) (Ct.named AE)) Gk) (Ct.named na)) aS ay9
theorem aR7(p q r s:Prop) [Decidable p] [Decidable q] [Decidable r] [Decidable s]:(bif (bif (bif !decide p then !decide q else false) then true else !decide r) then true else !decide s) = !decide ((p∨q)/\r/\s):=by
 by_cases p <;> by_cases q <;> by_cases r <;> by_cases s <;> simp[*]
theorem N8{b:ac}{k:Nat}(h:k+2<=b.length):aR b k=b.getD k default*256+b.getD (k+1) default:=by
 have h0:k<b.length:=ab
 have h1:k+1<b.length:=ab
 have e:b.drop k=b[k]::b[k+1]::b.drop (k+1+1):=by rw[vj h0,vj h1]
 unfold aR
 rw[e,ct,ct,cM h0,cM h1]
 generalize b.drop (k+1+1)=r
 generalize b[k]=u
 generalize b[k+1]=v
 simp[gX]
theorem aC0(p r:Prop) [Decidable p] [Decidable r]:(bif !decide p then true else !decide r) = !decide (p/\r):=by
 by_cases p <;> by_cases r <;> simp[*]
def bM9:Ct:=⟨[.val (.sl bq)],[.agg XE,.val cI],λd=>[(d.1.length:Int)<=1000000],λd=>((nq d.1,mZ d.1,()),())⟩
def BL(a:Bool)(b:Prop)(c:Bool)(d e:Prop):=∀(f:Bool),f=a->( !f->( !f-> !f)/\b)/\jW f (bn f c) d e
theorem Zp:
 ∀(a:ac),ai (aV a)->bY a->au (av (ae a) 36) ((0,gA)=nq a/\3=mZ a) (ao 0 (0<ae a) (∀(b:Bool),b=bW (af a 0) 3->(b->vI b (ae a))/\cG b b (aT b) (b->b) (∀(c:Bool),c=bw b (bW (af a 0) 11)->( !c->( !c-> !c)/\ao 4 (4+2<=ae a) (ai (aG a)))/\bO c/\br c/\BL (bn c (bJ (aR a (toNat 4)))) (ao 6 (6+2<=ae a) (ai (aG a))) (bJ (aR a (toNat 6))) ((0,gA)=nq a/\2=mZ a) (au (av 1480 (ae a)) ((0,gA)=nq a/\5=mZ a) (ao 2 (2+2<=ae a) (aG a/\IF a ((0,gA)=nq a/\4=mZ a) (ao 0 (0<ae a) (ao 1 (1<ae a) (bM 8 (ae a) (ae a<=ae a) (aG (yx a)/\ ∀(d:ac),d=yx a->(ap (af a 0),ap (af a 1),d)=nq a/\0=mZ a)))))))))):= by
  delta af ae ap bO aV aT aG cH bn cG bw ao br bJ bY gA ai m7 aD bW bM av yx BL IF Bw jW vI
  rintro b ⟨⟨-,hb⟩,-⟩ hl
  refine ay (λh=>?_) (λh8=>?_)
  .exact G9 (by rw[mZ,aj (aX h)]) bo
  have h8:=bi h8
  refine⟨ab,ab,?_⟩
  (repeat (refine dq ?_;repeat refine dm ?_))
  have hall:(bif (bif (bif !decide (b.getD (toNat 0) default=3) then !decide (b.getD (toNat 0) default=11) else false) then true else !decide (aR b (toNat 4)=0)) then true else !decide (aR b (toNat 6)=0)) = !decide (GA b):=(aR7 _ _ _ _).trans (fj (λx => !x) (decide_eq_decide.2 sW))
  rw[hall]
  refine ay (λh=>?_) (λhf=>?_)
  .exact G9 (by rw[mZ,ah h8,aj];simpa using h) bo
  have hf:GA b:=by simpa using hf
  refine ay (λh=>?_) (λh5=>?_)
  .exact G9 (by rw[mZ,ah h8,ah (λk=>k hf),aj (aX h)]) bo
  have h5:=bi h5
  refine⟨ab,ab,ab,?_⟩
  rintro x w ⟨rfl,rfl⟩
  refine⟨by rw[ng];omega,?_⟩
  rintro c rfl
  refine ay (λh=>?_) (λh=>?_)
  .refine G9 (by rw[mZ,ah h8,ah (λk=>k hf),ah h5,aj];intro k;rw[dM] at k;rw[fm k] at h;cases h) bo
  have h0:mZ b=0:=by
   rw[mZ,ah h8,ah (λk=>k hf),ah h5,ah]
   intro k;rw[dM] at k;rw[fh k] at h;cases h
  rw[BJ]
  repeat refine⟨ab,?_⟩
  refine⟨by rw[ib];omega,?_⟩
  rintro y rfl
  have g0:=hb _ (cA (xs:=b) (i:=0) ab ab)
  have g1:=hb _ (cA (xs:=b) (i:=1) ab ab)
  rw[nq,aj h0,h0,aL ab ab,aL ab ab];exact⟨rfl,rfl⟩
theorem an0:aB 242 bM9.spec:=aF Tryz.func242 (am (am (am (am aC (Ct.named Ig)) (Ct.named AE)) Gk) (Ct.named na)) aS Zp
def aL8:Ct:=⟨[.val db,.val db,.val (.sl bq)],[.agg Ol,.val cI],λd=>[(d.2.2.1.length:Int)<=1000000],λd=>((tR d.1 d.2.1 d.2.2.1,md d.1 d.2.1 d.2.2.1,()),())⟩
theorem bP9:
 ∀(a b:Int)(c:ac),aQ a/\aQ b/\ai (aV c)->bY c->au (av (ae c) 8) ((0,gA)=tR a b c/\3=md a b c) (ao 4 (4+2<=ae c) (aG c/\au (bW (aR c (toNat 4)) (ae c)) ((0,gA)=tR a b c/\2=md a b c) (au (av 1480 (ae c)) ((0,gA)=tR a b c/\5=md a b c) (ao 6 (6+2<=ae c) (aG c/\ ∀(d:ac),Bw (d=de c (toNat 6) 0) (aR c (toNat 6)) (dj d) (lh a b d) ((0,gA)=tR a b c/\4=md a b c) (ao 0 (0+2<=ae c) (aG c/\ao 2 (2+2<=ae c) (aG c/\bM 8 (ae c) (ae c<=ae c) (aG (yx c)/\ ∀(e:ac),e=yx c->(aR c (toNat 0),aR c (toNat 2),e)=tR a b c/\0=md a b c))))))))):= by
  delta ae aV aQ aG cH ao dj bY gA ai aD bW bM av yx Bw
  rintro s d b ⟨-,-,⟨-,hb⟩,-⟩ hl
  refine ay (λh=>?_) (λh8=>?_)
  .exact H5 (by rw[md,aj (aX h)]) bo
  have h8:=bi h8
  repeat refine⟨ab,?_⟩
  refine ay (λh=>?_) (λhf=>?_)
  .exact H5 (by rw[md,ah h8,aj];simpa using h) bo
  have hf:aR b (toNat 4)=b.length:=by simpa using hf
  refine ay (λh=>?_) (λh5=>?_)
  .exact H5 (by rw[md,ah h8,ah (λk=>k hf),aj (aX h)]) bo
  have h5:=bi h5
  repeat refine⟨ab,?_⟩
  rintro x w ⟨rfl,rfl⟩
  refine⟨by rw[ng];omega,?_⟩
  rintro c rfl
  refine ay (λh=>?_) (λh=>?_)
  .refine H5 (by rw[md,ah h8,ah (λk=>k hf),ah h5,aj];intro k;rw[fm k] at h;cases h) bo
  have h0:md s d b=0:=by
   rw[md,ah h8,ah (λk=>k hf),ah h5,ah]
   intro k;rw[fh k] at h;cases h
  rw[BJ]
  repeat refine⟨ab,?_⟩
  refine⟨by rw[ib];omega,?_⟩
  rintro y rfl
  rw[tR,aj h0,h0];exact⟨rfl,rfl⟩
theorem aT1:aB 315 aL8.spec:=aF Tryz.func315 (am (am (am (am aC (Ct.named Ig)) (Ct.named XD)) Gk) (Ct.named na)) aS bP9
def bo6:Ct:=⟨[.val db,.val db,.val (.sl bq)],[.agg D1,.val cI],λd=>[(d.2.2.1.length:Int)<=1000000],λd=>((gF d.1 d.2.1 d.2.2.1,lr d.1 d.2.1 d.2.2.1,()),())⟩
def i7(a:ac):=fA a (toNat 20) (toNat (ae a))
theorem ad8:
 ∀(a b:Int)(c:ac),aQ a/\aQ b/\ai (aV c)->bY c->au (av (ae c) 20) ((0,0,0,0,0,gA)=gF a b c/\3=lr a b c) (ao 12 (12<ae c) (BL (bW (af c 12) 80) (ao 18 (18+2<=ae c) (ai (aG c))) (bJ (aR c (toNat 18))) ((0,0,0,0,0,gA)=gF a b c/\2=lr a b c) (au (av 1480 (ae c)) ((0,0,0,0,0,gA)=gF a b c/\5=lr a b c) (ao 16 (16+2<=ae c) (aG c/\ ∀(d:ac),Bw (d=de c (toNat 16) 0) (aR c (toNat 16)) (dj d) (f6 a b 6 d) ((0,0,0,0,0,gA)=gF a b c/\4=lr a b c) (ao 0 (0+2<=ae c) (aG c/\ao 2 (2+2<=ae c) (aG c/\ao 4 (4+2<=ae c) (aG c/\ao 16 ((0:Int)<=(6:Int)) (6+2<=ae c/\aG c/\ao 8 (8+2<=ae c) (aG c/\ao 16 ((0:Int)<=(10:Int)) (10+2<=ae c/\aG c/\ao 13 (13<ae c) (ao 14 (14+2<=ae c) (aG c/\bM 20 (ae c) (ae c<=ae c) (aG (i7 c)/\ ∀(e:List
 Int),e=i7 c->(aR c (toNat 0),aR c (toNat 2),bits BinOp.or IntKind.i64 (gW IntKind.i64 (aR c (toNat 4)) 16) (aR c (toNat 6)),bits BinOp.or IntKind.i64 (gW IntKind.i64 (aR c (toNat 8)) 16) (aR c (toNat 10)),ap (af c 13),aR c (toNat 14),e)=gF a b c/\0=lr a b c))))))))))))))):= by
  delta af ae ap bO aV aQ aT aG cH bn i7 ao br bJ dj bY gA ai aD bW bM av BL Bw jW
  rintro s d b ⟨-,-,⟨-,hb⟩,-⟩ hl
  refine ay (λh=>?_) (λh8=>?_)
  .exact Hu (by rw[lr,aj (aX h)]) bo
  have h8:=bi h8
  refine⟨ab,ab,?_⟩
  (repeat (refine dq ?_;repeat refine dm ?_))
  rw[show (bif !decide (b.getD (toNat 12) default=80) then true else !decide (aR b (toNat 18)=0)) = !decide (DZ b) from (aC0 _ _).trans (fj (λx => !x) (decide_eq_decide.2 sW))]
  refine ay (λh=>?_) (λhf=>?_)
  .exact Hu (by rw[lr,ah h8,aj];simpa using h) bo
  have hf:DZ b:=by simpa using hf
  refine ay (λh=>?_) (λh5=>?_)
  .exact Hu (by rw[lr,ah h8,ah (λk=>k hf),aj (aX h)]) bo
  have h5:=bi h5
  repeat refine⟨ab,?_⟩
  rintro x w ⟨rfl,rfl⟩
  refine⟨by rw[ng];omega,?_⟩
  rintro c rfl
  refine ay (λh=>?_) (λh=>?_)
  .exact Hu (by rw[lr,ah h8,ah (λk=>k hf),ah h5,aj];intro k;rw[fm k] at h;cases h) bo
  have h0:lr s d b=0:=by
   rw[lr,ah h8,ah (λk=>k hf),ah h5,ah]
   intro k;rw[fh k] at h;cases h
  rw[BJ]
  repeat refine⟨ab,?_⟩
  refine⟨by rw[ib];omega,?_⟩
  rintro y rfl
  have g:=hb _ (cA (xs:=b) (i:=13) ab ab)
  have v4:=Kv (k:=toNat 4) hb
  have v6:=Kv (k:=toNat 6) hb
  have v8:=Kv (k:=toNat 8) hb
  have v10:=Kv (k:=toNat 10) hb
  rw[gF,aj h0,h0,aL ab ab,RL v4.1 v4.2 v6.1 v6.2,RL v8.1 v8.2 v10.1 v10.2];exact⟨rfl,rfl⟩
theorem UH:aB 244 bo6.spec:=aF Tryz.func244 (am (am (am (am aC (Ct.named Ig)) (Ct.named L9)) Gk) (Ct.named na)) aS ad8
def He(data:ac)(e:qk):Prop:=(dL e.2.1=true/\dL e.2.2.1=true)/\e.2.2.2=data
def KW(data:ac)(u:uu):Prop:=(dL u.1=true/\dL u.2.1=true)/\u.2.2=data
def Kx(data:ac)(s:mI):Prop:=rJ s/\s.2.2.2.2.2.2=data
theorem oB{n:Int}(h0:0<=n)(h1:n<=65535):n/256%256*256+n%256=n:=by omega
theorem aB4{e:qk}(h:kL e=0):fP e=(if e.1 then 0 else 8)::0::(dM (dB e)/256%256)::(dM (dB e)%256)::(e.2.1/256%256)::(e.2.1%256)::(e.2.2.1/256%256)::(e.2.2.1%256)::e.2.2.2:=by
 rw[fP,aj h];rfl
theorem EV{data:ac}{e:qk}(h:He data e)(hl:(data.length:Int)<=1472):kL e=0:=by
 rw[kL,ah (λk=>k h.1),ah (by rw[h.2];omega)]
theorem SW{data:ac}{e:qk}(h:He data e)(hd:bytes data)(hl:(data.length:Int)<=1472):kX (fP e)=0/\g7 (fP e)=e:=by
 have h0:=EV h hl
 rw[aB4 h0]
 obtain⟨⟨h1,h2⟩,h3⟩:=h
 rw[iQ] at h1 h2
 have hc:=rX (BF (e:=e) (by rw[h3];exact hd))
 have hb:dB e=(if e.1 then 0 else 8)::0::0::0::(e.2.1/256%256)::(e.2.1%256)::(e.2.2.1/256%256)::(e.2.2.1%256)::e.2.2.2:=rfl
 obtain⟨r,i,q,l⟩:=e
 simp only at h1 h2 h3 hc hb ⊢
 subst h3
 have he:kX ((if r then 0 else 8)::0::(dM (dB (r,i,q,l))/256%256)::(dM (dB (r,i,q,l))%256)::(i/256%256)::(i%256)::(q/256%256)::(q%256)::l)=0:=by
  rw[kX,ah (by simp only[dP];omega),ah,ah (by simp only[dP];omega),ah]
  .have e2:aR ((if r then 0 else 8)::0::(dM (dB (r,i,q,l))/256%256)::(dM (dB (r,i,q,l))%256)::(i/256%256)::(i%256)::(q/256%256)::(q%256)::l) (toNat 2)=dM (dB (r,i,q,l))/256%256*256+dM (dB (r,i,q,l))%256:=ju _ _ _;rw[e2,oB hc.1 hc.2];have e3:de ((if r then 0 else 8)::0::(dM (dB (r,i,q,l))/256%256)::(dM (dB (r,i,q,l))%256)::(i/256%256)::(i%256)::(q/256%256)::(q%256)::l) (toNat 2) 0=dB (r,i,q,l):=rfl;rw[e3];exact λk=>k rfl
  .intro k;apply k;refine⟨?_,rfl⟩;cases r
   .exact .inl rfl
   .exact .inr rfl
 refine⟨he,?_⟩
 rw[g7,aj he]
 have e4:aR ((if r then 0 else 8)::0::(dM (dB (r,i,q,l))/256%256)::(dM (dB (r,i,q,l))%256)::(i/256%256)::(i%256)::(q/256%256)::(q%256)::l) (toNat 4)=i/256%256*256+i%256:=ju _ _ _
 have e6:aR ((if r then 0 else 8)::0::(dM (dB (r,i,q,l))/256%256)::(dM (dB (r,i,q,l))%256)::(i/256%256)::(i%256)::(q/256%256)::(q%256)::l) (toNat 6)=q/256%256*256+q%256:=ju _ _ _
 rw[e4,e6,oB h1.1 h1.2,oB h2.1 h2.2]
 cases r <;> rfl
theorem Lm{data:ac}{u:uu}(h:KW data u)(hl:(data.length:Int)<=1472):mF u=0:=by
 rw[mF,ah (λk=>k h.1),ah (by rw[h.2];omega)]
theorem bh0{s d:Int}{data:ac}{u:uu}(h:KW data u)(hd:bytes data)(hl:(data.length:Int)<=1472):md s d (kZ s d u)=0/\tR s d (kZ s d u)=u:=by
 have h0:=Lm h hl
 obtain⟨⟨h1,h2⟩,h3⟩:=h
 rw[iQ] at h1 h2
 have hc:=Pl (a:=s) (b:=d) (Gq (e:=u) (by rw[h3];exact hd))
 obtain⟨sp,dp,l⟩:=u
 simp only at h1 h2 h3 hc
 subst h3
 generalize hB:kZ s d (sp,dp,l)=B
 have hs:B=(sp/256%256)::(sp%256)::(dp/256%256)::(dp%256)::((8+l.length:Int)/256%256)::((8+l.length:Int)%256)::(lh s d (fO (sp,dp,l))/256%256)::(lh s d (fO (sp,dp,l))%256)::l:=by rw[← hB,kZ,aj h0];rfl
 have i0:aR B (toNat 0)=sp/256%256*256+sp%256:=by rw[hs];exact ju _ _ _
 have i2:aR B (toNat 2)=dp/256%256*256+dp%256:=by rw[hs];exact ju _ _ _
 have i4:aR B (toNat 4)=(8+l.length:Int)/256%256*256+(8+l.length:Int)%256:=by rw[hs];exact ju _ _ _
 have i6:aR B (toNat 6)=lh s d (fO (sp,dp,l))/256%256*256+lh s d (fO (sp,dp,l))%256:=by rw[hs];exact ju _ _ _
 have hset:de B (toNat 6) 0=fO (sp,dp,l):=by rw[hs];rfl
 have hlen:(B.length:Int)=8+l.length:=by rw[hs];simp only[dP];omega
 have g8:B.drop 8=l:=by rw[hs];rfl
 have he:md s d B=0:=by
  rw[md,ah ab,ah (λq=>q (by rw[i4];omega)),ah ab,ah];rw[hset,i6,oB hc.1 hc.2];exact λq=>q rfl
 refine⟨he,?_⟩
 rw[tR,aj he,i0,i2,g8,oB h1.1 h1.2,oB h2.1 h2.2]
theorem MW{data:ac}{s:mI}(h:Kx data s)(hl:(data.length:Int)<=1460):mO s=0:=by
 rw[mO,ah (λk=>k h.1),ah (by rw[h.2];omega)]
theorem Qs{n:Int}(h0:0<=n)(h1:n<=4294967295):(n/16777216%256*256+n/65536%256)*65536+(n/256%256*256+n%256)=n:=ab
theorem XY{s d:Int}{data:ac}{u:mI}(h:Kx data u)(hd:bytes data)(hl:(data.length:Int)<=1460):lr s d (gc s d u)=0/\gF s d (gc s d u)=u:=by
 have h0:=MW h hl
 obtain⟨hok,h3⟩:=h
 have hc:=B6 (a:=s) (b:=d) (p:=6) (CZ hok (by rw[h3];exact hd))
 obtain⟨h1,h2,k3,k4,k5,k6⟩:=hok
 rw[iQ] at h1 h2 k6
 obtain⟨sp,dp,sq,ak,fl,wi,l⟩:=u
 simp only at h1 h2 h3 hc k3 k4 k5 k6
 subst h3
 generalize hC:f6 s d 6 (mT (sp,dp,sq,ak,fl,wi,l))=c at hc
 generalize hB:gc s d (sp,dp,sq,ak,fl,wi,l)=B
 have hs:B=(sp/256%256)::(sp%256)::(dp/256%256)::(dp%256)::(sq/16777216%256)::(sq/65536%256)::(sq/256%256)::(sq%256)::(ak/16777216%256)::(ak/65536%256)::(ak/256%256)::(ak%256)::80::fl::(wi/256%256)::(wi%256)::(c/256%256)::(c%256)::0::0::l:=by rw[← hB,gc,aj h0,hC];rfl
 have i0:aR B (toNat 0)=sp/256%256*256+sp%256:=by rw[hs];exact ju _ _ _
 have i2:aR B (toNat 2)=dp/256%256*256+dp%256:=by rw[hs];exact ju _ _ _
 have i4:aR B (toNat 4)=sq/16777216%256*256+sq/65536%256:=by rw[hs];exact ju _ _ _
 have i6:aR B (toNat 6)=sq/256%256*256+sq%256:=by rw[hs];exact ju _ _ _
 have i8:aR B (toNat 8)=ak/16777216%256*256+ak/65536%256:=by rw[hs];exact ju _ _ _
 have i10:aR B (toNat 10)=ak/256%256*256+ak%256:=by rw[hs];exact ju _ _ _
 have i14:aR B (toNat 14)=wi/256%256*256+wi%256:=by rw[hs];exact ju _ _ _
 have i16:aR B (toNat 16)=c/256%256*256+c%256:=by rw[hs];exact ju _ _ _
 have i18:aR B (toNat 18)=0:=by rw[hs];exact ju 0 0 _
 have hset:de B (toNat 16) 0=mT (sp,dp,sq,ak,fl,wi,l):=by rw[hs];rfl
 have hlen:(B.length:Int)=20+l.length:=by rw[hs];simp only[dP];omega
 have g12:B.getD (toNat 12) default=80:=by rw[hs];rfl
 have g13:B.getD (toNat 13) default=fl:=by rw[hs];rfl
 have g20:B.drop 20=l:=by rw[hs];rfl
 have he:lr s d B=0:=by
  rw[lr,ah ab,ah (λq=>q ⟨g12,i18⟩),ah ab,ah];rw[hset,hC,i16,oB hc.1 hc.2];exact λq=>q rfl
 refine⟨he,?_⟩
 rw[gF,aj he,i0,i2,i4,i6,i8,i10,g13,i14,g20,oB h1.1 h1.2,oB h2.1 h2.2,oB k6.1 k6.2,Qs k3.1 k3.2,Qs k4.1 k4.2]
def vJ(s d p n:Int):ac:=w4 s++(w4 d++(w2 p++w2 n))
theorem PG(s d p:Int)(X:ac):cU true (Aq s d p X)=cU true (vJ s d p X.length)+cU true X:=by
 have e:Aq s d p X=vJ s d p X.length++X:=by simp[Aq,vJ]
 have hl:(vJ s d p X.length).length=12:=by simp[vJ,w4,w2]
 rw[e,Ea,hl];rfl
theorem bR5(s d p n:Int):cU true (vJ s d p n)=cU true (w4 s)+cU true (w4 d)+cU true (w2 p)+cU true (w2 n):=by
 have h4:∀ n r,cU true (w4 n++r)=cU true (w4 n)+cU true r:=λn r=>by rw[Ea,show (w4 n).length=4 from rfl];rfl
 have h2:∀ n r,cU true (w2 n++r)=cU true (w2 n)+cU true r:=λn r=>by rw[Ea,show (w2 n).length=2 from rfl];rfl
 rw[vJ,h4,h4,h2]
 omega
theorem bd7(e:qk):((fP e).length:Int)<=1480:=by
 unfold fP
 split
 next h=>
  rw[ng,JY];unfold kL at h;split at h
  .cases h
  .split at h
   .cases h
   .omega
 .simp
theorem M5(e:gJ):((jL e).length:Int)<=1480:=by
 unfold jL
 split
 next h=>
  rw[ng,Mu];unfold lf at h;split at h
  .cases h
  .split at h
   .cases h
   .split at h
    .cases h
    .omega
 .simp
theorem aX8(s d:Int)(e:mI):((gc s d e).length:Int)<=1480:=by
 unfold gc
 split
 next h=>
  rw[ng,ET];unfold mO at h;split at h
  .cases h
  .split at h
   .cases h
   .omega
 .simp
theorem Qu{l:ac}{i:Nat}{v:Int}(h:i<l.length):(l.set i v).getD i default=v:=by
 rw[ct,List.getElem?_set_self h,jo]
theorem Gc{l:ac}{i j:Nat}{v:Int}(h:i≠j):(l.set i v).getD j default=l.getD j default:=by
 rw[ct,List.getElem?_set_ne h,← ct]
theorem bm8{b:ac}(h:kX b=0):8<=b.length/\dM (de b 2 0)=aR b 2:=by
 unfold kX at h
 split at h
 .cases h
 .split at h
  .cases h
  .split at h
   .cases h
   .split at h
    .cases h
    next h1 _ _ h4=>exact⟨ab,sI.1 h4⟩
theorem VS(s d p n:Int):p%256<=cU true (vJ s d p n):=by
 rw[bR5];simp[cU,w4,w2];omega
abbrev oV:CT := .pair cI (.pair cI (.pair cI (.pair cI (.pair .bool (.pair db db)))))
abbrev BY:CT := .pair oV (.sl bq)
abbrev dJ:Type:=Int×Int×Int×Int×Bool×Int×Int
abbrev nH:Type:=dJ×ac
def tg(n:Int):Prop:=0<=n/\n<=255
instance (n:Int):Decidable (tg n):=by unfold tg;infer_instance
def nh(h:dJ):Prop:=tg h.1/\tg h.2.2.1/\tg h.2.2.2.1/\0<=h.2.1/\h.2.1<=65535
instance (h:dJ):Decidable (nh h):=by unfold nh;infer_instance
def nN(h:dJ):Int:=if nh h then 0 else 1
def Ix(h:dJ)(n:Int):ac:=[69,h.1]++(w2 n++(w2 h.2.1++(w2 (if h.2.2.2.2.1 then 16384 else 0)++[h.2.2.1,h.2.2.2.1])))
def O4(h:dJ):ac:=w4 h.2.2.2.2.2.1++w4 h.2.2.2.2.2.2
def j3(h:dJ)(n:Int):ac:=Ix h n++([0,0]++O4 h)
def kQ(h:dJ)(n:Int):ac:=de (j3 h n) 10 (dM (j3 h n))
def gv(p:nH):Int:=if ¬ nh p.1 then 1 else if (1480:Int)<p.2.length then 5 else 0
def fN(p:nH):ac:=if gv p=0 then kQ p.1 (20+p.2.length)++p.2 else []
def ja(b:ac):Int :=
 if (b.length:Int)<20 then 3 else if ¬ (b.getD 0 default=69/\(aR b 6=0∨aR b 6=16384)/\20<=aR b 2) then 2
 else if dM (de (b.take 20) 10 0)≠aR b 10 then 4 else 0
def sy:dJ:=(0,0,0,0,false,0,0)
def cy(b:ac):dJ:=(b.getD 1 default,aR b 4,b.getD 8 default,b.getD 9 default,decide (aR b 6=16384),gX ((b.drop 12).take 4),gX ((b.drop 16).take 4))
def rE(b:ac):dJ:=if ja b=0 then cy b else sy
def ra(b:ac):Int:=if ja b=0 then aR b 2 else 0
def dE(b:ac):Int:=if ja b≠0 then ja b else if aR b 2≠b.length then 2 else if 1500<aR b 2 then 5 else 0
def cD(b:ac):nH:=if dE b=0 then (cy b,b.drop 20) else (sy,[])
def BT(h:dJ):dJ:=(h.1,h.2.1,h.2.2.1-1,h.2.2.2)
def j4(b:ac):Int:=if dE b≠0 then dE b else if (cy b).2.2.1<2 then 7 else 0
def lL(b:ac):ac:=if j4 b=0 then fN (BT (cy b),b.drop 20) else []
theorem bq4(h:dJ)(n:Int):(j3 h n).length=20:=rfl
theorem vu(h:dJ)(n:Int):(kQ h n).length=20:=by unfold kQ;rw[ng];rfl
theorem Kd{h:dJ}{n:Int}(hk:nh h):bytes (j3 h n):=by
 obtain⟨a,b,c,-⟩:=hk
 exact jN (jN (pd ab ab (pd a.1 a.2 qw)) (jN (ou _) (jN (ou _) (jN (ou _) (pd b.1 b.2 (pd c.1 c.2 qw))))))
  (jN (pd ab ab (pd ab ab qw)) (jN (DV _) (DV _)))
theorem OX{h:dJ}{n:Int}(hk:nh h):bytes (kQ h n):=wJ (Kd hk)
theorem nP{n:Nat}{b:ac}(h:n+1<=b.length):∃ x r,b=x::r/\n<=r.length:=by
 cases b with
 | nil=>simp at h
 | cons x r=>exact⟨x,r,rfl,by simpa using h⟩
theorem bm1{b:ac}(h:20<=b.length):∃ x y z A B C D E F G a c d e f g i j k l r,b=x::y::z::A::B::C::D::E::F::G::a::c::d::e::f::g::i::j::k::l::r:=by
 obtain⟨x,b1,rfl,h1⟩:=nP h
 obtain⟨y,b2,rfl,h2⟩:=nP h1
 obtain⟨z,b3,rfl,h3⟩:=nP h2
 obtain⟨A,b4,rfl,h4⟩:=nP h3
 obtain⟨B,b5,rfl,h5⟩:=nP h4
 obtain⟨C,b6,rfl,h6⟩:=nP h5
 obtain⟨D,b7,rfl,h7⟩:=nP h6
 obtain⟨E,b8,rfl,h8⟩:=nP h7
 obtain⟨F,b9,rfl,h9⟩:=nP h8
 obtain⟨G,b10,rfl,m⟩:=nP h9
 obtain⟨a,b11,rfl,n⟩:=nP m
 obtain⟨c,b12,rfl,o⟩:=nP n
 obtain⟨d,b13,rfl,p⟩:=nP o
 obtain⟨e,b14,rfl,q⟩:=nP p
 obtain⟨f,b15,rfl,s⟩:=nP q
 obtain⟨g,b16,rfl,t⟩:=nP s
 obtain⟨i,b17,rfl,u⟩:=nP t
 obtain⟨j,b18,rfl,v⟩:=nP u
 obtain⟨k,b19,rfl,w⟩:=nP v
 obtain⟨l,b20,rfl,h20⟩:=nP w
 grind
theorem bf3(a:Int):gX [a]=a:=by simp[gX]
theorem El(a b c d:Int):gX [a,b,c,d]=((a*256+b)*256+c)*256+d:=by simp[gX]
theorem M9{b:ac}{a w:Int}(h1:1<=w)(h2:w<=7)(h3:0<=a)(h4:a+w<=b.length):dQ b a w=gX ((b.drop a.toNat).take w.toNat):=by
 rw[dQ,ah ab]
theorem aW2{b:ac}{i:Nat}(h:i<b.length):(b.drop i).take 1=[b.getD i default]:=by
 rw[vj h,ct,cM h];rfl
theorem IJ{b:ac}{a:Int}(h3:0<=a)(h4:a+1<=b.length):dQ b a 1=b.getD a.toNat default:=by
 rw[M9 ab ab h3 h4,show (1:Int).toNat=1 from rfl,aW2 ab,bf3]
theorem rR{b:ac}{a:Int}(h3:0<=a)(h4:a+2<=b.length):dQ b a 2=aR b a.toNat:=by
 rw[M9 ab ab h3 h4];rfl
theorem Lw{b:ac}{a:Int}(h3:0<=a)(h4:a+4<=b.length):dQ b a 4=gX ((b.drop a.toNat).take 4):=by
 rw[M9 ab ab h3 h4];rfl
theorem zi{b:ac}{n i:Nat}(h:i<n):(b.take n).getD i default=b.getD i default:=by
 rw[ct,vw,aj h,← ct]
theorem Ca{b:ac}{n i k:Nat}(h:i+k<=n):((b.take n).drop i).take k=(b.drop i).take k:=by
 rw[List.drop_take,List.take_take,Nat.min_eq_left ab]
theorem uH{b:ac}{n i:Nat}(h:i+2<=n):aR (b.take n) i=aR b i:=by
 unfold aR;rw[Ca h]
theorem Ms{b:ac}{n:Nat}(h:bytes b):bytes (b.take n):=λx hx=>h x (qr hx)
theorem Bh{b:ac}{n:Nat}(h:bytes b):bytes (b.drop n):=λx hx=>h x (zA hx)
theorem Hq{b:ac}(h:bytes b){i:Nat}(hi:i<b.length):0<=b.getD i default/\b.getD i default<=255:=by
 have:=cA (xs:=b) (i:=(i:Int)) ab ab
 exact h _ this
theorem rY{b:ac}(h:bytes b)(i:Nat):0<=aR b i/\aR b i<=65535:=by
 have:=Kh 2 ((b.drop i).take 2) (by rw[dG];omega) (λx hx=>h x (zA (qr hx)))
 have e:(256:Int)^2=65536:=rfl
 unfold aR;omega
theorem zw{b:ac}(h:bytes b)(i:Nat):0<=gX ((b.drop i).take 4)/\gX ((b.drop i).take 4)<=4294967295:=by
 have:=Kh 4 ((b.drop i).take 4) (by rw[dG];omega) (λx hx=>h x (zA (qr hx)))
 have e:(256:Int)^4=4294967296:=rfl
 omega
theorem nX{a:Int}{l:ac}(h:bytes (a::l)):(0<=a/\a<=255)/\bytes l:=⟨h a fp,λx hx=>h x (fu _ hx)⟩
theorem SZ{a b c d:Int}(ha:0<=a/\a<=255)(hb:0<=b/\b<=255)(hc:0<=c/\c<=255)(hd:0<=d/\d<=255):w4 (((a*256+b)*256+c)*256+d)=[a,b,c,d]:=by
 unfold w4
 have e1:(((a*256+b)*256+c)*256+d)/16777216%256=a:=ab
 have e2:(((a*256+b)*256+c)*256+d)/65536%256=b:=ab
 have e3:(((a*256+b)*256+c)*256+d)/256%256=c:=ab
 have e4:(((a*256+b)*256+c)*256+d)%256=d:=ab
 rw[e1,e2,e3,e4]
theorem bP2{b:ac}(hb:bytes b)(hl:20<=b.length)(h0:b.getD 0 default=69)(hf:aR b 6=0∨aR b 6=16384) :
  j3 (cy b) (aR b 2)=de (b.take 20) 10 0/\(kQ (cy b) (aR b 2)=b.take 20↔dM (de (b.take 20) 10 0)=aR b 10):=by
 obtain⟨x0,x1,x2,x3,x4,x5,x6,x7,x8,x9,x10,x11,x12,x13,x14,x15,x16,x17,x18,x19,r,rfl⟩:=bm1 hl
 have hb0:=hb
 obtain⟨k0,hb⟩:=nX hb
 obtain⟨k1,hb⟩:=nX hb
 obtain⟨k2,hb⟩:=nX hb
 obtain⟨k3,hb⟩:=nX hb
 obtain⟨k4,hb⟩:=nX hb
 obtain⟨k5,hb⟩:=nX hb
 obtain⟨k6,hb⟩:=nX hb
 obtain⟨k7,hb⟩:=nX hb
 obtain⟨k8,hb⟩:=nX hb
 obtain⟨k9,hb⟩:=nX hb
 obtain⟨k10,hb⟩:=nX hb
 obtain⟨k11,hb⟩:=nX hb
 obtain⟨k12,hb⟩:=nX hb
 obtain⟨k13,hb⟩:=nX hb
 obtain⟨k14,hb⟩:=nX hb
 obtain⟨k15,hb⟩:=nX hb
 obtain⟨k16,hb⟩:=nX hb
 obtain⟨k17,hb⟩:=nX hb
 obtain⟨k18,hb⟩:=nX hb
 obtain⟨k19,hb⟩:=nX hb
 have e2:aR (x0::x1::x2::x3::x4::x5::x6::x7::x8::x9::x10::x11::x12::x13::x14::x15::x16::x17::x18::x19::r) 2=x2*256+x3:=ju _ _ _
 have e4:aR (x0::x1::x2::x3::x4::x5::x6::x7::x8::x9::x10::x11::x12::x13::x14::x15::x16::x17::x18::x19::r) 4=x4*256+x5:=ju _ _ _
 have e6:aR (x0::x1::x2::x3::x4::x5::x6::x7::x8::x9::x10::x11::x12::x13::x14::x15::x16::x17::x18::x19::r) 6=x6*256+x7:=ju _ _ _
 have e10:aR (x0::x1::x2::x3::x4::x5::x6::x7::x8::x9::x10::x11::x12::x13::x14::x15::x16::x17::x18::x19::r) 10=x10*256+x11:=ju _ _ _
 have n12:gX (((x0::x1::x2::x3::x4::x5::x6::x7::x8::x9::x10::x11::x12::x13::x14::x15::x16::x17::x18::x19::r).drop 12).take 4)=((x12*256+x13)*256+x14)*256+x15:=El _ _ _ _
 have n16:gX (((x0::x1::x2::x3::x4::x5::x6::x7::x8::x9::x10::x11::x12::x13::x14::x15::x16::x17::x18::x19::r).drop 16).take 4)=((x16*256+x17)*256+x18)*256+x19:=El _ _ _ _
 have h0:x0=69:=h0
 subst h0
 rw[e6] at hf
 have hk:w2 (if decide (x6*256+x7=16384) then 16384 else 0)=[x6,x7]:=by
  rcases hf with hf|hf
  .rw[hf];have:x6=0/\x7=0:=ab;rw[this.1,this.2];rfl
  .rw[hf];have:x6=64/\x7=0:=ab;rw[this.1,this.2];rfl
 have hbody:j3 (cy (69::x1::x2::x3::x4::x5::x6::x7::x8::x9::x10::x11::x12::x13::x14::x15::x16::x17::x18::x19::r)) (aR (69::x1::x2::x3::x4::x5::x6::x7::x8::x9::x10::x11::x12::x13::x14::x15::x16::x17::x18::x19::r) 2)=de ((69::x1::x2::x3::x4::x5::x6::x7::x8::x9::x10::x11::x12::x13::x14::x15::x16::x17::x18::x19::r).take 20) 10 0:=by
  unfold j3 Ix O4 cy;simp only;rw[e2,e4,e6,n12,n16,hk,Kn k2.1 k2.2 k3.1 k3.2,Kn k4.1 k4.2 k5.1 k5.2,SZ k12 k13 k14 k15,SZ k16 k17 k18 k19];rfl
 refine⟨hbody,?_⟩
 rw[kQ,hbody,e10]
 have hc:=rX (b:=de ((69::x1::x2::x3::x4::x5::x6::x7::x8::x9::x10::x11::x12::x13::x14::x15::x16::x17::x18::x19::r).take 20) 10 0) (wJ (λx hx=>hb0 x (qr hx)))
 generalize dM (de ((69::x1::x2::x3::x4::x5::x6::x7::x8::x9::x10::x11::x12::x13::x14::x15::x16::x17::x18::x19::r).take 20) 10 0)=c at hc ⊢
 have e:de (de ((69::x1::x2::x3::x4::x5::x6::x7::x8::x9::x10::x11::x12::x13::x14::x15::x16::x17::x18::x19::r).take 20) 10 0) 10 c=[69,x1,x2,x3,x4,x5,x6,x7,x8,x9,c/256%256,c%256,x12,x13,x14,x15,x16,x17,x18,x19]:=rfl
 rw[e]
 have e':(69::x1::x2::x3::x4::x5::x6::x7::x8::x9::x10::x11::x12::x13::x14::x15::x16::x17::x18::x19::r).take 20=[69,x1,x2,x3,x4,x5,x6,x7,x8,x9,x10,x11,x12,x13,x14,x15,x16,x17,x18,x19]:=rfl
 rw[e']
 constructor
 .intro h;simp only[List.cons.injEq,iC,true_and] at h;omega
 .intro h;have:c/256%256=x10/\c%256=x11:=ab;rw[this.1,this.2]
def C7(k:Nat):Nat:=[0,1,2,4,6,8,9,10,12,16,20].getD k 20
theorem ax7{h:dJ}{n f k:Int}(hok:nh h)(n0:0<=n)(n1:n<=65535)(s0:0<=h.2.2.2.2.2.1/\h.2.2.2.2.2.1<=4294967295)(d0:0<=h.2.2.2.2.2.2/\h.2.2.2.2.2.2<=4294967295)(hf:f=if h.2.2.2.2.1 then 16384 else 0)(k0:0<=k)(k1:k<10) :
  putB ((j3 h n).take (C7 k.toNat)) (pickI [69,h.1,n,h.2.1,f,h.2.2.1,h.2.2.2.1,0,h.2.2.2.2.2.1,h.2.2.2.2.2.2] k.toNat) (pickI [1,1,2,2,2,1,1,2,4,4] k.toNat)=(j3 h n).take (C7 (k+1).toNat):=by
 obtain⟨h1,h2,h3,h4,h5⟩:=hok
 have hf0:0<=f/\f<=65535:=by rw[hf];split <;> omega
 have:k=0∨k=1∨k=2∨k=3∨k=4∨k=5∨k=6∨k=7∨k=8∨k=9:=ab
 rcases this with rfl|rfl|rfl|rfl|rfl|rfl|rfl|rfl|rfl|rfl
 .exact wK (b:=[]) (n:=69) ab ab
 .exact wK (b:=[69]) h1.1 h1.2
 .exact lI (b:=[69,h.1]) n0 n1
 .exact lI (b:=[69,h.1]++w2 n) h4 h5
 .have:=lI (b:=[69,h.1]++(w2 n++w2 h.2.1)) hf0.1 hf0.2;rw[hf] at this ⊢;exact this
 .exact wK (b:=(j3 h n).take 8) h2.1 h2.2
 .exact wK (b:=(j3 h n).take 9) h3.1 h3.2
 .exact lI (b:=(j3 h n).take 10) (n:=0) ab ab
 .exact zu (b:=(j3 h n).take 12) s0.1 s0.2
 .exact zu (b:=(j3 h n).take 16) d0.1 d0.2
theorem H9{b:ac}(h:ja b=0):20<=b.length:=by
 unfold ja at h
 split at h
 .cases h
 .omega
theorem I4{b:ac}(h:dE b=0):ja b=0:=by
 unfold dE at h
 split at h
 next k=>exact absurd h k
 next k=>exact sI.1 k
theorem DJ{b:ac}(h:dE b=0):(b.length:Int)<=1500/\aR b 2=b.length:=by
 unfold dE at h
 split at h
 next k=>exact absurd h k
 .split at h
  .cases h
  .split at h
   .cases h
   .omega
theorem aH0{b:ac}(hb:bytes b)(h:ja b=0):nh (cy b):=by
 have hl:=H9 h
 exact⟨Hq hb ab,Hq hb ab,Hq hb ab,rY hb 4⟩
theorem bp5{b:ac}(hb:bytes b)(h:dE b=0)(h2:¬ (cy b).2.2.1<2):nh (BT (cy b)):=by
 obtain⟨k1,k2,k3,k4⟩:=aH0 hb (I4 h)
 refine⟨k1,?_,k3,k4⟩
 obtain⟨k5,k6⟩:=k2
 show 0<=(cy b).2.2.1-1/\(cy b).2.2.1-1<=255
 omega
def al6:Ct:=⟨[.val cI],[.val .bool],λd=>[],λd=>((dL d.1,()),())⟩
theorem am7:
 Dr:= by
 delta aq aI aT bw wu ai gD ft Dr uG
 rintro n - -
 (repeat (intro (b_:Bool) (hb_:b_=_);(repeat refine⟨(by first|(simp;done)|(rw[hb_];simp;done)|(rw[hb_];simp;omega)|(rw[hb_];simp;intros;omega)|(rw[hb_];simp +contextual;done)),?_⟩);subst hb_))
 unfold dL
 by_cases h:0<=n <;> simp[h]
theorem bN9:aB 302 al6.spec:=aF Tryz.func302 aC aS am7
def bn1:Ct:=⟨[.val cI,.val cI],[.val cI],λd=>[],λd=>((if dL d.1&&dL d.2.1 then oc (d.1+d.2.1) else 0,()),())⟩
theorem bC7:
 ∀(a b:Int),dI a b->True->lw ( !dL a) ( !dL b) (0=uh a b) (0<=ap (a+b)/\oc (ap (a+b))=uh a b):= by
  delta ap aq aI bO aT bn cX br lw dI ai uh
  rintro a b - -
  (repeat (intro (b_:Bool) (hb_:b_=_);(repeat refine⟨(by first|(simp;done)|(rw[hb_];simp;done)|(rw[hb_];simp;omega)|(rw[hb_];simp;intros;omega)|(rw[hb_];simp +contextual;done)),?_⟩);subst hb_))
  refine ay (λhc=>?_) (λhc=>?_)
  .rw[ah]
   intro h;simp at h;simp[h] at hc
  .have hw:dL a=true/\dL b=true:=by simpa[gb] using hc
   rw[aj (by simp[hw])]
   have ha:0<=a/\a<=65535:=aX hw.1
   have hb:0<=b/\b<=65535:=aX hw.2
   rw[aL (n:=a+b) (by omega) (by omega)]
   exact⟨by omega,rfl⟩
theorem a30:aB 265 bn1.spec:=aF Tryz.func265 (am (am aC bN9) TS) aS bC7
def ba9:Ct:=⟨[.val cI],[.val .bool],λd=>[],λd=>((decide (tg d.1),()),())⟩
theorem bS1:
 ∀(a:Int),wu a (av a 256) (decide (tg a)):= by
  delta aq aI aT bw wu ai av gD ft uG
  rintro n - -
  (repeat (refine dq ?_;repeat refine dm ?_))
  unfold tg
  by_cases h:0<=n <;> simp[h] <;> omega
theorem bO8:aB 268 ba9.spec:=aF Tryz.func268 aC aS bS1
def bh3:Ct:=⟨[.agg oV],[.val cI],λd=>[],λd=>((nN d.1,()),())⟩
theorem aq4:
 ∀(a:dJ),ft (CT.wf oV a) (∀(b:Bool),b=( !decide (tg a.1))->bO b/\fZ b/\bO b/\br b/\ ∀(c:Bool),c=bn b ( !decide (tg a.2.2.1))->bO c/\fZ c/\bO c/\br c/\ ∀(d:Bool),d=bn c ( !decide (tg a.2.2.2.1))->cX d (br d) (lw (bn d (dw a.2.1)) (decide (65536<=a.2.1)) (1=nN a) (0=nN a))):= by
  delta bO aT bn cX br fZ lw ai dw d7 av ft
  rintro h - -
  (repeat (refine dq ?_;repeat refine dm ?_))
  refine ay (λhc=>?_) (λhc=>?_)
  .rw[nN,ah]
   intro k;obtain⟨k1,k2,k3,k4,k5⟩:=k
   simp[k1,k2,k3,gb] at hc;omega
  .rw[nN,aj]
   simp[gb] at hc
   exact⟨hc.1.1.1.1,hc.1.1.1.2,hc.1.1.2,ab,ab⟩
theorem ar4:aB 216 bh3.spec:=aF Tryz.func216 (am aC bO8) aS aq4
def WR:Ct:=⟨[.agg BY],[.own 5 bq,.val cI],λd=>[(d.1.2.length:Int)<=1073741824],λd=>((fN d.1,gv d.1,()),())⟩
def bB3:bp WR.ps->bI:=(λd=>{loops:=(bt 12 (λS=>{ι:=Int×ac,qn:=eO,μ:=λi=>(10-i.1).toNat,inv:=λi=>0<=i.1/\i.1<=10/\i.2=(j3 d.1.1 (20+d.1.2.length)).take (C7 i.1.toNat),keep:=[1,4,53],slots:=λi=>[(7,.own 524288 1),(54,.int .i64 i.1)],keepN:=[32,80],names:=λi=>[(524288,.live (.row 5 bq i.2))]}) bZ)})
def KT(a b:ac)(c:nH):=∀(d:Int),d=m7 a->ao 8 ((0:Int)<=(10:Int)) (10<ae a/\bu 11 (ae (set a (toNat 10) (IntKind.wrap IntKind.u8 (fy IntKind.i64 d 8)))) (gk (set (set a (toNat 10) (IntKind.wrap IntKind.u8 (fy IntKind.i64 d 8))) (toNat 11) (IntKind.wrap IntKind.u8 d)) b) (set (set a (toNat 10) (IntKind.wrap IntKind.u8 (fy IntKind.i64 d 8))) (toNat 11) (IntKind.wrap IntKind.u8 d)++b=fN c/\0=gv c))
def gQ(a b c d:Int)(e f:Prop):=aU a b (c=c) (aA d e f)
def AO(a:Int)(b:ac)(c:dJ)(d:ac):=ao a (a<=10) (b=take (C7 a.toNat) (j3 c (20+ae d)))
def EC(a:Int):=SX.pickI (pN 1 1 2 2 2 (1::1::2::4::bN 4)) a.toNat
def oD(a:Prop)(b:Int)(c:Prop):=∀(d:Int),a/\d=b->c
def FB(a b c d:Int):=a::b::(0:Int)::ap c::bN (ap d)
def xJ(a:ac):=ap (20+ae a)
theorem bw7:
 ∀(a:nH),ai (CT.wf BY a)->dj a.2->au (bJ (nN a.1)) (fM (fN a)/\nN a.1=gv a) (au (av 1480 (ae a.2)) (fM (fN a)/\5=gv a) (au a.1.2.2.2.2.1 ((∃(b:Int) (c:ac),AO b c a.1 a.2/\ce 69 1 a.1.1 1 (xJ a.2) ((2:Int)=(2:Int)) (ce a.1.2.1 2 16384 2 a.1.2.2.1 ((1:Int)=(1:Int)) (ce a.1.2.2.2.1 1 0 2 (ap a.1.2.2.2.2.2.1) ((4:Int)=(4:Int)) (aU (ap a.1.2.2.2.2.2.2) 4 (0=b) (gQ a.1.1 a.1.2.1 a.1.2.2.1 a.1.2.2.2.1 (a.1.2.2.2.2.1=a.1.2.2.2.2.1) (aU a.1.2.2.2.2.2.1 a.1.2.2.2.2.2.2 (a.2=a.2) (gQ a.1.1 a.1.2.1 a.1.2.2.1 a.1.2.2.2.1 (a.1.2.2.2.2.1=a.1.2.2.2.2.1) (aU a.1.2.2.2.2.2.1 a.1.2.2.2.2.2.2 (c=[]) True))))))))/\ ∀(b:Int)(c:ac),AO b c a.1 a.2->fE b 10 (b<(↑((10:Nat)):Int)) (aG c/\ ∀(d:ac),oD (d=putB c (SX.pickI (pN 69 a.1.1 (xJ a.2) a.1.2.1 16384 (FB a.1.2.2.1 a.1.2.2.2.1 a.1.2.2.2.2.2.1
 a.1.2.2.2.2.2.2)) b.toNat) (EC b)) (uc (SX.pickI (pN 69 a.1.1 (xJ a.2) a.1.2.1 16384 (FB a.1.2.2.1 a.1.2.2.2.1 a.1.2.2.2.2.2.1 a.1.2.2.2.2.2.2)) b.toNat) (EC b)) (∃(e:Int) (f:ac),AO e f a.1 a.2/\aZ 10 e b/\ce 69 1 a.1.1 1 (xJ a.2) ((2:Int)=(2:Int)) (ce a.1.2.1 2 16384 2 a.1.2.2.1 ((1:Int)=(1:Int)) (ce a.1.2.2.2.1 1 0 2 (ap a.1.2.2.2.2.2.1) ((4:Int)=(4:Int)) (aU (ap a.1.2.2.2.2.2.2) 4 (aY b e) (gQ a.1.1 a.1.2.1 a.1.2.2.1 a.1.2.2.2.1 (a.1.2.2.2.2.1=a.1.2.2.2.2.1) (aU a.1.2.2.2.2.2.1 a.1.2.2.2.2.2.2 (a.2=a.2) (gQ a.1.1 a.1.2.1 a.1.2.2.1 a.1.2.2.2.1 (a.1.2.2.2.2.1=a.1.2.2.2.2.1) (aU a.1.2.2.2.2.2.1 a.1.2.2.2.2.2.2 (d=f) True))))))))) (aG c) (KT c a.2 a)) ((∃(b:Int) (c:ac),AO b c a.1 a.2/\ce 69 1 a.1.1 1 (xJ a.2) ((2:Int)=(2:Int)) (ce a.1.2.1 2 0 2 a.1.2.2.1 ((1:Int)=(1:Int)) (ce a.1.2.2.2.1 1 0 2 (ap
 a.1.2.2.2.2.2.1) ((4:Int)=(4:Int)) (aU (ap a.1.2.2.2.2.2.2) 4 (0=b) (gQ a.1.1 a.1.2.1 a.1.2.2.1 a.1.2.2.2.1 (a.1.2.2.2.2.1=a.1.2.2.2.2.1) (aU a.1.2.2.2.2.2.1 a.1.2.2.2.2.2.2 (a.2=a.2) (gQ a.1.1 a.1.2.1 a.1.2.2.1 a.1.2.2.2.1 (a.1.2.2.2.2.1=a.1.2.2.2.2.1) (aU a.1.2.2.2.2.2.1 a.1.2.2.2.2.2.2 (c=[]) True))))))))/\ ∀(b:Int)(c:ac),AO b c a.1 a.2->fE b 10 (b<(↑((10:Nat)):Int)) (aG c/\ ∀(d:ac),oD (d=putB c (SX.pickI (pN 69 a.1.1 (xJ a.2) a.1.2.1 0 (FB a.1.2.2.1 a.1.2.2.2.1 a.1.2.2.2.2.2.1 a.1.2.2.2.2.2.2)) b.toNat) (EC b)) (uc (SX.pickI (pN 69 a.1.1 (xJ a.2) a.1.2.1 0 (FB a.1.2.2.1 a.1.2.2.2.1 a.1.2.2.2.2.2.1 a.1.2.2.2.2.2.2)) b.toNat) (EC b)) (∃(e:Int) (f:ac),AO e f a.1 a.2/\aZ 10 e b/\ce 69 1 a.1.1 1 (xJ a.2) ((2:Int)=(2:Int)) (ce a.1.2.1 2 0 2 a.1.2.2.1 ((1:Int)=(1:Int)) (ce a.1.2.2.2.1 1 0 2 (ap
 a.1.2.2.2.2.2.1) ((4:Int)=(4:Int)) (aU (ap a.1.2.2.2.2.2.2) 4 (aY b e) (gQ a.1.1 a.1.2.1 a.1.2.2.1 a.1.2.2.2.1 (a.1.2.2.2.2.1=a.1.2.2.2.2.1) (aU a.1.2.2.2.2.2.1 a.1.2.2.2.2.2.2 (a.2=a.2) (gQ a.1.1 a.1.2.1 a.1.2.2.1 a.1.2.2.2.1 (a.1.2.2.2.2.1=a.1.2.2.2.2.1) (aU a.1.2.2.2.2.2.1 a.1.2.2.2.2.2.2 (d=f) True))))))))) (aG c) (KT c a.2 a)))):= by
  delta ae ap aU aG cH aA aZ cu gk ao bv bJ dj bN fE KT aY ce ai gQ AO EC m7 pN bW bu av oD fM FB xJ
  rintro d ⟨⟨hw,-⟩,-⟩ hl
  obtain⟨-,-,-,-,-,s0,d0⟩:=hw
  have s0:0<=d.1.2.2.2.2.2.1/\d.1.2.2.2.2.2.1<=4294967295:=s0
  have d0:0<=d.1.2.2.2.2.2.2/\d.1.2.2.2.2.2.2<=4294967295:=d0
  refine ay (λhc=>?_) (λhc=>?_)
  .have hn:¬ nh d.1:=λk=>by rw[nN,aj k] at hc;cases hc
   have he:gv d=1:=by rw[gv,aj hn]
   rw[fN,he,nN,ah hn];exact⟨rfl,rfl⟩
  have hok:nh d.1:=i5 λk=>by rw[nN,ah k] at hc;cases hc
  refine ay (λh5=>?_) (λh5=>?_)
  .have h5:=aX h5
   have he:gv d=5:=by rw[gv,ah (λk=>k hok),aj h5]
   rw[fN,he];exact⟨rfl,rfl⟩
  have h5:=bi h5
  have he:gv d=0:=by rw[gv,ah (λk=>k hok),ah h5]
  have e20:IntKind.wrap .i64 (20+(d.2.length:Int))=20+d.2.length:=aL ab ab
  have es:IntKind.wrap .i64 d.1.2.2.2.2.2.1=d.1.2.2.2.2.2.1:=aL (by have:=s0.1;omega) (by have:=s0.2;omega)
  have ed:IntKind.wrap .i64 d.1.2.2.2.2.2.2=d.1.2.2.2.2.2.2:=aL (by have:=d0.1;omega) (by have:=d0.2;omega)
  have hc:=rX (Kd (n:=20+d.2.length) hok)
  have hbl:=bq4 d.1 (20+d.2.length)
  have step:=λf hf k=>ax7 (h:=d.1) (n:=20+d.2.length) (f:=f) (k:=k) hok ab ab s0 d0 hf
  have fin:∀ ys,ys=j3 d.1 (20+d.2.length)->(set (set ys (toNat 10) (IntKind.wrap .u8 (fy .i64 (65535-oc (cU true ys)) 8))) (toNat 11) (IntKind.wrap .u8 (65535-oc (cU true ys)))++d.2=fN d/\(0:Int)=gv d):=by
   rintro ys rfl
   have hc:0<=65535-oc (cU true (j3 d.1 (20+d.2.length))):=hc.1
   rw[J0 hc,IntKind.wrap_u8',IntKind.wrap_u8',fN,he,aj rfl]
   exact⟨rfl,rfl⟩
  rw[e20,es,ed]
  refine ay (λhk=>?_) (λhk=>?_)
  .refine⟨⟨0,[],⟨ab,ab,rfl⟩,aK⟩,?_⟩
   rintro k ys ⟨k0,k1,rfl⟩
   refine bP (λh=>?_) (λh=>?_)
   .have st:=step 16384 (by rw[hk];rfl) k k0 h
    refine⟨k0,h,by rw[dG];omega,?_⟩
    rintro y _ ⟨rfl,-⟩
    exact⟨k+1,_,⟨ab,ab,st⟩,ab,aK⟩
   .have e10:k=10:=ab
    subst e10
    have et:(j3 d.1 (20+d.2.length)).take (C7 (toNat 10))=j3 d.1 (20+d.2.length):=fH (by rw[hbl];decide)
    rw[et]
    refine⟨ab,?_⟩
    rintro c rfl
    refine⟨ab,ab,ab,ab,by rw[fF];omega,by rw[fF,fF];omega,fin _ rfl⟩
  .refine⟨⟨0,[],⟨ab,ab,rfl⟩,aK⟩,?_⟩
   rintro k ys ⟨k0,k1,rfl⟩
   refine bP (λh=>?_) (λh=>?_)
   .have st:=step 0 (by rw[hk];rfl) k k0 h
    refine⟨k0,h,by rw[dG];omega,?_⟩
    rintro y _ ⟨rfl,-⟩
    exact⟨k+1,_,⟨ab,ab,st⟩,ab,aK⟩
   .have e10:k=10:=ab
    subst e10
    have et:(j3 d.1 (20+d.2.length)).take (C7 (toNat 10))=j3 d.1 (20+d.2.length):=fH (by rw[hbl];decide)
    rw[et]
    refine⟨ab,?_⟩
    rintro c rfl
    refine⟨ab,ab,ab,ab,by rw[fF];omega,by rw[fF,fF];omega,fin _ rfl⟩
theorem OR:aB 148 WR.spec:=aF Tryz.func148 (am (am (am aC ar4) (Ct.named L3)) (Ct.named AE)) bB3 bw7
def aN2:Ct:=⟨[.val cI,.box 22 (.row 5 bq),.box 3 cI],[.val cI],λd=>[(d.2.1.length:Int)<=100000,0<=d.1,d.1<=8,0<=d.2.2.1,d.2.2.1<=100000],λd=>((dQ d.2.1 d.2.2.1 d.1,()),(d.2.1,d.2.2.1+d.1,()))⟩
def tj(a:ac):=ae a<=100000
theorem aA1:
 ∀(a:Int)(b:ac)(c:Int),aq a/\aV b/\ai (aq c)->tj b/\ao a (a<=8) (aD c 100000)->aI (ae b)/\aA (dQ b c a) (b=b) (ap (c+a)=c+a):= by
  delta ae ap aq aI aV aA ao ai aD tj
  rintro w b a-⟨h1,h2,h3,h4,h5⟩
  exact⟨ab,rfl,rfl,aL ab ab⟩
theorem ak0:aB 278 aN2.spec:=aF Tryz.func278 (am aC Ez) aS aA1
def Yt:Ct:=⟨[.val (.sl bq)],[.agg oV,.val cI,.val cI],λd=>[(d.1.length:Int)<=1099511627776],λd=>((rE d.1,ra d.1,ja d.1,()),())⟩
def qN:=((0:Int),(0:Int),(0:Int),(0:Int),false,(0:Int),(0:Int))
def za(a b:Bool):=!a->( !a-> !a)/\ai (b-> !a&&b)
def Ge(a:ac):=fA a (toNat 0) (toNat 20)
theorem a78:
 ∀(a:ac),ai (aV a)->aG a->au (av (ae a) 20) (qN=rE a/\0=ra a/\3=ja a) (bM 0 20 (20<=ae a) (aG (Ge a)/\tj (Ge a)/\ao 1 ((1:Int)<=(8:Int)) (ao 0 ((0:Int)<=(100000:Int)) (∀(b:Int)(c:ac)(d:Int),b=dQ (Ge a) 0 1/\c=Ge a/\d=0+1->tj c/\ao 1 ((1:Int)<=(8:Int)) (ao d (d<=100000) (∀(e:Int)(f:ac)(g:Int),e=dQ c d 1/\f=c/\g=d+1->tj f/\ao 2 ((2:Int)<=(8:Int)) (ao g (g<=100000) (∀(h:Int)(i:ac)(j:Int),h=dQ f g 2/\i=f/\j=g+2->tj i/\ao 2 ((2:Int)<=(8:Int)) (ao j (j<=100000) (∀(k:Int)(l:ac)(m:Int),k=dQ i j 2/\l=i/\m=j+2->tj l/\ao 2 ((2:Int)<=(8:Int)) (ao m (m<=100000) (∀(n:Int)(o:ac)(p:Int),n=dQ l m 2/\o=l/\p=m+2->tj o/\ao 1 ((1:Int)<=(8:Int)) (ao p (p<=100000) (∀(q:Int)(r:ac)(s:Int),q=dQ o p 1/\r=o/\s=p+1->tj r/\ao 1 ((1:Int)<=(8:Int)) (ao s (s<=100000)
 (∀(t:Int)(u:ac)(v:Int),t=dQ r s 1/\u=r/\v=s+1->tj u/\ao 2 ((2:Int)<=(8:Int)) (ao v (v<=100000) (∀(w:Int)(x:ac)(y:Int),w=dQ u v 2/\x=u/\y=v+2->tj x/\ao 4 ((4:Int)<=(8:Int)) (ao y (y<=100000) (∀(z:Int)(A:ac)(B:Int),z=dQ x y 4/\A=x/\B=y+4->tj A/\ao 4 ((4:Int)<=(8:Int)) (ao B (B<=100000) (∀(C:Int)(D:ac)(E:Int),C=dQ A B 4/\D=A/\E=B+4-> ∀(F:Bool),F=bW b 69->bO F/\bO F/\ ∀(G:Bool),G=bJ n->cG ( !F&&G) ( !F&&G) (aT ( !F&&G)) (za F G) (br F/\nt (bn F (bw G (bW n 16384))) (av h 20) (qN=rE a/\0=ra a/\2=ja a) (ao 10 (10<ae D) (bu 11 (ae (set D (toNat 10) 0)) (aG (set (set D (toNat 10) 0) (toNat 11) 0)) (∀(H:Int),H=m7 (set (set D (toNat 10) 0) (toNat 11) 0)->au (bW H w) (qN=rE a/\0=ra a/\4=ja a) ((e,k,q,t,decide (n=16384),IntKind.wrap
 IntKind.u32 z,IntKind.wrap IntKind.u32 C)=rE a/\h=ra a/\0=ja a))))))))))))))))))))))))))):= by
  delta ae bO aV aT aG cH bn cG bw ao br bJ nt ai m7 qN aD bW bu bM av za tj jW Ge
  rintro b ⟨⟨-,hb⟩,-⟩ hl
  refine ay (λh=>?_) (λh=>?_)
  .have h:=aX h
   have e:ja b=3:=by rw[ja,aj h]
   rw[rE,ra,e];exact⟨rfl,rfl,rfl⟩
  have h:=bi h
  have hB:fA b (toNat 0) (toNat 20)=b.take 20:=rfl
  have hBl:(b.take 20).length=20:=by rw[dG];omega
  rw[hB]
  refine⟨ab,ab,ab,ab,ab,ab,ab,ab,ab,?_⟩
  rintro v0 _ a0 ⟨e0,rfl,q0⟩
  rw[IJ ab ab,zi bo] at e0
  have q0:a0=1:=q0
  subst q0
  refine⟨ab,ab,ab,ab,ab,?_⟩
  rintro v1 _ a1 ⟨e1,rfl,q1⟩
  rw[IJ ab ab,zi bo] at e1
  have q1:a1=2:=q1
  subst q1
  refine⟨ab,ab,ab,ab,ab,?_⟩
  rintro v2 _ a2 ⟨e2,rfl,q2⟩
  rw[rR ab ab,uH bo] at e2
  have q2:a2=4:=q2
  subst q2
  refine⟨ab,ab,ab,ab,ab,?_⟩
  rintro v3 _ a3 ⟨e3,rfl,q3⟩
  rw[rR ab ab,uH bo] at e3
  have q3:a3=6:=q3
  subst q3
  refine⟨ab,ab,ab,ab,ab,?_⟩
  rintro v4 _ a4 ⟨e4,rfl,q4⟩
  rw[rR ab ab,uH bo] at e4
  have q4:a4=8:=q4
  subst q4
  refine⟨ab,ab,ab,ab,ab,?_⟩
  rintro v5 _ a5 ⟨e5,rfl,q5⟩
  rw[IJ ab ab,zi bo] at e5
  have q5:a5=9:=q5
  subst q5
  refine⟨ab,ab,ab,ab,ab,?_⟩
  rintro v6 _ a6 ⟨e6,rfl,q6⟩
  rw[IJ ab ab,zi bo] at e6
  have q6:a6=10:=q6
  subst q6
  refine⟨ab,ab,ab,ab,ab,?_⟩
  rintro v7 _ a7 ⟨e7,rfl,q7⟩
  rw[rR ab ab,uH bo] at e7
  have q7:a7=12:=q7
  subst q7
  refine⟨ab,ab,ab,ab,ab,?_⟩
  rintro v8 _ a8 ⟨e8,rfl,q8⟩
  rw[Lw ab ab,Ca bo] at e8
  have q8:a8=16:=q8
  subst q8
  refine⟨ab,ab,ab,ab,ab,?_⟩
  rintro v9 _ a9 ⟨e9,rfl,q9⟩
  rw[Lw ab ab,Ca bo] at e9
  have q9:a9=20:=q9
  subst q9
  subst e0 e1 e2 e3 e4 e5 e6 e7 e8 e9
  have n12:=zw hb 12
  have n16:=zw hb 16
  have hcs:65535-oc (cU true (((b.take 20).set (toNat 10) 0).set (toNat 11) 0))=dM (de (b.take 20) 10 0):=rfl
  (repeat (refine dq ?_;repeat refine dm ?_))
  refine ay (λhc=>?_) (λhc=>?_)
  .have e:ja b=2:=by
    rw[ja,ah h,aj]
    rintro⟨h0,hf,h2⟩
    rw[show b.getD (toNat 0) default=69 from h0] at hc
    rcases hf with hf|hf
    .rw[show aR b (toNat 6)=0 from hf] at hc
     simp at hc
     have h2:20<=aR b (toNat 2):=h2
     simp at h2;omega
    .rw[show aR b (toNat 6)=16384 from hf] at hc
     simp at hc
     have h2:20<=aR b (toNat 2):=h2
     simp at h2;omega
   rw[rE,ra,e];exact⟨rfl,rfl,rfl⟩
  have hg:b.getD 0 default=69/\(aR b 6=0∨aR b 6=16384)/\20<=aR b 2:=by
   by_cases h0:b.getD (toNat 0) default=69
   .by_cases h6:aR b (toNat 6)=0
    .simp[h0,h6] at hc
     exact⟨h0,.inl h6,ab⟩
    .by_cases h7:aR b (toNat 6)=16384
     .simp[h0,h7] at hc
      exact⟨h0,.inr h7,ab⟩
     .exfalso
      rw[h0,fh h6,fh h7] at hc;simp at hc
   .exfalso
    rw[fh h0] at hc;simp at hc
  refine⟨ab,ab,ab,by rw[fF];omega,by rw[fF,fF];omega,?_⟩
  rw[hcs]
  rintro c rfl
  refine ay (λhc=>?_) (λhc=>?_)
  .have e:ja b=4:=by
    rw[ja,ah h,ah (λk=>k hg),aj]
    intro k
    rw[show aR b (toNat 10)=aR b 10 from rfl,k] at hc;simp at hc
   rw[rE,ra,e];exact⟨rfl,rfl,rfl⟩
  .have e:ja b=0:=by
    rw[ja,ah h,ah (λk=>k hg),ah]
    intro k
    exact k (by simpa using hc)
   rw[rE,ra,e,aj rfl,aj rfl,show toNat 12=12 from rfl,show toNat 16=16 from rfl,wZ n12.1 n12.2,wZ n16.1 n16.2]
   exact⟨rfl,rfl,rfl⟩
theorem QC:aB 239 Yt.spec:=aF Tryz.func239 (am (am (am aC na) (Ct.named ak0)) (Ct.named AE)) aS a78
def aM3:Ct:=⟨[.val (.sl bq)],[.agg BY,.val cI],λd=>[(d.1.length:Int)<=1099511627776],λd=>((cD d.1,dE d.1,()),())⟩
theorem YL:
 ∀(a:ac),qd a (aG a) (au (bJ (ja a)) ((qN,[])=cD a/\ja a=dE a) (au (bW (ra a) (ae a)) ((qN,[])=cD a/\2=dE a) (au (av 1500 (ra a)) ((qN,[])=cD a/\5=dE a) (bM 20 (ae a) (ae a<=ae a) (aG (i7 a)/\(rE a,i7 a)=cD a/\0=dE a))))):= by
  delta ae aV aG cH i7 ao bJ ai qN aD bW bM av qd
  rintro b ⟨⟨-,hb⟩,-⟩ hl
  refine⟨hl,ay (λhc=>?_) (λhc=>?_)⟩
  .have hc:¬ ja b=0:=by simpa using hc
   have e:dE b=ja b:=by rw[dE,aj hc]
   rw[cD,e,ah hc];exact⟨rfl,rfl⟩
  have hc:ja b=0:=by simpa using hc
  have hlen:ra b=aR b 2:=by rw[ra,aj hc]
  rw[hlen]
  refine ay (λh2=>?_) (λh2=>?_)
  .have h2:¬ aR b 2=b.length:=by simpa using h2
   have e:dE b=2:=by rw[dE,ah (λk=>k hc),aj h2]
   rw[cD,e];exact⟨rfl,rfl⟩
  have h2:aR b 2=b.length:=by simpa using h2
  refine ay (λh5=>?_) (λh5=>?_)
  .have h5:=aX h5
   have e:dE b=5:=by rw[dE,ah (λk=>k hc),ah (λk=>k h2),aj h5]
   rw[cD,e];exact⟨rfl,rfl⟩
  have h5:=bi h5
  have e:dE b=0:=by rw[dE,ah (λk=>k hc),ah (λk=>k h2),ah h5]
  have h20:=H9 hc
  rw[show toNat 20=20 from rfl,BJ,cD,e,aj rfl,rE,aj hc,ib]
  exact⟨ab,ab,ab,ab,rfl,rfl⟩
theorem E8:aB 185 aM3.spec:=aF Tryz.func185 (am (am aC QC) na) aS YL
def a93:Ct:=⟨[.val (.sl bq)],[.own 5 bq,.val cI],λd=>[(d.1.length:Int)<=1099511627776],λd=>((lL d.1,j4 d.1,()),())⟩
def Lt(a:ac):=(((cD a).1.1,(cD a).1.2.1,ap ((cD a).1.2.2.1 -1),(cD a).1.2.2.2),(cD a).2)
theorem bP0:
 ∀(a:ac),qd a (aG a) (au (bJ (dE a)) (fM (lL a)/\dE a=j4 a) (au (av (cD a).1.2.2.1 2) (fM (lL a)/\7=j4 a) (dj (cD a).2/\fN (Lt a)=lL a/\gv (Lt a)=j4 a))):= by
  delta ae ap aV aG cH bJ dj ai aD bW av qd Lt fM
  rintro b ⟨⟨-,hb⟩,-⟩ hl
  refine⟨hl,ay (λhc=>?_) (λhc=>?_)⟩
  .have hc:¬ dE b=0:=by simpa using hc
   have e:j4 b=dE b:=by rw[j4,aj hc]
   rw[lL,e,ah hc];exact⟨rfl,rfl⟩
  have hc:dE b=0:=by simpa using hc
  have hp:cD b=(cy b,b.drop 20):=by rw[cD,aj hc]
  rw[hp]
  have h8:=Hq hb (i:=8) (by have:=H9 (I4 hc);omega)
  refine ay (λh2=>?_) (λh2=>?_)
  .have h2:=aX h2
   have e:j4 b=7:=by rw[j4,ah (λk=>k hc),aj h2]
   rw[lL,e];exact⟨rfl,rfl⟩
  have h2:=bi h2
  have e:j4 b=0:=by rw[j4,ah (λk=>k hc),ah h2]
  have hd:=DJ hc
  have h82:¬ b.getD 8 default<2:=h2
  rw[lL,e,aj rfl]
  have hok:=bp5 hb hc h2
  refine⟨by rw[ib];omega,?_⟩
  have ew:IntKind.wrap .i64 ((cy b).2.2.1-1)=(cy b).2.2.1-1:=aL (by show _<=b.getD 8 default-1;omega) (by show b.getD 8 default-1<=_;omega)
  rw[ew]
  refine⟨rfl,?_⟩
  rw[gv,ah (λk=>k hok),ah]
  simp only[ib];omega
theorem aU2:aB 297 a93.spec:=aF Tryz.func297 (am (am aC E8) OR) aS bP0
def by8:Ct:=⟨[.agg oV],[.val cI],λd=>[],λd=>((nN d.1,()),())⟩
theorem ad5:
 ∀(a:dJ),ft (CT.wf oV a) (∀(b:Bool),b=dw a.1->cX b (br b) (∀(c:Bool),c=bn b (av 255 a.1)->cX c (br c) (∀(d:Bool),d=bn c (dw a.2.2.1)->cX d (br d) (CE (bn d (av 255 a.2.2.1)) (dw a.2.2.2.1) (av 255 a.2.2.2.1) (dw a.2.1) (av 65535 a.2.1) (1=nN a) (0=nN a))))):= by
  delta bO aT bn cX br lw ai CE Dj dw av ft
  rintro h - -
  (repeat (refine dq ?_;repeat refine dm ?_))
  refine ay (λhc=>?_) (λhc=>?_)
  .rw[nN,ah]
   intro k;obtain⟨k1,k2,k3,k4,k5⟩:=k
   unfold tg at k1 k2 k3
   simp[gb] at hc;omega
  .rw[nN,aj]
   unfold nh tg
   simp[gb] at hc;omega
theorem ak3:aB 75 by8.spec:=aF Tryz.func75 aC aS ad5
def aq2:Ct:=⟨[.agg oV,.val cI],[.own 5 bq],λd=>[nh d.1,0<=d.2.1,d.2.1<=65535],λd=>((kQ d.1 d.2.1,()),())⟩
def MV(a:ac)(b c d e:Int)(f:dJ)(g:Int):=aG a/\ ∀(h:ac),h=putB a b 1->aG h/\ ∀(i:ac),i=putB h c 1->r5/\ ∀(j:ac),j=putB [] (ap d) 4->aG j/\ ∀(k:ac),k=putB j (ap e) 4->bv (i.length*1)/\gk gR k/\gk i (gR++k)/\aG (i++(gR++k))/\ ∀(l:Int),l=m7 (i++(gR++k))->aG i/\ ∀(m:ac),m=putB i l 2->gk m k/\m++k=kQ f g
theorem aG0:
 ∀(a:dJ)(b:Int),CT.wf oV a/\ai (aq b)->nh a/\aD b 65535->au a.2.2.2.2.1 (r5/\ ∀(c:ac),c=putB [] 69 1->aG c/\ ∀(d:ac),d=putB c a.1 1->aG d/\ ∀(e:ac),e=putB d b 2->aG e/\ ∀(f:ac),f=putB e a.2.1 2->aG f/\ ∀(g:ac),g=putB f 16384 2->MV g a.2.2.1 a.2.2.2.1 a.2.2.2.2.2.1 a.2.2.2.2.2.2 a b) (r5/\ ∀(c:ac),c=putB [] 69 1->aG c/\ ∀(d:ac),d=putB c a.1 1->aG d/\ ∀(e:ac),e=putB d b 2->aG e/\ ∀(f:ac),f=putB e a.2.1 2->aG f/\ ∀(g:ac),g=putB f 0 2->MV g a.2.2.1 a.2.2.2.1 a.2.2.2.2.2.1 a.2.2.2.2.2.2 a b):= by
  delta ae ap aq aI aG cH gk gR bv pm bN MV ai m7 aD r5
  rintro h n ⟨hw,-⟩⟨hok,n0,n1⟩
  obtain⟨-,-,-,-,-,s0,d0⟩:=hw
  have s0:0<=h.2.2.2.2.2.1/\h.2.2.2.2.2.1<=4294967295:=s0
  have d0:0<=h.2.2.2.2.2.2/\h.2.2.2.2.2.2<=4294967295:=d0
  have es:IntKind.wrap .i64 h.2.2.2.2.2.1=h.2.2.2.2.2.1:=aL ab ab
  have ed:IntKind.wrap .i64 h.2.2.2.2.2.2=h.2.2.2.2.2.2:=aL ab ab
  rw[es,ed]
  have hc:=rX (Kd (n:=n) hok)
  obtain⟨h1,h2,h3,h4,h5⟩:=hok
  have key:∀ f:Int,(f=if h.2.2.2.2.1 then 16384 else 0)->0<=f->f<=65535->((0:Nat):Int)<=1099511627776∧∀ x1,x1=putB [] 69 1->(x1.length:Int)<=1099511627776∧∀ x2,x2=putB x1 h.1 1->(x2.length:Int)<=1099511627776∧∀ x3,x3=putB x2 n 2->(x3.length:Int)<=1099511627776 ∧
    ∀ x4,x4=putB x3 h.2.1 2->(x4.length:Int)<=1099511627776∧∀ x5,x5=putB x4 f 2->(x5.length:Int)<=1099511627776∧∀ x6,x6=putB x5 h.2.2.1 1->(x6.length:Int)<=1099511627776∧∀ x7,x7=putB x6 h.2.2.2.1 1->((0:Nat):Int)<=1099511627776 ∧
    ∀ x8,x8=putB [] h.2.2.2.2.2.1 4->(x8.length:Int)<=1099511627776∧∀ x9,x9=putB x8 h.2.2.2.2.2.2 4->x7.length*1<=140737488355328/\(List.length [(0:Int),0]+x9.length)*1<=140737488355328/\(x7.length+List.length ([0,0]++x9))*1<=140737488355328 ∧
    ((x7++([0,0]++x9)).length:Int)<=1099511627776∧∀ c,c=65535-oc (cU true (x7++([0,0]++x9)))->(x7.length:Int)<=1099511627776∧∀ x11,x11=putB x7 c 2->(x11.length+x9.length)*1<=140737488355328/\x11++x9=kQ h n:=by
   intro f hf f0 f1
   refine⟨ab,?_⟩
   rintro x1 e1
   rw[wK ab ab] at e1
   refine⟨by rw[e1];simp,?_⟩
   rintro x2 e2
   rw[wK h1.1 h1.2,e1] at e2
   refine⟨by rw[e2];simp,?_⟩
   rintro x3 e3
   rw[lI n0 n1,e2] at e3
   refine⟨by rw[e3];simp[w2],?_⟩
   rintro x4 e4
   rw[lI h4 h5,e3] at e4
   refine⟨by rw[e4];simp[w2],?_⟩
   rintro x5 e5
   rw[lI f0 f1,e4] at e5
   refine⟨by rw[e5];simp[w2],?_⟩
   rintro x6 e6
   rw[wK h2.1 h2.2,e5] at e6
   refine⟨by rw[e6];simp[w2],?_⟩
   rintro x7 e7
   rw[wK h3.1 h3.2,e6] at e7
   have e7:x7=Ix h n:=by rw[e7,hf];simp[Ix]
   refine⟨ab,?_⟩
   rintro x8 e8
   rw[zu s0.1 s0.2] at e8
   refine⟨by rw[e8];simp[w4],?_⟩
   rintro x9 e9
   rw[zu d0.1 d0.2,e8] at e9
   have e9:x9=O4 h:=e9
   have l7:x7.length=10:=by rw[e7];rfl
   have l9:x9.length=8:=by rw[e9];rfl
   have eb:x7++([0,0]++x9)=j3 h n:=by rw[e7,e9];rfl
   refine⟨ab,by simp[l9],by simp[l7,l9],by simp[l7,l9],?_⟩
   rw[eb]
   rintro c rfl
   refine⟨ab,?_⟩
   rintro x11 e11
   rw[show 65535-oc (cU true (j3 h n))=dM (j3 h n) from rfl,lI hc.1 hc.2] at e11
   refine⟨by rw[e11,cL,l7,l9];simp[w2],?_⟩
   rw[e11,e7,e9,je];rfl
  refine ay (λhk=>?_) (λhk=>?_)
  .exact key 16384 (by rw[hk];rfl) ab ab
  .exact key 0 (by rw[hk];rfl) ab ab
theorem bm5:aB 76 aq2.spec:=aF Tryz.func76 (am (am aC (Ct.named BP)) (Ct.named NO)) aS aG0
def bl6:Ct:=⟨[.agg BY],[.own 5 bq,.val cI],λd=>[(d.1.2.length:Int)<=1073741824],λd=>((fN d.1,gv d.1,()),())⟩
theorem by7:
 ∀(a:nH),ai (CT.wf BY a)->dj a.2->au (bJ (nN a.1)) (fM (fN a)/\nN a.1=gv a) (au (av 1500 (ap (ae a.2+20))) (fM (fN a)/\5=gv a) (nh a.1/\bM (ap (ae a.2+20)) 65535 (gk (kQ a.1 (ap (ae a.2+20))) a.2) (kQ a.1 (ap (ae a.2+20))++a.2=fN a/\0=gv a))):= by
  delta ae ap gk ao bv bJ dj ai bW bM av fM
  rintro d ⟨⟨hw,-⟩,-⟩ hl
  refine ay (λhc=>?_) (λhc=>?_)
  .have hn:¬ nh d.1:=λk=>by rw[nN,aj k] at hc;cases hc
   have he:gv d=1:=by rw[gv,aj hn]
   rw[fN,he,nN,ah hn];exact⟨rfl,rfl⟩
  have hok:nh d.1:=i5 λk=>by rw[nN,ah k] at hc;cases hc
  have e20:IntKind.wrap .i64 ((d.2.length:Int)+20)=20+d.2.length:=by rw[aL ab ab];omega
  rw[e20]
  refine ay (λh5=>?_) (λh5=>?_)
  .have h5:=aX h5
   have he:gv d=5:=by rw[gv,ah (λk=>k hok),aj ab]
   rw[fN,he];exact⟨rfl,rfl⟩
  have h5:=bi h5
  have he:gv d=0:=by rw[gv,ah (λk=>k hok),ah ab]
  refine⟨hok,ab,ab,by rw[vu];omega,?_⟩
  rw[fN,he,aj rfl]
  exact⟨rfl,rfl⟩
theorem bc0:aB 36 bl6.spec:=aF Tryz.func36 (am (am aC ak3) bm5) aS by7
end Go.RS
