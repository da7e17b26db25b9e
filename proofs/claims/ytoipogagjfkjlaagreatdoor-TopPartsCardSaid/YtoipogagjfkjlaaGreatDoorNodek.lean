/- Fib: forwarding tables. -/
import Derived.Test.YtoipogagjfkjlaaGreatDoorVant
import Derived.Test.YtoipogagjfkjlaaGreatDoorIdent
import Derived.Test.YtoipogagjfkjlaaGreatDoorIpv4
set_option maxRecDepth 100000
set_option linter.unusedVariables false
open Int (toNat)
open List (length take set replicate range drop)
namespace Go.RS
open Go.SX Go.Proofs
abbrev d8:CT := .pair p8 (.pair (.sl cI) cI)
abbrev Rt:Type:=fD×ac×Int
def cF(p q:fD):Prop:=p.1<q.1∨p.1=q.1/\p.2<q.2
instance (p q:fD):Decidable (cF p q):=by unfold cF;infer_instance
theorem Un{a b:Int}(h:a<b):fc a b = -1:=by unfold fc;rw[aj h]
theorem Yj{a b:Int}(h:b<a):fc a b=1:=by unfold fc;rw[ah (by omega),aj h]
theorem L7(a:Int):fc a a=0:=by unfold fc;simp
theorem Pm(p q:fD):(cF p q/\iY p q = -1)∨(p=q/\iY p q=0)∨(cF q p/\iY p q=1):=by
 obtain⟨a,b⟩:=p;obtain⟨c,e⟩:=q
 unfold iY cF
 rcases Int.lt_trichotomy a c with h|rfl|h
 .simp[Un h,h]
 .rcases Int.lt_trichotomy b e with h|rfl|h
  .simp[L7,Un h,h]
  .simp[L7]
  .simp[L7,Yj h,h]
 .simp[Yj h,h]
theorem uA(p:fD):¬ cF p p:=by unfold cF;omega
theorem FY{p q r:fD}(h:cF p q)(k:cF q r):cF p r:=by unfold cF at *;omega
theorem Az{p q:fD}(h:cF p q):¬ cF q p:=by unfold cF at *;omega
theorem IS{p q:fD}(h:¬ cF p q):p=q∨cF q p:=by rcases Pm p q with⟨k,-⟩|⟨k,-⟩|⟨k,-⟩ <;> simp_all
theorem Vr{p q r:fD}(h:¬ cF p q)(k:cF p r):¬ cF r q:=λe=>h (FY k e)
theorem D0{p q:fD}:iY p q<0↔cF p q:=by
 rcases Pm p q with⟨h,e⟩|⟨rfl,e⟩|⟨h,e⟩ <;> rw[e]
 .simp[h]
 .simp[uA]
 .simp[Az h]
theorem Hp{p q:fD}:iY p q=0↔p=q:=by
 rcases Pm p q with⟨h,e⟩|⟨h,e⟩|⟨h,e⟩ <;> rw[e]
 .simp;rintro rfl;exact uA _ h
 .simp[h]
 .simp;rintro rfl;exact uA _ h
theorem Mi{p q:fD}:0<=iY p q↔¬ cF p q:=by rw[← D0];omega
def dS(l:List Rt):Prop:=l.Pairwise λa b=>cF a.1 b.1
theorem bI8{l:List Rt}{p:fD}{h:Int}(hs:dS l)(h0:0<=h)(h1:h<l.length)(a:cF (l.getD h.toNat default).1 p):∀ y∈l.take (h+1).toNat,cF y.1 p:=by
 intro y b
 have c:h.toNat<l.length:=ab
 rcases TQ h0 h1 b with b|rfl
 .obtain⟨k,hk,rfl⟩:=List.mem_iff_getElem.1 b;rw[ct,cM c,jo] at a;simp at hk ⊢;exact FY (List.pairwise_iff_getElem.1 hs k h.toNat ab c ab) a
 .exact a
theorem bS4{l:List Rt}{p:fD}{h:Int}(hs:dS l)(h0:0<=h)(h1:h<l.length)(d:¬ cF (l.getD h.toNat default).1 p):∀ y∈l.drop h.toNat,¬ cF y.1 p:=by
 intro y c
 have e:h.toNat<l.length:=ab
 rw[ct,cM e,jo] at d
 rw[vj e] at c
 rcases eZ.1 c with rfl|c
 .exact d
 .have f:((l.drop h.toNat)).Pairwise λa b=>cF a.1 b.1:=List.Pairwise.drop hs;rw[vj e] at f;exact Vr d (List.rel_of_pairwise_cons f c)
def aQ5:Ct:=⟨[.val (.sl cI)],[.own 3 cI],λd=>[(d.1.length:Int)<=1099511627776],λd=>((d.1,()),())⟩
theorem a73:
 ∀(a:ac),ai (cB a)->aG a->jj (a.length=0) (fM a) (bv ((0+a.length)*8)/\a=a):= by
  delta ae aq aI cB aG cH bv ai jj fM
  rintro x ⟨⟨hl,-⟩,-⟩ h b hb
  refine ay (λh1=>?_) (λh1=>⟨by simp;omega,by simp⟩)
  simp_all
theorem yi:aB 100 aQ5.spec:=aF Tryz.func100 aC aS a73
def bb4:Ct:=⟨[.agg d8],[.agg d8],λd=>[(d.1.2.1.length:Int)<=1099511627776],λd=>((d.1,()),())⟩
def Jk:=∀(a b:Int)(c:ac)(d:Int),ai (cS a b c d)->aG c->aG c/\((a,b),c,d)=((a,b),c,d)
theorem bx8:
 Jk:= by
 delta ae aq aI aQ cS cB aG cH ai aD Jk
 simp_all
theorem Uw:aB 261 bb4.spec:=aF Tryz.func261 (am aC yi) aS bx8
def Y8:Ct:=⟨[.agg d8],[.agg d8],λd=>[(d.1.2.1.length:Int)<=1099511627776],λd=>((d.1,()),())⟩
theorem bs0:
 ∀(a b:Int)(c:ac)(d:Int),ai (cS a b c d)->aG c->bv (c.length*8)/\((a,b),c,d)=((a,b),c,d):= by
  delta ae aq aI aQ cS cB aG cH bv ai aD
  grind
theorem Xp:aB 191 Y8.spec:=aF Tryz.func191 aC aS bs0
def ap2:Ct:=⟨[.agg d8,.agg p8],[.val cI],λ_=>[],λd=>((iY d.1.1 d.2.1,()),())⟩
theorem aZ2:
 ∀(a b:Int)(c:ac)(d e f:Int),cS a b c d/\ai (aQ e/\aq f)->True->iY (a,b) (e,f)=iY (a,b) (e,f):= by
  delta aq aI aQ cS cB ai aD
  intros;trivial
theorem aD9:aB 259 ap2.spec:=aF Tryz.func259 (am aC Tu) aS aZ2
theorem WC{i j:Int}(h0:0<=i)(h1:i<=j)(h2:j<=9223372036854775807):IntKind.wrap IntKind.i64 (fy IntKind.u64 (IntKind.wrap IntKind.u64 (IntKind.wrap IntKind.i64 (i+j))) (1:Int))=(i+j)/2:=by
 have hw:IntKind.wrap IntKind.u64 (IntKind.wrap IntKind.i64 (i+j))=i+j:=by
  rw[IntKind.wrap_i64,IntKind.wrap_u64];omega
 rw[hw]
 have:fy IntKind.u64 (i+j) 1=(i+j)/2:=by
  unfold fy;rw[Fm _ bo];rfl
 rw[this,aL ab ab]
theorem S8(l:List Rt)(p:fD):∃ k:Int,0<=k/\k<=l.length/\(dS l->(∀ z∈l.take k.toNat,cF z.1 p)∧∀ z∈l.drop k.toNat,¬ cF z.1 p):=by
 induction l with
 | nil=>exact⟨0,aw,aw,aw⟩
 | cons a l ih =>
  obtain⟨k,h0,h1,h2⟩:=ih;by_cases d:cF a.1 p
  .refine⟨k+1,ab,by simp;omega,λb=>?_⟩;obtain⟨q1,q2⟩:=h2 (List.pairwise_cons.1 b).2;have e:(k+1).toNat=k.toNat+1:=ab;grind
  .refine⟨0,ab,by simp;omega,λb=>⟨aw,λz c=>?_⟩⟩;rcases eZ.1 (show z∈a::l from c) with rfl|c
   .exact d
   .exact Vr d ((List.pairwise_cons.1 b).1 z c)
def RZ:Cn:=⟨[.val (.sl d8),.agg p8,.fn 259 0],[.val cI,.val .bool],λ_=>[],λd y=>0<=y.1.1/\y.1.1<=d.1.length/\(dS d.1->(∀ z∈d.1.take y.1.1.toNat,cF z.1 d.2.1)∧∀ z∈d.1.drop y.1.1.toNat,¬ cF z.1 d.2.1)/\y.1.2.1=decide (y.1.1<d.1.length/\(d.1.getD y.1.1.toNat default).1=d.2.1),λd h=>let ⟨k,h0,h1,h2⟩:=S8 d.1 d.2.1;⟨((k,decide (k<d.1.length/\(d.1.getD k.toNat default).1=d.2.1),()),()),h0,h1,h2,rfl⟩⟩
def ai3:bp RZ.ps->bI:=(λd=>{loops:=(bt 3 (λS=>{ι:=Int×Int,qn:=eO,μ:=λi=>(i.2-i.1).toNat,inv:=λi=>0<=i.1/\i.1<=i.2/\i.2<=d.1.length/\(dS d.1->(∀ z∈d.1.take i.1.toNat,cF z.1 d.2.1)∧∀ z∈d.1.drop i.2.toNat,¬ cF z.1 d.2.1),keep:=[0,2,4,8],slots:=λi=>[(9,.int .i64 i.1),(10,.int .i64 i.2)],keepN:=[80]}) bZ)})
def BR(a b:List ci)(c:bT2)(d:List ci):=dS a->(∀(e:ci),e∈b->cF e.1 c)/\ ∀(e:ci),e∈d-> ¬cF e.1 c
def xM(a:Int)(b:List ci)(c d:Int)(e:Bool):=bM a (ae b) (BR b (take a.toNat b) (c,d) (drop a.toNat b)) (e=decide (a<ae b/\(af b a).1=(c,d)))
def iM(a:Bool)(b:Prop)(c:Int)(d:Prop):=(a->a)/\(b->b)/\ao c d True
def uz(a b:Int):=ap (fy IntKind.u64 (IntKind.wrap IntKind.u64 (ap (a+b))) 1)
def EB(a b:Int)(c:List ci)(d e:Int):=bM a b (b<=ae c) (BR c (take a.toNat c) (d,e) (drop b.toNat c))
theorem a61:
 ∀(a:List ci)(b c:Int),cO a/\(aQ b/\aq c)/\ai True->True->(∃(d e:Int),EB d e a b c/\a=a/\aA (ae a) (0=d) (ae a=e/\jC b c))/\ ∀(d e:Int),EB d e a b c->au (av d e) (ao 1 (0<=uz d e) (uz d e<ae a/\au (dw (iY (af a (uz d e)).1 (b,c))) (∃(f g:Int),EB f g a b c/\cu (g -f) (e -d)/\a=a/\aA (ae a) (aY (uz d e) f) (e=g/\jC b c)) (∃(f g:Int),EB f g a b c/\cu (g -f) (e -d)/\a=a/\aA (ae a) (d=f) (uz d e=g/\jC b c)))) (∀(f:Bool),f=av d (ae a)->(f->iM f f d (d<ae a))/\cG f f ((f->f)/\d7 f) (f->aT f) ((f->f)/\xM d a b c (bw f (eG (iY (af a d).1 (b,c)))))):= by
  delta af ae ap aq aI aQ aT cO cS cB aA cG bw cu ao BR xM iM aY ai uz EB aD dw d7 bM av eG jC
  rintro x p q ⟨⟨hl,-⟩,-⟩ -
  simp only[maxLen] at hl
  refine⟨⟨0,x.length,⟨ab,ab,ab,λ_=>aw⟩,aK⟩,?_⟩
  rintro i j ⟨d,h1,f,e⟩
  refine bP (λhb=>?_) (λhb=>?_)
  .rw[WC d h1 ab]
   refine⟨ab,ab,ab,bP (λa=>?_) (λa=>?_)⟩
   .have a:=D0.1 a
    refine⟨(i+j)/2+1,j,⟨ab,ab,f,λc=>⟨bI8 c ab ab a,(e c).2⟩⟩,ab,aK⟩
   .have a:¬ cF _ _:=λh=>absurd (D0.2 h) a
    refine⟨i,(i+j)/2,⟨d,ab,ab,λc=>⟨(e c).1,bS4 c ab ab a⟩⟩,ab,aK⟩
  .have:i=j:=ab
   subst this
   (repeat (refine dq ?_;repeat refine dm ?_))
   refine⟨d,f,e,?_⟩
   by_cases h:i<x.length <;> simp[h,Hp]
theorem Za:aB 258 RZ.spec:=nB Tryz.func258 (am aC aD9) ai3 a61
def bj8:Ct:=⟨[.nils,.val cI],[.own 176 d8],λd=>[0<=d.2.1,d.2.1<=1073741824],λd=>(([],()),())⟩
def uj(a:Int):=ap (a -ap (0 -0))
theorem au5:
 ∀(a:Int),True/\ai (aq a)->aD a 1073741824->au (dw a) False (au (av 0 (uj a)) (aU 0 0 (0<=uj a) (uj a*(↑((48:Nat)):Int)<=140737488355328/\ao 0 (0<=ae (replicate (toNat (uj a)) (((0:Int),(0:Int)),([]:ac),(0:Int)))) (take (toNat 0) (replicate (toNat (uj a)) (((0:Int),(0:Int)),([]:ac),(0:Int)))=([]:List ci)))) (([]:List ci)=([]:List ci))):= by
  delta ae ap aq aI aU aA ao ai aD dw av uj
  rintro x-⟨h0,h1⟩
  rw[aL (n:=(0:Int)-0) ab ab,aL ab ab]
  refine ay (λa=>?_) (λa=>ay (λa=>?_) (λa=>rfl))
  .grind
  .grind
theorem aw7:aB 298 bj8.spec:=aF Tryz.func298 (K9 aC (d:=25)) aS au5
theorem Hy{α:Type}{l:List (List α)}{j:Int}(h0:0<=j)(h1:j<l.length):(l.take (j+1).toNat).flatten=(l.take j.toNat).flatten++l.getD j.toNat default:=by
 have a:j.toNat<l.length:=ab
 have e:(j+1).toNat=j.toNat+1:=ab
 rw[e,DS a,List.flatten_append,ct,cM a,jo]
 simp
theorem B7{α:Type}(l:List (List α))(k:Nat):(l.take k).flatten.length<=l.flatten.length:=by
 conv=>rhs;rw[← nZ k l,List.flatten_append,cL]
 omega
def Rm:Ct:=⟨[.val (.sl (.sl d8))],[.own 176 d8],λd=>[(d.1.flatten.length:Int)<=1073741824],λd=>((d.1.flatten,()),())⟩
def az2:bp Rm.ps->bI:=(λd=>{loops:=(bt 3 (λS=>{ι:=Int×Int,qn:=eO,μ:=λi=>(d.1.length-i.1).toNat,inv:=λi=>0<=i.1/\i.1<=d.1.length/\i.2=((d.1.take i.1.toNat).flatten.length:Int),keep:=[0,9,10],slots:=λi=>[(3,.int .i64 i.2),(11,.int .i64 i.1)]}) (bt 11 (λS=>{ι:=Int×(List Rt),qn:=eO,μ:=λi=>(d.1.length-i.1).toNat,inv:=λi=>0<=i.1/\i.1<=d.1.length/\i.2=(d.1.take i.1.toNat).flatten,keep:=[25,26],slots:=λi=>[(6,.own 524288 4),(27,.int .i64 i.1)],names:=λi=>[(524288,.live (.row 176 d8 i.2))]}) bZ))})
def JF(a:Int)(b:List (List ci))(c:Int):=ao a (a<=ae b) (c=ae (List.flatten (take a.toNat b)))
theorem bD7:
 ∀(a:List (List ci)),ai (a.length<=maxLen/\ ∀(b:List ci),b∈a->cO b)->ae (List.flatten a)<=1073741824->(∃(b c:Int),JF b a c/\a=a/\0=c/\a=a/\aA (ae a) (0=b) True)/\ ∀(b c:Int),JF b a c->au (av b (ae a)) (fw b (ae a) (dw (ap (c+ae (af a b)))) False (∃(d e:Int),JF d a e/\aZ (ae a) d b/\a=a/\ap (c+ae (af a b))=e/\a=a/\aA (ae a) (aY b d) True)) (bM c 1073741824 (∃(d:Int) (e:List Rt),ao d (d<=ae a) (e=List.flatten (take d.toNat a))/\a=a/\aA (ae a) (0=d) (ai ([]=e))) (∀(d:Int)(e:List Rt),ao d (d<=ae a) (e=List.flatten (take d.toNat a))->au (av d (ae a)) (bu d (ae a) (bv ((e.length+length (af a d))*48)) (∃(f:Int) (g:List Rt),ao f (f<=ae a) (g=List.flatten (take f.toNat a))/\aZ (ae a) f d/\a=a/\aA (ae a) (aY d f) (ai (e++af a d=g)))) (e=List.flatten a))):= by
  delta af ae ap aq aI aQ cO cS cB aA aZ cu ao bv aY ai aD dw bu bM av JF fw
  rintro x ⟨⟨hl,-⟩,-⟩ ht
  simp only[maxLen] at hl
  refine⟨⟨0,0,⟨ab,ab,aw⟩,aK⟩,?_⟩
  rintro j s ⟨c,h1,h2⟩
  have hle:=B7 x j.toNat
  refine bP (λa=>?_) (λa=>?_)
  .have e:=Hy c a
   have b:=B7 x (j+1).toNat
   have el:((x.take (j+1).toNat).flatten.length:Int)=s+(x.getD j.toNat default).length:=by rw[e,cL];omega
   rw[aL ab ab]
   refine⟨c,a,bP (λhc=>?_) (λhc=>?_)⟩
   .omega
   .exact⟨j+1,_,⟨ab,ab,el.symm⟩,ab,aK⟩
  .refine⟨ab,ab,⟨0,[],⟨ab,ab,aw⟩,aK⟩,?_⟩
   rintro k ys ⟨d,k1,rfl⟩
   refine bP (λa=>?_) (λa=>?_)
   .have e:=Hy d a
    have b:=B7 x (k+1).toNat
    refine⟨d,a,?_,k+1,_,⟨ab,ab,e.symm⟩,ab,aK⟩
    grind
   .rw[fH ab]
theorem bg3:aB 260 Rm.spec:=aF Tryz.func260 (am aC aw7) az2 bD7
theorem yw{α:Type} [Inhabited α] {l:List α} {j:Int} (h0:0<=j) (h1:j<l.length):l.set j.toNat (l.getD j.toNat default)=l:=by
 simp_all
def U6:Ct:=⟨[.val (.sl d8),.val cI,.val cI,.val (.sl d8)],[.own 176 d8],λd=>[0<=d.2.1,d.2.1<=d.1.length,0<=d.2.2.1,d.2.2.1<=d.1.length,(d.1.length:Int)<=134217728,(d.2.2.2.1.length:Int)<=134217728,∀ y∈d.1,(y.2.1.length:Int)<=1099511627776,∀ y∈d.2.2.2.1,(y.2.1.length:Int)<=1099511627776],λd=>((d.1.take d.2.1.toNat++(d.2.2.2.1++d.1.drop d.2.2.1.toNat),()),())⟩
def aE4:bp U6.ps->bI:=(λd=>{loops:=(bt 3 (λS=>{ι:=Int,μ:=λi=>(((d.1.take d.2.1.toNat++(d.2.2.2.1++d.1.drop d.2.2.1.toNat)).length:Int)-i).toNat,inv:=λi=>0<=i/\i<=((d.1.take d.2.1.toNat++(d.2.2.2.1++d.1.drop d.2.2.1.toNat)).length:Int),keep:=[9,20,21],slots:=λi=>[(22,.int .i64 i)],keepN:=[320]}) bZ)})
def th(a:List ci)(b:Int)(c:List ci)(d:Int):=List.flatten [fA a (toNat 0) b.toNat,c,fA a d.toNat (toNat (ae a))]
def vt(a:List ci):=∀(b:ci),b∈a->aG b.2.1
def mX(a:List ci):=ae a<=134217728
def z6(a b c:Int)(d:Prop):=∃(e:Int),aD e a/\aZ a e b/\aA c (aY b e) d
def xl(a b c:Int)(d:Prop):=ao a (a<b) (z6 c a b d)
def Aj(a:Int)(b c:List ci)(d:Int):=take a.toNat b++(c++drop d.toNat b)
theorem bd9:
 ∀(a:List ci)(b c:Int)(d:List ci),cO a/\bG b c (cO d) True->ao b (b<=ae a) (bM c (ae a) (mX a) (mX d/\vt a/\vt d))->bM 0 b (b<=ae a) (bM c (ae a) (ae a<=ae a) (ae (th a b d c)<=1073741824/\(∃(e:Int),aD e (ae (Aj b a d c))/\aA (ae (th a b d c)) (0=e) (ai (th a b d c=th a b d c)))/\ ∀(e:Int),aD e (ae (Aj b a d c))->au (av e (ae (th a b d c))) (bu e (ae (th a b d c)) (aG (af (th a b d c) e).2.1) (xl e (ae (th a b d c)) (ae (Aj b a d c)) (ai (set (th a b d c) e.toNat (af (th a b d c) e)=th a b d c)))) (th a b d c=Aj b a d c))):= by
  delta af ae ap aq aI aQ cO cS cB aG bG cH aA aZ cu ao th aY ai vt aD bu bM av mX xl Aj z6
  rintro l a b m-⟨h0,h1,h2,h3,h4,h5,h6,h7⟩
  have e:List.flatten [fA l (toNat (0:Int)) (toNat a),m,fA l (toNat b) (toNat (l.length:Int))]=l.take a.toNat++(m++l.drop b.toNat):=by
   simp[fA]
  rw[e]
  have d:∀ y∈l.take a.toNat++(m++l.drop b.toNat),(y.2.1.length:Int)<=1099511627776:=by
   grind
  have hlen:(l.take a.toNat++(m++l.drop b.toNat)).length<=l.length+(m.length+l.length):=by
   grind
  refine⟨ab,h0,h1,h2,h3,ab,ab,⟨0,⟨ab,ab⟩,aK⟩,?_⟩
  rintro j ⟨f,j1⟩
  refine ay (λc=>?_) (λc=>rfl)
  have c:=aX c
  refine⟨f,c,d _ (cA f c),f,c,j+1,⟨ab,ab⟩,ab,rfl,aL ab ab,yw f c,aN⟩
theorem T5:aB 210 U6.spec:=aF Tryz.func210 (am (am aC bg3) Uw) aE4 bd9
def bP4:Cn:=⟨[.val (.sl d8),.agg p8],[.val cI,.val .bool],λ_=>[],λd y=>0<=y.1.1/\y.1.1<=d.1.length/\(dS d.1->(∀ z∈d.1.take y.1.1.toNat,cF z.1 d.2.1)∧∀ z∈d.1.drop y.1.1.toNat,¬ cF z.1 d.2.1)/\y.1.2.1=decide (y.1.1<d.1.length/\(d.1.getD y.1.1.toNat default).1=d.2.1),λd h=>let ⟨k,h0,h1,h2⟩:=S8 d.1 d.2.1;⟨((k,decide (k<d.1.length/\(d.1.getD k.toNat default).1=d.2.1),()),()),h0,h1,h2,rfl⟩⟩
theorem aG1:
 ∀(a:List ci)(b c:Int),cO a/\ai (aQ b/\aq c)->True-> ∀(d:Int)(e:Bool),xM d a b c e->xM d a b c e:= by
  delta af ae aq aI aQ cO cS cB ao BR xM ai aD bM
  grind
theorem P9:aB 209 bP4.spec:=nB Tryz.func209 (am aC Za) aS aG1
def iu(l:List Rt)(r:Rt):List Rt:=l.filter (λa=>decide (cF a.1 r.1))++r::l.filter (λa=>decide (cF r.1 a.1))
def lM(l:List Rt)(p:fD):List Rt:=l.filter (λa=>decide (a.1≠p))
def okL(l:List Rt):Prop:=(l.length:Int)<=134217728∧∀ y∈l,(y.2.1.length:Int)<=1099511627776
def Aa(a:Int)(b:Option Rt)(r:Rt):Option Rt:=if iF r.1 a then match b with|none=>some r|some q=>if q.1.2<r.1.2 then some r else some q else b
def pR(l:List Rt)(a:Int):Option Rt:=l.foldl (Aa a) none
def cN(l:List Rt)(a:Int):Rt:=match pR l a with|none=>((0,0),[],0)|some r=>r
def sG(l:List Rt)(a:Int):Bool:=(pR l a).isSome
theorem Xx{l:List Rt}{p:fD}{k:Nat}(h1:∀ z∈l.take k,cF z.1 p)(h2:∀ z∈l.drop k,¬ cF z.1 p):l.take k=l.filter (λa=>decide (cF a.1 p)):=by
 conv=>rhs;rw[← nZ k l]
 rw[u5,List.filter_eq_self.2 (by simpa using h1),List.filter_eq_nil_iff.2 (by simpa using h2),kY]
theorem Sz{l:List Rt}{i:Int}(h0:0<=i)(h1:i<l.length):l=l.take i.toNat++l.getD i.toNat default::l.drop (i+1).toNat:=by
 have a:i.toNat<l.length:=ab
 rw[ct,cM a,jo,show (i+1).toNat=i.toNat+1 from by omega,← vj a,nZ]
theorem Wg{l:List Rt}{p:fD}{i:Int}(hs:dS l)(h0:0<=i)(hl:i<l.length)(f:∀ z∈l.take i.toNat,cF z.1 p)(g:(l.getD i.toNat default).1=p):l.drop (i+1).toNat=l.filter (λa=>decide (cF p a.1))/\l.take i.toNat++l.drop (i+1).toNat=lM l p:=by
 have d:=Sz h0 hl
 have hp:(l.getD i.toNat default::l.drop (i+1).toNat).Pairwise λa b=>cF a.1 b.1:=by
  have:=hs;rw[d] at this;exact (List.pairwise_append.1 this).2.1
 have h:∀ z∈l.drop (i+1).toNat,cF p z.1:=λz c=>by rw[← g];exact (List.pairwise_cons.1 hp).1 z c
 generalize l.getD i.toNat default=r at *
 generalize l.take i.toNat=A at *
 generalize l.drop (i+1).toNat=B at *
 subst d
 subst g
 constructor
 .rw[u5,List.filter_cons,ah (by simp[uA]),List.filter_eq_nil_iff.2 (by simpa using λz c=>Az (f z c)),uy,List.filter_eq_self.2 (by simpa using h)]
 .rw[lM,u5,List.filter_cons,ah aw,List.filter_eq_self.2 (λz c=>fm (λ(e:z.1=r.1)=>uA _ (e▸f z c))),List.filter_eq_self.2 (λz c=>fm (λ(e:z.1=r.1)=>uA _ (e▸h z c)))]
theorem Sj{l:List Rt}{p:fD}{i:Int}(hs:dS l)(h0:0<=i)(j:∀ z∈l.take i.toNat,cF z.1 p)(g:∀ z∈l.drop i.toNat,¬ cF z.1 p)(he:¬ (i<l.length/\(l.getD i.toNat default).1=p)):l.drop i.toNat=l.filter (λa=>decide (cF p a.1))/\l=lM l p:=by
 have h3:∀ z∈l.drop i.toNat,cF p z.1:=by
  intro z c;rcases IS (g z c) with e|h
  .exfalso;by_cases hl:i<l.length
   .have k:i.toNat<l.length:=ab;have d:(l.getD i.toNat default).1≠p:=λe=>he ⟨hl,e⟩;rw[ct,cM k,jo] at d;have m:(l.drop i.toNat).Pairwise λa b=>cF a.1 b.1:=List.Pairwise.drop hs;rw[vj k] at c m g;rcases eZ.1 c with rfl|c
    .exact d e
    .exact g _ (fp) (e▸(List.pairwise_cons.1 m).1 z c)
   .rw[List.drop_eq_nil_of_le ab] at c;simp at c
  .exact h
 have f:=nZ i.toNat l
 constructor
 .conv=>rhs;rw[← f]
  rw[u5,List.filter_eq_nil_iff.2 (by simpa using λz c=>Az (j z c)),uy,List.filter_eq_self.2 (by simpa using h3)]
 .symm;apply List.filter_eq_self.2;intro z c;rw[← f] at c;apply fm;rcases fC.1 c with c|c
  .exact λe=>uA _ (e▸j z c)
  .grind
def bN5:Ct:=⟨[.val (.sl d8),.agg d8],[.own 176 d8],λd=>[dS d.1,okL d.1,(d.2.1.2.1.length:Int)<=1099511627776],λd=>((iu d.1 d.2.1,()),())⟩
def Js(a:Bool)(b:Int)(c:List ci)(d:Int)(e f g:Prop):=au a (ao b (b<=ae c) (bM (ap (b+1)) (ae c) (mX c) (d<=134217728/\e/\f))) (ao b (b<=ae c) (bM b (ae c) (mX c) (d<=134217728/\e/\g)))
def vC(a b:Int)(c:ac)(d:Int):=[((a,b),c,d)]
theorem be5:
 ∀(a:List ci)(b c:Int)(d:ac)(e:Int),cO a/\ai (cS b c d e)->dS a/\okL a/\aG d-> ∀(f:Int)(g:Bool),xM f a b c g->Js g f a (ae (vC b c d e)) (vt a) (vt (vC b c d e)/\Aj f a (vC b c d e) (ap (f+1))=iu a ((b,c),d,e)) (vt (vC b c d e)/\Aj f a (vC b c d e) f=iu a ((b,c),d,e)):= by
  delta af ae ap aq aI aQ cO cS cB aG cH ao BR xM ai vt aD bM Js mX Aj vC
  rintro l a n nx b-⟨e,⟨k,m⟩,o⟩ i f ⟨d,g,c,rfl⟩
  obtain⟨c,h⟩:=c e
  refine bP (λj=>?_) (λj=>?_)
  .obtain⟨f1,f2⟩:=j
   rw[aL ab ab]
   refine⟨d,g,ab,ab,k,aw,m,by simpa using o,?_⟩
   rw[(Wg e d f1 c f2).1,Xx c h];rfl
  .refine⟨d,g,d,g,k,aw,m,by simpa using o,?_⟩
   rw[(Sj e d c h j).1,Xx c h];rfl
theorem Tr:aB 146 bN5.spec:=aF Tryz.func146 (am (am aC P9) T5) aS be5
def bh9:Ct:=⟨[.val (.sl d8),.agg p8],[.own 176 d8],λd=>[dS d.1,okL d.1],λd=>((lM d.1 d.2.1,()),())⟩
def uF(a:List ci):=mX a/\ ∀(b:Rt),b∈a->aG b.2.1
theorem bb9:
 ∀(a:List ci)(b c:Int),cO a/\ai (aQ b/\aq c)->dS a/\uF a-> ∀(d:Int)(e:Bool),xM d a b c e->Js e d a (↑((0:Nat)):Int) (vt a) (vt []/\take d.toNat a++drop (toNat (ap (d+1))) a=lM a (b,c)) (vt []/\take d.toNat a++drop d.toNat a=lM a (b,c)):= by
  delta af ae ap aq aI aQ cO cS cB aG cH ao BR xM uF ai vt aD bM Js mX
  rintro l a n-⟨d,h,j⟩ i f ⟨b,e,c,rfl⟩
  obtain⟨c,h3⟩:=c d
  refine bP (λg=>?_) (λg=>?_)
  .obtain⟨f1,f2⟩:=g
   rw[aL ab ab]
   exact⟨b,e,ab,ab,h,aw,j,aw,(Wg d b f1 c f2).2⟩
  .refine⟨b,e,b,e,h,aw,j,aw,?_⟩
   rw[nZ];exact (Sj d b c h3 g).2
theorem WU:aB 145 bh9.spec:=aF Tryz.func145 (am (am aC P9) T5) aS bb9
theorem bI9{l:List Rt}{a i:Int}(h0:0<=i)(h1:i<l.length):pR (l.take (i+1).toNat) a=Aa a (pR (l.take i.toNat) a) (l.getD i.toNat default):=by
 have b:i.toNat<l.length:=ab
 rw[show (i+1).toNat=i.toNat+1 from by omega,DS b,pR,ld,ct,cM b,jo]
 rfl
theorem aw5{l:List Rt}{a b i:Int}(h0:0<=i)(h1:i<l.length)(h:pR (l.take i.toNat) a=if b<0 then none else some (l.getD b.toNat default))(c:Bool)
  (hc:c=(bif iF (l.getD i.toNat default).1 a then bif decide (b<0) then true else decide ((l.getD b.toNat default).1.2<(l.getD i.toNat default).1.2) else false)) :
  pR (l.take (i+1).toNat) a=if (if c then i else b)<0 then none else some (l.getD (if c then i else b).toNat default):=by
 rw[bI9 h0 h1,h]
 unfold Aa
 grind
theorem Zj{l:List Rt}{a:Int}{k:Nat}(h:∀ z∈l.drop k,iF z.1 a=false):pR l a=pR (l.take k) a:=by
 conv=>lhs;rw[← nZ k l]
 unfold pR
 rw[ld]
 generalize List.foldl (Aa a) none (l.take k)=s
 generalize l.drop k=m at h
 induction m generalizing s with
 | nil=>rfl
 | cons z r ih =>
  rw[List.foldl_cons,show Aa a s z=s from by rw[Aa.eq_def,ah (by simp[h z fp])]];simp_all
theorem Zm{p:fD}{a:Int}(h:¬ cF p (a,33)):iF p a=false:=by
 unfold iF nE
 unfold cF at h
 grind
def SN:Ct:=⟨[.val (.sl d8),.val db],[.agg d8,.val .bool],λd=>[dS d.1,okL d.1],λd=>((cN d.1 d.2.1,sG d.1 d.2.1,()),())⟩
def bk7:bp SN.ps->bI:=(λd=>{loops:=(bt 4 (λS=>{ι:=Int×Int×Int,qn:=pI,μ:=λi=>(i.2.2-i.1).toNat,inv:=λi=>0<=i.1/\i.1<=i.2.2/\i.2.2<=d.1.length ∧ -1<=i.2.1/\i.2.1<i.1/\pR (d.1.take i.1.toNat) d.2.1=(if i.2.1<0 then none else some (d.1.getD i.2.1.toNat default))/\(dS d.1→∀ z∈d.1.drop i.2.2.toNat,¬ cF z.1 (d.2.1,33)),keep:=[0,1,4],slots:=λi=>[(8,.int .i64 i.2.1),(17,.int .i64 i.2.2),(18,.int .i64 i.1)],keepN:=[80]}) bZ)})
def Po(a:List ci)(b j k l:Int) :=
 0<=j/\j<=l/\l<=(ae a)/\ -1<=k/\k<j/\(pR (take j.toNat a) b=if k<0 then none else some (af a k))/\(dS a-> ∀(m:ci),m∈drop l.toNat a-> ¬cF m.1 (b,(33:Int)))
def Oo(a:List ci)(b e f g:Int) :=
 e<=g/\g<=(ae a)/\ -1<=f/\f<e/\(pR (take e.toNat a) b=if f<0 then none else some (af a f))/\(dS a-> ∀(h:ci),h∈drop g.toNat a-> ¬cF h.1 (b,(33:Int)))
def Hw :=
 (0:Int)=0/\(0:Int)=0/\(0:Int)=0/\True
theorem bs7 :
 ∀(a:List ci)(b:Int),(a.length<=maxLen/\ ∀(c:ci),c∈a->((0<=c.1.1/\c.1.1<=4294967295)/\Ju c.1.2)/\(c.2.1.length<=maxLen/\ ∀(d:Int),d∈c.2.1->Ju d)/\Ju c.2.2)/\(0<=b/\b<=4294967295)/\True->(dS a/\(ae a)<=134217728/\ ∀(c:Rt),c∈a->(ae c.2.1)<=1099511627776)-> ∀(c:Int)(d:Bool),0<=c/\c<=(ae a)/\(dS a->(∀(e:ci),e∈take c.toNat a->cF e.1 (b,(33:Int)))/\ ∀(e:ci),e∈drop c.toNat a-> ¬cF e.1 (b,(33:Int)))/\d=decide (c<(ae a)/\(af a c).1=(b,(33:Int)))->(∃(e:Int) (f:Int),∃(g:Int),(0<=e/\(Oo a b e f g))/\a=a/\b=b/\-1=f/\c=g/\0=e/\(Hw))/\ ∀(e f g:Int),0<=e/\(Oo a b e f g)->au (decide (e<g)) (0<=e/\e<(ae a)/\ ∀(h:Bool),h=iF (af a e).1 b->(si h)/\(si h)/\ ∀(i:Bool),i=decide (f<0)->((h&& ! i)->(rA (h&& ! i))/\(rA (h&& ! i))/\0<=e/\e<(ae a)/\True)/\(si (h&& ! i))/\(si (h&& ! i))/\(si (h&& ! i))/\((h&& ! i)->(rA (h&& ! i))/\(rA (h&& !
 i))/\0<=f/\f<(ae a)/\True)/\(si (h&& ! i))/\(si (h&& ! i))/\(si (h&& ! i))/\((h&& ! i)->(rA (h&& ! i))/\(rA (h&& ! i))/\True)/\(h->(rA h)/\(i=false->(h&& ! i))/\True)/\(rA h)/\au (bif h then bif i then true else decide ((af a f).1.2<(af a e).1.2) else false) (∃(j:Int) (k:Int),∃(l:Int),(Po a b j k l)/\toNat (l -j)<toNat (g -e)/\a=a/\b=b/\e=k/\g=l/\ap (e+1)=j/\(Hw)) (∃(j:Int) (k:Int),∃(l:Int),(Po a b j k l)/\toNat (l -j)<toNat (g -e)/\a=a/\b=b/\f=k/\g=l/\ap (e+1)=j/\(Hw))) (au (decide (f<0)) ((((0:Int),(0:Int)),([]:ac),(0:Int))=cN a b/\false=sG a b) (0<=f/\f<(ae a)/\((length (af a f).2.1):Int)<=1099511627776/\af a f=cN a b/\true=sG a b)):=by
  delta Po Oo Hw si rA ap af ae;rintro l a ⟨⟨hl,-⟩,-⟩⟨k,hk,hx⟩ n f ⟨n0,n1,n2,-⟩;refine⟨⟨0,-1,n,⟨ab,ab,ab,ab,ab,by simp[pR],λ_=>(n2 k).2⟩,aK⟩,?_⟩;rintro i b n ⟨m,h1,o,h3,h4,p,g⟩;refine bP (λhi=>?_) (λhi=>?_)
  .have d:=aw5 m ab p;refine⟨m,ab,?_⟩
   (repeat (refine dq ?_;repeat refine dm ?_));refine ay (λh=>?_) (λh=>?_)
   .have d:=d true h.symm;refine⟨i+1,i,n,⟨ab,ab,o,ab,ab,by simpa using d,g⟩,ab,aK⟩
   .have d:=d false h.symm;refine⟨i+1,b,n,⟨ab,ab,o,ab,ab,by simpa using d,g⟩,ab,aK⟩
  .have e:i=n:=ab;subst e;have c:pR l a=pR (l.take i.toNat) a:=Zj (λz hz=>Zm (g k z hz));rw[p] at c;refine bP (λj=>?_) (λj=>?_)
   .rw[aj j] at c;simp[cN,sG,c]
   .rw[ah j] at c;refine⟨ab,ab,hx _ (cA ab ab),?_,?_⟩
    .rw[cN,c]
    .rw[sG,c];rfl
theorem bi7:aB 322 SN.spec:=aF Tryz.func322 (am (am (am aC P9) Uw) VV) bk7 bs7
def vN(l links:ac)(j:Nat):Prop:=(0<j->l.getD (j-1) default<l.getD j default)/\l.getD j default∈links
instance (l links:ac) (j:Nat):Decidable (vN l links j):=by unfold vN;infer_instance
def M2(l links:ac):Prop:=l.length<=16∧∀ j:Nat,j<l.length->vN l links j
instance (l links:ac):Decidable (M2 l links):=by unfold M2;infer_instance
def oU(r:Rt)(links:ac):Prop:=M2 r.2.1 links/\1<=r.2.2/\r.2.2<=3
instance (r:Rt) (links:ac):Decidable (oU r links):=by unfold oU;infer_instance
def chk(links:ac):Option fD->List Rt->Int
 | _,[]=>0
 | q,r::rs=>if nE r.1=false then 10 else if q.any (λq=>decide (0<=iY q r.1)) then 6 else if ¬ oU r links then 12 else chk links (some r.1) rs
def jf(l:List Rt)(links:ac):Int:=if (64:Int)<l.length then 5 else chk links none l
def Ec(l:List Rt)(i:Int):Option fD:=if i=0 then none else some (l.getD (i-1).toNat default).1
theorem bB6{l a:ac}{i:Int}(h0:0<=i)(h:0<i->l.getD (i.toNat-1) default<l.getD i.toNat default)(h2:l.getD i.toNat default∈a):vN l a i.toNat :=
 ⟨λhi=>h ab,h2⟩
theorem bD9{l a:ac}{i:Int}(h0:0<=i)(h:∀ j:Nat,(j:Int)<i->vN l a j)(h2:vN l a i.toNat):∀ j:Nat,(j:Int)<i+1->vN l a j:=by
 grind
theorem bQ6{l:List Rt}{a:ac}{i:Int}{q:Option fD}(h0:0<=i)(h1:i<l.length):chk a q (l.drop i.toNat)=if nE (l.getD i.toNat default).1=false then 10 else if q.any (λq=>decide (0<=iY q (l.getD i.toNat default).1)) then 6 else if ¬ oU (l.getD i.toNat default) a then 12 else chk a (some (l.getD i.toNat default).1) (l.drop (i+1).toNat):=by
 have b:i.toNat<l.length:=ab
 have e:(i+1).toNat=i.toNat+1:=ab
 rw[vj b,chk,ct,cM b,jo,e]
def Sb:Ct:=⟨[.agg d8,.val (.sl cI)],[.val .bool],λ_=>[],λd=>((decide (oU d.1 d.2.1),()),())⟩
def br5:bp Sb.ps->bI:=(λd=>{loops:=(bt 4 (λS=>{ι:=Int,μ:=λi=>(d.1.2.1.length-i).toNat,inv:=λi=>0<=i/\i<=d.1.2.1.length∧∀ j:Nat,(j:Int)<i->vN d.1.2.1 d.2.1 j,keep:=[1,2,22,23],slots:=λi=>[(24,.int .i64 i)],keepN:=[48]}) bZ)})
def IX(a:Int)(b c:ac):=ao a (a<=ae b) (∀(d:Nat),(d:Int)<a->vN b c d)
theorem aB0:
 ∀(a b:Int)(c:ac)(d:Int)(e:ac),cS a b c d/\ai (cB e)->True-> ∀(f:Bool),f=av 16 (ae c)->cX f (br f) (lw (bn f (av d 1)) (av 3 d) (false=decide (oU ((a,b),c,d) e)) ((∃(g:Int),IX g c e/\e=e/\c=c/\aA (ae c) (0=g) (aU a b (c=c) (ai (d=d))))/\ ∀(g:Int),IX g c e->au (av g (ae c)) (ao g (g<ae c) (∀(h:Bool),h=av 0 g->cG h h (aT h) (h->iM h h (ap (g -1)) (ap (g -1)<ae c)) (cG h h (d7 h) (h->h) (∀(i:Bool),i=bw h (decide (af c g<=af c (ap (g -1))))->fZ i/\jW i (bn i ( !decide (af c g∈e))) (false=decide (oU ((a,b),c,d) e)) (∃(j:Int),IX j c e/\aZ (ae c) j g/\e=e/\c=c/\aA (ae c) (aY g j) (aU a b (c=c) (ai (d=d)))))))) (true=decide (oU ((a,b),c,d) e)))):= by
  delta af ae ap aq aI bO aQ aT cS cB aU aA bn cG aZ bw cu cX ao br fZ lw iM aY ai aD d7 av IX jW
  rintro a n l b ks ⟨⟨⟨-,-⟩,⟨hl,-⟩,-⟩,-⟩ -
  (repeat (refine dq ?_;repeat refine dm ?_))
  refine ay (λc=>?_) (λc=>?_)
  .have c:¬ (l.length<=16/\1<=b/\b<=3):=by simp[-List.getD_eq_getElem?_getD,-Int.default_eq_zero,gb] at c;omega
   symm;apply fh
   rintro⟨⟨g,-⟩,e⟩;exact c ⟨g,e⟩
  .have c:l.length<=16/\1<=b/\b<=3:=by simp[-List.getD_eq_getElem?_getD,-Int.default_eq_zero,gb] at c;omega
   refine⟨⟨0,⟨ab,ab,ab⟩,aK⟩,?_⟩
   rintro i ⟨f,g,e⟩
   refine bP (λhi=>?_) (λhi=>?_)
   .refine⟨f,hi,?_⟩
    rw[aL ab ab]
    (repeat (refine dq ?_;repeat refine dm ?_))
    refine ay (λd=>?_) (λd=>?_)
    .have d:¬ vN l ks i.toNat:=by
      rintro⟨k1,k2⟩
      simp[-List.getD_eq_getElem?_getD,-Int.default_eq_zero,gb,k2] at d
      omega
     symm;apply fh
     rintro⟨⟨-,h3⟩,-⟩;exact d (h3 _ (show i.toNat<l.length by omega))
    .have d:vN l ks i.toNat:=by
      simp[-List.getD_eq_getElem?_getD,-Int.default_eq_zero,gb] at d
      refine bB6 f (λhp=>?_) d.2
      omega
     exact⟨i+1,⟨ab,ab,bD9 f e d⟩,ab,rfl,rfl,rfl,aL ab ab,aK⟩
   .symm;apply fm
    exact⟨⟨c.1,λj hj=>e j (by simp only at hj;omega)⟩,c.2⟩
theorem a67:aB 253 Sb.spec:=aF Tryz.func253 (am aC an1) br5 aB0
def TX:Ct:=⟨[.val (.sl d8),.val (.sl cI)],[.val cI],λ_=>[],λd=>((jf d.1 d.2.1,()),())⟩
def bs3:bp TX.ps->bI:=(λd=>{loops:=(bt 4 (λS=>{ι:=Int,μ:=λi=>(d.1.length-i).toNat,inv:=λi=>0<=i/\i<=d.1.length/\jf d.1 d.2.1=chk d.2.1 (Ec d.1 i) (d.1.drop i.toNat),keep:=[0,1,10,11],slots:=λi=>[(12,.int .i64 i)]}) bZ)})
def JW(a:Int)(b:List ci)(c:ac):=ao a (a<=ae b) (jf b c=chk c (Ec b a) (drop a.toNat b))
def uD(a:List ci)(b c:Int)(d e:Prop):=aZ (ae a) b c/\a=a/\d/\e
theorem bp3:
 ∀(a:List ci)(b:ac),cO a/\ai (cB b)->True->au (av 64 (ae a)) (5=jf a b) ((∃(c:Int),JW c a b/\a=a/\b=b/\a=a/\aA (ae a) (0=c) True)/\ ∀(c:Int),JW c a b->au (av c (ae a)) (fw c (ae a) ( !nE (af a c).1) (10=jf a b) (∀(d:Bool),d=av 0 c->cG d d (iM d d (ap (c -1)) (ap (c -1)<ae a)) (d->aT d) (ia d d (d7 d) (d->aT d) ((d->d)/\au (bw d (gD (iY (af a (ap (c -1))).1 (af a c).1))) (6=jf a b) (au ( !decide (oU (af a c) b)) (12=jf a b) (∃(e:Int),JW e a b/\uD a e c (b=b) (a=a/\aA (ae a) (aY c e) True))))))) (0=jf a b)):= by
  delta af ae ap aq aI aQ aT cO cS cB aA cG aZ bw cu ao ia iM aY ai aD d7 av JW gD fw uD
  rintro l ks ⟨⟨hl,-⟩,-⟩ -
  refine bP (λa=>?_) (λa=>?_)
  .rw[jf,aj a]
  .refine⟨⟨0,⟨ab,ab,by rw[jf,ah a];rfl⟩,aK⟩,?_⟩
   rintro i ⟨g,h1,h2⟩
   rw[h2]
   refine bP (λhi=>?_) (λhi=>?_)
   .rw[bQ6 g hi,aL ab ab]
    refine⟨g,hi,ay (λc=>?_) (λc=>?_)⟩
    .simp_all
    .simp only[zR] at c
     rw[ah (by simp[-List.getD_eq_getElem?_getD,-Int.default_eq_zero,c])]
     (repeat (refine dq ?_;repeat refine dm ?_))
     have he:(Option.any (λq=>decide (0<=iY q (l.getD i.toNat default).1)) (Ec l i))=(bif decide (0<i) then decide (0<=iY (l.getD (i-1).toNat default).1 (l.getD i.toNat default).1) else false):=by
      unfold Ec
      by_cases e:i=0
      .simp[e]
      .rw[ah e,Option.any_some];simp[show 0<i from by omega]
     rw[he]
     refine ay (λd=>?_) (λd=>?_)
     .rw[aj d]
     .rw[ah (by rw[d];decide)]
      refine ay (λf=>?_) (λf=>?_)
      .simp_all
      .simp at f
       rw[ah (λh=>h f)]
       refine⟨i+1,⟨ab,ab,?_⟩,ab,aK⟩
       rw[Ec,ah ab,show i+1-1=i from by omega]
   .rw[List.drop_eq_nil_of_le ab,chk]
theorem Vn:aB 200 TX.spec:=aF Tryz.func200 (am (am (am aC a67) Vi) Tu) bs3 bp3
theorem RV{l:List Rt}{i:Int}(h0:0<=i)(h1:i<l.length):l.take (i+1).toNat=l.take i.toNat++[l.getD i.toNat default]:=by
 have hj:i.toNat<l.length:=ab
 rw[show (i+1).toNat=i.toNat+1 from by omega,DS hj,ct,cM hj,jo]
theorem L6{m:List Rt}{r:Rt}(h:∀ z∈m,cF z.1 r.1):iu m r=m++[r]:=by
 rw[iu,List.filter_eq_self.2 (λz hz=>fm (h z hz)),List.filter_eq_nil_iff.2 (λz hz=>by simpa using Az (h z hz))]
theorem M3{m:List Rt}{r e:Rt}(h:cF r.1 e.1):iu (m++[e]) r=iu m r++[e]:=by
 rw[iu,iu,u5,u5,List.filter_cons,ah (by simpa using Az h),List.filter_cons,aj (by simpa using h)]
 simp
theorem SM{m:List Rt}{r e:Rt}(h:∀ z∈m,cF z.1 r.1)(he:e.1=r.1):iu (m++[e]) r=m++[r]:=by
 have hi:¬ cF e.1 r.1:=by rw[he];exact uA _
 have hj:¬ cF r.1 e.1:=by rw[he];exact uA _
 have f1:m.filter (λa=>decide (cF a.1 r.1))=m:=List.filter_eq_self.2 (λz hz=>fm (h z hz))
 have f2:m.filter (λa=>decide (cF r.1 a.1))=[]:=List.filter_eq_nil_iff.2 (λz hz=>by simpa using Az (h z hz))
 simp[iu,f1,f2,hi,hj]
theorem later{l:List Rt}{p:fD}{i:Int}(hs:dS l)(h0:0<=i)(h1:i<l.length){z:Rt}(hz:z∈l.take i.toNat)(hp:¬ cF z.1 p):cF p (l.getD i.toNat default).1:=by
 have hsp:=Sz h0 h1
 unfold dS at hs
 rw[hsp] at hs
 have:=(List.pairwise_append.1 hs).2.2 z hz _ fp
 rcases IS hp with e|h
 .rw[← e];exact this
 .exact FY h this
def QW:Ct:=⟨[.val (.sl d8),.agg d8],[.own 176 d8],λd=>[dS d.1,okL d.1,(d.2.1.2.1.length:Int)<=1099511627776],λd=>((iu d.1 d.2.1,()),())⟩
def bL7:bp QW.ps->bI:=(λd=>{loops:=(bt 4 (λS=>{ι:=Int×Bool×(List Rt),qn:=pI,μ:=λi=>(d.1.length-i.1).toNat,inv:=λi=>0<=i.1/\i.1<=d.1.length/\(i.2.2.length:Int)<=i.1+1/\(i.2.1=false->(∀ z∈d.1.take i.1.toNat,cF z.1 d.2.1.1)/\i.2.2=d.1.take i.1.toNat)/\(i.2.1=true->(∃ z∈d.1.take i.1.toNat,¬ cF z.1 d.2.1.1)/\i.2.2=iu (d.1.take i.1.toNat) d.2.1),keep:=[0,3],slots:=λi=>[(5,.own 524288 4),(6,.bool i.2.1),(7,.int .i64 i.1)],keepN:=[64],names:=λi=>[(524288,.live (.row 176 d8 i.2.2))]}) bZ)})
def Tk(a:Int)(b:List ci)(c d:Int):=∀(e:ci),e∈take a.toNat b->cF e.1 (c,d)
def AZ(a:Int)(b:List ci)(c d:Int)(e:List Rt)(f:ac)(g:Int):=(∃(h:ci),h∈take a.toNat b/\ ¬cF h.1 (c,d))/\e=iu (take a.toNat b) ((c,d),f,g)
def yc(a:List Rt)(b:ci):=bv ((a.length+length [b])*48)
def AT(a:Bool)(b:Int)(c:List ci)(d e:Int)(f:List Rt):=a=false->Tk b c d e/\f=take b.toNat c
def Jw(a b:Bool)(c d:Prop):=∀(e:Bool),e=a->(e->aT e)/\(e->e)/\au (bw e b) c d
theorem a42:
 ∀(a:List ci)(b c:Int)(d:ac)(e:Int),cO a/\ai (cS b c d e)->dS a/\okL a/\aG d->(∃(f:Int) (g:Bool) (h:List Rt),bM f (ae a) (ae h<=f+1) (AT g f a b c h/\(g->AZ f a b c h d e))/\a=a/\false=g/\0=f/\aU b c (d=d) (aA e (h=[]) True))/\ ∀(f:Int)(g:Bool)(h:List Rt),bM f (ae a) (ae h<=f+1) (AT g f a b c h/\(g->AZ f a b c h d e))->au (av f (ae a)) (ao f (f<ae a) (Jw (gD (iY (af a f).1 (b,c))) ( !g) (aG d/\yc h ((b,c),d,e)/\au (bJ (iY (af a f).1 (b,c))) (bu f (ae a) (aG (af a f).2.1) (yc (h++vC b c d e) (af a f)/\ ∃(i:Int) (j:Bool) (k:List Rt),bM i (ae a) (ae k<=i+1) (AT j i a b c k/\(j->AZ i a b c k d e))/\uD a i f (true=j) (aY f i/\aU b c (d=d) (aA e (h++vC b c d e++[af a f]=k) True)))) (∃(i:Int) (j:Bool) (k:List Rt),bM i (ae a) (ae k<=i+1) (AT j i a b c k/\(j->AZ i a b c k d
 e))/\uD a i f (true=j) (aY f i/\aU b c (d=d) (aA e (h++vC b c d e=k) True)))) (au (bJ (iY (af a f).1 (b,c))) (bu f (ae a) (aG (af a f).2.1) (yc h (af a f)/\ ∃(i:Int) (j:Bool) (k:List Rt),bM i (ae a) (ae k<=i+1) (AT j i a b c k/\(j->AZ i a b c k d e))/\uD a i f (g=j) (aY f i/\aU b c (d=d) (aA e (h++[af a f]=k) True)))) (∃(i:Int) (j:Bool) (k:List Rt),bM i (ae a) (ae k<=i+1) (AT j i a b c k/\(j->AZ i a b c k d e))/\uD a i f (g=j) (aY f i/\aU b c (d=d) (aA e (h=k) True)))))) (au ( !g) (aG d/\yc h ((b,c),d,e)/\h++vC b c d e=iu a ((b,c),d,e)) (h=iu a ((b,c),d,e))):= by
  delta af ae ap aq aI aQ aT cO cS cB aU aG cH aA aZ bw cu ao bv bJ Tk AZ aY ai aD bW bu bM av yc AT gD Jw vC uD
  rintro l a n nx b ⟨⟨hl0,-⟩,-⟩⟨hs,⟨hl,hx⟩,hn⟩
  refine⟨⟨0,false,[],⟨ab,ab,aw,λ_=>aw,λh=>by simp at h⟩,aK⟩,?_⟩
  rintro i dn ys ⟨h0,h1,h2,h3,h4⟩
  refine bP (λhi=>?_) (λhi=>?_)
  .have ht:=RV h0 hi
   have hxi:=hx _ (cA h0 hi)
   have hlt:∀(z:Rt),z∈l.take i.toNat->z∈l.take (i+1).toNat:=λz hz=>by rw[ht];exact iA _ hz
   have hsi:l.getD i.toNat default∈l.take (i+1).toNat:=by rw[ht];simp[-List.getD_eq_getElem?_getD,-Int.default_eq_zero]
   have hlater:=λz hz hp=>later (p:=(a,n)) (z:=z) hs h0 hi hz hp
   generalize l.getD i.toNat default=e at *
   refine⟨h0,hi,?_⟩
   (repeat (refine dq ?_;repeat refine dm ?_))
   refine ay (λhc=>?_) (λhc=>?_)
   .have hq:¬ cF e.1 (a,n)/\dn=false:=by rw[← Mi];simpa[gb] using hc
    clear hc
    obtain⟨hc,rfl⟩:=hq
    obtain⟨k1,rfl⟩:=h3 rfl
    refine⟨hn,by simp only[gC];omega,ay (λhz=>?_) (λhz=>?_)⟩
    .have hz:¬ iY e.1 (a,n)=0:=by simpa using hz
     have hgt:cF (a,n) e.1:=by
      rcases IS hc with h|h
      .exact absurd (Hp.2 h) hz
      .exact h
     refine⟨h0,hi,hxi,by simp only[cL,gC];omega,i+1,true,_,⟨ab,ab,?_,aw,λ_=>⟨⟨e,hsi,hc⟩,rfl⟩⟩,ab,rfl,rfl,aL ab ab,rfl,rfl,rfl,rfl,?_,aN⟩
     .rw[ht,M3 hgt,L6 k1];simp only[cL,gC,dG];omega
     .rw[ht,M3 hgt,L6 k1]
    .have hz:iY e.1 (a,n)=0:=by simpa using hz
     have hz:=Hp.1 hz
     refine⟨i+1,true,_,⟨ab,ab,?_,aw,λ_=>⟨⟨e,hsi,hc⟩,rfl⟩⟩,ab,rfl,rfl,aL ab ab,rfl,rfl,rfl,rfl,?_,aN⟩
     .rw[ht,SM k1 hz];simp only[cL,gC,dG];omega
     .rw[ht,SM k1 hz]
   .have hc:¬ (¬ cF e.1 (a,n)/\dn=false):=by rw[← Mi];simpa[gb] using hc
    cases dn with
    | false =>
     have hc:cF e.1 (a,n):=i5 λh=>hc ⟨h,rfl⟩
     obtain⟨k1,rfl⟩:=h3 rfl
     have hz:¬ iY e.1 (a,n)=0:=by have:=D0.2 hc;omega
     rw[fh hz]
     refine⟨h0,hi,hxi,by simp only[gC];omega,i+1,false,_,⟨ab,ab,?_,λ_=>⟨?_,rfl⟩,aw⟩,ab,rfl,rfl,aL ab ab,rfl,rfl,rfl,rfl,ht.symm,aN⟩
     .simp only[dG];omega
     .rw[ht];intro z hz
      rcases fC.1 hz with hz|hz
      .exact k1 z hz
      .rw[nz.1 hz];exact hc
    | true =>
     obtain⟨⟨z,z1,z2⟩,rfl⟩:=h4 rfl
     have hgt:=hlater z z1 z2
     have hz:¬ iY e.1 (a,n)=0:=λh=>by have h:=Hp.1 h;rw[h] at hgt;exact uA _ hgt
     rw[fh hz]
     have hp:=M3 (m:=l.take i.toNat) (r:=((a,n),nx,b)) hgt
     refine⟨h0,hi,hxi,by simp only[gC];omega,i+1,true,_,⟨ab,ab,?_,aw,λ_=>⟨⟨z,hlt z z1,z2⟩,rfl⟩⟩,ab,rfl,rfl,aL ab ab,rfl,rfl,rfl,rfl,?_,aN⟩
     .rw[ht,hp,cL,gC];omega
     .rw[ht,hp]
  .rw[fH ab] at h3 h4
   refine ay (λhd=>?_) (λhd=>?_)
   .obtain⟨k1,rfl⟩:=h3 (by simpa using hd)
    exact⟨hn,by simp only[gC];omega,(L6 k1).symm⟩
   .exact (h4 (by simpa using hd)).2
theorem bO4:aB 119 QW.spec:=aF Tryz.func119 (am (am aC Xp) bE8) bL7 a42
theorem Tz{m:List Rt}{p:fD}{e:Rt}:lM (m++[e]) p=lM m p++(if e.1=p then [] else [e]):=by
 rw[lM,lM,u5,List.filter_cons,List.filter_nil]
 by_cases h:e.1=p <;> simp[h]
theorem Sn(m:List Rt)(p:fD):(lM m p).length<=m.length:=List.length_filter_le _ _
def V5:Ct:=⟨[.val (.sl d8),.agg p8],[.own 176 d8],λd=>[okL d.1],λd=>((lM d.1 d.2.1,()),())⟩
def aL3:bp V5.ps->bI:=(λd=>{loops:=(bt 3 (λS=>{ι:=Int×(List Rt),qn:=eO,μ:=λi=>(d.1.length-i.1).toNat,inv:=λi=>0<=i.1/\i.1<=d.1.length/\i.2=lM (d.1.take i.1.toNat) d.2.1,keep:=[0,3],slots:=λi=>[(5,.own 524288 4),(6,.int .i64 i.1)],keepN:=[64],names:=λi=>[(524288,.live (.row 176 d8 i.2))]}) bZ)})
def OO(a:List ci)(b c d:Int)(e:List Rt):=∃(f:Int) (g:List Rt),ao f (f<=ae a) (g=lM (take f.toNat a) (b,c))/\uD a f d (aY d f) (aU b c (e=g) True)
theorem au3:
 ∀(a:List ci)(b c:Int),cO a/\ai (aQ b/\aq c)->uF a->(∃(d:Int) (e:List Rt),ao d (d<=ae a) (e=lM (take d.toNat a) (b,c))/\a=a/\0=d/\aU b c (e=[]) True)/\ ∀(d:Int)(e:List Rt),ao d (d<=ae a) (e=lM (take d.toNat a) (b,c))->au (av d (ae a)) (fw d (ae a) ( !(decide ((af a d).1.1=b)&&(decide ((af a d).1.2=c)&&true))) (bu d (ae a) (aG (af a d).2.1) (yc e (af a d)/\OO a b c d (e++[af a d]))) (OO a b c d e)) (e=lM a (b,c)):= by
  delta af ae ap aq aI aQ cO cS cB aU aG cH aA aZ cu ao bv aY uF ai aD bu av yc mX OO fw uD
  rintro l a n ⟨⟨hl0,-⟩,-⟩⟨hl,hx⟩
  refine⟨⟨0,[],⟨ab,ab,by simp[lM]⟩,aK⟩,?_⟩
  rintro i ys ⟨h0,h1,rfl⟩
  refine bP (λhi=>?_) (λhi=>?_)
  .have ht:=RV h0 hi
   have hxi:=hx _ (cA h0 hi)
   have hle:=Sn (l.take i.toNat) (a,n)
   have hle2:(l.take i.toNat).length<=l.length:=by simp only[dG];omega
   generalize l.getD i.toNat default=e at *
   obtain⟨⟨c,f⟩,g⟩:=e
   refine⟨h0,hi,ay (λhc=>?_) (λhc=>?_)⟩
   .have hc:¬ (c,f)=(a,n):=by
     intro h;cases h;simp at hc
    refine⟨h0,hi,hxi,by simp only[gC];omega,i+1,_,⟨ab,ab,rfl⟩,ab,rfl,aL ab ab,rfl,rfl,?_,aN⟩
    rw[ht,Tz,ah hc]
   .have hc:(c,f)=(a,n):=by
     simp at hc;rw[hc.1,hc.2]
    refine⟨i+1,_,⟨ab,ab,rfl⟩,ab,rfl,aL ab ab,rfl,rfl,?_,aN⟩
    rw[ht,Tz,aj hc,kY]
  .rw[fH ab]
theorem be0:aB 189 V5.spec:=aF Tryz.func189 (am aC Xp) aL3 au3
def rB(l:List Rt)(p:fD):Bool:=decide ((lM l p).length<l.length)
def bH7:Ct:=⟨[.val (.sl d8),.agg p8],[.val .bool],λd=>[okL d.1],λd=>((rB d.1 d.2.1,()),())⟩
theorem bb0:
 ∀(a:List ci)(b c:Int),cO a/\ai (aQ b/\aq c)->uF a->okL a/\av (ae (lM a (b,c))) (ae a)=rB a (b,c):= by
  delta ae aq aI aQ cO cS cB aG cH uF ai aD av mX
  rintro l a n-h
  exact⟨h,decide_eq_decide.2 Int.ofNat_lt⟩
theorem bL2:aB 118 bH7.spec:=aF Tryz.func118 (am aC be0) aS bb0
theorem XM{l:List Rt}{r z:Rt}:z∈iu l r↔z=r∨(z∈l/\z.1≠r.1):=by
 unfold iu
 simp only[fC,eZ,List.mem_filter,pD]
 constructor
 .rintro (⟨h,k⟩|h|⟨h,k⟩)
  .exact .inr ⟨h,λe=>uA _ (e▸k)⟩
  .exact .inl h
  .exact .inr ⟨h,λe=>uA _ (e▸k)⟩
 .rintro (h|⟨h,k⟩)
  .exact .inr (.inl h)
  .by_cases hp:cF z.1 r.1
   .exact .inl ⟨h,hp⟩
   .rcases IS hp with e|e
    .exact absurd e k
    .exact .inr (.inr ⟨h,e⟩)
theorem Ov{l:List Rt}{r:Rt}(hs:dS l):dS (iu l r):=by
 unfold dS iu
 refine List.pairwise_append.2 ⟨List.Pairwise.filter _ hs,List.pairwise_cons.2 ⟨λz hz=>?_,List.Pairwise.filter _ hs⟩,λx hx y hy=>?_⟩
 .simpa using (List.mem_filter.1 hz).2
 .have hx:cF x.1 r.1:=by simpa using (List.mem_filter.1 hx).2
  rcases eZ.1 hy with rfl|hy
  .exact hx
  .exact FY hx (by simpa using (List.mem_filter.1 hy).2)
theorem Xf(l:List Rt)(r:Rt):(iu l r).length<=l.length+1:=by
 unfold iu
 rw[cL,dP]
 suffices h:(l.filter (λa=>decide (cF a.1 r.1))).length+(l.filter (λa=>decide (cF r.1 a.1))).length<=l.length by omega
 induction l with
 | nil=>simp
 | cons a l ih =>
  simp only[List.filter_cons];by_cases h1:cF a.1 r.1
  .have h2:=Az h1;simp only[h1,h2,decide_true,decide_false,if_true,dP];simp;omega
  .by_cases h2:cF r.1 a.1
   .simp[h1,h2];omega
   .simp[h1,h2];omega
theorem Z3(l:List Rt)(p:fD):rB l p=decide (∃ z∈l,z.1=p):=by
 unfold rB lM
 apply decide_eq_decide.2
 rw[List.length_filter_lt_length_iff_exists]
 simp
abbrev w(n:Int):Int:=IntKind.i64.wrap n
def Am(b:bT2)(at':Int):Int×Int:=(w (b.1*b.2),at')
def vP(b t:bT2)(at':Int):Int:=min (w (t.1+w (at'-t.2))) (w (b.1*b.2))
def gw(b t:bT2)(at':Int):bT2×Bool :=
 if b=(0,0) then ((0,max at' t.2),true) else
  if vP b t (max at' t.2)<b.2 then ((vP b t (max at' t.2),max at' t.2),false) else ((w (vP b t (max at' t.2)-b.2),max at' t.2),true)
def ba8:Ct:=⟨[.agg xU],[.val .bool],λ_=>[],λd=>((decide (d.1=(0,0)),()),())⟩
theorem Ys:
 ∀(a b:Int),ft (aq a/\aq b) ((eG a&&(eG b&&true))=decide ((a,b)=((0:Int),(0:Int)))):= by
  delta aq aI ai eG ft
  rintro x y - -
  simp
theorem Xh:aB 134 ba8.spec:=aF Tryz.func134 aC aS Ys
def aB3:Ct:=⟨[.agg xU,.agg xF,.val cI],[.val cI],λ_=>[],λd=>((vP d.1 d.2.1 d.2.2.1,()),())⟩
theorem aI2:
 ∀(a b c d e:Int),(aq a/\aq b)/\(aq c/\aq d)/\ai (aq e)->True->min (ap (c+ap (e -d))) (ap (a*b))=vP (a,b) (c,d) e:= by
  delta ap aq aI ai
  rintro x y a b c - -
  rfl
theorem Zq:aB 205 aB3.spec:=aF Tryz.func205 aC aS aI2
def bj6:Ct:=⟨[.agg xU,.val cI],[.agg xF],λ_=>[],λd=>((Am d.1 d.2.1,()),())⟩
theorem aE3:
 ∀(a b c:Int),(aq a/\aq b)/\ai (aq c)->True->(ap (a*b),c)=(w (a*b),c):= by
  delta ap aq aI ai
  rintro x y a - -
  rfl
theorem VO:aB 131 bj6.spec:=aF Tryz.func131 aC aS aE3
def bS3:Ct:=⟨[.agg xU,.agg xF,.val cI],[.agg xF,.val .bool],λ_=>[],λd=>(((gw d.1 d.2.1 d.2.2.1).1,(gw d.1 d.2.1 d.2.2.1).2,()),())⟩
theorem aA5:
 ∀(a b c d e:Int),(aq a/\aq b)/\(aq c/\aq d)/\ai (aq e)->True->au (decide ((a,b)=((0:Int),(0:Int)))) ((0,max e d)=(gw (a,b) (c,d) e).1/\true=(gw (a,b) (c,d) e).2) (au (av (vP (a,b) (c,d) (max e d)) b) ((vP (a,b) (c,d) (max e d),max e d)=(gw (a,b) (c,d) e).1/\false=(gw (a,b) (c,d) e).2) ((ap (vP (a,b) (c,d) (max e d) -b),max e d)=(gw (a,b) (c,d) e).1/\true=(gw (a,b) (c,d) e).2)):= by
  delta ap aq aI ai av
  rintro x y a b c - -
  simp only[gw]
  refine bP (λhb=>?_) (λhb=>?_)
  .rw[aj hb];exact⟨rfl,rfl⟩
  .rw[ah hb]
   refine bP (λh=>?_) (λh=>?_)
   .rw[aj h];exact⟨rfl,rfl⟩
   .rw[ah h];exact⟨rfl,rfl⟩
theorem K1:aB 138 bS3.spec:=aF Tryz.func138 (am (am aC Xh) Zq) aS aA5
def iX(b:bT2):Int:=if b=(0,0)∨(1<=b.1/\b.1<=65536/\1<=b.2/\b.2<=1073741824) then 0 else 1
def c8(x:ar):ac:=(aM x).map (·.2)
def vd(x:ar):ac:=(aM x).map (·.1)
def jS(q:Int×Int->Bool)(l:bU1):Int:=if l.findIdx q<l.length then (l.findIdx q:Int) else -1
def oA(a:Int)(p:bT2):Bool:=decide (p.1=a)
def mz(k:Int)(p:bT2):Bool:=decide (p.2=k)
def ph(x:ar)(a:Int):Int:=jS (oA a) (aM x)
def fG(x:ar)(k:Int):Int:=jS (mz k) (aM x)
def mD(x:ar)(a:Int):Bool:=decide (0<=ph x a)||(!decide (kT x=0)&&decide (kT x=a))
theorem Jh{α:Type} [Inhabited α] {l:List α} {k:Int} (h0:0<=k) (h1:k<l.length):l.take (k+1).toNat=l.take k.toNat++[l.getD k.toNat default]:=by
 rw[show (k+1).toNat=k.toNat+1 by omega,List.take_add_one,cM ab,ct,cM ab];rfl
def bs8:Ct:=⟨[.agg xU],[.val cI],λ_=>[],λd=>((iX d.1,()),())⟩
def CA(a b:Bool):=a->(a->a)/\ai (b=false->a&& !b)
theorem bM1:
 ∀(a b:Int),ft (aq a/\aq b) (∀(c:Bool),c=( !decide ((a,b)=((0:Int),(0:Int))))->cG c c (aT c) (c->aT c) (∀(d:Bool),d=av a 1->cG (c&& !d) (c&& !d) (aT (c&& !d)) (CA c d) ((c->aT c)/\ ∀(e:Bool),e=bn d (av 65536 a)->cG (c&& !e) (c&& !e) (aT (c&& !e)) (CA c e) ((c->aT c)/\ ∀(f:Bool),f=bn e (av b 1)->cG (c&& !f) (c&& !f) (aT (c&& !f)) (CA c f) ((c->c)/\au (bw c (bn f (av 1073741824 b))) (1=iX (a,b)) (0=iX (a,b))))))):= by
  delta aq aI aT bn cG bw ai av CA ft
  rintro a b - -
  (repeat (refine dq ?_;repeat refine dm ?_))
  unfold iX
  refine ay (λh=>?_) (λh=>?_)
  .simp at h
   rw[ah (by simp;omega)]
  .simp at h
   rw[aj (by simp;omega)]
theorem WG:aB 61 bs8.spec:=aF Tryz.func61 (am aC Xh) aS bM1
def aB8:Ct:=⟨[.val db],[.val .bool],λd=>[],λd=>((decide (f9 d.1),()),())⟩
theorem bv6:
 Ht:= by
 delta bO aQ aT bn br ai aD Ht eG ft
 rintro a - -
 (repeat (refine dq ?_;repeat refine dm ?_))
 rw[yG,rI];simp[f9,gb]
theorem ao2:aB 246 aB8.spec:=aF Tryz.func246 (am aC I6) aS bv6
def a23:Ct:=⟨[.agg wB,.box 49 db],[.val .bool],λd=>[],λd=>((oA d.2.1 d.1,()),(d.2.1,()))⟩
theorem bM7:
 ∀(a b c:Int),(aQ a/\aq b)/\ai (aQ c)->True->decide (a=c)=oA c (a,b)/\c=c:= by
  delta aq aI aQ ai aD
  rintro a b c - -
  exact⟨rfl,rfl⟩
theorem bg6:aB 224 a23.spec:=aF Tryz.func224 aC aS bM7
def bv7:Ct:=⟨[.agg wB,.box 3 cI],[.val .bool],λd=>[],λd=>((mz d.2.1 d.1,()),(d.2.1,()))⟩
theorem bi6:
 ∀(a b c:Int),(aQ a/\aq b)/\ai (aq c)->True->decide (b=c)=mz c (a,b)/\c=c:= by
  delta aq aI aQ ai aD
  rintro a b c - -
  exact⟨rfl,rfl⟩
theorem ZU:aB 249 bv7.spec:=aF Tryz.func249 aC aS bi6
def QL:Ct:=⟨[.val (.sl wB),.fn 224 1,.box 49 db],[.val cI],λd=>[],λd=>((jS (oA d.2.2.1) d.1,()),(d.2.2.1,()))⟩
def bv1:bp QL.ps->bI:=(λd=>{loops:=(bt 2 (λS=>{ι:=Int,μ:=λi=>(d.1.length-i).toNat,inv:=λi=>0<=i/\i<=d.1.length∧∀ x∈d.1.take i.toNat,oA d.2.2.1 x=false,keep:=[0,1,6,7],slots:=λi=>[(8,.int .i64 i)],keepN:=[1048576]}) bZ)})
def jt(a:bU1):=a.length<=maxLen/\ ∀(b:bT2),b∈a->aQ b.1/\aq b.2
def ID(a:Int)(b:bU1)(c:Int):=ao a (a<=ae b) (∀(d:bT2),d∈take a.toNat b->oA c d=false)
theorem al8:
 ∀(a:bU1)(b:Int),jt a/\True/\ai (aQ b)->True->(∃(c:Int),ID c a b/\a=a/\a=a/\aA (ae a) (0=c) (ai (b=b)))/\ ∀(c:Int),ID c a b->fE c (ae a) (c<ae a) (au (oA b (af a c)) (c=jS (oA b) a/\b=b) (∃(d:Int),ID d a b/\aZ (ae a) d c/\a=a/\a=a/\aA (ae a) (aY c d) (ai (b=b)))) ((-1)=jS (oA b) a) (b=b):= by
  delta af ae ap aq aI aQ aA aZ jt cu ao fE aY ai aD av ID
  rintro l a ⟨⟨hl,-⟩,-⟩ -
  simp only[maxLen] at hl
  refine⟨⟨0,⟨ab,ab,aw⟩,aK⟩,?_⟩
  rintro j ⟨j0,j1,hj⟩
  refine bP (λhk=>?_) (λhk=>?_)
  .refine⟨j0,hk,ay (λhm=>?_) (λhm=>?_)⟩
   .exact⟨EA j0 hk hj hm,rfl⟩
   .exact⟨j+1,⟨ab,ab,xV j0 hk hj hm⟩,ab,aK⟩
  .exact⟨Ks hk hj,rfl⟩
theorem aP0:aB 223 QL.spec:=aF Tryz.func223 (am aC bg6) bv1 al8
def Vq:Ct:=⟨[.val (.sl wB),.fn 249 1,.box 3 cI],[.val cI],λd=>[],λd=>((jS (mz d.2.2.1) d.1,()),(d.2.2.1,()))⟩
def am3:bp Vq.ps->bI:=(λd=>{loops:=(bt 2 (λS=>{ι:=Int,μ:=λi=>(d.1.length-i).toNat,inv:=λi=>0<=i/\i<=d.1.length∧∀ x∈d.1.take i.toNat,mz d.2.2.1 x=false,keep:=[0,1,6,7],slots:=λi=>[(8,.int .i64 i)],keepN:=[1048576]}) bZ)})
def G1(a:Int)(b:bU1)(c:Int):=ao a (a<=ae b) (∀(d:bT2),d∈take a.toNat b->mz c d=false)
theorem ZQ:
 ∀(a:bU1)(b:Int),jt a/\True/\ai (aq b)->True->(∃(c:Int),G1 c a b/\a=a/\a=a/\aA (ae a) (0=c) (ai (b=b)))/\ ∀(c:Int),G1 c a b->fE c (ae a) (c<ae a) (au (mz b (af a c)) (c=jS (mz b) a/\b=b) (∃(d:Int),G1 d a b/\aZ (ae a) d c/\a=a/\a=a/\aA (ae a) (aY c d) (ai (b=b)))) ((-1)=jS (mz b) a) (b=b):= by
  delta af ae ap aq aI aQ aA aZ jt cu ao fE aY ai aD av G1
  rintro l a ⟨⟨hl,-⟩,-⟩ -
  simp only[maxLen] at hl
  refine⟨⟨0,⟨ab,ab,aw⟩,aK⟩,?_⟩
  rintro j ⟨j0,j1,hj⟩
  refine bP (λhk=>?_) (λhk=>?_)
  .refine⟨j0,hk,ay (λhm=>?_) (λhm=>?_)⟩
   .exact⟨EA j0 hk hj hm,rfl⟩
   .exact⟨j+1,⟨ab,ab,xV j0 hk hj hm⟩,ab,aK⟩
  .exact⟨Ks hk hj,rfl⟩
theorem bl1:aB 223 Vq.spec:=aF Tryz.func223 (am aC ZU) am3 ZQ
def aF8:Ct:=⟨[.agg dK,.val db],[.val cI],λd=>[],λd=>((ph d.1 d.2.1,()),())⟩
theorem aR1:
 ∀(a:ar)(b:Int),CT.wf dK a/\ai (aQ b)->True->jS (oA b) a.1=ph a b:= by
  delta aQ ai aD
  rintro d x - -
  rfl
theorem Wq:aB 160 aF8.spec:=aF Tryz.func160 (am aC aP0) aS aR1
def bb1:Ct:=⟨[.agg dK,.val cI],[.val cI],λd=>[],λd=>((fG d.1 d.2.1,()),())⟩
theorem ad4:
 ∀(a:ar)(b:Int),CT.wf dK a/\ai (aq b)->True->jS (mz b) a.1=fG a b:= by
  delta aq aI ai
  rintro d x - -
  rfl
theorem J8:aB 195 bb1.spec:=aF Tryz.func195 (am aC bl1) aS ad4
def bq0:Ct:=⟨[.agg dK,.val db],[.val .bool],λd=>[],λd=>((mD d.1 d.2.1,()),())⟩
theorem as7:
 ∀(a:ar)(b:Int),CT.wf dK a/\ai (aQ b)->True-> ∀(c:Int),c=ph a b-> ∀(d:Bool),d=gD c->cX d (bO d) (∀(e:Bool),e=bJ a.2.1->cG ( !d&&e) ( !d&&e) (d7 ( !d&&e)) (za d e) (br d/\bn d (m5 e a.2.1 b)=mD a b)):= by
  delta bO aQ aT bn cG bw cX br bJ ai aD bW d7 za gD m5
  rintro d x - - q hq
  unfold mD
  rw[show kT d=d.2.1 from rfl,← hq]
  generalize d.2.1=z
  intro b hb
  refine⟨aw,aw,aw,?_⟩
  intro b1 hb1
  (repeat refine⟨(by cases b <;> cases b1 <;> simp),?_⟩)
  rw[hb,hb1]
  cases decide (0<=q) <;> cases decide (z=0) <;> cases decide (z=x) <;> rfl
theorem Wl:aB 84 bq0.spec:=aF Tryz.func84 (am aC (Ct.named Wq)) aS as7
def T4:Ct:=⟨[.agg dK],[.own 3 cI],λd=>[(aM d.1).length<=100000],λd=>((c8 d.1,()),())⟩
def aJ4:bp T4.ps->bI:=(λd=>{loops:=(bt 3 (λS=>{ι:=Int×ac,qn:=eO,μ:=λi=>((aM d.1).length-i.1).toNat,inv:=λi=>0<=i.1/\i.1<=(aM d.1).length/\i.2=(c8 d.1).take i.1.toNat,keep:=[1,7,8],slots:=λi=>[(3,.own 524288 1),(9,.int .i64 i.1)],keepN:=[32],names:=λi=>[(524288,.live (.row 3 cI i.2))]}) bZ)})
def rN(a:bU1)(b c:Int)(d:Bool)(e f:Prop):=a=a/\aU b c (d=d) (e/\f)
def wY(a b:ac):=bv ((a.length+b.length)*8)
def qu(a:bU1):=a.length<=100000
def DY(a:Int)(b:ar)(c:ac):=ao a (a<=ae (aM b)) (c=take a.toNat (c8 b))
def IP:=∀(a:ar),ai (CT.wf dK a)->qu (aM a)->(∃(b:Int) (c:ac),DY b a c/\a.1=a.1/\aA (ae a.1) (0=b) (rN a.1 a.2.1 a.2.2.1 a.2.2.2.1 (a.2.2.2.2.1=a.2.2.2.2.1) (ce a.2.2.2.2.2.1 a.2.2.2.2.2.2.1 a.2.2.2.2.2.2.2.1 a.2.2.2.2.2.2.2.2.1 a.2.2.2.2.2.2.2.2.2.1 (a.2.2.2.2.2.2.2.2.2.2.1.1=a.2.2.2.2.2.2.2.2.2.2.1.1) (aA a.2.2.2.2.2.2.2.2.2.2.1.2 (a.2.2.2.2.2.2.2.2.2.2.2.1=a.2.2.2.2.2.2.2.2.2.2.2.1) (a.2.2.2.2.2.2.2.2.2.2.2.2.1=a.2.2.2.2.2.2.2.2.2.2.2.2.1/\aU a.2.2.2.2.2.2.2.2.2.2.2.2.2.1 a.2.2.2.2.2.2.2.2.2.2.2.2.2.2 (c=[]) True)))))/\ ∀(b:Int)(c:ac),DY b a c->au (av b (ae a.1)) (bu b (ae a.1) (wY c (bN (af a.1 b).2)) (∃(d:Int) (e:ac),DY d a e/\aZ (ae (aM a)) d b/\a.1=a.1/\aA (ae a.1) (aY b d) (rN a.1 a.2.1 a.2.2.1 a.2.2.2.1 (a.2.2.2.2.1=a.2.2.2.2.1) (ce a.2.2.2.2.2.1 a.2.2.2.2.2.2.1 a.2.2.2.2.2.2.2.1 a.2.2.2.2.2.2.2.2.1
 a.2.2.2.2.2.2.2.2.2.1 (a.2.2.2.2.2.2.2.2.2.2.1.1=a.2.2.2.2.2.2.2.2.2.2.1.1) (aA a.2.2.2.2.2.2.2.2.2.2.1.2 (a.2.2.2.2.2.2.2.2.2.2.2.1=a.2.2.2.2.2.2.2.2.2.2.2.1) (a.2.2.2.2.2.2.2.2.2.2.2.2.1=a.2.2.2.2.2.2.2.2.2.2.2.2.1/\aU a.2.2.2.2.2.2.2.2.2.2.2.2.2.1 a.2.2.2.2.2.2.2.2.2.2.2.2.2.2 (c++bN (af a.1 b).2=e) True)))))) (c=c8 a)
theorem aR6:
 IP:= by
 delta af ae ap aU aA aZ cu IP ao bv bN aY ce ai bu av rN wY qu DY
 rintro d-hl
 have hlen:(c8 d).length=(aM d).length:=by simp[c8]
 refine⟨⟨0,[],⟨ab,ab,rfl⟩,aK⟩,?_⟩
 rintro j l ⟨j0,j1,rfl⟩
 have hd:d.1=aM d:=rfl
 rw[hd]
 refine bP (λhk=>?_) (λhk=>?_)
 .refine⟨j0,hk,by simp only[dG,dP,List.length_nil];omega,j+1,_,⟨ab,ab,rfl⟩,ab,?_⟩
  (repeat refine fR ?_)
  refine⟨?_,aN⟩
  rw[Jh j0 (by rw[hlen];exact hk)]
  unfold c8
  rw[ct,ct,List.getElem?_map,cM ab]
  rfl
 .rw[fH ab]
theorem bD3:aB 248 T4.spec:=aF Tryz.func248 aC aJ4 aR6
def bG7:Ct:=⟨[.nils,.val cI],[.own 5 bq],λd=>[0<=d.2.1,d.2.1<=1073741824],λd=>(([],()),())⟩
theorem aE8:
 ∀(a:Int),True/\ai (aq a)->aD a 1073741824->au (dw a) False (au (av 0 (uj a)) (aU 0 0 (0<=uj a) (uj a*(↑((1:Nat)):Int)<=140737488355328/\ao 0 (0<=ae (replicate (toNat (uj a)) (0:Int))) (take (toNat 0) (replicate (toNat (uj a)) (0:Int))=([]:ac)))) (fM [])):= by
  delta ae ap aq aI aU aA ao ai aD dw av uj fM
  rintro x-⟨h0,h1⟩
  rw[aL (n:=(0:Int)-0) ab ab,aL ab ab]
  refine ay (λhb=>?_) (λhb=>ay (λhb=>?_) (λhb=>rfl))
  .have:=aX hb;omega
  .refine⟨rfl,rfl,ab,ab,ab,by simp only[wa];omega,aw⟩
theorem bs9:aB 305 bG7.spec:=aF Tryz.func305 (K9 aC (d:=25)) aS aE8
def Qv:Ct:=⟨[.val (.sl (.sl bq))],[.own 5 bq],λd=>[(d.1.flatten.length:Int)<=1073741824],λd=>((d.1.flatten,()),())⟩
def az3:bp Qv.ps->bI:=(λd=>{loops:=(bt 3 (λS=>{ι:=Int×Int,qn:=eO,μ:=λi=>(d.1.length-i.1).toNat,inv:=λi=>0<=i.1/\i.1<=d.1.length/\i.2=((d.1.take i.1.toNat).flatten.length:Int),keep:=[0,9,10],slots:=λi=>[(3,.int .i64 i.2),(11,.int .i64 i.1)]}) (bt 11 (λS=>{ι:=Int×ac,qn:=eO,μ:=λi=>(d.1.length-i.1).toNat,inv:=λi=>0<=i.1/\i.1<=d.1.length/\i.2=(d.1.take i.1.toNat).flatten,keep:=[25,26],slots:=λi=>[(6,.own 524288 1),(27,.int .i64 i.1)],names:=λi=>[(524288,.live (.row 5 bq i.2))]}) bZ))})
def DW(a:bU8):=a.length<=maxLen/\ ∀(b:ac),b∈a->aV b
def Jl(a:Int)(b:bU8)(c:Int):=ao a (a<=ae b) (c=ae (List.flatten (take a.toNat b)))
theorem Z7:
 ∀(a:bU8),ai (DW a)->dj (List.flatten a)->(∃(b c:Int),Jl b a c/\a=a/\0=c/\a=a/\aA (ae a) (0=b) True)/\ ∀(b c:Int),Jl b a c->au (av b (ae a)) (fw b (ae a) (dw (ap (c+ae (af a b)))) False (∃(d e:Int),Jl d a e/\aZ (ae a) d b/\a=a/\ap (c+ae (af a b))=e/\a=a/\aA (ae a) (aY b d) True)) (bM c 1073741824 (∃(d:Int) (e:ac),ao d (d<=ae a) (e=List.flatten (take d.toNat a))/\a=a/\aA (ae a) (0=d) (ai (fM e))) (∀(d:Int)(e:ac),ao d (d<=ae a) (e=List.flatten (take d.toNat a))->au (av d (ae a)) (bu d (ae a) (gk e (af a d)) (∃(f:Int) (g:ac),ao f (f<=ae a) (g=List.flatten (take f.toNat a))/\aZ (ae a) f d/\a=a/\aA (ae a) (aY d f) (ai (e++af a d=g)))) (e=List.flatten a))):= by
  delta af ae ap aV aA aZ cu gk ao bv dj aY ai aD dw bu bM av DW fM Jl fw
  rintro x ⟨⟨hl,-⟩,-⟩ ht
  simp only[maxLen] at hl
  refine⟨⟨0,0,⟨ab,ab,aw⟩,aK⟩,?_⟩
  rintro j s ⟨h0,h1,h2⟩
  have hle:=B7 x j.toNat
  refine ay (λhb=>?_) (λhb=>?_)
  .have hb:=aX hb
   have e:=Hy h0 hb
   have hle2:=B7 x (j+1).toNat
   have el:((x.take (j+1).toNat).flatten.length:Int)=s+(x.getD j.toNat default).length:=by rw[e,cL];omega
   rw[aL (n:=s+_) ab ab]
   refine⟨h0,hb,bP (λhc=>?_) (λhc=>?_)⟩
   .have:=hc;omega
   .exact⟨j+1,_,⟨ab,ab,el.symm⟩,ab,aK⟩
  .refine⟨ab,ab,⟨0,[],⟨ab,ab,aw⟩,aK⟩,?_⟩
   rintro k ys ⟨k0,k1,rfl⟩
   refine bP (λhb=>?_) (λhb=>?_)
   .have e:=Hy k0 hb
    have hle2:=B7 x (k+1).toNat
    refine⟨k0,hb,?_,k+1,_,⟨ab,ab,e.symm⟩,ab,aK⟩
    rw[← cL,← e];omega
   .rw[fH ab]
theorem bE7:aB 272 Qv.spec:=aF Tryz.func272 (am aC bs9) az3 Z7
end Go.RS
namespace Go.SX
def JC(fn:Func):Array Tmp×Code×Code:=(jH (oO fn)).headD (#[],.skip,.skip)
def Dl.setV(u:SV):Dl->Dl
 | .det l v up => .det l u up
 | .nd X qn l R inh v up => .nd X qn l R inh (λ_=>u) up
def zK(s:Spec):Spec:=λbase svs=>(s base svs).bind λd=>.ret (d.setV (.bool true))
def pT:List SV->List Nat->List SV->List SV
 | sl,t::ts,v::vs=>pT (sl.set t v) ts vs
 | sl,_,_=>sl
def HQ(ps:List PK)(d:bp ps)(n:Nat)(ts:List Nat):St:=⟨pT (pz [] n) ts (gV ps d 0 0),qF ps d 0 0++tq ps d 0⟩
def NE(l:List Nat):List Nat->Bool
 | []=>true
 | t::ts => !qy t l&&NE l ts
def WL(P:Program)(ps:List PK)(rs:List RK)(post:jr rs×gn ps->Prop):Ex->St->Prop:=λe S=>match e with
 | .normal=>match S.noY with
  | true=>yR P ps rs [] post .normal S
  | false=>False
 | _=>False
def gm(P:Program)(sp:fx)(an:bI)(ps:List PK)(rs:List RK)(post:jr rs×gn ps->Prop)(x:Array Tmp×Code×Code):Ex->St->Prop:=λe S=>match e with
 | .normal=>match S.noY with
  | true=>sx P sp an x.2.2 (WL P ps rs post) S
  | false=>False
 | _=>False
def vcR(P:Program)(sp:fx)(an:bI)(ps:List PK)(rs:List RK)(d:bp ps)(post:jr rs×gn ps->Prop)(x:Array Tmp×Code×Code)(n:Nat)(ts:List Nat):Prop :=
 match NE x.1.toList ts,Nat.beq (gV ps d 0 0).length (x.1.size+ts.length) with
 | true,true=>wA (HQ ps d n (x.1.toList++ts)) (sx P sp an x.2.1 (gm P sp an ps rs post x))
 | _,_=>False
def Ct.vcR(P:Program)(sp:fx)(c:Ct)(x:Array Tmp×Code×Code)(n:Nat)(ts:List Nat)(an:bp c.ps->bI):Prop :=
 yo c.ps λd=>uE c.ps d->qz (c.pre d)->SX.vcR P sp (an d) c.ps c.rs d (λy=>qz (xL c.rs y.1 (c.out d).1++pB c.ps y.2 (c.out d).2)) x n ts
def Cn.vcR(P:Program)(sp:fx)(c:Cn)(x:Array Tmp×Code×Code)(n:Nat)(ts:List Nat)(an:bp c.ps->bI):Prop :=
 yo c.ps λd=>uE c.ps d->qz (c.pre d)->SX.vcR P sp (an d) c.ps c.rs d (c.post d) x n ts
section
variable {P:Program} {sp:fx} {A:Nat->Prop} {env:bj} {w:World}
theorem Qb{l:List Nat}:∀{ts:List Nat},NE l ts=true→∀ t∈ts,t ∉ l
 | t::ts,h,q,hq=>by
  obtain⟨h1,h2⟩:=Bool.and_eq_true_iff.1 h;rcases eZ.1 hq with rfl|hq
  .intro hm;rw[zX.2 hm] at h1;cases h1
  .exact Qb h2 q hq
theorem UX:∀{ts:List Nat}{vs:List SV}{sl:List SV},(pT sl ts vs).length=sl.length
 | [],_,_=>by simp[pT]
 | _::_,[],_=>by simp[pT]
 | t::ts,v::vs,sl=>by simp[pT,UX (ts:=ts)]
theorem XB:∀(ts:List Nat)(ss:List SV)(vs:List Value)(sl:List SV)(tm:Array Value),sl.length<=tm.size->aO A env w ss vs->(∀ i,az A env w (dW sl i) (tm.getD i undef)) →
  ∀ i,az A env w (dW (pT sl ts ss) i) (((ts.zip vs).foldl (λtm p=>tm.setIfInBounds p.1 p.2) tm).getD i undef)
 | [],_,_,_,_,_,_,h,i=>by simpa[pT] using h i
 | _::_,[],vs,_,_,_,hd,h,i=>by simp only[aO] at hd;subst hd;simpa[pT] using h i
 | t::ts,s::ss,vs,sl,tm,hl,hd,h,i=>by
  simp only[aO] at hd;obtain⟨v,r,rfl,hv,hr⟩:=hd;refine XB ts ss r (sl.set t s) (tm.setIfInBounds t v) (by simpa using hl) hr (λi=>?_) i;rw[Hz];split
  next q=>obtain⟨rfl,q⟩:=q;rw[rF,Array.getElem?_setIfInBounds_self_of_lt ab];exact hv
  .rename_i q;by_cases e:i=t
   .subst e;have:¬ i<sl.length:=λhlt=>q ⟨rfl,hlt⟩;have:dW sl i = .junk:=by unfold dW;rw[wc,AS ab]
    rw[this];simp only[az]
   .rw[rF,EP (Ne.symm e),← rF];exact h i
theorem Wt:∀(ts:List Nat)(ss:List SV)(sl:List SV)(tm:Array Value),aO A env w ss (ts.map λt=>tm.getD t undef)->(∀ i,az A env w (dW sl i) (tm.getD i undef)) →
  ∀ i,az A env w (dW (pT sl ts ss) i) (tm.getD i undef)
 | [],_,_,_,_,h,i=>by simpa[pT] using h i
 | _::_,[],_,_,_,h,i=>by simpa[pT] using h i
 | t::ts,s::ss,sl,tm,hd,h,i=>by
  simp only[aO,fV] at hd;obtain⟨v,r,e,hv,hr⟩:=hd;cases e;refine Wt ts ss (sl.set t s) tm hr (λi=>?_) i;rw[Hz];split
  next q=>rw[q.1];exact hv
  .exact h i
theorem QQ:∀{ps:List Nat}{ts:List Nat}{ss rs:List SV}{sl:List SV},ss.length=ps.length->pT sl (ps++ts) (ss++rs)=pT (pT sl ps ss) ts rs
 | [],_,[],_,_,_=>by simp[pT]
 | p::ps,ts,s::ss,rs,sl,h=>by simp only[nO,pT];exact QQ (by simpa using h)
theorem Qm{t:Nat}:∀{l:List (Nat×Value)}{tm:Array Value},(∀ p∈l,p.1≠t)->((l.foldl (λtm p=>tm.setIfInBounds p.1 p.2) tm).getD t undef)=tm.getD t undef
 | [],_,_=>rfl
 | p::l,tm,h=>by
  rw[List.foldl_cons,Qm λq hq=>h q (fu _ hq),rF,EP (h p (fp ..)),← rF]
theorem Us:∀{l:List (Nat×Value)}{tm:Array Value},(l.foldl (λtm p=>tm.setIfInBounds p.1 p.2) tm).size=tm.size
 | [],_=>rfl
 | p::l,tm=>by rw[List.foldl_cons,Us,Array.size_setIfInBounds]
theorem rm.base{w0 wb w:World}(h:wb.heap.size=w0.heap.size):∀{ds:List Deferred},rm w0 w ds->rm wb w ds
 | [],_=>trivial
 | _::_,⟨D,h1,h2,h3,h4,h5⟩=>⟨D,h1,ab,h3,h4,h5.base h⟩
theorem VF{ps:List PK}{rs:List RK}(post:jr rs×gn ps->Prop){x:Array Tmp×Code×Code}{n:Nat}{ts:List Nat}{r:Loop}(hr:uR n x r)(hs:jF P sp)(ij:P.follows .mixedOrders=true)(an:bI)(hx:(jH x.2.1,jH x.2.2)=([],[]))
  {base:Nat} {svs:List SV} {h:bX} {dd:bp ps} {fz:List (Nat×Nm)} {bx:List Nat} {cx:List (Option Nat)} {q1:List Nat} (e1:(iq none ps svs).run h=some ((dd,fz,bx,cx),q1)) (hnm:zh fz bx cx=true)
  (hun:∀ i,i<gZ rs+jz ps->h (base+i) = .un) (vc:uE ps dd->vcR P sp an ps rs dd post x n ts)
  {w0:World} {N0:fK} {A:Nat->Prop} {env:bj} {w:World} {vs:List Value} {l:Nat} (hG:N0.g=sp.gl) (m:Mod w0 N0 A env h w) (hl:w.heap[l]? = some (.loop r)) (hd:aO A env w svs (vs++ts.map λt=>r.tmps.getD t undef)) :
  vs.length=r.params.size/\RoundIn Fence.wide 0 P l r.fn ((r.params.zip vs.toArray).foldl (λtmps (t,a)=>tmps.setIfInBounds t a) r.tmps) r.assign r.body w λe w'=>e = .returned (.bool true)∧∃ y,post y ∧
   ∃ (A':Nat->Prop) (env':bj),Mod w0 N0 A' env' (dA (ve ps rs y base fz bx cx) h) w'∧dH A env w A' env' w':=by
 obtain⟨a4,Nc,Ac,envc,hNg,hNn,mc,dargs,fin⟩:=V3 e1 hnm hun m hd
 have vc:=vc a4
 unfold vcR at vc
 split at vc
 next hdj hlen=>
  rw[G5] at vc;have hdj:=Qb hdj;have hlen:=bK hlen;have hvl:=jl dargs;simp only[cL,mg] at hvl;have hsz:vs.length=x.1.size:=ab;have hrs:=hr.ln;refine⟨by rw[hr.ps];exact hsz,?_⟩;have hrw:(r.params.zip vs.toArray).foldl (λtmps (t,a)=>tmps.setIfInBounds t a) r.tmps=(x.1.toList.zip vs).foldl (λtm p=>tm.setIfInBounds p.1 p.2) r.tmps:=by
   rw[hr.ps,← Array.foldl_toList];simp
  rw[hrw,hr.as,hr.bd];generalize hT:(x.1.toList.zip vs).foldl (λ(tm:Array Value) p=>tm.setIfInBounds p.1 p.2) r.tmps=T;have hTs:T.size=r.tmps.size:=by rw[← hT];exact Us
  have hlt:=(Array.getElem?_eq_some_iff.1 hl).1;have hNl:¬ Nc.n l:=λhn=>by
   obtain⟨q,b,k,h1,h2⟩:=hNn l hn;exact (m.live_blk h1 h2).1.norec.1 _ hl
  have hF:∀ i,az Ac envc w (dW (HQ ps dd n (x.1.toList++ts)).sl i) (T.getD i undef):=by
   have h1:=AK x.1.size dargs;have h2:=A8 x.1.size dargs;rw[List.take_left' hsz] at h1;rw[List.drop_left' hsz] at h2;have hal:((gV ps dd 0 0).take x.1.size).length=x.1.toList.length:=by simp;omega
   have:=QQ (ps:=x.1.toList) (ts:=ts) (ss:=(gV ps dd 0 0).take x.1.size) (rs:=(gV ps dd 0 0).drop x.1.size) (sl:=pz [] n) hal;rw[nZ] at this;simp only[HQ,this];refine Wt ts _ _ T ?_ ?_
   .have:(ts.map λt=>T.getD t undef)=ts.map λt=>r.tmps.getD t undef:=List.map_congr_left λt ht=>by
     rw[← hT];refine Qm λp hp e=>hdj t ht ?_;rw[← e];exact (List.of_mem_zip hp).1
    rw[this];exact h2
   .rw[← hT];refine XB x.1.toList _ vs _ _ (by rw[F6];exact hrs) h1 λi=>?_;rcases HN (l:=[]) (n:=n) (i:=i) with hj|⟨s,hs,_⟩
    .rw[hj];simp only[az]
    .simp at hs
  refine roundIn_of_wpIn trivial (n:=0) ?_;refine Pw (ro:=some l) (N0:=Nc) ⟨hs,hNg.trans hG⟩ ij x.2.1 (λy hy=>by rw[show jH x.2.1=[] from fj Prod.fst hx] at hy;cases hy) _ _ _ Ac envc _ w vc ⟨mc,?_,hF,aN⟩ ?_
  .simp only[St.fs,HQ,UX,F6,hTs];exact hrs
  intro e S1 A1 env1 a1 w1 hK t1 x1;cases e with
  | exit i=>exact hK.elim
  | ret=>exact hK.elim
  | normal =>
  simp only[gm] at hK;split at hK
  .rename_i hY;obtain⟨y1,y2⟩:=Bool.and_eq_true_iff.1 hY;have hl1:w1.heap[l]? = some (.loop r):=(t1.m.fr l hlt hNl).trans hl;refine⟨_,run_beginRound hl1 hr.st,?_⟩;have p1:=Dy (A:=A1) (env:=env1) (o' := .loop {r with state := .busy}) hl1 rfl rfl;have m2:=t1.m.putB hl1 rfl rfl (o' := .loop {r with state := .busy}) (.inr (Cl y2)) (wb:=w.putObj l (.loop {r with state := .busy})) rfl rfl rfl rfl aw (λj hj=>World.putObj_heap_other hj) (λ_=>World.putObj_heap_same hlt);have t2:hV (w.putObj l (.loop {r with state := .busy})) Nc A1 env1 S1.fs a1 (w1.putObj l (.loop {r with state := .busy})) :=
    ⟨m2,t1.len,λi=>BZ p1 _ _ (.inr (MH y1 i)) (t1.f i),rm.mono (λk hk=>by
     rw[World.putObj_heap_other (by rintro rfl;rw[hl1] at hk;cases hk)];exact hk) (t1.dfr.base aw)⟩
   refine Pw (ro:=some l) (N0:=Nc) ⟨hs,hNg.trans hG⟩ ij x.2.2 (λy hy=>by rw[show jH x.2.2=[] from fj Prod.snd hx] at hy;cases hy) _ _ _ A1 env1 _ _ hK t2 ?_;intro e S3 A3 env3 a3 w3 hK t3 x3;cases e with
   | exit i=>exact hK.elim
   | ret=>exact hK.elim
   | normal =>
   simp only[WL] at hK;split at hK
   .rename_i hY3;obtain⟨z1,z2⟩:=Bool.and_eq_true_iff.1 hY3;unfold yR at hK;simp only[xB] at hK;split at hK
    .rename_i y f1 ow z f2 ow2 h1 h2;split at hK
     .rename_i h3 h4;have hl3:w3.heap[l]? = some (.loop {r with state := .busy}):=(t3.m.fr l (by simpa using hlt) hNl).trans (World.putObj_heap_same hlt);refine⟨_,_,run_endRound none hl3,rfl,(y,z),hK,?_⟩;have hrr:({({r with state := .busy}:Loop) with state:=if (none:Option Code).isNone then .ready else .done,pending:=none}:Loop)=r:=by
       have a:=hr.st;have b:=hr.pe;cases r;simp only at a b;subst a b;rfl
      rw[hrr];have p3:=Dy (A:=A3) (env:=env3) (o' := .loop r) hl3 rfl rfl;have m4:=t3.m.putB hl3 rfl rfl (o' := .loop r) (.inr (Cl z2)) (wb:=w) rfl rfl rfl rfl aw (λj hj=>(World.putObj_heap_other hj).symm) (λ_=>hl);obtain⟨A',env',k1,k2,_⟩:=fin S3 A3 env3 _ m4 (((x1.trans p1.ext0).trans x3).trans p3.ext0) [] [] y f1 ow z f2 ow2 (by simp only[aO]) h1 h2 h3 h4;exact⟨A',env',k1,k2⟩
     .exact hK.elim
    .exact hK.elim
   .exact hK.elim
  .exact hK.elim
 .exact vc.elim
theorem Ct.okR(c:Ct){x:Array Tmp×Code×Code}{n:Nat}{ts:List Nat}(hx:(jH x.2.1,jH x.2.2)=([],[]))(hs:jF P sp)(ij:P.follows .mixedOrders=true)(an:bp c.ps->bI)(vc:Be (Ct.vcR P sp c x n ts an)){r:Loop}(hr:uR n x r):BI P sp.gl r ts (zK c.spec):=by
 intro base svs h d q e hp w0 N0 A env w vs l hG m hl hd
 obtain⟨d0,r1,r2,e0,e3,rfl⟩:=Q.run_bind _ _ _ e
 cases cz e3
 unfold Ct.spec at e0
 obtain⟨⟨dd,fz,bx,cx⟩,q1,q2,e1,e2,rfl⟩:=Q.run_bind _ _ _ e0
 split at e2
 case h_2=>cases e2
 rename_i hnm
 obtain⟨rfl,hun⟩:=CO e2
 obtain⟨h1,h2⟩:=VF (λy=>qz (xL c.rs y.1 (c.out dd).1++pB c.ps y.2 (c.out dd).2)) hr hs ij (an dd) hx e1 hnm hun (λhw=>F2.1 vc.out dd hw (yD.2 hp)) hG m hl hd
 refine⟨h1,h2.mono ?_⟩
 rintro e' w' ⟨rfl,y,hy,A',env',k1,k2⟩
 obtain⟨hy1,hy2⟩:=rQ.1 (yD.1 hy)
 have:y=c.out dd:=Prod.ext (LX hy1) (vA hy2)
 subst this
 exact⟨_,rfl,(),A',env',aN,k1,k2,by simp only[Dl.val,Dl.setV,az]⟩
theorem Cn.okR(c:Cn){x:Array Tmp×Code×Code}{n:Nat}{ts:List Nat}(hx:(jH x.2.1,jH x.2.2)=([],[]))(hs:jF P sp)(ij:P.follows .mixedOrders=true)(an:bp c.ps->bI)(vc:Be (Cn.vcR P sp c x n ts an)){r:Loop}(hr:uR n x r):BI P sp.gl r ts (zK c.spec):=by
 intro base svs h d q e hp w0 N0 A env w vs l hG m hl hd
 obtain⟨d0,r1,r2,e0,e3,rfl⟩:=Q.run_bind _ _ _ e
 cases cz e3
 unfold Cn.spec at e0
 obtain⟨⟨dd,fz,bx,cx⟩,q1,q2,e1,e2,rfl⟩:=Q.run_bind _ _ _ e0
 split at e2
 case h_2=>cases e2
 rename_i hnm
 obtain⟨rfl,hun⟩:=CO e2
 obtain⟨h1,h2⟩:=VF (c.post dd) hr hs ij (an dd) hx e1 hnm hun (λhw=>F2.1 vc.out dd hw (yD.2 hp)) hG m hl hd
 refine⟨h1,h2.mono ?_⟩
 rintro e' w' ⟨rfl,y,hy,A',env',k1,k2⟩
 refine⟨_,rfl,y,A',env',hy,?_,k2,by simp only[Dl.val,Dl.setV,az]⟩
 show Mod w0 N0 A' env' (dA ((AY c.ps c.rs base fz bx cx).map λp=>(p.1,p.2 y)) h) w'
 rw[PA];exact k1
end
end Go.SX
namespace Go.RS
open Go.SX Go.Proofs
def aF1:Cn:=⟨[.val db,.val cI],[.val db],λ_=>[],λ_ _=>True,λ_ _=>⟨((0,()),()),trivial⟩⟩
theorem bl5:
 ∀(a b:Int),aQ a/\ai (aq b)->True->ao (bits BinOp.and IntKind.u64 (IntKind.wrap IntKind.u64 b) 31) (0<=IntKind.wrap IntKind.u64 (32 -bits BinOp.and IntKind.u64 (IntKind.wrap IntKind.u64 b) 31)) True:= by
  delta aq aI aQ ao ai aD
  intro x k _ _
  rw[IntKind.wrap_u64 ((32:Int)-_)]
  exact⟨(Py _ .u64 _ _).1,ab,aN⟩
theorem ax2:aB 306 aF1.spec:=nB Tryz.func306 aC aS bl5
def af0:Cn:=⟨[.val db,.val cI],[.val db],λ_=>[],λ_ _=>True,λ_ _=>⟨((0,()),()),trivial⟩⟩
theorem bc4:
 ∀(a b:Int),aQ a/\ai (aq b)->True-> ∀(c:Int),True->True:= by
  delta aq aI aQ ai aD
  exact λ_ _ _ _ _ _=>trivial
theorem Xo:aB 275 af0.spec:=nB Tryz.func275 (am aC ax2) aS bc4
def Rg:Cn:=⟨[.val (.sl bq)],[.arr .u32 64],λd=>[d.1.length=64],λ_ _=>True,λ_ _=>⟨(([],()),()),trivial⟩⟩
def YU:bp Rg.ps->bI:=(λd=>{loops:=(bt 3 (λS=>{ι:=Int×ac,qn:=eO,μ:=λi=>(16-i.1).toNat,inv:=λi=>0<=i.1/\i.1<=16,keep:=[0,2,3],slots:=λi=>[(12,.int .i64 i.1)],keepN:=[48],names:=λi=>[(64,.live (.ary 403 .u32 64 i.2))]}) (bt 6 (λS=>{ι:=Int×Int×ac×ac,qn:=HJ,μ:=λi=>(i.2.1-i.1).toNat,inv:=λi=>0<=i.1/\i.1<=i.2.1/\i.2.1=i.2.2.1.length/\i.2.1<=64,keep:=[0,2,3,4,12],slots:=λi=>[(21,.dsl bq i.2.2.1),(22,.int .i64 i.2.1),(23,.int .i64 i.1)],keepN:=[48],names:=λi=>[(64,.live (.ary 403 .u32 64 i.2.2.2))]}) (bt 12 (λS=>{ι:=Int×ac,qn:=eO,μ:=λi=>(64-i.1).toNat,inv:=λi=>16<=i.1/\i.1<=64,keep:=[2,3],slots:=λi=>[(7,.int .i64 i.1)],keepN:=[48],names:=λi=>[(64,.live (.ary 403 .u32 64 i.2))]}) bZ)))})
def AM(a b:ac):=replicate 64 (0:Int)=replicate 64 (0:Int)/\ai (a=b)
theorem Yw:
 ∀(a:ac),ai (aV a)->a.length=64->(∃(b:Int) (c:ac),aD b 16/\a=a/\0=b/\AM (replicate 64 0) c)/\ ∀(b:Int)(c:ac),aD b 16->au (av b 16) (bM (ap (4*b)) (ap (ap (4*b)+4)) (ap (ap (4*b)+4)<=ae a) ((∃(d e:Int) (f g:ac),bM d e (e=ae f) (e<=64)/\a=a/\aU b b (qZ a (ap (4*b)) 4=f) (ae (qZ a (ap (4*b)) 4)=e/\0=d/\AM c g))/\ ∀(d e:Int)(f g:ac),bM d e (e=ae f) (e<=64)->au (av d e) (ao d (d<ae f) (bu b (↑((64:Nat)):Int) (b.toNat<64) (ao 8 (0<=b) (b<(↑((64:Nat)):Int)/\b.toNat<64/\ ∃(h i:Int) (j k:ac),bM h i (i=ae j) (i<=64)/\cu (i -h) (e -d)/\a=a/\aU b b (f=j) (e=i/\aY d h/\AM (set g b.toNat (bits BinOp.or IntKind.u32 (gW IntKind.u32 (g.getD b.toNat 0) 8) (IntKind.wrap IntKind.u32 (af f d)))) k))))) (∃(h:Int) (i:ac),aD h 16/\aZ 16 h b/\a=a/\aY b h/\AM g i))) ((∃(d:Int)
 (e:ac),(16<=d/\d<=64)/\16=d/\AM c e)/\ ∀(d:Int)(e:ac),16<=d/\d<=64->au (av d 64) (bu (ap (d -15)) (↑((64:Nat)):Int) (toNat (ap (d -15))<64) (bu (ap (d -2)) (↑((64:Nat)):Int) (toNat (ap (d -2))<64) (∀(f:Int),True-> ∀(g:Int),True->(0:Int)<=(3:Int)/\ ∀(h:Int),True-> ∀(i:Int),True->ao 10 (0<=ap (d -16)) (ap (d -16)<(↑((64:Nat)):Int)/\toNat (ap (d -16))<64/\bu (ap (d -7)) (↑((64:Nat)):Int) (toNat (ap (d -7))<64) (bu d (↑((64:Nat)):Int) (d.toNat<64) (∃(j:Int) (k:ac),(16<=j/\j<=64)/\aZ 64 j d/\aY d j/\AM (set e d.toNat (IntKind.wrap IntKind.u32 (IntKind.wrap IntKind.u32 (IntKind.wrap IntKind.u32 (e.getD (toNat (ap (d -16))) 0+bits BinOp.xor IntKind.u32 (bits BinOp.xor IntKind.u32 f g) (fy IntKind.u32 (e.getD (toNat (ap (d -15))) 0) 3))+e.getD (toNat (ap (d -7))) 0)+bits BinOp.xor IntKind.u32 (bits
 BinOp.xor IntKind.u32 h i) (fy IntKind.u32 (e.getD (toNat (ap (d -2))) 0) 10)))) k)))))) True):= by
  delta af ae ap aV aU aA aZ cu ao aY ai qZ aD bu bM av AM
  rintro x-hx
  have hx:x.length=64:=hx
  refine⟨⟨0,_,⟨ab,ab⟩,aK⟩,?_⟩
  rintro i w ⟨i0,i1⟩
  refine bP (λh=>?_) (λh=>?_)
  .rw[aL (n:=4*i) ab ab,aL (n:=4*i+4) ab ab]
   refine⟨ab,ab,ab,⟨0,_,_,_,⟨ab,ab,rfl,?_⟩,aK⟩,?_⟩
   .simp[fA];omega
   rintro j m b w ⟨j0,j1,jm,m1⟩
   refine bP (λk=>?_) (λk=>?_)
   .refine⟨ab,ab,ab,ab,ab,ab,ab,ab,ab,j+1,m,b,_,⟨ab,ab,jm,m1⟩,ab,aK⟩
   .exact⟨i+1,w,⟨ab,ab⟩,ab,aK⟩
  .refine⟨⟨16,w,⟨ab,ab⟩,aK⟩,?_⟩
   rintro i w ⟨i0,i1⟩
   refine ay (λh=>?_) (λh=>trivial)
   have h:=aX h
   rw[aL (n:=i-15) ab ab,aL (n:=i-2) ab ab,aL (n:=i-16) ab ab,aL (n:=i-7) ab ab]
   refine⟨ab,ab,ab,ab,ab,ab,λ_ _ _ _=>⟨ab,λ_ _ _ _=>?_⟩⟩
   exact⟨ab,ab,ab,ab,ab,ab,ab,ab,ab,ab,i+1,_,⟨ab,ab⟩,ab,aK⟩
theorem ZC:aB 274 Rg.spec:=nB Tryz.func274 (am aC Xo) YU Yw
def SB:Cn:=⟨[.agg uS,.val (.sl bq)],[.agg uS],λd=>[d.2.1.length=64],λ_ _=>True,λd _=>⟨((d.1,()),()),trivial⟩⟩
def bd1:bp SB.ps->bI:=(λd=>{loops:=(bt 4 (λS=>{ι:=Int×ac×bV1,qn:=pI,μ:=λi=>(64-i.1).toNat,inv:=λi=>0<=i.1/\i.1<=64,keep:=[2,4,5,6,17],slots:=λi=>[(18,.int .i64 i.1)],keepN:=[48,80],names:=λi=>[(96,.live (.ary 403 .u32 64 i.2.1)),(112,.live (.cells 359 (cQ uS i.2.2)))]}) bZ),unr:=λn=>match n with|12=>9|_=>0,nms:=[11]})
def CL:=ints (Sigma.fst (Sigma.mk GJ P3)) (Sigma.snd (Sigma.mk GJ P3))
theorem aF2:
 ∀(a:Int×Int×bc)(b:ac),CT.wf uS a/\ai (aV b)->b.length=64->b.length=64/\ ∀(c:ac),True->(∃(d:Int) (e:ac) (f:Int×Int×bc),aD d 64/\CL=CL/\0=d/\ce a.1 a.2.1 a.2.2.1 a.2.2.2.1 a.2.2.2.2.1 (a.2.2.2.2.2.1=a.2.2.2.2.2.1) (aU a.2.2.2.2.2.2.1 a.2.2.2.2.2.2.2 ((0:Int)=(0:Int)) (pt ((0:Int)=(0:Int)) (aA 0 (c=e) (a.1=f.1/\a.2.1=f.2.1/\a.2.2.1=f.2.2.1/\a.2.2.2.1=f.2.2.2.1/\a.2.2.2.2.1=f.2.2.2.2.1/\a.2.2.2.2.2.1=f.2.2.2.2.2.1/\a.2.2.2.2.2.2.1=f.2.2.2.2.2.2.1/\ai (a.2.2.2.2.2.2.2=f.2.2.2.2.2.2.2))))))/\ ∀(d:Int)(e:ac)(f:Int×Int×bc),aD d 64->au (av d 64) (ao d (d<(↑((64:Nat)):Int)) (∀(g:Int),True-> ∀(h:Int),True-> ∀(i:Int),True->bu d (↑((64:Nat)):Int) (d.toNat<64) (∀(j:Int),j=IntKind.wrap IntKind.u32 (IntKind.wrap IntKind.u32 (IntKind.wrap IntKind.u32 (IntKind.wrap IntKind.u32 (f.2.2.2.2.2.2.2+bits BinOp.xor IntKind.u32 (bits
 BinOp.xor IntKind.u32 g h) i)+bits BinOp.xor IntKind.u32 (bits BinOp.and IntKind.u32 f.2.2.2.2.1 f.2.2.2.2.2.1) (bits BinOp.and IntKind.u32 (Jv IntKind.u32 f.2.2.2.2.1) f.2.2.2.2.2.2.1))+SX.pickI CL d.toNat)+e.getD d.toNat 0)-> ∀(k:Int),True-> ∀(l:Int),True-> ∀(m:Int),True-> ∃(n:Int) (o:ac) (p:Int×Int×bc),aD n 64/\aZ 64 n d/\CL=CL/\aY d n/\ce a.1 a.2.1 a.2.2.1 a.2.2.2.1 a.2.2.2.2.1 (a.2.2.2.2.2.1=a.2.2.2.2.2.1) (aU a.2.2.2.2.2.2.1 a.2.2.2.2.2.2.2 ((0:Int)=(0:Int)) (pt ((0:Int)=(0:Int)) (aA 0 (e=o) (IntKind.wrap IntKind.u32 (j+IntKind.wrap IntKind.u32 (bits BinOp.xor IntKind.u32 (bits BinOp.xor IntKind.u32 k l) m+bits BinOp.xor IntKind.u32 (bits BinOp.xor IntKind.u32 (bits BinOp.and IntKind.u32 f.1 f.2.1) (bits BinOp.and IntKind.u32 f.1 f.2.2.1)) (bits BinOp.and IntKind.u32 f.2.1
 f.2.2.1)))=p.1/\f.1=p.2.1/\f.2.1=p.2.2.1/\f.2.2.1=p.2.2.2.1/\IntKind.wrap IntKind.u32 (f.2.2.2.1+j)=p.2.2.2.2.1/\f.2.2.2.2.1=p.2.2.2.2.2.1/\f.2.2.2.2.2.1=p.2.2.2.2.2.2.1/\ai (f.2.2.2.2.2.2.1=p.2.2.2.2.2.2.2)))))))) True:= by
  delta ap aV aU aA aZ cu ao pt aY ce ai aD CL bu av
  rintro d x-hx
  refine⟨hx,λw _=>⟨⟨0,w,d,⟨ab,ab⟩,aK⟩,?_⟩⟩
  rintro i w x ⟨i0,i1⟩
  refine ay (λh=>?_) (λh=>trivial)
  have h:=aX h
  refine⟨ab,ab,λ_ _ _ _ _ _=>⟨ab,ab,ab,λt _ _ _ _ _ _ _=>?_⟩⟩
  exact⟨i+1,w,(_,_,_,_,_,_,_,_),⟨ab,ab⟩,ab,aK⟩
theorem WH:aB 230 SB.spec:=nB Tryz.func230 (am (am aC Xo) ZC) bd1 aF2
def aZ4:Ct:=⟨[.val (.sl bq),.val cI],[.fn 273 2,.box 22 (.dat (.sl bq)),.box 3 cI],λd=>[1<=d.2.1],λd=>(((),d.1,d.2.1,()),())⟩
theorem br6:
 ∀(a:ac)(b:Int),aV a/\ai (aq b)->1<=b->au (av b 1) False (()=()/\a=a/\b=b):= by
  delta aq aI aV ai aD av
  rintro x n-h
  exact ay (λk=>by have k:=aX k;omega) (λ_=>⟨rfl,rfl,rfl⟩)
theorem bJ6:aB 229 aZ4.spec:=aF Tryz.func229 aC aS br6
def G3:Cn:=⟨[.val (.sl bq),.box 359 uS],[],λd=>[d.1.length=64],λ_ _=>True,λd _=>⟨((),d.2.1,()),trivial⟩⟩
def B0(r:Loop):Prop:=BI Tryz.prog GL r [5] (zK G3.spec)
theorem Zi:
 ∀(a:ac)(b:Int×Int×bc),aV a/\ai (CT.wf uS b)->a.length=64->a.length=64/\ ∀(c:Int×Int×bc),True->True:= by
  delta aV ai aD
  exact λx d _ h=>⟨h,λ_ _=>trivial⟩
theorem Yz{r:Loop}(hr:uR (Func.ntmps Tryz.f164) (JC Tryz.f164) r):B0 r:=Cn.okR G3 Af (am aC WH) ij aS (C5 Af Zi) hr
def SC:Cn:=⟨[.yld [5] 1,.box 359 uS,.box 22 (.dat (.sl bq)),.box 3 cI],[],λd=>[B0 d.1,d.2.2.1.length%64=0,d.2.2.2.1=64],λ_ _=>True,λd _=>⟨((),d.2.1,d.2.2.1,d.2.2.2.1,()),trivial⟩⟩
def ax6:bp SC.ps->bI:=(λd=>{loops:=(bt 1 (λS=>{ι:=Int×bV1,qn:=eO,μ:=λi=>(d.2.2.1.length-i.1).toNat,inv:=λi=>0<=i.1/\i.1<=d.2.2.1.length/\i.1%64=0,keep:=[0,1,2],slots:=λi=>[(4,.int .i64 i.1)],keepN:=[1048577,1048578],names:=λi=>[(1048576,.live (.cells 359 (cQ uS i.2)))]}) bZ)})
def GD(a:Int)(b:ac)(c:Int):=min a (ae (fA b c.toNat (toNat (ae b))))
theorem a33:
 ∀(a:Go.Loop)(b:Int×Int×bc)(c:ac)(d:Int),True/\CT.wf uS b/\aV c/\ai (aq d)->B0 a/\c.length%64=0/\d=64->(∃(e:Int) (f:Int×Int×bc),ao e (e<=ae c) (e%64=0)/\a=a/\0=e/\c=c/\aA d (b.1=f.1) (b.2.1=f.2.1/\b.2.2.1=f.2.2.1/\b.2.2.2.1=f.2.2.2.1/\b.2.2.2.2.1=f.2.2.2.2.1/\b.2.2.2.2.2.1=f.2.2.2.2.2.1/\b.2.2.2.2.2.2.1=f.2.2.2.2.2.2.1/\ai (b.2.2.2.2.2.2.2=f.2.2.2.2.2.2.2)))/\ ∀(e:Int)(f:Int×Int×bc),ao e (e<=ae c) (e%64=0)->au (av e (ae c)) (bM e (ae c) (ae c<=ae c) (ao e (e<=ap (e+GD d c e)) (aA (ap (e+GD d c e)) (ap (e+GD d c e)<=ae c) (BI Tryz.prog GL a [5] (zK (Cn.spec G3))/\length (qZ c e (GD d c e))=64/\ ∀(g:Int×Int×bc),True-> ∃(h:Int) (i:Int×Int×bc),ao h (h<=ae c) (h%64=0)/\aZ (ae c) h e/\a=a/\ap (e+d)=h/\c=c/\aA d (g.1=i.1)
 (g.2.1=i.2.1/\g.2.2.1=i.2.2.1/\g.2.2.2.1=i.2.2.2.1/\g.2.2.2.2.1=i.2.2.2.2.1/\g.2.2.2.2.2.1=i.2.2.2.2.2.1/\g.2.2.2.2.2.2.1=i.2.2.2.2.2.2.1/\ai (g.2.2.2.2.2.2.2=i.2.2.2.2.2.2.2)))))) True:= by
  delta ae ap aq aI aV aA aZ cu ao ai qZ aD bM av GD
  rintro r d x n ⟨-,-,⟨hl,-⟩,-⟩⟨hr,hm,rfl⟩
  simp only[maxLen] at hl
  refine⟨⟨0,d,⟨ab,ab,ab⟩,aK⟩,?_⟩
  rintro i e ⟨h0,h1,h2⟩
  refine ay (λk=>?_) (λk=>trivial)
  have k:=aX k
  have q:min (64:Int) ((fA x i.toNat (x.length:Int).toNat).length:Int)=64:=by
   have:(fA x i.toNat (x.length:Int).toNat).length=x.length-i.toNat:=by simp[fA]
   omega
  rw[q,aL (n:=i+64) ab ab]
  refine⟨h0,h1,ab,h0,ab,rfl,ab,hr,by simp[fA];omega,λd _=>⟨i+64,d,⟨ab,ab,ab⟩,ab,aK⟩⟩
theorem aU3:aB 273 SC.spec:=nB Tryz.func273 (Tb (s:=zK G3.spec) aC) ax6 a33
def Sx:Cn:=⟨[.val (.sl bq)],[.own 5 bq],λd=>[(d.1.length:Int)<=1099511627776],λ_ r=>r.1.1.length=32,λ_ _=>⟨((replicate 32 0,()),()),rfl⟩⟩
noncomputable def aS0:bp Sx.ps->bI:=(λd=>{loops:=(λn=>match n with|2=>some (λS=>{ι:=ac,μ:=λi=>((56-(i.length:Int))%64).toNat,inv:=λi=>(i.length:Int)+(56-(i.length:Int))%64<=(d.1.length:Int)+65,keep:=[0,1,2],slots:=λi=>[(3,.own 524288 1)],names:=λi=>[(524288,.live (.row 5 bq i))]})|5=>some (λS=>{ι:=Int×ac,qn:=⟨λk_=>∀(i:Int)(ys:ac),k_ (i,ys),λk_ h_ i=>h_ i.1 i.2,λk_=>∃ (i:Int) (ys:ac),k_ (i,ys),λk_ ⟨i,ys,h_⟩=>⟨_,h_⟩⟩,μ:=λi=>(i.1+8).toNat,inv:=λi => -8<=i.1/\i.1<=56/\i.1%8=0/\((i.2.length:Int)+i.1/8)%64=63/\(i.2.length:Int)+i.1/8<=(d.1.length:Int)+72,keep:=[0,1,2],slots:=λi=>[(3,.own 524288 1),(4,.int .i64 i.1)],names:=λi=>[(524288,.live (.row 5 bq i.2))]})|14=>some (λS=>{ι:=Int×ac,qn:=⟨λk_=>∀(i:Int)(ys:ac),k_ (i,ys),λk_ h_ i=>h_ i.1 i.2,λk_=>∃ (i:Int) (ys:ac),k_ (i,ys),λk_ ⟨i,ys,h_⟩=>⟨_,h_⟩⟩,μ:=λi=>(8-i.1).toNat,inv:=λi=>0<=i.1/\i.1<=8/\(i.2.length:Int)=4*i.1,keep:=[0,1,2,42],slots:=λi=>[(7,.own 524288 1),(43,.int .i64 i.1)],names:=λi=>[(524288,.live (.row 5 bq i.2))]})|_=>none),ys:=[5],ln:=Func.ntmps Tryz.f164,lo:=B0})
def I0(a:Int)(b c:ac):=(-8)<=a/\a<=56/\a%8=0/\(ae b+a/8)%64=63/\ae b+a/8<=ae c+72
def NK(a b c d e:Int)(f:ac)(g:Int):=IntKind.wrap IntKind.u8 (fy IntKind.u32 (SX.pickI (pN a b c d e f) g.toNat) 8)::bN (IntKind.wrap IntKind.u8 (SX.pickI (pN a b c d e f) g.toNat))
def H0(a b:ac):=ae a+(56 -ae a)%64<=ae b+65
theorem aA7:
 ∀(a:ac),qd a (aG a) (gk a (bN 128)/\(∃(b:ac),H0 b a/\a=a/\ai (a++bN 128=b))/\ ∀(b:ac),H0 b a->(64:Int)≠(0:Int)/\au (bW (Int.tmod (ae b) 64) 56) (gk b pm/\ ∃(c:ac),H0 c a/\cu ((56 -ae c)%64) ((56 -ae b)%64)/\a=a/\ai (b++pm=c)) ((∃(c:Int) (d:ac),I0 c d a/\a=a/\56=c/\ai (b=d))/\ ∀(c:Int)(d:ac),I0 c d a->au (gD c) (ao 3 (0<=c) (gk d (bN (IntKind.wrap IntKind.u8 (fy IntKind.u64 (gW IntKind.u64 (IntKind.wrap IntKind.u64 (ae a)) 3) c)))/\ ∃(e:Int) (f:ac),I0 e f a/\cu (e+8) (c+8)/\a=a/\ap (c -8)=e/\ai (d++bN (IntKind.wrap IntKind.u8 (fy IntKind.u64 (gW IntKind.u64 (IntKind.wrap IntKind.u64 (ae a)) 3) c))=f))) ((1:Int)<=(64:Int)/\ ∀(e:Go.Loop),B0 e->B0 e/\d.length%64=0/\(64:Int)=(64:Int)/\ ∀(f:Int×Int×bc)(g:ac)(h:Int),True->(∃(i:Int) (j:ac),ao i (i<=8)
 (ae j=4*i)/\a=a/\ce f.1 f.2.1 f.2.2.1 f.2.2.2.1 f.2.2.2.2.1 (f.2.2.2.2.2.1=f.2.2.2.2.2.1) (aU f.2.2.2.2.2.2.1 f.2.2.2.2.2.2.2 (0=i) (ai (j=[]))))/\ ∀(i:Int)(j:ac),ao i (i<=8) (ae j=4*i)->au (av i 8) (ao i (i<(↑((8:Nat)):Int)) (ao 24 ((0:Int)<=(16:Int)) (ao 8 (gk j (IntKind.wrap IntKind.u8 (fy IntKind.u32 (SX.pickI (pN f.1 f.2.1 f.2.2.1 f.2.2.2.1 f.2.2.2.2.1 (f.2.2.2.2.2.1::f.2.2.2.2.2.2.1::bN f.2.2.2.2.2.2.2)) i.toNat) 24)::IntKind.wrap IntKind.u8 (fy IntKind.u32 (SX.pickI (pN f.1 f.2.1 f.2.2.1 f.2.2.2.1 f.2.2.2.2.1 (f.2.2.2.2.2.1::f.2.2.2.2.2.2.1::bN f.2.2.2.2.2.2.2)) i.toNat) 16)::NK f.1 f.2.1 f.2.2.1 f.2.2.2.1 f.2.2.2.2.1 (f.2.2.2.2.2.1::f.2.2.2.2.2.2.1::bN f.2.2.2.2.2.2.2) i)) (∃(k:Int) (l:ac),ao k (k<=8) (ae l=4*k)/\aZ 8 k i/\a=a/\ce f.1 f.2.1 f.2.2.1 f.2.2.2.1 f.2.2.2.2.1 (f.2.2.2.2.2.1=f.2.2.2.2.2.1) (aU
 f.2.2.2.2.2.2.1 f.2.2.2.2.2.2.2 (aY i k) (ai (j++IntKind.wrap IntKind.u8 (fy IntKind.u32 (SX.pickI (pN f.1 f.2.1 f.2.2.1 f.2.2.2.1 f.2.2.2.2.1 (f.2.2.2.2.2.1::f.2.2.2.2.2.2.1::bN f.2.2.2.2.2.2.2)) i.toNat) 24)::IntKind.wrap IntKind.u8 (fy IntKind.u32 (SX.pickI (pN f.1 f.2.1 f.2.2.1 f.2.2.2.1 f.2.2.2.2.1 (f.2.2.2.2.2.1::f.2.2.2.2.2.2.1::bN f.2.2.2.2.2.2.2)) i.toNat) 16)::NK f.1 f.2.1 f.2.2.1 f.2.2.2.1 f.2.2.2.2.1 (f.2.2.2.2.2.1::f.2.2.2.2.2.2.1::bN f.2.2.2.2.2.2.2) i=l))))))) (j.length=32)))):= by
  delta ae ap aV aU aG cH aA aZ cu gk ao bv pm bN aY ce ai pN I0 aD bW av qd gD NK H0
  rintro x ⟨⟨hl,-⟩,-⟩ h
  refine⟨h,by simp only[gC];omega,⟨_,?_,aK⟩,?_⟩
  .simp only[cL,gC];omega
  rintro y hy
  rw[Gn ab]
  refine⟨ab,ay (λk=>?_) (λk=>?_)⟩
  .have k:¬(y.length:Int)%64=56:=λe=>by rw[e] at k;exact absurd k bo
   refine⟨by simp only[gC];omega,_,?_,?_,aK⟩ <;> simp only[cL,gC] <;> omega
  have k:(y.length:Int)%64=56:=Decidable.byContradiction λe=>by rw[fh e] at k;exact absurd k bo
  refine⟨⟨56,y,⟨ab,ab,ab,ab,ab⟩,aK⟩,?_⟩
  rintro i y ⟨i0,i1,i2,i3,i4⟩
  refine ay (λk=>?_) (λk=>?_)
  .have k:=aX k
   refine⟨ab,k,by simp only[gC];omega,i-8,_,⟨ab,ab,ab,?_,?_⟩,ab,rfl,aL ab ab,aK⟩ <;> simp only[cL,gC] <;> omega
  have k:=bi k
  refine⟨ab,λr hr=>⟨hr,ab,rfl,λd _ _ _=>⟨⟨0,[],⟨ab,ab,rfl⟩,aK⟩,?_⟩⟩⟩
  rintro j z ⟨j0,j1,j2⟩
  refine bP (λk=>?_) (λk=>?_)
  .refine⟨j0,k,ab,ab,ab,?_,j+1,_,⟨ab,ab,?_⟩,ab,rfl,rfl,rfl,rfl,rfl,rfl,rfl,rfl,rfl,aL ab ab,aK⟩
   .simp only[dP,List.length_nil];omega
   .simp only[cL,dP,List.length_nil];omega
  .omega
theorem Sy:aB 164 Sx.spec:=Cn.okY _ Tryz.func164 (x:=JC Tryz.f164) Af (am (am (am (am aC na) bJ6) WH) aU3) ij aS0 (λ_ _ hr=>Yz hr) (C5 Af aA7)
def TK:Cn:=⟨[.val (.sl bq),.val (.sl bq)],[.own 5 bq],λd=>[d.1.length<=64,(d.2.1.length:Int)<=1000000000],λ_ r=>r.1.1.length=32,λ_ _=>⟨((replicate 32 0,()),()),rfl⟩⟩
def aW4:bp TK.ps->bI:=(λd=>{loops:=(bt 5 (λS=>{ι:=Int×ac×ac,qn:=pI,μ:=λi=>(64-i.1).toNat,inv:=λi=>0<=i.1/\i.1<=64/\i.2.1.length=64/\i.2.2.length=64,keep:=[0,1,2,3,4,5,6],slots:=λi=>[(14,.int .i64 i.1)],names:=λi=>[(96,.live (.ary 400 .u8 64 i.2.1)),(112,.live (.ary 400 .u8 64 i.2.2))]}) bZ)})
def MS(a b c:ac):=dj (List.flatten [a,b])/\aG (List.flatten [a,b])/\ ∀(d:ac),d.length=32->dj (List.flatten [c,d])/\aG (List.flatten [c,d])/\ ∀(e:ac),e.length=32->e.length=32
def CR(a:Int)(b c:ac):=bM a 64 (b.length=64) (c.length=64)
def N4(a:Int)(b c:Prop)(d e:ac):=bu a (↑((64:Nat)):Int) (a.toNat<64) (bu a (↑((64:Nat)):Int) (a.toNat<64) (∃(f:Int) (g h:ac),CR f g h/\aZ 64 f a/\b/\c/\aY a f/\d=g/\ai (e=h)))
theorem aB5:
 ∀(a b:ac),aV a/\ai (aV b)->a.length<=64/\ae b<=1000000000->au (av 64 (ae a)) (aG a/\ ∀(c:ac),c.length=32->(∃(d:Int) (e f:ac),CR d e f/\b=b/\0=d/\replicate 64 0=e/\replicate 64 0=f/\False)/\ ∀(d:Int)(e f:ac),CR d e f->au (av d 64) False (MS e b f)) ((∃(c:Int) (d e:ac),CR c d e/\a=a/\b=b/\0=c/\replicate 64 0=d/\ai (replicate 64 0=e))/\ ∀(c:Int)(d e:ac),CR c d e->au (av c 64) (au (av c (ae a)) (ao c (c<ae a) (N4 c (a=a) (b=b) (set d c.toNat (bits BinOp.xor IntKind.u8 (af a c) 54)) (set e c.toNat (bits BinOp.xor IntKind.u8 (af a c) 92)))) (N4 c (a=a) (b=b) (set d c.toNat (bits BinOp.xor IntKind.u8 0 54)) (set e c.toNat (bits BinOp.xor IntKind.u8 0 92)))) (MS d b e)):= by
  delta af ae ap aV aG cH aZ cu ao dj aY ai MS N4 CR aD bu bM av
  rintro x y-⟨h1,h2⟩
  refine ay (λk=>by have k:=aX k;omega) (λ_=>⟨⟨0,_,_,⟨ab,ab,wa ..,wa ..⟩,aK⟩,?_⟩)
  rintro i a b ⟨i0,i1,ha,hb⟩
  refine bP (λk=>?_) (λk=>?_)
  .refine bP (λm=>?_) (λm=>?_)
   .exact⟨i0,m,i0,k,ab,i0,k,ab,i+1,_,_,⟨ab,ab,(fF ..).trans ha,(fF ..).trans hb⟩,ab,rfl,rfl,aL ab ab,aK⟩
   .exact⟨i0,k,ab,i0,k,ab,i+1,_,_,⟨ab,ab,(fF ..).trans ha,(fF ..).trans hb⟩,ab,rfl,rfl,aL ab ab,aK⟩
  .simp only[List.flatten_cons,List.flatten_nil,cL,List.length_nil]
   exact⟨ab,ab,λz hz=>⟨ab,ab,λ_ h=>h⟩⟩
theorem Z9:aB 228 TK.spec:=nB Tryz.func228 (am (am aC Sy) bE7) aW4 aB5
abbrev CI:CT := .pair cI (.pair cI (.pair cI (.sl bq)))
def dead:Go.SX.Spec:=λ_ _=>.ret (.det [False] .junk [])
theorem Im{P:Program}{G:sN}{f:FuncId}:m9 P G f dead:=λ_ _ _ _ _ e hp=>by cases e;exact hp.1.elim
theorem HG{b:ac}{n w:Int}:((putB b n w).length:Int)<=b.length+w.toNat:=by
 unfold putB
 split
 .simp only[List.length_nil];omega
 .rw[cL,KV];omega
def ap0:Ct:=⟨[.val cI,.val cI],[.val .bool],λ_=>[],λd=>((decide (0<=d.1)&&decide (d.1<=d.2.1),()),())⟩
theorem aF9:
 ∀(a b:Int),dI a b->True-> ∀(c:Bool),c=gD a->(c->d7 c)/\(c->c)/\bw c (decide (a<=b))=(gD a&&decide (a<=b)):= by
  delta aq aI aT bw dI ai d7 gD
  rintro x y - -
  (repeat (refine dq ?_;repeat refine dm ?_))
  cases decide (0<=x) <;> rfl
theorem bi9:aB 225 ap0.spec:=aF Tryz.func225 aC aS aF9
def aY7:Ct:=⟨[.val cI,.val cI],[.val .bool],λ_=>[],λd=>((decide (0<=d.1)&&decide (d.1<=15)&&(decide (0<=d.2.1)&&decide (d.2.1<=63)),()),())⟩
def KE(a b:Int):=gD a&&decide (a<=15)&&(gD b&&decide (b<=63))
theorem bM3:
 ∀(a b:Int),dI a b->True->uG (gD a&&decide (a<=15)) (gD b&&decide (b<=63)) (KE a b):= by
  delta aq aI aT bw dI ai gD uG KE
  rintro x y - -
  (repeat (refine dq ?_;repeat refine dm ?_))
  cases decide (0<=x)&&decide (x<=15) <;> rfl
theorem aE5:aB 162 aY7.spec:=aF Tryz.func162 (am aC bi9) aS bM3
def bb7:Ct:=⟨[.box 354 (.row 5 bq),.val cI,.val cI],[],λd=>[(d.1.length:Int)<=1000000],λd=>((),(putB d.1 d.2.1 d.2.2.1,()))⟩
theorem bd2:
 ∀(a:ac)(b c:Int),aV a/\dI b c->bY a->aG a/\putB a b c=putB a b c:= by
  delta ae aq aI aV aG cH bY dI ai aD
  rintro x n w-h
  exact⟨ab,rfl⟩
theorem aM7:aB 226 bb7.spec:=aF Tryz.func226 (am aC L3) aS bd2
def aK1:Go.SX.Spec:=dead
theorem bG3:aB 227 aK1:=by
 exact Im
def UN:Cn:=⟨[.agg CI,.val (.sl bq),.nils,.val (.sl bq)],[.own 5 bq],λd=>[d.2.1.length=32,d.2.2.2.1.length<=64],λ_ r=>r.1.1.length<=73,λ_ _=>⟨(([],()),()),Nat.zero_le _⟩⟩
def YD:bp UN.ps->bI:=(λd=>{unr:=λn=>match n with|8=>2|_=>0})
def Ft:=(82:Int)::(83:Int)::(74:Int)::bN 49
def AR(a b:Int):=putB (putB Ft a 1) b 1
theorem a26:
 ∀(a b c:Int)(d e f:ac),bG a b (aq c) (aV d)/\aV e/\True/\ai (aV f)->e.length=32/\f.length<=64->1<=length Ft/\bY Ft/\bY (putB Ft a 1)/\bY (AR a b)/\bY (putB (AR a b) c 2)/\gk (putB (putB (AR a b) c 2) 0 1) e/\f.length<=64/\ae (putB (putB (AR a b) c 2) 0 1++e)<=1000000000/\ ∀(g:ac),g.length=32->gk (putB (putB (AR a b) c 2) 0 1++e) g/\length (putB (putB (AR a b) c 2) 0 1++e++g)<=73:= by
  delta ae aq aI aV bG gk bv bY bN ai AR Ft aD
  rintro n r e x b k-⟨h1,h2⟩
  have p1:=HG (b:=[82,83,74,49]) (n:=n) (w:=1)
  have p2:=HG (b:=putB [82,83,74,49] n 1) (n:=r) (w:=1)
  have p3:=HG (b:=putB (putB [82,83,74,49] n 1) r 1) (n:=e) (w:=2)
  have p4:=HG (b:=putB (putB (putB [82,83,74,49] n 1) r 1) e 2) (n:=0) (w:=1)
  simp only[dP,List.length_nil,cL] at *
  generalize (putB (putB (putB (putB [82,83,74,49] n 1) r 1) e 2) 0 1).length=l4 at *
  generalize (putB (putB (putB [82,83,74,49] n 1) r 1) e 2).length=l3 at *
  generalize (putB (putB [82,83,74,49] n 1) r 1).length=l2 at *
  generalize (putB [82,83,74,49] n 1).length=l1 at *
  refine⟨ab,ab,ab,ab,ab,ab,h2,ab,λm hm=>⟨ab,ab⟩⟩
theorem aS6:aB 163 UN.spec:=nB Tryz.func163 (am (am (am aC aM7) bG3) Z9) YD a26
def ZP:Cn:=⟨[.val cI,.val cI,.val (.sl bq)],[.agg CI,.own 5 bq,.val cI],λd=>[0<=d.1,d.1<=15,d.2.1=0,d.2.2.1.length<=64],λ_ r=>r.1.2.1.length<=73/\r.1.2.2.1=0/\r.1.1.2.2.2.length<=32,λ_ _=>⟨(((0,0,0,[]),[],0,()),()),Nat.zero_le _,rfl,Nat.zero_le _⟩⟩
def tE(a:Int):=a<=281474976710656
theorem ac4:
 ∀(a b:Int)(c:ac),bG a b (aV c) True->bM a 15 (b=0) (c.length<=64)->au ( !KE a b) ((0:Nat)<=(73:Nat)/\(1:Int)=(0:Int)/\(0:Nat)<=(32:Nat)) (bM 32 32 (tE ((↑((1:Nat)):Int)*32)) (length (replicate (toNat 32) (0:Int))=32/\c.length<=64/\ ∀(d:ac),d.length<=73->aG d/\ ∀(e:ac),e.length=32->d.length<=73/\(0:Int)=(0:Int)/\e.length<=32)):= by
  delta ae aq aI aV aG bG cH ao aD bM gD KE tE
  rintro i m k-⟨h0,h1,rfl,h2⟩
  refine ay (λq=>by simp[h0,h1] at q) (λ_=>⟨bo,bo,bo,rfl,h2,λx hx=>⟨ab,λy hy=>⟨hx,rfl,by have hy:y.length=32:=hy;show y.length<=32;omega⟩⟩⟩)
theorem aK3:aB 88 ZP.spec:=nB Tryz.func88 (am (am (am aC aE5) aS6) Sy) aS ac4
abbrev vY:CT := .pair cI (.pair cI (.sl bq))
abbrev Cm:CT := .pair cI (.sl bq)
abbrev sj:CT := .pair cI (.pair cI (.pair cI (.pair (.sl (.sl bq)) (.pair cI (.pair (.sl (.sl bq)) (.pair (.sl Cm) (.pair (.sl vY) (.sl vY))))))))
abbrev bH9:OT := .pair cI (.pair cI (.pair cI (.pair (.row 22 (.sl bq)) (.pair cI (.pair (.row 22 (.sl bq)) (.pair (.row 299 Cm) (.pair (.row 303 vY) (.row 303 vY))))))))
abbrev oE(n:Int)(l:bU8):sj.D:=(0,0,n,l,0,[],[],[],[])
def YO:Ct:=⟨[.val (.sl Cm)],[.own 299 Cm],λd=>[d.1=[]],λd=>(([],()),())⟩
theorem bG2:
 ∀(a:List bU0),ai (a.length<=maxLen/\ ∀(b:bU0),b∈a->aq b.1/\aV b.2)->a=[]->jj (a.length=0) (([]:List bU0)=([]:List bU0)) (bv ((0+a.length)*32)/\a=[]):= by
  delta aq aI aV bv ai jj aD
  rintro x-rfl b hb
  exact ay (λh1=>rfl) (λh1=>⟨aw,rfl⟩)
theorem bz2:aB 232 YO.spec:=aF Tryz.func232 aC aS bG2
def bA4:Ct:=⟨[.val (.sl vY)],[.own 303 vY],λd=>[d.1=[]],λd=>(([],()),())⟩
def qm(a:List gJ):=a.length<=maxLen/\ ∀(b:gJ),b∈a->aq b.1/\aq b.2.1/\aV b.2.2
def Bx:=([]:List gJ)=([]:List gJ)
theorem YM:
 ∀(a:List gJ),ai (qm a)->a=[]->jj (a.length=0) Bx (bv ((0+a.length)*40)/\a=[]):= by
  delta aq aI aV bv qm ai jj aD Bx
  rintro x-rfl b hb
  exact ay (λh1=>rfl) (λh1=>⟨aw,rfl⟩)
theorem aj3:aB 276 bA4.spec:=aF Tryz.func276 aC aS YM
def RP:Ct:=⟨[.val (.sl (.sl bq))],[.own 22 (.sl bq)],λd=>[d.1=[]],λd=>(([],()),())⟩
def bf7:bp RP.ps->bI:=(λd=>{loops:=(bt 3 (λS=>{ι:=Unit,inv:=λi=>True,keep:=[0,3,9,10,11],slots:=λi=>[],keepN:=[144]}) bZ)})
def t5(a b:Prop):=(∃(c:Unit),True/\a)/\ ∀(c:Unit),True->b
def An(a:bU8):=replicate (toNat (ae a)) ([]:ac)
theorem av1:
 ∀(a:bU8),ai (DW a)->a=[]->bM (ae a) (ae a) (tE ((↑((24:Nat)):Int)*ae a)) (t5 (a=a/\a=a/\aU (ae a) 0 (An a=An a) True) (au (av 0 (ae a)) (bu 0 (ae a) (aG (af a 0)) (ao 0 (0<ae (An a)) (∃(b:Unit),True/\(0:Nat)<(0:Nat)/\a=a/\a=a/\aA (ae a) (aY 0 0) (ai (set (An a) (toNat 0) (af a 0)=An a))))) (An a=[]))):= by
  delta af ae ap aV aU aG cH aA ao aY ai t5 aD bu bM av An DW tE
  rintro x-rfl
  exact⟨bo,bo,bo,⟨(),aN,aK⟩,λ_ _=>rfl⟩
theorem aW9:aB 231 RP.spec:=aF Tryz.func231 (am aC na) bf7 av1
def RW:Ct:=⟨[.val (.sl vY)],[.own 303 vY],λd=>[d.1=[]],λd=>(([],()),())⟩
def ac2:bp RW.ps->bI:=(λd=>{loops:=(bt 3 (λS=>{ι:=Unit,inv:=λi=>True,keep:=[3,8,9,10],slots:=λi=>[],keepN:=[128]}) bZ)})
theorem bg0:
 ∀(a:List gJ),ai (qm a)->a=[]->a=[]/\t5 (aU (↑((0:Nat)):Int) 0 Bx True) Bx:= by
  delta aq aI aV aU aA qm ai t5 aD Bx
  rintro x-rfl
  exact⟨rfl,⟨(),aN,aK⟩,λ_ _=>rfl⟩
theorem bi0:aB 233 RW.spec:=aF Tryz.func233 (am (am aC aj3) na) ac2 bg0
def Vg:Ct:=⟨[.agg sj],[.agg bH9],λd=>[d.1=oE d.1.2.2.1 []],λd=>((d.1,()),())⟩
def ba2:bp Vg.ps->bI:=(λd=>{loops:=(bt 4 (λS=>{ι:=Unit,inv:=λi=>True,keep:=[1,2,18,19,20],slots:=λi=>[],keepN:=[32,48,128,176,256]}) bZ)})
def yz:=(([]:List bU0),([]:List gJ),([]:List gJ))
theorem ab7:
 ∀(a:Int×Int×Int×List ac×Int×List ac×List bU0×List gJ×List gJ),ai (CT.wf sj a)->a=oE a.2.2.1 []->a.2.2.2.1=[]/\a.2.2.2.2.2.1=[]/\a.2.2.2.2.2.2.1=[]/\t5 (ce (↑((0:Nat)):Int) 0 a.1 a.2.1 a.2.2.1 (a.2.2.2.2.1=a.2.2.2.2.1) (a.2.2.2.2.2.2.2.1=a.2.2.2.2.2.2.2.1/\a.2.2.2.2.2.2.2.2=a.2.2.2.2.2.2.2.2/\gQ 0 0 0 0 (([]:List ac)=([]:List ac)) (([]:List ac)=([]:List ac)/\ai (([]:List bU0)=([]:List bU0))))) (a.2.2.2.2.2.2.2.1=[]/\a.2.2.2.2.2.2.2.2=[]/\(a.1,a.2.1,a.2.2.1,[],a.2.2.2.2.1,[],yz)=a):= by
  delta aU aA ce ai gQ t5 yz
  rintro d-h
  rw[h]
  exact⟨rfl,rfl,rfl,⟨(),aN,aK⟩,λ_ _=>⟨rfl,rfl,rfl⟩⟩
theorem a49:aB 165 Vg.spec:=aF Tryz.func165 (am (am (am (am aC aW9) bi0) bz2) na) ba2 ab7
def be7:Ct:=⟨[.val cI],[.agg sj,.val cI],λd=>[1<=d.1,d.1<=4],λd=>((oE d.1 [],0,()),())⟩
def xy:=(([]:List ac),(0:Int),([]:List ac),yz)
theorem bQ5:
 ∀(a:Int),ai (aq a)->1<=a/\a<=4->nt (av a 1) (av 64 a) ((0,0,0,xy)=oE a []/\(1:Int)=(0:Int)) ((0,0,a,xy)=oE a []/\(0:Int)=(0:Int)):= by
  delta aq aI bO aT bn br nt xy ai av jW yz
  rintro n-⟨h0,h1⟩
  (repeat (refine dq ?_;repeat refine dm ?_))
  exact ay (λq=>by rw[fh ab,fh ab] at q;cases q) (λ_=>⟨rfl,rfl⟩)
theorem aK2:aB 87 be7.spec:=aF Tryz.func87 aC aS bQ5
def a18:Ct:=⟨[.agg sj,.val (.sl bq)],[.agg sj,.val cI],λd=>[d.1=oE d.1.2.2.1 [],d.2.1.length<=73],λd=>((oE d.1.2.2.1 [d.2.1],0,()),())⟩
theorem an4:
 ∀(a:Int×Int×Int×List ac×Int×List ac×List bU0×List gJ×List gJ)(b:ac),CT.wf sj a/\ai (aV b)->a=oE a.2.2.1 []/\b.length<=73->lw (decide (1024<=ae a.2.2.2.1)) (av 6000 (ae b)) ((0,0,0,xy)=oE a.2.2.1 [b]/\(5:Int)=(0:Int)) (a=oE a.2.2.1 []/\aG b/\bv ((a.2.2.2.1.length+length [b])*24)/\(a.1,a.2.1,a.2.2.1,a.2.2.2.1++[b],a.2.2.2.2)=oE a.2.2.1 [b]/\(0:Int)=(0:Int)):= by
  delta ae bO aV aT aG cH bn cX br bv lw xy ai aD av yz
  rintro d x-⟨h,hx⟩
  obtain⟨a,b,n,l,m,g,e,u,v⟩:=d
  simp only[oE,cC] at h
  obtain⟨rfl,rfl,-,rfl,rfl,rfl,rfl,rfl,rfl⟩:=h
  (repeat (refine dq ?_;repeat refine dm ?_))
  exact ay (λq=>by rw[fh (p:=6000<(x.length:Int)) ab] at q;cases q) (λ_=>⟨rfl,ab,aw,rfl,rfl⟩)
theorem aZ8:aB 89 a18.spec:=aF Tryz.func89 (am (am aC a49) na) aS an4
abbrev z9:CT := .pair db (.pair cI (.pair cI (.pair cI (.pair cI (.pair cI cI)))))
abbrev lm:CT := .pair (.sl z9) xU
abbrev tp:CT := .pair cI (.pair cI cI)
def uk(t:z9.D):Prop:=t.1/16777216=10/\(t.2.1=1∨t.2.1=6∨t.2.1=17)/\(0<=t.2.2.1/\t.2.2.1<=9)/\(1<=t.2.2.2.1/\t.2.2.2.1<=9)/\(0<=t.2.2.2.2.1/\t.2.2.2.2.1<=99)/\(1<=t.2.2.2.2.2.1/\t.2.2.2.2.2.1<=99)/\1<=t.2.2.2.2.2.2/\t.2.2.2.2.2.2<=9
def i9(p:lm.D):Prop:=p.1.length<=9/\(∀ t∈p.1,uk t)/\iX p.2=0
def RM:Ct:=⟨[.agg z9],[.val cI],λd=>[uk d.1],λ_=>((0,()),())⟩
def aH2:bp RM.ps->bI:=(λd=>{cuts:=(bt 6 (λS=>{ι:=Unit,inv:=λi=>True,keep:=[1,2],slots:=λi=>[],keepN:=[32]}) (bt 13 (λS=>{ι:=Unit,inv:=λi=>True,keep:=[1,2],slots:=λi=>[],keepN:=[32]}) bZ))})
def wN(a b c d e f g:Int):=∃(h:Unit),True/\ce 0 a b c d (e=e) (jC f g)
theorem Z1:
 ∀(a:Int×bc),ai (CT.wf z9 a)->a.1/16777216=10/\(a.2.1=1∨a.2.1=6∨a.2.1=17)/\aD a.2.2.1 9/\(1<=a.2.2.2.1/\a.2.2.2.1<=9)/\aD a.2.2.2.2.1 99/\(1<=a.2.2.2.2.2.1/\a.2.2.2.2.2.1<=99)/\1<=a.2.2.2.2.2.2/\a.2.2.2.2.2.2<=9->au (iO a.2.1) (au (iO a.2.1) (wN a.1 a.2.1 a.2.2.1 a.2.2.2.1 a.2.2.2.2.1 a.2.2.2.2.2.1 a.2.2.2.2.2.2) ((16:Int)=(0:Int))) (au (decide (a.2.1=6)) (au (decide (a.2.1=6)) (wN a.1 a.2.1 a.2.2.1 a.2.2.2.1 a.2.2.2.2.1 a.2.2.2.2.2.1 a.2.2.2.2.2.2) ((16:Int)=(0:Int))) (au (decide (a.2.1=17)) (wN a.1 a.2.1 a.2.2.1 a.2.2.2.1 a.2.2.2.2.1 a.2.2.2.2.2.1 a.2.2.2.2.2.2) ((16:Int)=(0:Int))))/\ ∀(b:Unit),True->ub (dw a.2.2.1) (av 1023 a.2.2.1) ((1:Int)=(0:Int)) (wN a.1 a.2.1 a.2.2.1 a.2.2.2.1 a.2.2.2.2.1 a.2.2.2.2.2.1 a.2.2.2.2.2.2) (ub (av a.2.2.2.1 1) (av 255 a.2.2.2.1) ((1:Int)=(0:Int)) (wN a.1 a.2.1 a.2.2.1 a.2.2.2.1 a.2.2.2.2.1
 a.2.2.2.2.2.1 a.2.2.2.2.2.2) (ub (dw a.2.2.2.2.1) (tc a.2.2.2.2.1) ((1:Int)=(0:Int)) (wN a.1 a.2.1 a.2.2.1 a.2.2.2.1 a.2.2.2.2.1 a.2.2.2.2.2.1 a.2.2.2.2.2.2) (ub (av a.2.2.2.2.2.1 1) (av 1099511627776 a.2.2.2.2.2.1) ((1:Int)=(0:Int)) (wN a.1 a.2.1 a.2.2.1 a.2.2.2.1 a.2.2.2.2.1 a.2.2.2.2.2.1 a.2.2.2.2.2.2) (ub (av a.2.2.2.2.2.2 1) (av 1000 a.2.2.2.2.2.2) ((1:Int)=(0:Int)) (wN a.1 a.2.1 a.2.2.1 a.2.2.2.1 a.2.2.2.2.1 a.2.2.2.2.2.1 a.2.2.2.2.2.2) (au (tc (ap (a.2.2.2.2.1+ap (ap (a.2.2.2.2.2.2 -1)*a.2.2.2.2.2.1)))) ((1:Int)=(0:Int)) (wN a.1 a.2.1 a.2.2.1 a.2.2.2.1 a.2.2.2.2.1 a.2.2.2.2.2.1 a.2.2.2.2.2.2))))))/\ ∀(c:Unit),True->Jw (bJ (jg a.1)) (bW (jg a.1) 3) ((10:Int)=(0:Int)) ((0:Int)=(0:Int)):= by
  delta ap bO aT aU aA bn bw cX br bJ ub wN ce ai aD bW dw av tc jC iO Jw
  rintro d-⟨h1,h2,⟨f0,f1⟩,⟨l0,l1⟩,⟨s0,s1⟩,⟨e0,e1⟩,c0,c1⟩
  refine⟨?_,λ_ _=>⟨?_,λ_ _=>?_⟩⟩
  .refine ay (λk=>ay (λ_=>⟨(),aN,aK⟩) (λq=>by rw[k] at q;cases q)) (λk1=>ay (λk=>ay (λ_=>⟨(),aN,aK⟩) (λq=>by rw[k] at q;cases q)) (λk2=>ay (λ_=>⟨(),aN,aK⟩) (λk3=>?_)))
   have:=bi k1
   have:=bi k2
   have:=bi k3
   omega
  .iterate 5 ((repeat (refine dq ?_;repeat refine dm ?_));refine ay (λq=>by rw[fh ab,fh ab] at q;cases q) (λ_=>?_))
   have p:=Int.mul_le_mul (show d.2.2.2.2.2.2-1<=8 by omega) e1 ab ab
   have p0:=Int.mul_nonneg (show 0<=d.2.2.2.2.2.2-1 by omega) (show 0<=d.2.2.2.2.2.1 by omega)
   rw[aL (n:=d.2.2.2.2.2.2-1) ab ab,aL (n:=(d.2.2.2.2.2.2-1)*_) ab ab,aL ab ab]
   exact ay (λq=>by rw[fh ab] at q;cases q) (λ_=>⟨(),aN,aK⟩)
  .have e:jg d.1=3:=by unfold jg;rw[ah ab,ah ab,aj (.inl h1)]
   rw[e]
   (repeat (refine dq ?_;repeat refine dm ?_))
   exact ay (λq=>absurd q bo) (λ_=>rfl)
theorem bB2:aB 60 RM.spec:=aF Tryz.func60 (am aC I6) aH2 Z1
def WQ:Ct:=⟨[.agg lm],[.val cI],λd=>[d.1.1.length<=9,∀ t∈d.1.1,uk t,iX d.1.2=0],λ_=>((0,()),())⟩
def bA7:bp WQ.ps->bI:=(λd=>{loops:=(bt 4 (λS=>{ι:=Int,μ:=λi=>(d.1.1.length-i).toNat,inv:=λi=>0<=i/\i<=d.1.1.length,keep:=[1,2,11,12],slots:=λi=>[(13,.int .i64 i)],keepN:=[32]}) bZ)})
def pg(a:List (Int×bc)):=a.length<=maxLen/\ ∀(b:Int×bc),b∈a->aQ b.1/\bG b.2.1 b.2.2.1 (aq b.2.2.2.1) (fB b.2.2.2.2.1 b.2.2.2.2.2.1 b.2.2.2.2.2.2)
def td(a:List (Int×bc)):=∀(b:Int×bc),b∈a->uk b
def tJ(a:List (Int×bc))(b c:Int):=a.length<=9/\td a/\iX (b,c)=0
theorem aC6:
 ∀(a:List (Int×bc))(b c:Int),ai (pg a/\aq b/\aq c)->tJ a b c->au (av 64 (ae a)) ((5:Int)=(0:Int)) ((∃(d:Int),aD d (ae a)/\aA 0 (a=a) (aA (ae a) (0=d) (a=a/\jC b c)))/\ ∀(d:Int),aD d (ae a)->au (av d (ae a)) (bu d (ae a) (uk (af a d)) (∃(e:Int),aD e (ae a)/\aZ (ae a) e d/\aA 0 (a=a) (aA (ae a) (aY d e) (a=a/\jC b c)))) (iX (b,c)=0)):= by
  delta af ae ap aq aI aQ bG aA aZ cu pg ao tJ aY ai td aD bu av jC fB
  rintro x u v-⟨h1,h2,h3⟩
  refine ay (λk=>by have k:=aX k;omega) (λ_=>⟨⟨0,⟨ab,ab⟩,aK⟩,?_⟩)
  rintro i ⟨i0,i1⟩
  refine ay (λk=>?_) (λ_=>h3)
  have k:=aX k
  exact⟨i0,k,h2 _ (cA i0 k),i+1,⟨ab,ab⟩,ab,rfl,rfl,rfl,aL ab ab,aK⟩
theorem Ue:aB 28 WQ.spec:=aF Tryz.func28 (am (am aC bB2) WG) bA7 aC6
abbrev fS:Type:=Int×Int×Int
def xP{α:Type}(cf:α->α->Int)(l:List α):List α:=l.mergeSort λx y => !decide (cf y x<0)
theorem Oe{a b:Int}:fc a b<0↔a<b:=by unfold fc;(repeat' split) <;> omega
theorem FH{a b:Int}:fc a b=0↔a=b:=by unfold fc;(repeat' split) <;> omega
def Jg(a b c:Int):Int:=py [a,b,c]
theorem Vw{a b c x y z:Int}:Jg (fc a x) (fc b y) (fc c z)<0↔a<x∨(a=x/\(b<y∨(b=y/\c<z))):=by
 unfold Jg
 simp only[py]
 split
 next h=>have h:¬ a=x:=λe=>h (FH.2 e);rw[Oe];omega
 next h=>
  have h:a=x:=FH.1 (Classical.not_not.1 h);split
  next k=>have k:¬ b=y:=λe=>k (FH.2 e);rw[Oe];omega
  .rename_i k;have k:b=y:=FH.1 (Classical.not_not.1 k);split
   .rw[Oe];omega
   next q=>have q:c=z:=FH.1 (Classical.not_not.1 q);omega
def ru(x y:fS):Int:=Jg (fc x.2.2 y.2.2) (fc x.1 y.1) (fc x.2.1 y.2.1)
theorem z7{x y:fS}:ru x y<0↔x.2.2<y.2.2∨(x.2.2=y.2.2/\(x.1<y.1∨(x.1=y.1/\x.2.1<y.2.1))):=Vw
abbrev jh:Type:=Int×Int×Int×Int×Int×Int×Int
theorem MX{t:jh}(h:uk t):(0<=t.2.2.2.2.1/\t.2.2.2.2.1<=99)/\(1<=t.2.2.2.2.2.1/\t.2.2.2.2.2.1<=99)/\1<=t.2.2.2.2.2.2/\t.2.2.2.2.2.2<=9:=⟨h.2.2.2.2.1,h.2.2.2.2.2.1,h.2.2.2.2.2.2⟩
def sw(i:Int)(t:jh)(r:Nat):List fS:=(range r).map λ(k:Nat)=>(i,(k:Int),t.2.2.2.2.1+(k:Int)*t.2.2.2.2.2.1)
def mG(ts:List jh)(n:Nat):List fS:=(range n).flatMap λ(i:Nat)=>sw (i:Int) (ts.getD i default) (ts.getD i default).2.2.2.2.2.2.toNat
def jc(p:lm.D):List fS:=xP ru (mG p.1 p.1.length)
def F4(b:bT2)(s:bT2×List fS)(d:fS):bT2×List fS:=((gw b s.1 d.2.2).1,if (gw b s.1 d.2.2).2=true then s.2++[d] else s.2)
def xS(p:lm.D)(l:List fS):bT2×List fS:=l.foldl (F4 p.2) (Am p.2 0,[])
def lV(p:lm.D):List fS:=(xS p (jc p)).2
theorem bl7{p:lm.D}{l:List fS}{j:Int}(h0:0<=j)(h1:j<l.length):xS p (l.take (j+1).toNat)=F4 p.2 (xS p (l.take j.toNat)) (l.getD j.toNat default):=by
 unfold xS
 rw[oG h0 h1,ld];rfl
theorem K6(b:bT2):∀(l:List fS)(s:bT2×List fS),∃ m,(l.foldl (F4 b) s).2=s.2++m/\m.Sublist l
 | [],s=>⟨[],(kY _).symm,List.Sublist.refl _⟩
 | d::l,s=>by
  obtain⟨m,e,hm⟩:=K6 b l (F4 b s d);rw[List.foldl_cons,e];unfold F4;dsimp only;split
  .exact⟨d::m,by rw[je];rfl,hm.cons_cons d⟩
  .exact⟨m,rfl,hm.cons d⟩
theorem ac8(p:lm.D):(lV p).Sublist (jc p):=by
 obtain⟨m,e,hm⟩:=K6 p.2 (jc p) (Am p.2 0,[])
 unfold lV xS
 rw[e];exact hm
theorem yS{α:Type}(cf:α->α->Int)(l:List α):(xP cf l).Perm l:=List.mergeSort_perm _ _
theorem Yy{ts:List jh}{n:Nat}{d:fS}(h:d∈mG ts n):∃ i,i<n/\d.1=(i:Int)∧∃ k:Nat,k<(ts.getD i default).2.2.2.2.2.2.toNat/\d.2.1=k/\d.2.2=(ts.getD i default).2.2.2.2.1+k*(ts.getD i default).2.2.2.2.2.1:=by
 unfold mG sw at h
 obtain⟨i,hi,h⟩:=List.mem_flatMap.1 h
 obtain⟨k,hk,rfl⟩:=List.mem_map.1 h
 exact⟨i,List.mem_range.1 hi,rfl,k,List.mem_range.1 hk,rfl,rfl⟩
theorem Jz{ts:List jh}(h:∀ t∈ts,uk t):∀ n:Nat,n<=ts.length->(mG ts n).length<=9*n
 | 0,_=>by simp[mG]
 | n+1,hn=>by
  have e:mG ts (n+1)=mG ts n++sw n (ts.getD n default) (ts.getD n default).2.2.2.2.2.2.toNat:=by
   unfold mG;rw[lP,List.flatMap_append];simp
  have:=Jz h n ab;have ht:uk (ts.getD n default):=h _ (by rw[ct,cM ab];exact List.getElem_mem _);have hc:=(MX ht).2.2.2;generalize ts.getD n default=t at *;rw[e,cL];unfold sw;rw[mg,List.length_range];omega
structure FO (p:lm.D) (d:fS):Prop where
 t:0<=d.1/\d.1<p.1.length
 at':0<=d.2.2/\d.2.2<=1000
theorem am4{p:lm.D}(h:i9 p){d:fS}(hd:d∈mG p.1 p.1.length):FO p d:=by
 obtain⟨i,hi,e1,k,hk,e2,e3⟩:=Yy hd
 have ht:uk (p.1.getD i default):=h.2.1 _ (by rw[ct,cM hi];exact List.getElem_mem _)
 have ht:=MX ht
 generalize List.getD (α:=jh) p.1 i default=t at *
 obtain⟨⟨s0,s1⟩,⟨v0,v1⟩,c0,c1⟩:=ht
 have p1:=Int.mul_le_mul (show (k:Int)<=8 by omega) v1 ab ab
 have p0:=Int.mul_nonneg (show 0<=(k:Int) by omega) (show 0<=t.2.2.2.2.2.1 by omega)
 exact⟨ab,ab⟩
structure bn4 (p:lm.D):Prop where
 n:(lV p).length<=81
 d:∀ d∈lV p,FO p d
 s:(lV p).Pairwise λx y=>x.2.2<=y.2.2
theorem Kf(x y:fS):(!decide (ru y x<0))=true↔¬ (y.2.2<x.2.2∨(y.2.2=x.2.2/\(y.1<x.1∨(y.1=x.1/\y.2.1<x.2.1)))):=by
 rw[pF,sF,z7]
theorem G4{p:lm.D}(h:i9 p):bn4 p:=by
 have sub:=ac8 p
 have perm:(jc p).Perm (mG p.1 p.1.length):=yS _ _
 have ok:∀ d∈lV p,FO p d:=λd hd=>am4 h (perm.mem_iff.1 (sub.subset hd))
 refine⟨?_,ok,?_⟩
 .have:=sub.length_le;have:=perm.length_eq;have:=Jz h.2.1 p.1.length (eT _);have:=h.1;omega
 .refine List.Pairwise.sublist sub ?_;have:=List.pairwise_mergeSort (le:=λx y:fS => !decide (ru y x<0)) (λa b c h1 h2=>by rw[Kf] at *;omega) (λa b=>by rw[sD,Kf,Kf];omega) (mG p.1 p.1.length);exact this.imp λ{a b} q=>by rw[Kf] at q;omega
def first(f:Nat->Int):Nat->Int
 | 0=>0
 | n+1=>if first f n≠0 then first f n else f n
theorem GR{f:Nat->Int}{i:Int}(h0:0<=i)(h:first f i.toNat=0)(hf:f i.toNat=0):first f (i+1).toNat=0:=by
 rw[show (i+1).toNat=i.toNat+1 by omega,first,ah (by simp[h]),hf]
theorem LA{f:Nat->Int}{a:Nat}(h:first f a≠0):∀ k,first f (a+k)=first f a
 | 0=>rfl
 | k+1=>by rw[← iz,first,aj (by rw[LA h k];exact h),LA h k]
theorem MC{f:Nat->Int}{i:Int}{n:Nat}(h0:0<=i)(h1:i<n)(h:first f i.toNat=0)(hf:f i.toNat≠0):f i.toNat=first f n:=by
 have e:first f (i.toNat+1)=f i.toNat:=by rw[first,ah (by simp[h])]
 have k:=LA (a:=i.toNat+1) (by rw[e];exact hf) (n-(i.toNat+1))
 rw[show i.toNat+1+(n-(i.toNat+1))=n by omega] at k
 rw[k,e]
theorem zW{f:Nat->Int}:∀{n:Nat},first f n=0→∀ i,i<n->f i=0
 | 0,_,i,hi=>ab
 | n+1,h,i,hi=>by
  by_cases k:first f n=0
  .rw[first,ah (by simp[k])] at h;by_cases e:i=n
   .rw[e];exact h
   .exact zW k i ab
  .rw[first,aj k] at h;exact absurd h k
theorem JN{f:Nat->Int}:∀{n:Nat},(∀ i,i<n->f i=0)->first f n=0
 | 0,_=>rfl
 | n+1,h=>by rw[first,ah (by rw[JN λi hi=>h i ab];simp),h n ab]
def ly(x:ar)(i:Nat):Int :=
 if ¬ f9 ((aM x).getD i default).1∨ph x ((aM x).getD i default).1<i then 10
 else if ((aM x).getD i default).2<0∨fG x ((aM x).getD i default).2<i then 11 else 0
def tu(x:ar):Prop:=kT x≠0/\(¬ f9 (kT x)∨0<=ph x (kT x))
instance (x:ar):Decidable (tu x):=by unfold tu;infer_instance
def qU(x:ar):Prop:=Ur x<0∨(oJ x<1∨4<oJ x)∨(oJ x=3/\kT x=0)∨(uf x≠0∧¬ f9 (uf x))∨(oJ x=4/\uf x=0)∨(lN x<1∨255<lN x)∨(aM x).length=0
instance (x:ar):Decidable (qU x):=by unfold qU;infer_instance
def iE(x:ar):Int :=
 if 32<(aM x).length then 5
 else if first (ly x) (aM x).length≠0 then first (ly x) (aM x).length
 else if tu x then 10
 else if qU x then 13
 else if pU x≠0 then pU x
 else if iX (mw x)≠0 then iX (mw x)
 else jf (bL x) (c8 x)
theorem CN{c:Bool}{y n m:Prop}(hy:c=true->y)(hm:c=false->m):au c (au c y n) m:=by
 cases c with
 | true=>exact hy rfl
 | false=>exact hm rfl
theorem U4{x:ar}(h:(aM x).length<=32){i:Int}(h0:0<=i)(h1:i<(aM x).length)(hf:first (ly x) i.toNat=0)(hb:ly x i.toNat≠0):ly x i.toNat=iE x:=by
 have e:=MC h0 h1 hf hb
 unfold iE
 rw[ah ab,← e,aj hb]
theorem bJ2{x:ar}(h:(aM x).length<=32)(hf:first (ly x) (aM x).length=0)(hl:tu x):10=iE x:=by
 unfold iE
 rw[ah ab,ah (by simp[hf]),aj hl]
theorem aO1{x:ar}(h:(aM x).length<=32)(hf:first (ly x) (aM x).length=0)(hl:¬ tu x)(hb:qU x):13=iE x:=by
 unfold iE
 rw[ah ab,ah (by simp[hf]),ah hl,aj hb]
theorem XL{x:ar}(h:(aM x).length<=32)(hf:first (ly x) (aM x).length=0)(hl:¬ tu x)(hb:¬ qU x):iE x=if pU x≠0 then pU x else if iX (mw x)≠0 then iX (mw x) else jf (bL x) (c8 x):=by
 unfold iE
 rw[ah ab,ah (by simp[hf]),ah hl,ah hb]
theorem aw1{x:ar}{i:Int}(h0:0<=i)(h:¬ f9 ((aM x).getD i.toNat default).1∨ph x ((aM x).getD i.toNat default).1<i):ly x i.toNat=10:=by
 unfold ly
 rw[show ((i.toNat:Nat):Int)=i by omega,aj h]
theorem au0{x:ar}{i:Int}(h0:0<=i)(h:¬ (¬ f9 ((aM x).getD i.toNat default).1∨ph x ((aM x).getD i.toNat default).1<i))(k:((aM x).getD i.toNat default).2<0∨fG x ((aM x).getD i.toNat default).2<i):ly x i.toNat=11:=by
 unfold ly
 rw[show ((i.toNat:Nat):Int)=i by omega,ah h,aj k]
theorem YH{x:ar}{i:Int}(h0:0<=i)(h:¬ (¬ f9 ((aM x).getD i.toNat default).1∨ph x ((aM x).getD i.toNat default).1<i))(k:¬ (((aM x).getD i.toNat default).2<0∨fG x ((aM x).getD i.toNat default).2<i)):ly x i.toNat=0:=by
 unfold ly
 rw[show ((i.toNat:Nat):Int)=i by omega,ah h,ah k]
def SO:Ct:=⟨[.agg dK],[.val cI],λd=>[],λd=>((iE d.1,()),())⟩
def at8:bp SO.ps->bI:=(λd=>{loops:=(bt 4 (λS=>{ι:=Int,μ:=λi=>((aM d.1).length-i).toNat,inv:=λi=>0<=i/\i<=(aM d.1).length/\first (ly d.1) i.toNat=0,keep:=[1,12,13],slots:=λi=>[(14,.int .i64 i)],keepN:=[32]}) bZ),cuts:=(bt 21 (λS=>{ι:=Unit,inv:=λi=>(aM d.1).length<=32/\first (ly d.1) (aM d.1).length=0∧¬ tu d.1∧¬ qU d.1,keep:=[1],slots:=λi=>[],keepN:=[32]}) bZ),unr:=λn=>match n with|22=>4|_=>0})
def Ml(a:ar):=length (aM a)<=32/\first (ly a) (length (aM a))=0/\ ¬tu a/\ ¬qU a
def xm(a:ar)(b:bT2)(c:List ci):=pU a::iX b::bN (jf c (c8 a))
def xe(a:Int)(b c:Bool)(d e:Int):=aA a (b=b) (c=c/\jC d e)
def yK(a:ar)(b:bU1)(c d:Int)(e:Bool)(f g:Prop):=∃(h:Unit),Ml a/\rN b c d e f g
def JM(a:Int)(b:ar):=ao a (a<=ae (aM b)) (first (ly b) a.toNat=0)
theorem bJ0:
 ∀(a:ar),ft (CT.wf dK a) (au (av 32 (ae a.1)) (5=iE a) ((∃(b:Int),JM b a/\a.1=a.1/\aA (ae a.1) (0=b) (rN a.1 a.2.1 a.2.2.1 a.2.2.2.1 (a.2.2.2.2.1=a.2.2.2.2.1) (ce a.2.2.2.2.2.1 a.2.2.2.2.2.2.1 a.2.2.2.2.2.2.2.1 a.2.2.2.2.2.2.2.2.1 a.2.2.2.2.2.2.2.2.2.1 (a.2.2.2.2.2.2.2.2.2.2.1.1=a.2.2.2.2.2.2.2.2.2.2.1.1) (xe a.2.2.2.2.2.2.2.2.2.2.1.2 a.2.2.2.2.2.2.2.2.2.2.2.1 a.2.2.2.2.2.2.2.2.2.2.2.2.1 a.2.2.2.2.2.2.2.2.2.2.2.2.2.1 a.2.2.2.2.2.2.2.2.2.2.2.2.2.2))))/\ ∀(b:Int),JM b a->au (av b (ae a.1)) (ao b (b<ae a.1) (Em ( !decide (f9 (af a.1 b).1)) (av (ph a (af a.1 b).1) b) (10=iE a) (Em (dw (af a.1 b).2) (av (fG a (af a.1 b).2) b) (11=iE a) (∃(c:Int),JM c a/\aZ (ae (aM a)) c b/\a.1=a.1/\aA (ae a.1) (aY b c) (rN a.1 a.2.1 a.2.2.1 a.2.2.2.1 (a.2.2.2.2.1=a.2.2.2.2.1) (ce a.2.2.2.2.2.1 a.2.2.2.2.2.2.1
 a.2.2.2.2.2.2.2.1 a.2.2.2.2.2.2.2.2.1 a.2.2.2.2.2.2.2.2.2.1 (a.2.2.2.2.2.2.2.2.2.2.1.1=a.2.2.2.2.2.2.2.2.2.2.1.1) (xe a.2.2.2.2.2.2.2.2.2.2.1.2 a.2.2.2.2.2.2.2.2.2.2.2.1 a.2.2.2.2.2.2.2.2.2.2.2.2.1 a.2.2.2.2.2.2.2.2.2.2.2.2.2.1 a.2.2.2.2.2.2.2.2.2.2.2.2.2.2))))))) (∀(c:Bool),c=bJ a.2.1->ia c c (aT c) (c->aT c) (∀(d:Bool),d=( !decide (f9 a.2.1))->cG (c&& !d) (c&& !d) (d7 (c&& !d)) (c&& !d->aT (c&& !d)) (CA c d/\(c->c)/\au (bw c (bn d (gD (ph a a.2.1)))) (10=iE a) (au (dw a.2.2.1) (au (dw a.2.2.1) (13=iE a) (yK a a.1 a.2.1 a.2.2.1 a.2.2.2.1 (a.2.2.2.2.1=a.2.2.2.2.1) (ce a.2.2.2.2.2.1 a.2.2.2.2.2.2.1 a.2.2.2.2.2.2.2.1 a.2.2.2.2.2.2.2.2.1 a.2.2.2.2.2.2.2.2.2.1 (a.2.2.2.2.2.2.2.2.2.2.1.1=a.2.2.2.2.2.2.2.2.2.2.1.1) (xe a.2.2.2.2.2.2.2.2.2.2.1.2 a.2.2.2.2.2.2.2.2.2.2.2.1 a.2.2.2.2.2.2.2.2.2.2.2.2.1 a.2.2.2.2.2.2.2.2.2.2.2.2.2.1
 a.2.2.2.2.2.2.2.2.2.2.2.2.2.2)))) (ub (av a.2.2.2.2.2.1 1) (av 4 a.2.2.2.2.2.1) (13=iE a) (yK a a.1 a.2.1 a.2.2.1 a.2.2.2.1 (a.2.2.2.2.1=a.2.2.2.2.1) (ce a.2.2.2.2.2.1 a.2.2.2.2.2.2.1 a.2.2.2.2.2.2.2.1 a.2.2.2.2.2.2.2.2.1 a.2.2.2.2.2.2.2.2.2.1 (a.2.2.2.2.2.2.2.2.2.2.1.1=a.2.2.2.2.2.2.2.2.2.2.1.1) (xe a.2.2.2.2.2.2.2.2.2.2.1.2 a.2.2.2.2.2.2.2.2.2.2.2.1 a.2.2.2.2.2.2.2.2.2.2.2.2.1 a.2.2.2.2.2.2.2.2.2.2.2.2.2.1 a.2.2.2.2.2.2.2.2.2.2.2.2.2.2))) (∀(e:Bool),e=decide (a.2.2.2.2.2.1=3)->wv e e (bw e (eG a.2.1)) (au (bw e (eG a.2.1)) (13=iE a) (yK a a.1 a.2.1 a.2.2.1 a.2.2.2.1 (a.2.2.2.2.1=a.2.2.2.2.1) (ce a.2.2.2.2.2.1 a.2.2.2.2.2.2.1 a.2.2.2.2.2.2.2.1 a.2.2.2.2.2.2.2.2.1 a.2.2.2.2.2.2.2.2.2.1 (a.2.2.2.2.2.2.2.2.2.2.1.1=a.2.2.2.2.2.2.2.2.2.2.1.1) (xe a.2.2.2.2.2.2.2.2.2.2.1.2 a.2.2.2.2.2.2.2.2.2.2.2.1 a.2.2.2.2.2.2.2.2.2.2.2.2.1
 a.2.2.2.2.2.2.2.2.2.2.2.2.2.1 a.2.2.2.2.2.2.2.2.2.2.2.2.2.2)))) (∀(f:Bool),f=bJ a.2.2.2.2.2.2.1->ia f f (aT f) (f->f) (au (bw f ( !decide (f9 a.2.2.2.2.2.2.1))) (au (bw f ( !decide (f9 a.2.2.2.2.2.2.1))) (13=iE a) (yK a a.1 a.2.1 a.2.2.1 a.2.2.2.1 (a.2.2.2.2.1=a.2.2.2.2.1) (ce a.2.2.2.2.2.1 a.2.2.2.2.2.2.1 a.2.2.2.2.2.2.2.1 a.2.2.2.2.2.2.2.2.1 a.2.2.2.2.2.2.2.2.2.1 (a.2.2.2.2.2.2.2.2.2.2.1.1=a.2.2.2.2.2.2.2.2.2.2.1.1) (xe a.2.2.2.2.2.2.2.2.2.2.1.2 a.2.2.2.2.2.2.2.2.2.2.2.1 a.2.2.2.2.2.2.2.2.2.2.2.2.1 a.2.2.2.2.2.2.2.2.2.2.2.2.2.1 a.2.2.2.2.2.2.2.2.2.2.2.2.2.2)))) (∀(g:Bool),g=decide (a.2.2.2.2.2.1=4)->wv g g (bw g (eG a.2.2.2.2.2.2.1)) (au (bw g (eG a.2.2.2.2.2.2.1)) (13=iE a) (yK a a.1 a.2.1 a.2.2.1 a.2.2.2.1 (a.2.2.2.2.1=a.2.2.2.2.1) (ce a.2.2.2.2.2.1 a.2.2.2.2.2.2.1 a.2.2.2.2.2.2.2.1 a.2.2.2.2.2.2.2.2.1 a.2.2.2.2.2.2.2.2.2.1
 (a.2.2.2.2.2.2.2.2.2.2.1.1=a.2.2.2.2.2.2.2.2.2.2.1.1) (xe a.2.2.2.2.2.2.2.2.2.2.1.2 a.2.2.2.2.2.2.2.2.2.2.2.1 a.2.2.2.2.2.2.2.2.2.2.2.2.1 a.2.2.2.2.2.2.2.2.2.2.2.2.2.1 a.2.2.2.2.2.2.2.2.2.2.2.2.2.2)))) (ub (av a.2.2.2.2.2.2.2.2.2.2.2.2.2.1 1) (av 255 a.2.2.2.2.2.2.2.2.2.2.2.2.2.1) (13=iE a) (yK a a.1 a.2.1 a.2.2.1 a.2.2.2.1 (a.2.2.2.2.1=a.2.2.2.2.1) (ce a.2.2.2.2.2.1 a.2.2.2.2.2.2.1 a.2.2.2.2.2.2.2.1 a.2.2.2.2.2.2.2.2.1 a.2.2.2.2.2.2.2.2.2.1 (a.2.2.2.2.2.2.2.2.2.2.1.1=a.2.2.2.2.2.2.2.2.2.2.1.1) (xe a.2.2.2.2.2.2.2.2.2.2.1.2 a.2.2.2.2.2.2.2.2.2.2.2.1 a.2.2.2.2.2.2.2.2.2.2.2.2.1 a.2.2.2.2.2.2.2.2.2.2.2.2.2.1 a.2.2.2.2.2.2.2.2.2.2.2.2.2.2))) (au (eG (ae a.1)) (13=iE a) (yK a a.1 a.2.1 a.2.2.1 a.2.2.2.1 (a.2.2.2.2.1=a.2.2.2.2.1) (ce a.2.2.2.2.2.1 a.2.2.2.2.2.2.1 a.2.2.2.2.2.2.2.1 a.2.2.2.2.2.2.2.2.1 a.2.2.2.2.2.2.2.2.2.1
 (a.2.2.2.2.2.2.2.2.2.2.1.1=a.2.2.2.2.2.2.2.2.2.2.1.1) (xe a.2.2.2.2.2.2.2.2.2.2.1.2 a.2.2.2.2.2.2.2.2.2.2.2.1 a.2.2.2.2.2.2.2.2.2.2.2.2.1 a.2.2.2.2.2.2.2.2.2.2.2.2.2.1 a.2.2.2.2.2.2.2.2.2.2.2.2.2.2))))))))))/\ ∀(e:Unit),Ml a->qu (aM a)/\fw 0 (ae (xm a a.2.2.2.2.2.2.2.2.2.2.1 a.2.2.2.2.1)) (bJ (af (xm a a.2.2.2.2.2.2.2.2.2.2.1 a.2.2.2.2.1) 0)) (af (xm a a.2.2.2.2.2.2.2.2.2.2.1 a.2.2.2.2.1) 0=iE a) (fw (ap (0+1)) (ae (xm a a.2.2.2.2.2.2.2.2.2.2.1 a.2.2.2.2.1)) (bJ (af (xm a a.2.2.2.2.2.2.2.2.2.2.1 a.2.2.2.2.1) (ap (0+1)))) (af (xm a a.2.2.2.2.2.2.2.2.2.2.1 a.2.2.2.2.1) (ap (0+1))=iE a) (fw Bq (ae (xm a a.2.2.2.2.2.2.2.2.2.2.1 a.2.2.2.2.1)) (bJ (af (xm a a.2.2.2.2.2.2.2.2.2.2.1 a.2.2.2.2.1) Bq)) (af (xm a a.2.2.2.2.2.2.2.2.2.2.1 a.2.2.2.2.1) Bq=iE a) (0=iE a))))))))):= by
  delta af ae ap bO aT aU aA bn cG aZ bw cu cX ao br fZ bJ Ml bN ub ia aY ce ai xm xe bW dw d7 av CA yK rN wv eG gD Em ft JM Bq jC fw qu
  rintro d - -
  have hd:d.1=aM d:=rfl
  rw[hd]
  refine ay (λh=>?_) (λh=>?_)
  .unfold iE;rw[aj (by have:=aX h;omega)]
  have h32:(aM d).length<=32:=by have:=bi h;omega
  clear h
  refine⟨⟨0,⟨ab,ab,rfl⟩,aK⟩,?_⟩
  rintro x ⟨x0,x1,hf⟩
  refine ay (λhx=>?_) (λhx=>?_)
  .have hx:=aX hx
   refine⟨x0,hx,?_⟩
   (repeat (refine dq ?_;repeat refine dm ?_))
   refine vL (λho=>?_) (λh1 h2=>?_)
   .have e:=aw1 (x:=d) x0 (ho.imp ke aX)
    rw[← U4 h32 x0 hx hf (by rw[e];decide),e]
   have hn:¬ (¬ f9 ((aM d).getD x.toNat default).1∨ph d ((aM d).getD x.toNat default).1<x):=by
    rintro (k|k)
    .exact k (kS h1)
    .exact bi h2 k
   (repeat (refine dq ?_;repeat refine dm ?_))
   refine vL (λho=>?_) (λh1 h2=>?_)
   .have e:=au0 (x:=d) x0 hn (ho.imp aX aX)
    rw[← U4 h32 x0 hx hf (by rw[e];decide),e]
   .have e:=YH (x:=d) x0 hn (by
     rintro (k|k)
     .exact bi h1 k
     .exact bi h2 k)
    exact⟨x+1,⟨ab,ab,GR x0 hf e⟩,ab,aK⟩
  have hx:=bi hx
  rw[show x.toNat=(aM d).length by omega] at hf
  rw[show d.2.1=kT d from rfl]
  intro b hb
  refine⟨aw,aw,aw,aw,?_⟩
  intro b1 hb1
  (repeat refine⟨(by cases b <;> cases b1 <;> simp),?_⟩)
  have hL:(bif b then bif b1 then true else decide (0<=ph d (kT d)) else false)=decide (tu d):=by
   rw[hb,hb1]
   unfold tu
   by_cases k1:kT d=0 <;> by_cases k2:f9 (kT d) <;> by_cases k3:0<=ph d (kT d) <;> simp[k1,k2,k3]
  rw[hL]
  refine ay (λh=>bJ2 h32 hf (aX h)) (λhl=>?_)
  have hl:=bi hl
  clear hL hb hb1
  refine⟨?_,?_⟩
  .have bad:=λh=>aO1 (x:=d) h32 hf hl h
   refine CN (λh=>bad (.inl (aX h))) (λc1=>?_)
   (repeat (refine dq ?_;repeat refine dm ?_))
   rw[LR]
   refine CN (λh=>bad (.inr (.inl (aX h)))) (λc2=>?_)
   (repeat (refine dq ?_;repeat refine dm ?_))
   rw[P2]
   refine CN (λh=>bad (.inr (.inr (.inl (aX h))))) (λc3=>?_)
   (repeat (refine dq ?_;repeat refine dm ?_))
   rw[ay5]
   refine CN (λh=>bad (.inr (.inr (.inr (.inl (aX h)))))) (λc4=>?_)
   (repeat (refine dq ?_;repeat refine dm ?_))
   rw[P2]
   refine CN (λh=>bad (.inr (.inr (.inr (.inr (.inl (aX h))))))) (λc5=>?_)
   (repeat (refine dq ?_;repeat refine dm ?_))
   rw[LR]
   refine CN (λh=>bad (.inr (.inr (.inr (.inr (.inr (.inl (aX h)))))))) (λc6=>?_)
   refine ay (λh=>bad (.inr (.inr (.inr (.inr (.inr (.inr ?_))))))) (λc7=>?_)
   .have:=aX h;omega
   refine⟨(),⟨h32,hf,hl,?_⟩,aK⟩
   rintro (k|k|k|k|k|k|k)
   .exact bi c1 k
   .exact bi c2 k
   .exact bi c3 k
   .exact bi c4 k
   .exact bi c5 k
   .exact bi c6 k
   .have:=bi c7;omega
  rintro-⟨-,-,-,hb⟩
  have e:=XL h32 hf hl hb
  rw[show IntKind.wrap IntKind.i64 (IntKind.wrap IntKind.i64 ((0:Int)+1)+1)=2 by decide,show IntKind.wrap IntKind.i64 ((0:Int)+1)=1 by decide,e]
  refine⟨ab,ab,aw,ay (λh=>?_) (λh=>?_)⟩
  .rw[aj (show pU d≠0 from ke h)];rfl
  rw[ah (show ¬ pU d≠0 from λk=>k (kS h))]
  refine⟨ab,aw,ay (λh=>?_) (λh=>?_)⟩
  .rw[aj (show iX (mw d)≠0 from ke h)];rfl
  rw[ah (show ¬ iX (mw d)≠0 from λk=>k (kS h))]
  refine⟨ab,aw,ay (λh=>?_) (λh=>?_)⟩
  .rfl
  .exact (show jf (bL d) (c8 d)=0 from kS h).symm
theorem a31:aB 193 SO.spec:=aF Tryz.func193 (am (am (am (am (am (am (am aC ao2) Wq) J8) aa5) WG) Vn) bD3) at8 bJ0
end Go.RS
