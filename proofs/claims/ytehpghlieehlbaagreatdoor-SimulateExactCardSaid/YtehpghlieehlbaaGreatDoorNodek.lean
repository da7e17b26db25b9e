/- Fib: forwarding tables. -/
import Derived.Test.YtehpghlieehlbaaGreatDoorReply
import Derived.Test.YtehpghlieehlbaaGreatDoorIdent
set_option maxRecDepth 100000
set_option linter.unusedVariables false
open Int (toNat)
open List (length take getD drop)
namespace Go.RS
open Go.SX Go.Proofs
abbrev cJ:CT := .pair kW (.pair (.sl cI) cI)
abbrev Rt:Type:=d8×ad×Int
def bL(p q:d8):Prop:=p.1<q.1∨p.1=q.1/\p.2<q.2
instance (p q:d8):Decidable (bL p q):=by unfold bL;infer_instance
theorem RD{a b:Int}(h:a<b):gO a b = -1:=by unfold gO;rw[am h]
theorem Np{a b:Int}(h:b<a):gO a b=1:=by unfold gO;rw[af (by omega),am h]
theorem FM(a:Int):gO a a=0:=by unfold gO;simp
theorem I1(p q:d8):(bL p q/\gD p q = -1)∨(p=q/\gD p q=0)∨(bL q p/\gD p q=1):=by
 obtain⟨a,b⟩:=p;obtain⟨c,e⟩:=q
 unfold gD bL
 rcases Int.lt_trichotomy a c with h|rfl|h
 .simp[RD h,h]
 .rcases Int.lt_trichotomy b e with h|rfl|h
  .simp[FM,RD h,h]
  .simp[FM]
  .simp[FM,Np h,h]
 .simp[Np h,h]
theorem o7(p:d8):¬ bL p p:=by unfold bL;omega
theorem Bc{p q r:d8}(h:bL p q)(k:bL q r):bL p r:=by unfold bL at *;omega
theorem wD{p q:d8}(h:bL p q):¬ bL q p:=by unfold bL at *;omega
theorem EM{p q:d8}(h:¬ bL p q):p=q∨bL q p:=by rcases I1 p q with⟨k,-⟩|⟨k,-⟩|⟨k,-⟩ <;> simp_all
theorem Mq{p q r:d8}(h:¬ bL p q)(k:bL p r):¬ bL r q:=λe=>h (Bc k e)
theorem z9{p q:d8}:gD p q<0↔bL p q:=by
 rcases I1 p q with⟨h,e⟩|⟨rfl,e⟩|⟨h,e⟩ <;> rw[e]
 .simp[h]
 .simp[o7]
 .simp[wD h]
theorem Ec{p q:d8}:gD p q=0↔p=q:=by
 rcases I1 p q with⟨h,e⟩|⟨h,e⟩|⟨h,e⟩ <;> rw[e]
 .simp;rintro rfl;exact o7 _ h
 .simp[h]
 .simp;rintro rfl;exact o7 _ h
theorem Jt{p q:d8}:0<=gD p q↔¬ bL p q:=by rw[← z9];omega
def cK(l:List Rt):Prop:=l.Pairwise λa b=>bL a.1 b.1
theorem YH{l:List Rt}{p:d8}{h:Int}(hs:cK l)(h0:0<=h)(h1:h<l.length)(hl:bL (l.getD h.toNat default).1 p):∀ y∈l.take (h+1).toNat,bL y.1 p:=by
 intro y hy
 have hj:h.toNat<l.length:=ab
 rcases Qj h0 h1 hy with hy|rfl
 .obtain⟨k,hk,rfl⟩:=List.mem_iff_getElem.1 hy;rw[ce,cF hj,fu] at hl;simp at hk ⊢;exact Bc (List.pairwise_iff_getElem.1 hs k h.toNat ab hj ab) hl
 .exact hl
theorem Zd{l:List Rt}{p:d8}{h:Int}(hs:cK l)(h0:0<=h)(h1:h<l.length)(hl:¬ bL (l.getD h.toNat default).1 p):∀ y∈l.drop h.toNat,¬ bL y.1 p:=by
 intro y hy
 have hj:h.toNat<l.length:=ab
 rw[ce,cF hj,fu] at hl
 rw[tL hj] at hy
 rcases dj.1 hy with rfl|hy
 .exact hl
 .have hp:((l.drop h.toNat)).Pairwise λa b=>bL a.1 b.1:=List.Pairwise.drop hs;rw[tL hj] at hp;exact Mq hl (List.rel_of_pairwise_cons hp hy)
def Xi:Ct:=⟨[.val (.sl cI)],[.own 3 cI],λd=>[(d.1.length:Int)<=1099511627776],λd=>((d.1,()),())⟩
def pv :=
 (140737488355328:Nat)
theorem Wp :
 ∀(a:ad),(a.length<=maxLen/\ ∀(b:Int),b∈a->aj b)/\True->(ac a)<=1099511627776-> ∀(b:Bool),(b=true->a.length=(0:Nat))->ao b (([]:ad)=a) (((0:Nat)+a.length)*(8:Nat)<=(pv)/\a=a):=by
  delta pv ac;rintro x ⟨⟨hl,-⟩,-⟩ h b hb;refine av (λh1=>?_) (λh1=>⟨by simp;omega,by simp⟩);simp_all
theorem zj:aD 106 Xi.spec:=aH Tryz.func106 aE aR Wp
def aO3:Ct:=⟨[.agg cJ],[.agg cJ],λd=>[(d.1.2.1.length:Int)<=1099511627776],λd=>((d.1,()),())⟩
theorem YJ :
 ∀(a b:Int)(c:ad)(d:Int),(((0<=a/\a<=4294967295)/\aj b)/\(c.length<=maxLen/\ ∀(e:Int),e∈c->aj e)/\aj d)/\True->(ac c)<=1099511627776->(ac c)<=1099511627776/\((a,b),c,d)=((a,b),c,d):=by
  delta ac;simp_all
theorem Rb:aD 149 aO3.spec:=aH Tryz.func149 (au aE zj) aR YJ
def ah8:Ct:=⟨[.agg cJ],[.agg cJ],λd=>[(d.1.2.1.length:Int)<=1099511627776],λd=>((d.1,()),())⟩
theorem am7 :
 ∀(a b:Int)(c:ad)(d:Int),(((0<=a/\a<=4294967295)/\aj b)/\(c.length<=maxLen/\ ∀(e:Int),e∈c->aj e)/\aj d)/\True->(ac c)<=1099511627776->c.length*(8:Nat)<=(pv)/\((a,b),c,d)=((a,b),c,d):=by
  delta pv ac;rintro a b c e-h;exact⟨ab,rfl⟩
theorem AQ:aD 93 ah8.spec:=aH Tryz.func93 aE aR am7
def SZ:Ct:=⟨[.agg cJ,.agg kW],[.val cI],λ_=>[],λd=>((gD d.1.1 d.2.1,()),())⟩
theorem aY1 :
 ∀(a b:Int)(c:ad)(d e f:Int),(((0<=a/\a<=4294967295)/\aj b)/\(c.length<=maxLen/\ ∀(g:Int),g∈c->aj g)/\aj d)/\((0<=e/\e<=4294967295)/\aj f)/\True->True->gD (a,b) (e,f)=gD (a,b) (e,f):=by
  intros;trivial
theorem aW7:aD 198 SZ.spec:=aH Tryz.func198 (au aE O7) aR aY1
theorem Ln{i j:Int}(h0:0<=i)(h1:i<=j)(h2:j<=9223372036854775807):IntKind.wrap IntKind.i64 (de IntKind.u64 (IntKind.wrap IntKind.u64 (IntKind.wrap IntKind.i64 (i+j))) (1:Int))=(i+j)/2:=by
 have hw:IntKind.wrap IntKind.u64 (IntKind.wrap IntKind.i64 (i+j))=i+j:=by
  rw[IntKind.wrap_i64,IntKind.wrap_u64];omega
 rw[hw]
 have:de IntKind.u64 (i+j) 1=(i+j)/2:=by
  unfold de;rw[zm _ bi];rfl
 rw[this,aQ ab ab]
theorem Oy(l:List Rt)(p:d8):∃ k:Int,0<=k/\k<=l.length/\(cK l->(∀ z∈l.take k.toNat,bL z.1 p)∧∀ z∈l.drop k.toNat,¬ bL z.1 p):=by
 induction l with
 | nil=>exact⟨0,aC,aC,aC⟩
 | cons a l ih =>
  obtain⟨k,h0,h1,h2⟩:=ih;by_cases ha:bL a.1 p
  .refine⟨k+1,ab,by simp;omega,λhs=>?_⟩;obtain⟨q1,q2⟩:=h2 (List.pairwise_cons.1 hs).2;have e:(k+1).toNat=k.toNat+1:=ab;rw[e];refine⟨λz hz=>?_,λz hz=>q2 z (by simpa using hz)⟩;rw[List.take_succ_cons] at hz;rcases dj.1 hz with rfl|hz
   .exact ha
   .exact q1 z hz
  .refine⟨0,ab,by simp only[cQ];omega,λhs=>⟨aC,λz hz=>?_⟩⟩;rcases dj.1 (show z∈a::l from hz) with rfl|hz
   .exact ha
   .exact Mq ha ((List.pairwise_cons.1 hs).1 z hz)
def RH:Cn:=⟨[.val (.sl cJ),.agg kW,.fn 198 0],[.val cI,.val .bool],λ_=>[],λd y=>0<=y.1.1/\y.1.1<=d.1.length/\(cK d.1->(∀ z∈d.1.take y.1.1.toNat,bL z.1 d.2.1)∧∀ z∈d.1.drop y.1.1.toNat,¬ bL z.1 d.2.1)/\y.1.2.1=decide (y.1.1<d.1.length/\(d.1.getD y.1.1.toNat default).1=d.2.1),λd h=>let ⟨k,h0,h1,h2⟩:=Oy d.1 d.2.1;⟨((k,decide (k<d.1.length/\(d.1.getD k.toNat default).1=d.2.1),()),()),h0,h1,h2,rfl⟩⟩
def Sy:bu RH.ps->bS:=(λd=>{loops:=(bm 3 (λS=>{ι:=Int×Int,qn:=fj,μ:=λi=>(i.2-i.1).toNat,inv:=λi=>0<=i.1/\i.1<=i.2/\i.2<=d.1.length/\(cK d.1->(∀ z∈d.1.take i.1.toNat,bL z.1 d.2.1)∧∀ z∈d.1.drop i.2.toNat,¬ bL z.1 d.2.1),keep:=[0,2,4,8],slots:=λi=>[(9,.int .i64 i.1),(10,.int .i64 i.2)],keepN:=[80]}) ci)})
def tv(a:List aG) :=
 a.length<=maxLen/\ ∀(d:aG),d∈a->((0<=d.1.1/\d.1.1<=4294967295)/\aj d.1.2)/\(d.2.1.length<=maxLen/\ ∀(e:Int),e∈d.2.1->aj e)/\aj d.2.2
def zD(d e:Int) :=
 de IntKind.u64 (IntKind.wrap .u64 (ai (d+e))) (1:Int)
def HT(a:List aG)(b c f g:Int) :=
 0<=f/\f<=g/\g<=(ac a)/\(cK a->(∀(h:aG),h∈take f.toNat a->bL h.1 (b,c))/\ ∀(h:aG),h∈drop g.toNat a-> ¬bL h.1 (b,c))
def F6(a:List aG)(b c d e:Int) :=
 d<=e/\e<=(ac a)/\(cK a->(∀(f:aG),f∈take d.toNat a->bL f.1 (b,c))/\ ∀(f:aG),f∈drop e.toNat a-> ¬bL f.1 (b,c))
theorem Vm :
 ∀(a:List aG)(b c:Int),(tv a)/\((0<=b/\b<=4294967295)/\aj c)/\True/\True->True->(∃(d:Int) (e:Int),(0<=d/\(F6 a b c d e))/\a=a/\(ac a)=(ac a)/\0=d/\(ac a)=e/\b=b/\c=c/\True)/\ ∀(d e:Int),0<=d/\(F6 a b c d e)->ao (decide (d<e)) ((0:Int)<=1/\0<=ai (zD d e)/\ai (zD d e)<(ac a)/\ao (decide (gD (ah a (ai (zD d e))).1 (b,c)<0)) (∃(f:Int) (g:Int),(HT a b c f g)/\toNat (g -f)<toNat (e -d)/\a=a/\(ac a)=(ac a)/\ai (ai (zD d e)+1)=f/\e=g/\b=b/\c=c/\True) (∃(f:Int) (g:Int),(HT a b c f g)/\toNat (g -f)<toNat (e -d)/\a=a/\(ac a)=(ac a)/\d=f/\ai (zD d e)=g/\b=b/\c=c/\True)) (∀(f:Bool),f=decide (d<(ac a))->(f->(aq f)/\(aq f)/\0<=d/\d<(ac a)/\True)/\(ae f)/\(f->(aq f)/\(aq f)/\(aq f)/\True)/\(ae f)/\(aq f)/\0<=d/\d<=(ac a)/\(cK a->(∀(g:aG),g∈take d.toNat a->bL g.1 (b,c))/\ ∀(g:aG),g∈drop d.toNat a-> ¬bL g.1
 (b,c))/\(bif f then decide (gD (ah a d).1 (b,c)=0) else false)=decide (d<(ac a)/\(ah a d).1=(b,c))):=by
  delta tv zD HT F6 ae aq ai ah ac;rintro x p q ⟨⟨hl,-⟩,-⟩ -;simp only[maxLen] at hl;refine⟨⟨0,x.length,⟨ab,ab,ab,λ_=>aC⟩,aM⟩,?_⟩;rintro i j ⟨h0,h1,h2,h3⟩;refine bt (λhb=>?_) (λhb=>?_)
  .rw[Ln h0 h1 ab];refine⟨ab,ab,ab,bt (λhc=>?_) (λhc=>?_)⟩
   .have hc:=z9.1 hc;rw[aQ ab ab];refine⟨(i+j)/2+1,j,⟨ab,ab,h2,λhs=>⟨YH hs ab ab hc,(h3 hs).2⟩⟩,ab,aM⟩
   .have hc:¬ bL _ _:=λh=>absurd (z9.2 h) hc;refine⟨i,(i+j)/2,⟨h0,ab,ab,λhs=>⟨(h3 hs).1,Zd hs ab ab hc⟩⟩,ab,aM⟩
  .have:i=j:=ab;subst this
   (repeat (refine bO ?_;repeat refine bP ?_));refine⟨h0,h2,h3,?_⟩;rw[db];by_cases h:i<x.length <;> simp[h,Ec]
theorem ah5:aD 197 RH.spec:=nC Tryz.func197 (au aE aW7) Sy Vm
def WI:Ct:=⟨[.nils,.val cI],[.own 93 cJ],λd=>[0<=d.2.1,d.2.1<=1073741824],λd=>(([],()),())⟩
def xz :=
 (((0:Int),(0:Int)),([]:ad),(0:Int))
theorem aL6 :
 ∀(a:Int),True/\aj a/\True->0<=a/\a<=1073741824->ao (decide (a<0)) False (ao (decide (0<ai (a -ai ((0:Int) -0)))) ((0:Int)=0/\(0:Int)=0/\0<=ai (a -ai ((0:Int) -0))/\ai (a -ai ((0:Int) -0))*(↑(48:Nat):Int)<=140737488355328/\(0:Int)<=0/\0<=((length (List.replicate (toNat (ai (a -ai ((0:Int) -0)))) (xz))):Int)/\take (toNat 0) (List.replicate (toNat (ai (a -ai ((0:Int) -0)))) (xz))=([]:List aG)) (([]:List aG)=([]:List aG))):=by
  delta xz ai;rintro x-⟨h0,h1⟩;rw[aQ (n:=(0:Int)-0) ab ab,aQ ab ab];refine av (λhb=>?_) (λhb=>av (λhb=>?_) (λhb=>rfl))
  .have:=aL hb;omega
  .refine⟨rfl,rfl,ab,ab,ab,by simp only[qT];omega,aC⟩
theorem ae5:aD 254 WI.spec:=aH Tryz.func254 (Cp aE (d:=25)) aR aL6
theorem Pv{α:Type}{l:List (List α)}{j:Int}(h0:0<=j)(h1:j<l.length):(l.take (j+1).toNat).flatten=(l.take j.toNat).flatten++l.getD j.toNat default:=by
 have hj:j.toNat<l.length:=ab
 have e:(j+1).toNat=j.toNat+1:=ab
 rw[e,uo hj,List.flatten_append,ce,cF hj,fu]
 simp
theorem GS{α:Type}(l:List (List α))(k:Nat):(l.take k).flatten.length<=l.flatten.length:=by
 conv=>rhs;rw[← mw k l,List.flatten_append,cD]
 omega
def So:Ct:=⟨[.val (.sl (.sl cJ))],[.own 93 cJ],λd=>[(d.1.flatten.length:Int)<=1073741824],λd=>((d.1.flatten,()),())⟩
def T0:bu So.ps->bS:=(λd=>{loops:=(bm 3 (λS=>{ι:=Int×Int,qn:=fj,μ:=λi=>(d.1.length-i.1).toNat,inv:=λi=>0<=i.1/\i.1<=d.1.length/\i.2=((d.1.take i.1.toNat).flatten.length:Int),keep:=[0,9,10],slots:=λi=>[(3,.int .i64 i.2),(11,.int .i64 i.1)]}) (bm 11 (λS=>{ι:=Int×(List Rt),qn:=fj,μ:=λi=>(d.1.length-i.1).toNat,inv:=λi=>0<=i.1/\i.1<=d.1.length/\i.2=(d.1.take i.1.toNat).flatten,keep:=[25,26],slots:=λi=>[(6,.own 524288 4),(27,.int .i64 i.1)],names:=λi=>[(524288,.live (.row 93 cJ i.2))]}) ci))})
def tZ(c:aG) :=
 ((0<=c.1.1/\c.1.1<=4294967295)/\aj c.1.2)/\(c.2.1.length<=maxLen/\ ∀(d:Int),d∈c.2.1->aj d)/\aj c.2.2
theorem az4 :
 ∀(a:List (List aG)),(a.length<=maxLen/\ ∀(b:List aG),b∈a->b.length<=maxLen/\ ∀(c:aG),c∈b->(tZ c))/\True->((length (List.flatten a)):Int)<=1073741824->(∃(b:Int) (c:Int),(0<=b/\b<=(ac a)/\c=((length (List.flatten (take b.toNat a))):Int))/\a=a/\0=c/\a=a/\(ac a)=(ac a)/\0=b/\True)/\ ∀(b c:Int),0<=b/\b<=(ac a)/\c=((length (List.flatten (take b.toNat a))):Int)->ao (decide (b<(ac a))) (0<=b/\b<(ac a)/\ao (decide (ai (c+((length (ah a b)):Int))<0)) False (∃(d:Int) (e:Int),(0<=d/\d<=(ac a)/\e=((length (List.flatten (take d.toNat a))):Int))/\toNat ((ac a) -d)<toNat ((ac a) -b)/\a=a/\ai (c+((length (ah a b)):Int))=e/\a=a/\(ac a)=(ac a)/\ai (b+1)=d/\True)) (0<=c/\c<=1073741824/\(∃(d:Int) (e:List Rt),(0<=d/\d<=(ac a)/\e=List.flatten (take d.toNat a))/\a=a/\(ac a)=(ac a)/\0=d/\([]:List aG)=e/\True)/\ ∀(d:Int)
 (e:List Rt),0<=d/\d<=(ac a)/\e=List.flatten (take d.toNat a)->ao (decide (d<(ac a))) (0<=d/\d<(ac a)/\(e.length+length (ah a d))*(48:Nat)<=(pv)/\ ∃(f:Int) (g:List Rt),(0<=f/\f<=(ac a)/\g=List.flatten (take f.toNat a))/\toNat ((ac a) -f)<toNat ((ac a) -d)/\a=a/\(ac a)=(ac a)/\ai (d+1)=f/\e++ah a d=g/\True) (e=List.flatten a)):=by
  delta tZ pv ai ah ac;rintro x ⟨⟨hl,-⟩,-⟩ ht;simp only[maxLen] at hl;refine⟨⟨0,0,⟨ab,ab,aC⟩,aM⟩,?_⟩;rintro j s ⟨h0,h1,h2⟩;have hle:=GS x j.toNat
  refine av (λhb=>?_) (λhb=>?_)
  .have hb:=aL hb;have e:=Pv h0 hb;have hle2:=GS x (j+1).toNat
   have el:((x.take (j+1).toNat).flatten.length:Int)=s+(x.getD j.toNat default).length:=by rw[e,cD];omega
   rw[aQ (n:=s+_) ab ab];refine⟨h0,hb,bt (λhc=>?_) (λhc=>?_)⟩
   .have:=hc;omega
   .exact⟨j+1,_,⟨ab,ab,el.symm⟩,ab,aM⟩
  .refine⟨ab,ab,⟨0,[],⟨ab,ab,aC⟩,aM⟩,?_⟩;rintro k ys ⟨k0,k1,rfl⟩;refine bt (λhb=>?_) (λhb=>?_)
   .have e:=Pv k0 hb;have hle2:=GS x (k+1).toNat
    refine⟨k0,hb,?_,k+1,_,⟨ab,ab,e.symm⟩,ab,aM⟩;rw[← cD,← e];omega
   .rw[dm ab]
theorem U0:aD 230 So.spec:=aH Tryz.func230 (au aE ae5) T0 az4
theorem tN{α:Type} [Inhabited α] {l:List α} {j:Int} (h0:0<=j) (h1:j<l.length):l.set j.toNat (l.getD j.toNat default)=l:=by
 have hj:j.toNat<l.length:=ab
 rw[ce,cF hj,fu,List.set_getElem_self]
def PB:Ct:=⟨[.val (.sl cJ),.val cI,.val cI,.val (.sl cJ)],[.own 93 cJ],λd=>[0<=d.2.1,d.2.1<=d.1.length,0<=d.2.2.1,d.2.2.1<=d.1.length,(d.1.length:Int)<=134217728,(d.2.2.2.1.length:Int)<=134217728,∀ y∈d.1,(y.2.1.length:Int)<=1099511627776,∀ y∈d.2.2.2.1,(y.2.1.length:Int)<=1099511627776],λd=>((d.1.take d.2.1.toNat++(d.2.2.2.1++d.1.drop d.2.2.1.toNat),()),())⟩
def Zw:bu PB.ps->bS:=(λd=>{loops:=(bm 3 (λS=>{ι:=Int,μ:=λi=>(((d.1.take d.2.1.toNat++(d.2.2.2.1++d.1.drop d.2.2.1.toNat)).length:Int)-i).toNat,inv:=λi=>0<=i/\i<=((d.1.take d.2.1.toNat++(d.2.2.2.1++d.1.drop d.2.2.1.toNat)).length:Int),keep:=[9,20,21],slots:=λi=>[(22,.int .i64 i)],keepN:=[320]}) ci)})
def Ae(a:List aG)(b c:Int)(d:List aG) :=
 List.flatten [cA a (toNat 0) b.toNat,d,cA a c.toNat (toNat (ac a))]
def yo(a:List aG)(b c:Int)(d:List aG) :=
 ((length (take b.toNat a++(d++drop c.toNat a))):Int)
def tU(a:List aG)(b c:Int)(d:List aG) :=
 ((length (Ae a b c d)):Int)
def IM(e:aG) :=
 ((0<=e.1.1/\e.1.1<=4294967295)/\aj e.1.2)/\(e.2.1.length<=maxLen/\ ∀(f:Int),f∈e.2.1->aj f)/\aj e.2.2
theorem aR2 :
 ∀(a:List aG)(b c:Int)(d:List aG),(a.length<=maxLen/\ ∀(e:aG),e∈a->(IM e))/\aj b/\aj c/\(d.length<=maxLen/\ ∀(e:aG),e∈d->(IM e))/\True->(0<=b/\b<=(ac a)/\0<=c/\c<=(ac a)/\(ac a)<=134217728/\(ac d)<=134217728/\(∀(e:aG),e∈a->(ac e.2.1)<=1099511627776)/\ ∀(e:aG),e∈d->(ac e.2.1)<=1099511627776)->(0:Int)<=0/\0<=b/\b<=(ac a)/\0<=c/\c<=(ac a)/\(ac a)<=(ac a)/\(tU a b c d)<=1073741824/\(∃(e:Int),(0<=e/\e<=(yo a b c d))/\(tU a b c d)=(tU a b c d)/\0=e/\List.flatten [cA a (toNat 0) b.toNat,d,cA a c.toNat (toNat (ac a))]=List.flatten [cA a (toNat 0) b.toNat,d,cA a c.toNat (toNat (ac a))]/\True)/\ ∀(e:Int),0<=e/\e<=(yo a b c d)->ao (decide (e<(tU a b c d))) (0<=e/\e<(tU a b c d)/\((length (getD (Ae a b c d) e.toNat default).2.1):Int)<=1099511627776/\0<=e/\e<(tU a b c d)/\ ∃(f:Int),(0<=f/\f<=(yo a b c
 d))/\toNat ((yo a b c d) -f)<toNat ((yo a b c d) -e)/\(tU a b c d)=(tU a b c d)/\ai (e+1)=f/\List.set (Ae a b c d) e.toNat (getD (Ae a b c d) e.toNat default)=List.flatten [cA a (toNat 0) b.toNat,d,cA a c.toNat (toNat (ac a))]/\True) (List.flatten [cA a (toNat 0) b.toNat,d,cA a c.toNat (toNat (ac a))]=take b.toNat a++(d++drop c.toNat a)):=by
  delta Ae yo tU IM ai ac;rintro l a b m-⟨h0,h1,h2,h3,h4,h5,h6,h7⟩;have e:List.flatten [cA l (toNat (0:Int)) (toNat a),m,cA l (toNat b) (toNat (l.length:Int))]=l.take a.toNat++(m++l.drop b.toNat):=by
   simp[cA]
  rw[e];have hall:∀ y∈l.take a.toNat++(m++l.drop b.toNat),(y.2.1.length:Int)<=1099511627776:=by
   intro y hy;simp only[dH] at hy;rcases hy with hy|hy|hy
   .exact h6 y (oB hy)
   .exact h7 y hy
   .exact h6 y (uW hy)
  have hlen:(l.take a.toNat++(m++l.drop b.toNat)).length<=l.length+(m.length+l.length):=by
   simp only[cD,cW,dR];omega
  generalize l.take a.toNat++(m++l.drop b.toNat)=o at hall hlen ⊢;refine⟨ab,h0,h1,h2,h3,ab,ab,⟨0,⟨ab,ab⟩,aM⟩,?_⟩;rintro j ⟨j0,j1⟩;refine av (λhb=>?_) (λhb=>rfl);have hb:=aL hb;refine⟨j0,hb,hall _ (bW j0 hb),j0,hb,j+1,⟨ab,ab⟩,ab,rfl,aQ ab ab,tN j0 hb,bv⟩
theorem Ov:aD 183 PB.spec:=aH Tryz.func183 (au (au aE U0) Rb) Zw aR2
def UB:Cn:=⟨[.val (.sl cJ),.agg kW],[.val cI,.val .bool],λ_=>[],λd y=>0<=y.1.1/\y.1.1<=d.1.length/\(cK d.1->(∀ z∈d.1.take y.1.1.toNat,bL z.1 d.2.1)∧∀ z∈d.1.drop y.1.1.toNat,¬ bL z.1 d.2.1)/\y.1.2.1=decide (y.1.1<d.1.length/\(d.1.getD y.1.1.toNat default).1=d.2.1),λd h=>let ⟨k,h0,h1,h2⟩:=Oy d.1 d.2.1;⟨((k,decide (k<d.1.length/\(d.1.getD k.toNat default).1=d.2.1),()),()),h0,h1,h2,rfl⟩⟩
def AU(a:List aG)(b c d:Int)(e:Bool) :=
 d<=(ac a)/\(cK a->(∀(f:aG),f∈take d.toNat a->bL f.1 (b,c))/\ ∀(f:aG),f∈drop d.toNat a-> ¬bL f.1 (b,c))/\e=decide (d<(ac a)/\(ah a d).1=(b,c))
theorem ab1 :
 ∀(a:List aG)(b c:Int),(tv a)/\((0<=b/\b<=4294967295)/\aj c)/\True->True-> ∀(d:Int)(e:Bool),0<=d/\(AU a b c d e)->0<=d/\(AU a b c d e):=by
  delta tv AU ah ac;grind
theorem Jr:aD 147 UB.spec:=nC Tryz.func147 (au aE ah5) aR ab1
def f6(l:List Rt)(r:Rt):List Rt:=l.filter (λa=>decide (bL a.1 r.1))++r::l.filter (λa=>decide (bL r.1 a.1))
def jl(l:List Rt)(p:d8):List Rt:=l.filter (λa=>decide (a.1≠p))
def okL(l:List Rt):Prop:=(l.length:Int)<=134217728∧∀ y∈l,(y.2.1.length:Int)<=1099511627776
def vA(a:Int)(b:Option Rt)(r:Rt):Option Rt:=if eM r.1 a then match b with|none=>some r|some q=>if q.1.2<r.1.2 then some r else some q else b
def jW(l:List Rt)(a:Int):Option Rt:=l.foldl (vA a) none
def bw(l:List Rt)(a:Int):Rt:=match jW l a with|none=>((0,0),[],0)|some r=>r
def kO(l:List Rt)(a:Int):Bool:=(jW l a).isSome
theorem Mm{l:List Rt}{p:d8}{k:Nat}(h1:∀ z∈l.take k,bL z.1 p)(h2:∀ z∈l.drop k,¬ bL z.1 p):l.take k=l.filter (λa=>decide (bL a.1 p)):=by
 conv=>rhs;rw[← mw k l]
 rw[qG,List.filter_eq_self.2 (by simpa using h1),List.filter_eq_nil_iff.2 (by simpa using h2),ke]
theorem Rs{l:List Rt}{i:Int}(h0:0<=i)(h1:i<l.length):l=l.take i.toNat++l.getD i.toNat default::l.drop (i+1).toNat:=by
 have hj:i.toNat<l.length:=ab
 rw[ce,cF hj,fu,show (i+1).toNat=i.toNat+1 from by omega,← tL hj,mw]
theorem Ph{l:List Rt}{p:d8}{i:Int}(hs:cK l)(h0:0<=i)(hl:i<l.length)(h1:∀ z∈l.take i.toNat,bL z.1 p)(he:(l.getD i.toNat default).1=p):l.drop (i+1).toNat=l.filter (λa=>decide (bL p a.1))/\l.take i.toNat++l.drop (i+1).toNat=jl l p:=by
 have hsp:=Rs h0 hl
 have hp:(l.getD i.toNat default::l.drop (i+1).toNat).Pairwise λa b=>bL a.1 b.1:=by
  have:=hs;unfold cK at this;rw[hsp] at this;exact (List.pairwise_append.1 this).2.1
 have h3:∀ z∈l.drop (i+1).toNat,bL p z.1:=λz hz=>by rw[← he];exact (List.pairwise_cons.1 hp).1 z hz
 generalize l.getD i.toNat default=r at *
 generalize l.take i.toNat=A at *
 generalize l.drop (i+1).toNat=B at *
 subst hsp
 subst he
 constructor
 .rw[qG,List.filter_cons,af (by simp[o7]),List.filter_eq_nil_iff.2 (by simpa using λz hz=>wD (h1 z hz)),pH,List.filter_eq_self.2 (by simpa using h3)]
 .rw[jl,qG,List.filter_cons,af aC,List.filter_eq_self.2 (λz hz=>dM (λ(e:z.1=r.1)=>o7 _ (e▸h1 z hz))),List.filter_eq_self.2 (λz hz=>dM (λ(e:z.1=r.1)=>o7 _ (e▸h3 z hz)))]
theorem Qq{l:List Rt}{p:d8}{i:Int}(hs:cK l)(h0:0<=i)(h1:∀ z∈l.take i.toNat,bL z.1 p)(h2:∀ z∈l.drop i.toNat,¬ bL z.1 p)(he:¬ (i<l.length/\(l.getD i.toNat default).1=p)):l.drop i.toNat=l.filter (λa=>decide (bL p a.1))/\l=jl l p:=by
 have h3:∀ z∈l.drop i.toNat,bL p z.1:=by
  intro z hz;rcases EM (h2 z hz) with e|h
  .exfalso;by_cases hl:i<l.length
   .have hj:i.toNat<l.length:=ab;have hne:(l.getD i.toNat default).1≠p:=λe=>he ⟨hl,e⟩;rw[ce,cF hj,fu] at hne;have hp:(l.drop i.toNat).Pairwise λa b=>bL a.1 b.1:=List.Pairwise.drop hs;rw[tL hj] at hz hp h2;rcases dj.1 hz with rfl|hz
    .exact hne e
    .exact h2 _ (fF) (e▸(List.pairwise_cons.1 hp).1 z hz)
   .rw[List.drop_eq_nil_of_le ab] at hz;simp at hz
  .exact h
 have hsp:=mw i.toNat l
 constructor
 .conv=>rhs;rw[← hsp]
  rw[qG,List.filter_eq_nil_iff.2 (by simpa using λz hz=>wD (h1 z hz)),pH,List.filter_eq_self.2 (by simpa using h3)]
 .symm;apply List.filter_eq_self.2;intro z hz;rw[← hsp] at hz;apply dM;rcases dH.1 hz with hz|hz
  .exact λe=>o7 _ (e▸h1 z hz)
  .exact λe=>o7 _ (e▸h3 z hz)
def aZ6:Ct:=⟨[.val (.sl cJ),.agg cJ],[.own 93 cJ],λd=>[cK d.1,okL d.1,(d.2.1.2.1.length:Int)<=1099511627776],λd=>((f6 d.1 d.2.1,()),())⟩
def C0(a:List aG) :=
 a.length<=maxLen/\ ∀(f:aG),f∈a->((0<=f.1.1/\f.1.1<=4294967295)/\aj f.1.2)/\(f.2.1.length<=maxLen/\ ∀(g:Int),g∈f.2.1->aj g)/\aj f.2.2
theorem aD6 :
 ∀(a:List aG)(b c:Int)(d:ad)(e:Int),(C0 a)/\(((0<=b/\b<=4294967295)/\aj c)/\(d.length<=maxLen/\ ∀(f:Int),f∈d->aj f)/\aj e)/\True->cK a/\okL a/\(ac d)<=1099511627776-> ∀(f:Int)(g:Bool),0<=f/\f<=(ac a)/\(cK a->(∀(h:aG),h∈take f.toNat a->bL h.1 (b,c))/\ ∀(h:aG),h∈drop f.toNat a-> ¬bL h.1 (b,c))/\g=decide (f<(ac a)/\(ah a f).1=(b,c))->ao g (0<=f/\f<=(ac a)/\0<=ai (f+1)/\ai (f+1)<=(ac a)/\(ac a)<=134217728/\((length [((b,c),d,e)]):Int)<=134217728/\(∀(h:aG),h∈a->(ac h.2.1)<=1099511627776)/\(∀(h:aG),h∈[((b,c),d,e)]->(ac h.2.1)<=1099511627776)/\take f.toNat a++([((b,c),d,e)]++drop (toNat (ai (f+1))) a)=f6 a ((b,c),d,e)) (0<=f/\f<=(ac a)/\0<=f/\f<=(ac a)/\(ac a)<=134217728/\((length [((b,c),d,e)]):Int)<=134217728/\(∀(h:aG),h∈a->(ac h.2.1)<=1099511627776)/\(∀(h:aG),h∈[((b,c),d,e)]->(ac
 h.2.1)<=1099511627776)/\take f.toNat a++([((b,c),d,e)]++drop f.toNat a)=f6 a ((b,c),d,e)):=by
  delta C0 ai ah ac;rintro l a n nx b-⟨hs,⟨hl,hx⟩,hn⟩ i f ⟨h0,h1,h2,rfl⟩;obtain⟨h2,h3⟩:=h2 hs;refine bt (λhf=>?_) (λhf=>?_)
  .obtain⟨f1,f2⟩:=hf;rw[aQ ab ab];refine⟨h0,h1,ab,ab,hl,aC,hx,by simpa using hn,?_⟩;rw[(Ph hs h0 f1 h2 f2).1,Mm h2 h3];rfl
  .refine⟨h0,h1,h0,h1,hl,aC,hx,by simpa using hn,?_⟩;rw[(Qq hs h0 h2 h3 hf).1,Mm h2 h3];rfl
theorem Lq:aD 128 aZ6.spec:=aH Tryz.func128 (au (au aE Jr) Ov) aR aD6
def aR6:Ct:=⟨[.val (.sl cJ),.agg kW],[.own 93 cJ],λd=>[cK d.1,okL d.1],λd=>((jl d.1 d.2.1,()),())⟩
def zQ(a:List aG) :=
 (ac a)<=134217728/\ ∀(d:Rt),d∈a->(ac d.2.1)<=1099511627776
theorem ah7 :
 ∀(a:List aG)(b c:Int),(tv a)/\((0<=b/\b<=4294967295)/\aj c)/\True->(cK a/\(zQ a))-> ∀(d:Int)(e:Bool),0<=d/\(AU a b c d e)->ao e (0<=d/\d<=(ac a)/\0<=ai (d+1)/\ai (d+1)<=(ac a)/\(ac a)<=134217728/\(↑(0:Nat):Int)<=134217728/\(∀(f:aG),f∈a->(ac f.2.1)<=1099511627776)/\(∀(f:aG),f∈([]:List aG)->(ac f.2.1)<=1099511627776)/\take d.toNat a++drop (toNat (ai (d+1))) a=jl a (b,c)) (0<=d/\d<=(ac a)/\0<=d/\d<=(ac a)/\(ac a)<=134217728/\(↑(0:Nat):Int)<=134217728/\(∀(f:aG),f∈a->(ac f.2.1)<=1099511627776)/\(∀(f:aG),f∈([]:List aG)->(ac f.2.1)<=1099511627776)/\take d.toNat a++drop d.toNat a=jl a (b,c)):=by
  delta tv AU zQ ai ah ac;rintro l a n-⟨hs,hl,hx⟩ i f ⟨h0,h1,h2,rfl⟩;obtain⟨h2,h3⟩:=h2 hs;refine bt (λhf=>?_) (λhf=>?_)
  .obtain⟨f1,f2⟩:=hf;rw[aQ ab ab];exact⟨h0,h1,ab,ab,hl,aC,hx,aC,(Ph hs h0 f1 h2 f2).2⟩
  .refine⟨h0,h1,h0,h1,hl,aC,hx,aC,?_⟩;rw[mw];exact (Qq hs h0 h2 h3 hf).2
theorem Mc:aD 127 aR6.spec:=aH Tryz.func127 (au (au aE Jr) Ov) aR ah7
theorem aQ7{l:List Rt}{a i:Int}(h0:0<=i)(h1:i<l.length):jW (l.take (i+1).toNat) a=vA a (jW (l.take i.toNat) a) (l.getD i.toNat default):=by
 have hj:i.toNat<l.length:=ab
 rw[show (i+1).toNat=i.toNat+1 from by omega,uo hj,jW,j9,ce,cF hj,fu]
 rfl
theorem Pq{l:List Rt}{a b i:Int}(h0:0<=i)(h1:i<l.length)(h:jW (l.take i.toNat) a=if b<0 then none else some (l.getD b.toNat default))(c:Bool)
  (hc:c=(bif eM (l.getD i.toNat default).1 a then bif decide (b<0) then true else decide ((l.getD b.toNat default).1.2<(l.getD i.toNat default).1.2) else false)) :
  jW (l.take (i+1).toNat) a=if (if c then i else b)<0 then none else some (l.getD (if c then i else b).toNat default):=by
 rw[aQ7 h0 h1,h]
 unfold vA
 grind
theorem aR5{l:List Rt}{a:Int}{k:Nat}(h:∀ z∈l.drop k,eM z.1 a=false):jW l a=jW (l.take k) a:=by
 conv=>lhs;rw[← mw k l]
 unfold jW
 rw[j9]
 generalize List.foldl (vA a) none (l.take k)=s
 generalize l.drop k=m at h
 induction m generalizing s with
 | nil=>rfl
 | cons z r ih =>
  rw[List.foldl_cons,show vA a s z=s from by rw[vA.eq_def,af (by simp[h z fF])]];simp_all
theorem aT9{p:d8}{a:Int}(h:¬ bL p (a,33)):eM p a=false:=by
 unfold eM ga
 unfold bL at h
 grind
def Qv:Ct:=⟨[.val (.sl cJ),.val cy],[.agg cJ,.val .bool],λd=>[cK d.1,okL d.1],λd=>((bw d.1 d.2.1,kO d.1 d.2.1,()),())⟩
def U6:bu Qv.ps->bS:=(λd=>{loops:=(bm 4 (λS=>{ι:=Int×Int×Int,qn:=qU,μ:=λi=>(i.2.2-i.1).toNat,inv:=λi=>0<=i.1/\i.1<=i.2.2/\i.2.2<=d.1.length ∧ -1<=i.2.1/\i.2.1<i.1/\jW (d.1.take i.1.toNat) d.2.1=(if i.2.1<0 then none else some (d.1.getD i.2.1.toNat default))/\(cK d.1→∀ z∈d.1.drop i.2.2.toNat,¬ bL z.1 (d.2.1,33)),keep:=[0,1,4],slots:=λi=>[(8,.int .i64 i.2.1),(17,.int .i64 i.2.2),(18,.int .i64 i.1)],keepN:=[80]}) ci)})
def u4 :=
 (0:Int)=0/\(0:Int)=0/\(0:Int)=0/\True
def HZ(a:List aG)(b j k l:Int) :=
 0<=j/\j<=l/\l<=(ac a)/\ -1<=k/\k<j/\(jW (take j.toNat a) b=if k<0 then none else some (ah a k))/\(cK a-> ∀(m:aG),m∈drop l.toNat a-> ¬bL m.1 (b,(33:Int)))
def Jl(a:List aG)(b e f g:Int) :=
 e<=g/\g<=(ac a)/\ -1<=f/\f<e/\(jW (take e.toNat a) b=if f<0 then none else some (ah a f))/\(cK a-> ∀(h:aG),h∈drop g.toNat a-> ¬bL h.1 (b,(33:Int)))
def rW(a:List aG) :=
 a.length<=maxLen/\ ∀(c:aG),c∈a->(tZ c)
theorem X3 :
 ∀(a:List aG)(b:Int),(rW a)/\(0<=b/\b<=4294967295)/\True->(cK a/\(ac a)<=134217728/\ ∀(c:Rt),c∈a->(ac c.2.1)<=1099511627776)-> ∀(c:Int)(d:Bool),0<=c/\c<=(ac a)/\(cK a->(∀(e:aG),e∈take c.toNat a->bL e.1 (b,(33:Int)))/\ ∀(e:aG),e∈drop c.toNat a-> ¬bL e.1 (b,(33:Int)))/\d=decide (c<(ac a)/\(ah a c).1=(b,(33:Int)))->(∃(e:Int) (f:Int),∃(g:Int),(0<=e/\(Jl a b e f g))/\a=a/\b=b/\-1=f/\c=g/\0=e/\(u4))/\ ∀(e f g:Int),0<=e/\(Jl a b e f g)->ao (decide (e<g)) (0<=e/\e<(ac a)/\ ∀(h:Bool),h=eM (ah a e).1 b->(ae h)/\(ae h)/\ ∀(i:Bool),i=decide (f<0)->((h&& ! i)->(aq (h&& ! i))/\(aq (h&& ! i))/\0<=e/\e<(ac a)/\True)/\(ae (h&& ! i))/\(ae (h&& ! i))/\(ae (h&& ! i))/\((h&& ! i)->(aq (h&& ! i))/\(aq (h&& ! i))/\0<=f/\f<(ac a)/\True)/\(ae (h&& ! i))/\(ae (h&& ! i))/\(ae (h&& ! i))/\((h&& ! i)->(aq (h&& ! i))/\(aq (h&& !
 i))/\True)/\(h->(aq h)/\(i=false->(h&& ! i))/\True)/\(aq h)/\ao (bif h then bif i then true else decide ((ah a f).1.2<(ah a e).1.2) else false) (∃(j:Int) (k:Int),∃(l:Int),(HZ a b j k l)/\toNat (l -j)<toNat (g -e)/\a=a/\b=b/\e=k/\g=l/\ai (e+1)=j/\(u4)) (∃(j:Int) (k:Int),∃(l:Int),(HZ a b j k l)/\toNat (l -j)<toNat (g -e)/\a=a/\b=b/\f=k/\g=l/\ai (e+1)=j/\(u4))) (ao (decide (f<0)) ((xz)=bw a b/\false=kO a b) (0<=f/\f<(ac a)/\((length (ah a f).2.1):Int)<=1099511627776/\ah a f=bw a b/\true=kO a b)):=by
  delta tZ u4 HZ Jl rW xz ae aq ai ah ac;rintro l a ⟨⟨hl,-⟩,-⟩⟨hs,hk,hx⟩ n f ⟨n0,n1,n2,-⟩;simp only[maxLen] at hl;refine⟨⟨0,-1,n,⟨ab,ab,ab,ab,ab,by simp[jW],λ_=>(n2 hs).2⟩,aM⟩,?_⟩;rintro i b n ⟨h0,h1,h2,h3,h4,h5,h6⟩;refine bt (λhi=>?_) (λhi=>?_)
  .have hst:=Pq h0 ab h5;refine⟨h0,ab,?_⟩
   (repeat (refine bO ?_;repeat refine bP ?_));refine av (λhc=>?_) (λhc=>?_)
   .have hst:=hst true hc.symm;refine⟨i+1,i,n,⟨ab,ab,h2,ab,ab,by simpa using hst,h6⟩,ab,aM⟩
   .have hst:=hst false hc.symm;refine⟨i+1,b,n,⟨ab,ab,h2,ab,ab,by simpa using hst,h6⟩,ab,aM⟩
  .have e:i=n:=ab;subst e;have hlook:jW l a=jW (l.take i.toNat) a:=aR5 (λz hz=>aT9 (h6 hs z hz));rw[h5] at hlook;refine bt (λhb=>?_) (λhb=>?_)
   .rw[am hb] at hlook;simp[bw,kO,hlook]
   .rw[af hb] at hlook;refine⟨ab,ab,hx _ (bW ab ab),?_,?_⟩
    .rw[bw,hlook]
    .rw[kO,hlook];rfl
theorem S9:aD 76 Qv.spec:=aH Tryz.func76 (au (au (au aE Jr) Rb) K2) U6 X3
def ma(l links:ad)(j:Nat):Prop:=(0<j->l.getD (j-1) default<l.getD j default)/\l.getD j default∈links
instance (l links:ad) (j:Nat):Decidable (ma l links j):=by unfold ma;infer_instance
def uO(l links:ad):Prop:=l.length<=16∧∀ j:Nat,j<l.length->ma l links j
instance (l links:ad):Decidable (uO l links):=by unfold uO;infer_instance
def lI(r:Rt)(links:ad):Prop:=uO r.2.1 links/\1<=r.2.2/\r.2.2<=3
instance (r:Rt) (links:ad):Decidable (lI r links):=by unfold lI;infer_instance
def chk(links:ad):Option d8->List Rt->Int
 | _,[]=>0
 | q,r::rs=>if ga r.1=false then 10 else if q.any (λq=>decide (0<=gD q r.1)) then 6 else if ¬ lI r links then 12 else chk links (some r.1) rs
def dJ(l:List Rt)(links:ad):Int:=if (64:Int)<l.length then 5 else chk links none l
def rO(l:List Rt)(i:Int):Option d8:=if i=0 then none else some (l.getD (i-1).toNat default).1
theorem Nz{l links:ad}{i:Int}(h0:0<=i)(h:0<i->l.getD (i.toNat-1) default<l.getD i.toNat default)(h2:l.getD i.toNat default∈links):ma l links i.toNat :=
 ⟨λhi=>h ab,h2⟩
theorem Rp{l a:ad}{i:Int}(h0:0<=i)(h:∀ j:Nat,(j:Int)<i->ma l a j)(h2:ma l a i.toNat):∀ j:Nat,(j:Int)<i+1->ma l a j:=by
 grind
theorem Ng{l:List Rt}{links:ad}{i:Int}{q:Option d8}(h0:0<=i)(h1:i<l.length):chk links q (l.drop i.toNat)=if ga (l.getD i.toNat default).1=false then 10 else if q.any (λq=>decide (0<=gD q (l.getD i.toNat default).1)) then 6 else if ¬ lI (l.getD i.toNat default) links then 12 else chk links (some (l.getD i.toNat default).1) (l.drop (i+1).toNat):=by
 have hj:i.toNat<l.length:=ab
 have e:(i+1).toNat=i.toNat+1:=ab
 rw[tL hj,chk,ce,cF hj,fu,e]
def Sq:Ct:=⟨[.agg cJ,.val (.sl cI)],[.val .bool],λ_=>[],λd=>((decide (lI d.1 d.2.1),()),())⟩
def aJ9:bu Sq.ps->bS:=(λd=>{loops:=(bm 4 (λS=>{ι:=Int,μ:=λi=>(d.1.2.1.length-i).toNat,inv:=λi=>0<=i/\i<=d.1.2.1.length∧∀ j:Nat,(j:Int)<i->ma d.1.2.1 d.2.1 j,keep:=[1,2,22,23],slots:=λi=>[(24,.int .i64 i)],keepN:=[48]}) ci)})
theorem aG3 :
 ∀(a b:Int)(c:ad)(d:Int)(e:ad),(((0<=a/\a<=4294967295)/\aj b)/\(c.length<=maxLen/\ ∀(f:Int),f∈c->aj f)/\aj d)/\(e.length<=maxLen/\ ∀(f:Int),f∈e->aj f)/\True->True-> ∀(f:Bool),f=decide (16<(ac c))->(ae (! f))/\(ae (! f))/\(aF f)/\ ∀(g:Bool),(g=bif f then true else decide (d<1))->(ae (! g))/\(ae (! g))/\(aF g)/\ao (bif g then true else decide (3<d)) (false=decide (lI ((a,b),c,d) e)) ((∃(h:Int),(0<=h/\h<=(ac c)/\ ∀(i:Nat),(↑i:Int)<h->ma c e i)/\e=e/\c=c/\(ac c)=(ac c)/\0=h/\a=a/\b=b/\c=c/\d=d/\True)/\ ∀(h:Int),(0<=h/\h<=(ac c)/\ ∀(i:Nat),(↑i:Int)<h->ma c e i)->ao (decide (h<(ac c))) (0<=h/\h<(ac c)/\ ∀(i:Bool),i=decide (0<h)->(ae i)/\(ae i)/\(i->(aq i)/\(aq i)/\0<=ai (h -1)/\ai (h -1)<(ac c)/\True)/\(ae i)/\(i->(aq i)/\(aq i)/\True)/\(aq i)/\ ∀(j:Bool),(j=bif i then decide (ah c h<=ah c (ai (h -1))) else false)->((! j)->(aq (!
 j))/\(aq (! j))/\True)/\(ae (! j))/\(aF j)/\ao (bif j then true else ! decide (ah c h∈e)) (false=decide (lI ((a,b),c,d) e)) (∃(k:Int),(0<=k/\k<=(ac c)/\ ∀(l:Nat),(↑l:Int)<k->ma c e l)/\toNat ((ac c) -k)<toNat ((ac c) -h)/\e=e/\c=c/\(ac c)=(ac c)/\ai (h+1)=k/\a=a/\b=b/\c=c/\d=d/\True)) (true=decide (lI ((a,b),c,d) e))):=by
  delta ae aq aF ai ah ac;rintro a n l b ks ⟨⟨⟨-,-⟩,⟨hl,-⟩,-⟩,-⟩ -;simp only[maxLen] at hl
  (repeat (refine bO ?_;repeat refine bP ?_));refine av (λhb=>?_) (λhb=>?_)
  .have hb:¬ (l.length<=16/\1<=b/\b<=3):=by simp[-List.getD_eq_getElem?_getD,-Int.default_eq_zero,db] at hb;omega
   symm;apply dw;rintro⟨⟨h1,-⟩,h2⟩;exact hb ⟨h1,h2⟩
  .have hb:l.length<=16/\1<=b/\b<=3:=by simp[-List.getD_eq_getElem?_getD,-Int.default_eq_zero,db] at hb;omega
   refine⟨⟨0,⟨ab,ab,ab⟩,aM⟩,?_⟩;rintro i ⟨h0,h1,h2⟩;refine bt (λhi=>?_) (λhi=>?_)
   .refine⟨h0,hi,?_⟩;rw[aQ (n:=i-1) ab ab]
    (repeat (refine bO ?_;repeat refine bP ?_));refine av (λhc=>?_) (λhc=>?_)
    .have hc:¬ ma l ks i.toNat:=by
      rintro⟨k1,k2⟩;simp[-List.getD_eq_getElem?_getD,-Int.default_eq_zero,db,k2] at hc;have:=k1 ab;omega
     symm;apply dw;rintro⟨⟨-,h3⟩,-⟩;exact hc (h3 _ (show i.toNat<l.length by omega))
    .have hc:ma l ks i.toNat:=by
      simp[-List.getD_eq_getElem?_getD,-Int.default_eq_zero,db] at hc;refine Nz h0 (λhp=>?_) hc.2;have:=hc.1 hp;omega
     exact⟨i+1,⟨ab,ab,Rp h0 h2 hc⟩,ab,rfl,rfl,rfl,aQ ab ab,aM⟩
   .symm;apply dM;exact⟨⟨hb.1,λj hj=>h2 j (by simp only at hj;omega)⟩,hb.2⟩
theorem aG9:aD 214 Sq.spec:=aH Tryz.func214 (au aE Xn) aJ9 aG3
def Ku:Ct:=⟨[.val (.sl cJ),.val (.sl cI)],[.val cI],λ_=>[],λd=>((dJ d.1 d.2.1,()),())⟩
def Uw:bu Ku.ps->bS:=(λd=>{loops:=(bm 4 (λS=>{ι:=Int,μ:=λi=>(d.1.length-i).toNat,inv:=λi=>0<=i/\i<=d.1.length/\dJ d.1 d.2.1=chk d.2.1 (rO d.1 i) (d.1.drop i.toNat),keep:=[0,1,10,11],slots:=λi=>[(12,.int .i64 i)]}) ci)})
def y8(a:List aG)(b:ad)(c:Int) :=
 c<=(ac a)/\dJ a b=chk b (rO a c) (drop c.toNat a)
theorem af8 :
 ∀(a:List aG)(b:ad),(rW a)/\(b.length<=maxLen/\ ∀(c:Int),c∈b->aj c)/\True->True->ao (decide (64<(ac a))) (5=dJ a b) ((∃(c:Int),(0<=c/\(y8 a b c))/\a=a/\b=b/\a=a/\(ac a)=(ac a)/\0=c/\True)/\ ∀(c:Int),0<=c/\(y8 a b c)->ao (decide (c<(ac a))) (0<=c/\c<(ac a)/\ao (! ga (ah a c).1) (10=dJ a b) (∀(d:Bool),d=decide (0<c)->(ae d)/\(d->(aq d)/\(aq d)/\0<=ai (c -1)/\ai (c -1)<(ac a)/\True)/\(ae d)/\(ae d)/\(ae d)/\(d->(aq d)/\(aq d)/\True)/\(ae d)/\(aq d)/\ao (bif d then decide (0<=gD (ah a (ai (c -1))).1 (ah a c).1) else false) (6=dJ a b) (ao (! decide (lI (ah a c) b)) (12=dJ a b) (∃(e:Int),(0<=e/\e<=(ac a)/\dJ a b=chk b (rO a e) (drop e.toNat a))/\toNat ((ac a) -e)<toNat ((ac a) -c)/\a=a/\b=b/\a=a/\(ac a)=(ac a)/\ai (c+1)=e/\True)))) (0=dJ a b)):=by
  delta tZ rW y8 ae aq ai ah ac;rintro l ks ⟨⟨hl,-⟩,-⟩ -;simp only[maxLen] at hl;refine bt (λhb=>?_) (λhb=>?_)
  .rw[dJ,am hb]
  .refine⟨⟨0,⟨ab,ab,by rw[dJ,af hb];rfl⟩,aM⟩,?_⟩;rintro i ⟨h0,h1,h2⟩;rw[h2];refine bt (λhi=>?_) (λhi=>?_)
   .rw[Ng h0 hi,aQ (n:=i-1) ab ab];refine⟨h0,hi,av (λhc=>?_) (λhc=>?_)⟩
    .simp only[oX] at hc;rw[am hc]
    .simp only[rT] at hc;rw[af (by simp[-List.getD_eq_getElem?_getD,-Int.default_eq_zero,hc])]
     (repeat (refine bO ?_;repeat refine bP ?_));have he:(Option.any (λq=>decide (0<=gD q (l.getD i.toNat default).1)) (rO l i))=(bif decide (0<i) then decide (0<=gD (l.getD (i-1).toNat default).1 (l.getD i.toNat default).1) else false):=by
      unfold rO;by_cases e:i=0
      .simp[e]
      .rw[af e,Option.any_some];simp[show 0<i from by omega]
     rw[he];refine av (λhd=>?_) (λhd=>?_)
     .rw[am hd]
     .rw[af (by rw[hd];decide)];refine av (λhr=>?_) (λhr=>?_)
      .simp only[oX,sC] at hr;rw[am hr]
      .simp only[rT,jz] at hr;rw[af (λh=>h hr)];refine⟨i+1,⟨ab,ab,?_⟩,ab,aM⟩;rw[rO,af ab,show i+1-1=i from by omega]
   .rw[List.drop_eq_nil_of_le ab,chk]
theorem NW:aD 169 Ku.spec:=aH Tryz.func169 (au (au (au aE aG9) NI) O7) Uw af8
def Kl:Ct:=⟨[.val (.sl cI),.val (.sl cI)],[.val .bool],λ_=>[],λd=>((decide (uO d.1 d.2.1),()),())⟩
def Ye:bu Kl.ps->bS:=(λd=>{loops:=(bm 4 (λS=>{ι:=Int,μ:=λi=>(d.1.length-i).toNat,inv:=λi=>0<=i/\i<=d.1.length∧∀ j:Nat,(j:Int)<i->ma d.1 d.2.1 j,keep:=[0,1],slots:=λi=>[(5,.int .i64 i)]}) (bm 8 (λS=>{ι:=Int×Bool,qn:=fj,μ:=λi=>(d.2.1.length-i.1).toNat,inv:=λi=>0<=i.1/\i.1<=d.2.1.length/\i.2=decide (d.1.getD (S.i 5).toNat default∈d.2.1.take i.1.toNat),keep:=[0,1,5],slots:=λi=>[(6,.bool i.2),(7,.int .i64 i.1)]}) ci))})
theorem aJ7 :
 ∀(a b:ad),(a.length<=maxLen/\ ∀(c:Int),c∈a->aj c)/\(b.length<=maxLen/\ ∀(c:Int),c∈b->aj c)/\True->True->ao (decide (16<(ac a))) (false=decide (uO a b)) ((∃(c:Int),(0<=c/\c<=(ac a)/\ ∀(d:Nat),(↑d:Int)<c->ma a b d)/\a=a/\b=b/\0=c/\True)/\ ∀(c:Int),(0<=c/\c<=(ac a)/\ ∀(d:Nat),(↑d:Int)<c->ma a b d)->ao (decide (c<(ac a))) ((∃(d:Int) (e:Bool),(0<=d/\d<=(ac b)/\e=decide (ah a c∈take d.toNat b))/\a=a/\b=b/\c=c/\false=e/\0=d/\True)/\ ∀(d:Int)(e:Bool),0<=d/\d<=(ac b)/\e=decide (ah a c∈take d.toNat b)->ao (decide (d<(ac b))) (∀(f:Bool),f=e->((! f)->(aq (! f))/\(aq (! f))/\0<=d/\d<(ac b)/\True)/\(ae (! f))/\((! f)->(aq (! f))/\(aq (! f))/\0<=c/\c<(ac a)/\True)/\(ae (! f))/\((! f)->(aq (! f))/\(aq (! f))/\True)/\(aF f)/\ ∃(g:Int) (h:Bool),(0<=g/\g<=(ac b)/\h=decide (ah a c∈take g.toNat b))/\toNat ((ac b) -g)<toNat ((ac b)
 -d)/\a=a/\b=b/\c=c/\(bif f then true else decide (ah b d=ah a c))=h/\ai (d+1)=g/\True) (∀(f:Bool),f= ! e->(ae (! f))/\(ae (! f))/\ ∀(g:Bool),g=decide (0<c)->(ae (! f&&g))/\((! f&&g)->(aq (! f&&g))/\(aq (! f&&g))/\0<=ai (c -1)/\ai (c -1)<(ac a)/\True)/\(ae (! f&&g))/\((! f&&g)->(aq (! f&&g))/\(aq (! f&&g))/\0<=c/\c<(ac a)/\True)/\(ae (! f&&g))/\((! f&&g)->(aq (! f&&g))/\(aq (! f&&g))/\True)/\((! f)->(aq (! f))/\(g->(! f&&g))/\True)/\(aF f)/\ao (bif f then true else bif g then decide (ah a c<=ah a (ai (c -1))) else false) (false=decide (uO a b)) (∃(h:Int),(0<=h/\h<=(ac a)/\ ∀(i:Nat),(↑i:Int)<h->ma a b i)/\toNat ((ac a) -h)<toNat ((ac a) -c)/\a=a/\b=b/\ai (c+1)=h/\True))) (true=decide (uO a b))):=by
  delta ae aq aF ai ah ac;rintro l ks ⟨⟨hl,-⟩,⟨hk,-⟩,-⟩ -;simp only[maxLen] at hl hk;refine bt (λhb=>?_) (λhb=>?_)
  .symm;apply dw;rintro⟨h1,-⟩;omega
  .refine⟨⟨0,⟨ab,ab,ab⟩,aM⟩,?_⟩;rintro i ⟨h0,h1,h2⟩;refine bt (λhi=>?_) (λhi=>?_)
   .refine⟨⟨0,false,⟨ab,ab,aC⟩,aM⟩,?_⟩;rintro k f ⟨k0,k1,rfl⟩;refine bt (λhc=>?_) (λhc=>?_)
    .have e:(k+1).toNat=k.toNat+1:=ab;have hkk:k.toNat<ks.length:=ab
     (repeat (refine bO ?_;repeat refine bP ?_));refine⟨k+1,_,⟨ab,ab,rfl⟩,ab,rfl,rfl,rfl,?_,aQ ab ab,aM⟩;rw[e,uo hkk,ce (l:=ks),cF hkk,fu];generalize l.getD i.toNat default=v;generalize ks[k.toNat]=u;have:(v∈ks.take k.toNat++[u])↔(v∈ks.take k.toNat∨u=v):=by rw[dH,jR];exact or_congr lW ⟨Eq.symm,Eq.symm⟩
     rw[show decide (v∈ks.take k.toNat++[u])=decide (v∈ks.take k.toNat∨u=v) from decide_eq_decide.2 this];by_cases hm:v∈ks.take k.toNat <;> simp[hm]
    .rw[dm ab,aQ (n:=i-1) ab ab]
     (repeat (refine bO ?_;repeat refine bP ?_));refine av (λhc=>?_) (λhc=>?_)
     .have hc:¬ ma l ks i.toNat:=by
       rintro⟨k1,k2⟩;simp[-List.getD_eq_getElem?_getD,-Int.default_eq_zero,db] at hc;rcases hc with hc|hc
       .exact hc k2
       .have:=k1 ab;omega
      symm;apply dw;rintro⟨-,h3⟩;exact hc (h3 _ ab)
     .have hc:ma l ks i.toNat:=by
       simp[-List.getD_eq_getElem?_getD,-Int.default_eq_zero,db] at hc;refine Nz h0 (λhp=>?_) hc.1;have:=hc.2 hp;omega
      exact⟨i+1,⟨ab,ab,Rp h0 h2 hc⟩,ab,aM⟩
   .symm;apply dM;exact⟨ab,λj hj=>h2 j ab⟩
theorem SR:aD 173 Kl.spec:=aH Tryz.func173 aE Ye aJ7
def Q2:Ct:=⟨[.val (.sl cJ),.val (.sl cI)],[.val cI],λ_=>[],λd=>((dJ d.1 d.2.1,()),())⟩
def ao7:bu Q2.ps->bS:=(λd=>{loops:=(bm 4 (λS=>{ι:=Int,μ:=λi=>(d.1.length-i).toNat,inv:=λi=>0<=i/\i<=d.1.length/\dJ d.1 d.2.1=chk d.2.1 (rO d.1 i) (d.1.drop i.toNat),keep:=[0,1],slots:=λi=>[(5,.int .i64 i)]}) ci)})
theorem YG :
 ∀(a:List aG)(b:ad),(rW a)/\(b.length<=maxLen/\ ∀(c:Int),c∈b->aj c)/\True->True->ao (decide (64<(ac a))) (5=dJ a b) ((∃(c:Int),(0<=c/\(y8 a b c))/\a=a/\b=b/\0=c/\True)/\ ∀(c:Int),0<=c/\(y8 a b c)->ao (decide (c<(ac a))) (0<=c/\c<(ac a)/\ao (! ga (ah a c).1) (10=dJ a b) (∀(d:Bool),d=decide (0<c)->(ae d)/\(d->(aq d)/\(aq d)/\0<=ai (c -1)/\ai (c -1)<(ac a)/\True)/\(ae d)/\(ae d)/\(d->(aq d)/\(aq d)/\0<=c/\c<(ac a)/\True)/\(ae d)/\(ae d)/\(d->(aq d)/\(aq d)/\True)/\(ae d)/\(aq d)/\ao (bif d then decide (0<=gD (ah a (ai (c -1))).1 (ah a c).1) else false) (6=dJ a b) (0<=c/\c<(ac a)/\ ∀(e:Bool),e= ! decide (uO (ah a c).2.1 b)->((! e)->(aq (! e))/\(aq (! e))/\0<=c/\c<(ac a)/\True)/\(ae (! e))/\(ae (! e))/\(ae (! e))/\(aF e)/\ ∀(f:Bool),(f=bif e then true else decide ((ah a c).2.2<1))->((! f)->(aq (! f))/\(aq (!
 f))/\0<=c/\c<(ac a)/\True)/\(ae (! f))/\(ae (! f))/\(ae (! f))/\(aF f)/\ao (bif f then true else decide (3<(ah a c).2.2)) (12=dJ a b) (∃(g:Int),(0<=g/\g<=(ac a)/\dJ a b=chk b (rO a g) (drop g.toNat a))/\toNat ((ac a) -g)<toNat ((ac a) -c)/\a=a/\b=b/\ai (c+1)=g/\True)))) (0=dJ a b)):=by
  delta tZ rW y8 ae aq aF ai ah ac;rintro l ks ⟨⟨hl,-⟩,-⟩ -;simp only[maxLen] at hl;refine bt (λhb=>?_) (λhb=>?_)
  .rw[dJ,am hb]
  .refine⟨⟨0,⟨ab,ab,by rw[dJ,af hb];rfl⟩,aM⟩,?_⟩;rintro i ⟨h0,h1,h2⟩;rw[h2];refine bt (λhi=>?_) (λhi=>?_)
   .rw[Ng h0 hi,aQ (n:=i-1) ab ab];refine⟨h0,hi,av (λhc=>?_) (λhc=>?_)⟩
    .simp only[oX] at hc;rw[am hc]
    .simp only[rT] at hc;rw[af (by simp[-List.getD_eq_getElem?_getD,-Int.default_eq_zero,hc])]
     (repeat (refine bO ?_;repeat refine bP ?_));have he:(Option.any (λq=>decide (0<=gD q (l.getD i.toNat default).1)) (rO l i))=(bif decide (0<i) then decide (0<=gD (l.getD (i-1).toNat default).1 (l.getD i.toNat default).1) else false):=by
      unfold rO;by_cases e:i=0
      .simp[e]
      .rw[af e,Option.any_some];simp[show 0<i from by omega]
     rw[he];refine av (λhd=>?_) (λhd=>?_)
     .rw[am hd]
     .rw[af (by rw[hd];decide)];refine⟨h0,hi,?_⟩
      (repeat (refine bO ?_;repeat refine bP ?_));refine av (λhr=>?_) (λhr=>?_)
      .have hr:¬ lI (l.getD i.toNat default) ks:=by
        rintro⟨r1,r2,r3⟩;simp[-List.getD_eq_getElem?_getD,-Int.default_eq_zero,db] at hr;rcases hr with (hr|hr)|hr
        .exact hr r1
        .omega
        .omega
       rw[am hr]
      .have hr:lI (l.getD i.toNat default) ks:=by
        simp[-List.getD_eq_getElem?_getD,-Int.default_eq_zero,db] at hr;exact⟨hr.1.1,ab,ab⟩
       rw[af (λh=>h hr)];refine⟨i+1,⟨ab,ab,?_⟩,ab,aM⟩;rw[rO,af ab,show i+1-1=i from by omega]
   .rw[List.drop_eq_nil_of_le ab,chk]
theorem M5:aD 112 Q2.spec:=aH Tryz.func112 (au (au (au aE SR) Lf) MD) ao7 YG
def RE:Ct:=⟨[.val (.sl cJ),.val cy],[.agg cJ,.val .bool],λd=>[okL d.1],λd=>((bw d.1 d.2.1,kO d.1 d.2.1,()),())⟩
def SF:bu RE.ps->bS:=(λd=>{loops:=(bm 3 (λS=>{ι:=Int×Int,qn:=fj,μ:=λi=>(d.1.length-i.1).toNat,inv:=λi=>0<=i.1/\i.1<=d.1.length ∧ -1<=i.2/\i.2<i.1/\jW (d.1.take i.1.toNat) d.2.1=(if i.2<0 then none else some (d.1.getD i.2.toNat default)),keep:=[0,1,4],slots:=λi=>[(6,.int .i64 i.2),(7,.int .i64 i.1)],keepN:=[80]}) ci)})
theorem TG :
 ∀(a:List aG)(b:Int),(rW a)/\(0<=b/\b<=4294967295)/\True->((ac a)<=134217728/\ ∀(c:Rt),c∈a->(ac c.2.1)<=1099511627776)->(∃(c:Int) (d:Int),(0<=c/\c<=(ac a)/\ -1<=d/\d<c/\jW (take c.toNat a) b=if d<0 then none else some (ah a d))/\a=a/\b=b/\-1=d/\0=c/\(u4))/\ ∀(c d:Int),(0<=c/\c<=(ac a)/\ -1<=d/\d<c/\jW (take c.toNat a) b=if d<0 then none else some (ah a d))->ao (decide (c<(ac a))) (0<=c/\c<(ac a)/\ ∀(e:Bool),e=eM (ah a c).1 b->(ae e)/\(ae e)/\ ∀(f:Bool),f=decide (d<0)->((e&& ! f)->(aq (e&& ! f))/\(aq (e&& ! f))/\0<=c/\c<(ac a)/\True)/\(ae (e&& ! f))/\(ae (e&& ! f))/\(ae (e&& ! f))/\((e&& ! f)->(aq (e&& ! f))/\(aq (e&& ! f))/\0<=d/\d<(ac a)/\True)/\(ae (e&& ! f))/\(ae (e&& ! f))/\(ae (e&& ! f))/\((e&& ! f)->(aq (e&& ! f))/\(aq (e&& ! f))/\True)/\(e->(aq e)/\(f=false->(e&& ! f))/\True)/\(aq e)/\ao (bif e then bif f then true else
 decide ((ah a d).1.2<(ah a c).1.2) else false) (∃(g:Int) (h:Int),(0<=g/\g<=(ac a)/\ -1<=h/\h<g/\jW (take g.toNat a) b=if h<0 then none else some (ah a h))/\toNat ((ac a) -g)<toNat ((ac a) -c)/\a=a/\b=b/\c=h/\ai (c+1)=g/\(u4)) (∃(g:Int) (h:Int),(0<=g/\g<=(ac a)/\ -1<=h/\h<g/\jW (take g.toNat a) b=if h<0 then none else some (ah a h))/\toNat ((ac a) -g)<toNat ((ac a) -c)/\a=a/\b=b/\d=h/\ai (c+1)=g/\(u4))) (ao (decide (d<0)) ((xz)=bw a b/\false=kO a b) (0<=d/\d<(ac a)/\((length (ah a d).2.1):Int)<=1099511627776/\ah a d=bw a b/\true=kO a b)):=by
  delta tZ u4 rW xz ae aq ai ah ac;rintro l a ⟨⟨hl,-⟩,-⟩⟨hk,hx⟩;simp only[maxLen] at hl;refine⟨⟨0,-1,⟨ab,ab,ab,ab,by simp[jW]⟩,aM⟩,?_⟩;rintro i b ⟨h0,h2,h3,h4,h5⟩;refine bt (λhi=>?_) (λhi=>?_)
  .have hst:=Pq h0 ab h5;refine⟨h0,ab,?_⟩
   (repeat (refine bO ?_;repeat refine bP ?_));refine av (λhc=>?_) (λhc=>?_)
   .have hst:=hst true hc.symm;refine⟨i+1,i,⟨ab,ab,ab,ab,by simpa using hst⟩,ab,aM⟩
   .have hst:=hst false hc.symm;refine⟨i+1,b,⟨ab,ab,ab,ab,by simpa using hst⟩,ab,aM⟩
  .have hlook:=h5;rw[dm ab] at hlook;refine bt (λhb=>?_) (λhb=>?_)
   .rw[am hb] at hlook;simp[bw,kO,hlook]
   .rw[af hb] at hlook;refine⟨ab,ab,hx _ (bW ab ab),?_,?_⟩
    .rw[bw,hlook]
    .rw[kO,hlook];rfl
theorem ag5:aD 228 RE.spec:=aH Tryz.func228 (au (au aE AQ) Y3) SF TG
theorem Me{l:List Rt}{i:Int}(h0:0<=i)(h1:i<l.length):l.take (i+1).toNat=l.take i.toNat++[l.getD i.toNat default]:=by
 have hj:i.toNat<l.length:=ab
 rw[show (i+1).toNat=i.toNat+1 from by omega,uo hj,ce,cF hj,fu]
theorem Ii{m:List Rt}{r:Rt}(h:∀ z∈m,bL z.1 r.1):f6 m r=m++[r]:=by
 rw[f6,List.filter_eq_self.2 (λz hz=>dM (h z hz)),List.filter_eq_nil_iff.2 (λz hz=>by simpa using wD (h z hz))]
theorem IA{m:List Rt}{r e:Rt}(h:bL r.1 e.1):f6 (m++[e]) r=f6 m r++[e]:=by
 rw[f6,f6,qG,qG,List.filter_cons,af (by simpa using wD h),List.filter_cons,am (by simpa using h)]
 simp
theorem KE{m:List Rt}{r e:Rt}(h:∀ z∈m,bL z.1 r.1)(he:e.1=r.1):f6 (m++[e]) r=m++[r]:=by
 have hi:¬ bL e.1 r.1:=by rw[he];exact o7 _
 have hj:¬ bL r.1 e.1:=by rw[he];exact o7 _
 have f1:m.filter (λa=>decide (bL a.1 r.1))=m:=List.filter_eq_self.2 (λz hz=>dM (h z hz))
 have f2:m.filter (λa=>decide (bL r.1 a.1))=[]:=List.filter_eq_nil_iff.2 (λz hz=>by simpa using wD (h z hz))
 simp[f6,f1,f2,hi,hj]
theorem later{l:List Rt}{p:d8}{i:Int}(hs:cK l)(h0:0<=i)(h1:i<l.length){z:Rt}(hz:z∈l.take i.toNat)(hp:¬ bL z.1 p):bL p (l.getD i.toNat default).1:=by
 have hsp:=Rs h0 h1
 unfold cK at hs
 rw[hsp] at hs
 have:=(List.pairwise_append.1 hs).2.2 z hz _ fF
 rcases EM hp with e|h
 .rw[← e];exact this
 .exact Bc h this
def O9:Ct:=⟨[.val (.sl cJ),.agg cJ],[.own 93 cJ],λd=>[cK d.1,okL d.1,(d.2.1.2.1.length:Int)<=1099511627776],λd=>((f6 d.1 d.2.1,()),())⟩
def aH8:bu O9.ps->bS:=(λd=>{loops:=(bm 4 (λS=>{ι:=Int×Bool×(List Rt),qn:=qU,μ:=λi=>(d.1.length-i.1).toNat,inv:=λi=>0<=i.1/\i.1<=d.1.length/\(i.2.2.length:Int)<=i.1+1/\(i.2.1=false->(∀ z∈d.1.take i.1.toNat,bL z.1 d.2.1.1)/\i.2.2=d.1.take i.1.toNat)/\(i.2.1=true->(∃ z∈d.1.take i.1.toNat,¬ bL z.1 d.2.1.1)/\i.2.2=f6 (d.1.take i.1.toNat) d.2.1),keep:=[0,3],slots:=λi=>[(5,.own 524288 4),(6,.bool i.2.1),(7,.int .i64 i.1)],keepN:=[64],names:=λi=>[(524288,.live (.row 93 cJ i.2.2))]}) ci)})
def BK(a:List aG)(b c:Int)(d:ad)(e j:Int)(k:Bool)(l:List Rt) :=
 0<=j/\j<=(ac a)/\(ac l)<=j+1/\(k=false->(∀(m:aG),m∈take j.toNat a->bL m.1 (b,c))/\l=take j.toNat a)/\(k=true->(∃(m:aG),m∈take j.toNat a/\ ¬bL m.1 (b,c))/\l=f6 (take j.toNat a) ((b,c),d,e))
def Iz(a:List aG)(b c:Int)(d:ad)(e f:Int)(g:Bool)(h:List Rt) :=
 f<=(ac a)/\(ac h)<=f+1/\(g=false->(∀(i:aG),i∈take f.toNat a->bL i.1 (b,c))/\h=take f.toNat a)/\(g=true->(∃(i:aG),i∈take f.toNat a/\ ¬bL i.1 (b,c))/\h=f6 (take f.toNat a) ((b,c),d,e))
theorem aD3 :
 ∀(a:List aG)(b c:Int)(d:ad)(e:Int),(C0 a)/\(((0<=b/\b<=4294967295)/\aj c)/\(d.length<=maxLen/\ ∀(f:Int),f∈d->aj f)/\aj e)/\True->cK a/\okL a/\(ac d)<=1099511627776->(∃(f:Int) (g:Bool),∃(h:List Rt),(0<=f/\(Iz a b c d e f g h))/\a=a/\false=g/\0=f/\b=b/\c=c/\d=d/\e=e/\h=([]:List aG)/\True)/\ ∀(f:Int)(g:Bool)(h:List Rt),0<=f/\(Iz a b c d e f g h)->ao (decide (f<(ac a))) (0<=f/\f<(ac a)/\ ∀(i:Bool),i=decide (0<=gD (ah a f).1 (b,c))->(ae i)/\(aq i)/\ao (bif i then ! g else false) ((ac d)<=1099511627776/\(h.length+length [((b,c),d,e)])*(48:Nat)<=(pv)/\ao (! decide (gD (ah a f).1 (b,c)=0)) (0<=f/\f<(ac a)/\((length (ah a f).2.1):Int)<=1099511627776/\(length (h++[((b,c),d,e)])+length [ah a f])*(48:Nat)<=(pv)/\ ∃(j:Int) (k:Bool),∃(l:List Rt),(BK a b c d e j k l)/\toNat ((ac a) -j)<toNat ((ac a)
 -f)/\a=a/\true=k/\ai (f+1)=j/\b=b/\c=c/\d=d/\e=e/\h++[((b,c),d,e)]++[ah a f]=l/\True) (∃(j:Int) (k:Bool),∃(l:List Rt),(BK a b c d e j k l)/\toNat ((ac a) -j)<toNat ((ac a) -f)/\a=a/\true=k/\ai (f+1)=j/\b=b/\c=c/\d=d/\e=e/\h++[((b,c),d,e)]=l/\True)) (ao (! decide (gD (ah a f).1 (b,c)=0)) (0<=f/\f<(ac a)/\((length (ah a f).2.1):Int)<=1099511627776/\(h.length+length [ah a f])*(48:Nat)<=(pv)/\ ∃(j:Int) (k:Bool),∃(l:List Rt),(BK a b c d e j k l)/\toNat ((ac a) -j)<toNat ((ac a) -f)/\a=a/\g=k/\ai (f+1)=j/\b=b/\c=c/\d=d/\e=e/\h++[ah a f]=l/\True) (∃(j:Int) (k:Bool),∃(l:List Rt),(BK a b c d e j k l)/\toNat ((ac a) -j)<toNat ((ac a) -f)/\a=a/\g=k/\ai (f+1)=j/\b=b/\c=c/\d=d/\e=e/\h=l/\True))) (ao (! g) ((ac d)<=1099511627776/\(h.length+length [((b,c),d,e)])*(48:Nat)<=(pv)/\h++[((b,c),d,e)]=f6 a ((b,c),d,e)) (h=f6 a
 ((b,c),d,e))):=by
  delta BK C0 Iz pv ae aq ai ah ac;rintro l a n nx b ⟨⟨hl0,-⟩,-⟩⟨hs,⟨hl,hx⟩,hn⟩;refine⟨⟨0,false,[],⟨ab,ab,aC,λ_=>aC,λh=>by simp at h⟩,aM⟩,?_⟩;rintro i dn ys ⟨h0,h1,h2,h3,h4⟩;refine bt (λhi=>?_) (λhi=>?_)
  .have ht:=Me h0 hi;have hxi:=hx _ (bW h0 hi);have hlt:∀(z:Rt),z∈l.take i.toNat->z∈l.take (i+1).toNat:=λz hz=>by rw[ht];exact g7 _ hz
   have hsi:l.getD i.toNat default∈l.take (i+1).toNat:=by rw[ht];simp[-List.getD_eq_getElem?_getD,-Int.default_eq_zero]
   have hlater:=λz hz hp=>later (p:=(a,n)) (z:=z) hs h0 hi hz hp;generalize l.getD i.toNat default=e at *;refine⟨h0,hi,?_⟩
   (repeat (refine bO ?_;repeat refine bP ?_));refine av (λhc=>?_) (λhc=>?_)
   .have hq:¬ bL e.1 (a,n)/\dn=false:=by rw[← Jt];simpa[db] using hc
    clear hc;obtain⟨hc,rfl⟩:=hq;obtain⟨k1,rfl⟩:=h3 rfl;refine⟨hn,by simp only[eU];omega,av (λhz=>?_) (λhz=>?_)⟩
    .have hz:¬ gD e.1 (a,n)=0:=by simpa using hz
     have hgt:bL (a,n) e.1:=by
      rcases EM hc with h|h
      .exact absurd (Ec.2 h) hz
      .exact h
     refine⟨h0,hi,hxi,by simp only[cD,eU];omega,i+1,true,_,⟨ab,ab,?_,aC,λ_=>⟨⟨e,hsi,hc⟩,rfl⟩⟩,ab,rfl,rfl,aQ ab ab,rfl,rfl,rfl,rfl,?_,bv⟩
     .rw[ht,IA hgt,Ii k1];simp only[cD,eU,cW];omega
     .rw[ht,IA hgt,Ii k1]
    .have hz:gD e.1 (a,n)=0:=by simpa using hz
     have hz:=Ec.1 hz;refine⟨i+1,true,_,⟨ab,ab,?_,aC,λ_=>⟨⟨e,hsi,hc⟩,rfl⟩⟩,ab,rfl,rfl,aQ ab ab,rfl,rfl,rfl,rfl,?_,bv⟩
     .rw[ht,KE k1 hz];simp only[cD,eU,cW];omega
     .rw[ht,KE k1 hz]
   .have hc:¬ (¬ bL e.1 (a,n)/\dn=false):=by rw[← Jt];simpa[db] using hc
    cases dn with
    | false =>
     have hc:bL e.1 (a,n):=gC λh=>hc ⟨h,rfl⟩;obtain⟨k1,rfl⟩:=h3 rfl;have hz:¬ gD e.1 (a,n)=0:=by have:=z9.2 hc;omega
     rw[dw hz];refine⟨h0,hi,hxi,by simp only[eU];omega,i+1,false,_,⟨ab,ab,?_,λ_=>⟨?_,rfl⟩,aC⟩,ab,rfl,rfl,aQ ab ab,rfl,rfl,rfl,rfl,ht.symm,bv⟩
     .simp only[cW];omega
     .rw[ht];intro z hz;rcases dH.1 hz with hz|hz
      .exact k1 z hz
      .rw[jR.1 hz];exact hc
    | true =>
     obtain⟨⟨z,z1,z2⟩,rfl⟩:=h4 rfl;have hgt:=hlater z z1 z2;have hz:¬ gD e.1 (a,n)=0:=λh=>by have h:=Ec.1 h;rw[h] at hgt;exact o7 _ hgt
     rw[dw hz];have hp:=IA (m:=l.take i.toNat) (r:=((a,n),nx,b)) hgt;refine⟨h0,hi,hxi,by simp only[eU];omega,i+1,true,_,⟨ab,ab,?_,aC,λ_=>⟨⟨z,hlt z z1,z2⟩,rfl⟩⟩,ab,rfl,rfl,aQ ab ab,rfl,rfl,rfl,rfl,?_,bv⟩
     .rw[ht,hp,cD,eU];omega
     .rw[ht,hp]
  .rw[dm ab] at h3 h4;refine av (λhd=>?_) (λhd=>?_)
   .obtain⟨k1,rfl⟩:=h3 (by simpa using hd);exact⟨hn,by simp only[eU];omega,(Ii k1).symm⟩
   .exact (h4 (by simpa using hd)).2
theorem PE:aD 163 O9.spec:=aH Tryz.func163 (au (au aE AQ) MD) aH8 aD3
theorem Sl{m:List Rt}{p:d8}{e:Rt}:jl (m++[e]) p=jl m p++(if e.1=p then [] else [e]):=by
 rw[jl,jl,qG,List.filter_cons,List.filter_nil]
 by_cases h:e.1=p <;> simp[h]
theorem OL(m:List Rt)(p:d8):(jl m p).length<=m.length:=List.length_filter_le _ _
def Rq:Ct:=⟨[.val (.sl cJ),.agg kW],[.own 93 cJ],λd=>[okL d.1],λd=>((jl d.1 d.2.1,()),())⟩
def Xg:bu Rq.ps->bS:=(λd=>{loops:=(bm 3 (λS=>{ι:=Int×(List Rt),qn:=fj,μ:=λi=>(d.1.length-i.1).toNat,inv:=λi=>0<=i.1/\i.1<=d.1.length/\i.2=jl (d.1.take i.1.toNat) d.2.1,keep:=[0,3],slots:=λi=>[(5,.own 524288 4),(6,.int .i64 i.1)],keepN:=[64],names:=λi=>[(524288,.live (.row 93 cJ i.2))]}) ci)})
theorem Ww :
 ∀(a:List aG)(b c:Int),(tv a)/\((0<=b/\b<=4294967295)/\aj c)/\True->(zQ a)->(∃(d:Int) (e:List Rt),(0<=d/\d<=(ac a)/\e=jl (take d.toNat a) (b,c))/\a=a/\0=d/\b=b/\c=c/\e=([]:List aG)/\True)/\ ∀(d:Int)(e:List Rt),0<=d/\d<=(ac a)/\e=jl (take d.toNat a) (b,c)->ao (decide (d<(ac a))) (0<=d/\d<(ac a)/\ao (! (decide ((ah a d).1.1=b)&&(decide ((ah a d).1.2=c)&&true))) (0<=d/\d<(ac a)/\((length (ah a d).2.1):Int)<=1099511627776/\(e.length+length [ah a d])*(48:Nat)<=(pv)/\ ∃(f:Int) (g:List Rt),(0<=f/\f<=(ac a)/\g=jl (take f.toNat a) (b,c))/\toNat ((ac a) -f)<toNat ((ac a) -d)/\a=a/\ai (d+1)=f/\b=b/\c=c/\e++[ah a d]=g/\True) (∃(f:Int) (g:List Rt),(0<=f/\f<=(ac a)/\g=jl (take f.toNat a) (b,c))/\toNat ((ac a) -f)<toNat ((ac a) -d)/\a=a/\ai (d+1)=f/\b=b/\c=c/\e=g/\True)) (e=jl a (b,c)):=by
  delta tv zQ pv ai ah ac;rintro l a n ⟨⟨hl0,-⟩,-⟩⟨hl,hx⟩;refine⟨⟨0,[],⟨ab,ab,by simp[jl]⟩,aM⟩,?_⟩;rintro i ys ⟨h0,h1,rfl⟩;refine bt (λhi=>?_) (λhi=>?_)
  .have ht:=Me h0 hi;have hxi:=hx _ (bW h0 hi);have hle:=OL (l.take i.toNat) (a,n);have hle2:(l.take i.toNat).length<=l.length:=by simp only[cW];omega
   generalize l.getD i.toNat default=e at *;obtain⟨⟨c,f⟩,g⟩:=e;refine⟨h0,hi,av (λhc=>?_) (λhc=>?_)⟩
   .have hc:¬ (c,f)=(a,n):=by
     intro h;cases h;simp at hc
    refine⟨h0,hi,hxi,by simp only[eU];omega,i+1,_,⟨ab,ab,rfl⟩,ab,rfl,aQ ab ab,rfl,rfl,?_,bv⟩;rw[ht,Sl,af hc]
   .have hc:(c,f)=(a,n):=by
     simp at hc;rw[hc.1,hc.2]
    refine⟨i+1,_,⟨ab,ab,rfl⟩,ab,rfl,aQ ab ab,rfl,rfl,?_,bv⟩;rw[ht,Sl,am hc,ke]
  .rw[dm ab]
theorem Od:aD 174 Rq.spec:=aH Tryz.func174 (au aE AQ) Xg Ww
def mz(l:List Rt)(p:d8):Bool:=decide ((jl l p).length<l.length)
def Yy:Ct:=⟨[.val (.sl cJ),.agg kW],[.val .bool],λd=>[okL d.1],λd=>((mz d.1 d.2.1,()),())⟩
theorem WE :
 ∀(a:List aG)(b c:Int),(tv a)/\((0<=b/\b<=4294967295)/\aj c)/\True->(zQ a)->okL a/\decide (((length (jl a (b,c))):Int)<(ac a))=mz a (b,c):=by
  delta tv zQ ac;rintro l a n-h;exact⟨h,decide_eq_decide.2 Int.ofNat_lt⟩
theorem PJ:aD 114 Yy.spec:=aH Tryz.func114 (au aE Od) aR WE
theorem GA{α:Type} [Inhabited α] {l m:List α} {i:Int} (h0:0<=i) (h1:i<l.length) (h2:i<m.length) (h:l.take i.toNat=m.take i.toNat) (he:l.getD i.toNat default=m.getD i.toNat default):l.take (i+1).toNat=m.take (i+1).toNat:=by
 have hj:i.toNat<l.length:=ab
 have hk:i.toNat<m.length:=ab
 rw[ce,cF hj,fu,ce,cF hk,fu] at he
 rw[show (i+1).toNat=i.toNat+1 from by omega,uo hj,uo hk,h,he]
def Rh:Ct:=⟨[.agg cJ,.agg cJ],[.val .bool],λd=>[],λd=>((decide (d.1=d.2.1),()),())⟩
def ah2:bu Rh.ps->bS:=(λd=>{loops:=(bm 4 (λS=>{ι:=Int,μ:=λi=>(d.1.2.1.length-i).toNat,inv:=λi=>0<=i/\i<=d.1.2.1.length/\d.1.2.1.take i.toNat=d.2.1.2.1.take i.toNat,keep:=[2,3],slots:=λi=>[(5,.int .i64 i)],keepN:=[48,64]}) ci)})
theorem aW6 :
 ∀(a b:Int)(c:ad)(d e f:Int)(g:ad)(h:Int),(((0<=a/\a<=4294967295)/\aj b)/\(c.length<=maxLen/\ ∀(i:Int),i∈c->aj i)/\aj d)/\(((0<=e/\e<=4294967295)/\aj f)/\(g.length<=maxLen/\ ∀(i:Int),i∈g->aj i)/\aj h)/\True->True-> ∀(i:Bool),i= ! (decide (a=e)&&(decide (b=f)&&true))->(ae (! i))/\(ae (! i))/\((! i)->(aq (! i))/\(aq (! i))/\True)/\(aF i)/\ ∀(j:Bool),(j=bif i then true else ! decide (d=h))->(ae (! j))/\(ae (! j))/\(ae (! j))/\(ae (! j))/\((! j)->(aq (! j))/\(aq (! j))/\True)/\(aF j)/\ao (bif j then true else ! decide ((ac c)=(ac g))) (false=decide (((a,b),c,d)=((e,f),g,h))) ((∃(k:Int),(0<=k/\k<=(ac c)/\take k.toNat c=take k.toNat g)/\0=k/\a=a/\b=b/\c=c/\d=d/\e=e/\f=f/\g=g/\h=h/\True)/\ ∀(k:Int),0<=k/\k<=(ac c)/\take k.toNat c=take k.toNat g->ao (decide (k<(ac c))) (0<=k/\k<(ac c)/\0<=k/\k<(ac g)/\ao (! decide (ah c k=ah g k))
 (false=decide (((a,b),c,d)=((e,f),g,h))) (∃(l:Int),(0<=l/\l<=(ac c)/\take l.toNat c=take l.toNat g)/\toNat ((ac c) -l)<toNat ((ac c) -k)/\ai (k+1)=l/\a=a/\b=b/\c=c/\d=d/\e=e/\f=f/\g=g/\h=h/\True)) (true=decide (((a,b),c,d)=((e,f),g,h)))):=by
  delta ae aq aF ai ah ac;rintro a n nx b c m ny e ⟨⟨-,⟨hl,-⟩,-⟩,⟨-,⟨hm,-⟩,-⟩,-⟩ -;simp only[maxLen] at hl hm
  (repeat (refine bO ?_;repeat refine bP ?_));refine av (λhc=>?_) (λhc=>?_)
  .symm;apply dw;intro h;cases h;simp at hc
  .have hc:(a=c/\n=m)/\b=e/\nx.length=ny.length:=by
    simp[db] at hc;omega
   obtain⟨⟨rfl,rfl⟩,rfl,hlen⟩:=hc;refine⟨⟨0,⟨ab,ab,aC⟩,aM⟩,?_⟩;rintro i ⟨h0,h1,h2⟩;refine bt (λhi=>?_) (λhi=>?_)
   .refine⟨h0,hi,h0,ab,av (λhq=>?_) (λhq=>?_)⟩
    .symm;apply dw;intro h;cases h;simp at hq
    .simp only[rT,jz] at hq;refine⟨i+1,⟨ab,ab,?_⟩,ab,aM⟩;exact GA h0 hi ab h2 hq
   .rw[dm ab,dm ab] at h2;symm;apply dM;rw[h2]
theorem aO1:aD 187 Rh.spec:=aH Tryz.func187 aE ah2 aW6
def Lm:Ct:=⟨[.val (.sl cJ),.val (.sl cJ)],[.val .bool],λd=>[],λd=>((decide (d.1=d.2.1),()),())⟩
def au1:bu Lm.ps->bS:=(λd=>{loops:=(bm 4 (λS=>{ι:=Int,μ:=λi=>(d.1.length-i).toNat,inv:=λi=>0<=i/\i<=d.1.length/\d.1.take i.toNat=d.2.1.take i.toNat,keep:=[0,1],slots:=λi=>[(5,.int .i64 i)]}) ci)})
theorem aa5 :
 ∀(a b:List aG),(rW a)/\(b.length<=maxLen/\ ∀(c:aG),c∈b->(tZ c))/\True->True->ao (! decide ((ac a)=(ac b))) (false=decide (a=b)) ((∃(c:Int),(0<=c/\c<=(ac a)/\take c.toNat a=take c.toNat b)/\a=a/\b=b/\0=c/\True)/\ ∀(c:Int),0<=c/\c<=(ac a)/\take c.toNat a=take c.toNat b->ao (decide (c<(ac a))) (0<=c/\c<(ac a)/\0<=c/\c<(ac b)/\ao (! decide (ah a c=ah b c)) (false=decide (a=b)) (∃(d:Int),(0<=d/\d<=(ac a)/\take d.toNat a=take d.toNat b)/\toNat ((ac a) -d)<toNat ((ac a) -c)/\a=a/\b=b/\ai (c+1)=d/\True)) (true=decide (a=b))):=by
  delta tZ rW ai ah ac;rintro l m ⟨⟨hl,-⟩,⟨hm,-⟩,-⟩ -;simp only[maxLen] at hl hm;refine av (λhc=>?_) (λhc=>?_)
  .symm;apply dw;intro h;cases h;simp at hc
  .have hc:l.length=m.length:=by simp at hc;omega
   refine⟨⟨0,⟨ab,ab,aC⟩,aM⟩,?_⟩;rintro i ⟨h0,h1,h2⟩;refine bt (λhi=>?_) (λhi=>?_)
   .refine⟨h0,hi,h0,ab,av (λhq=>?_) (λhq=>?_)⟩
    .symm;apply dw;intro h;cases h;simp at hq
    .simp only[rT,jz] at hq;refine⟨i+1,⟨ab,ab,?_⟩,ab,aM⟩;exact GA h0 hi ab h2 hq
   .rw[dm ab,dm ab] at h2;symm;apply dM;rw[h2]
theorem YK:aD 134 Lm.spec:=aH Tryz.func134 (au aE aO1) au1 aa5
theorem Sc{l:List Rt}{r z:Rt}:z∈f6 l r↔z=r∨(z∈l/\z.1≠r.1):=by
 unfold f6
 simp only[dH,dj,List.mem_filter,jz]
 constructor
 .rintro (⟨h,k⟩|h|⟨h,k⟩)
  .exact .inr ⟨h,λe=>o7 _ (e▸k)⟩
  .exact .inl h
  .exact .inr ⟨h,λe=>o7 _ (e▸k)⟩
 .rintro (h|⟨h,k⟩)
  .exact .inr (.inl h)
  .by_cases hp:bL z.1 r.1
   .exact .inl ⟨h,hp⟩
   .rcases EM hp with e|e
    .exact absurd e k
    .exact .inr (.inr ⟨h,e⟩)
theorem I4{l:List Rt}{r:Rt}(hs:cK l):cK (f6 l r):=by
 unfold cK f6
 refine List.pairwise_append.2 ⟨List.Pairwise.filter _ hs,List.pairwise_cons.2 ⟨λz hz=>?_,List.Pairwise.filter _ hs⟩,λx hx y hy=>?_⟩
 .simpa using (List.mem_filter.1 hz).2
 .have hx:bL x.1 r.1:=by simpa using (List.mem_filter.1 hx).2
  rcases dj.1 hy with rfl|hy
  .exact hx
  .exact Bc hx (by simpa using (List.mem_filter.1 hy).2)
theorem Rz(l:List Rt)(r:Rt):(f6 l r).length<=l.length+1:=by
 unfold f6
 rw[cD,cQ]
 suffices h:(l.filter (λa=>decide (bL a.1 r.1))).length+(l.filter (λa=>decide (bL r.1 a.1))).length<=l.length by omega
 induction l with
 | nil=>simp
 | cons a l ih =>
  simp only[List.filter_cons];by_cases h1:bL a.1 r.1
  .have h2:=wD h1;simp only[h1,h2,decide_true,decide_false,if_true,cQ];simp;omega
  .by_cases h2:bL r.1 a.1
   .simp[h1,h2];omega
   .simp[h1,h2];omega
theorem YZ(l:List Rt)(p:d8):mz l p=decide (∃ z∈l,z.1=p):=by
 unfold mz jl
 apply decide_eq_decide.2
 rw[List.length_filter_lt_length_iff_exists]
 simp
abbrev w(n:Int):Int:=IntKind.i64.wrap n
def wR(b:Int×Int)(at':Int):Int×Int:=(w (b.1*b.2),at')
def sS(b t:Int×Int)(at':Int):Int:=min (w (t.1+w (at'-t.2))) (w (b.1*b.2))
def gm(b t:Int×Int)(at':Int):(Int×Int)×Bool :=
 if b=(0,0) then ((0,max at' t.2),true) else
  if sS b t (max at' t.2)<b.2 then ((sS b t (max at' t.2),max at' t.2),false) else ((w (sS b t (max at' t.2)-b.2),max at' t.2),true)
def XL:Ct:=⟨[.agg sw],[.val .bool],λ_=>[],λd=>((decide (d.1=(0,0)),()),())⟩
theorem XB :
 ∀(a b:Int),(aj a/\aj b)/\True->True->(decide (a=0)&&(decide (b=0)&&true))=decide ((a,b)=((0:Int),(0:Int))):=by
  rintro x y - -;simp
theorem OZ:aD 240 XL.spec:=aH Tryz.func240 aE aR XB
def Ui:Ct:=⟨[.agg sw,.agg ob,.val cI],[.val cI],λ_=>[],λd=>((sS d.1 d.2.1 d.2.2.1,()),())⟩
theorem aX0 :
 ∀(a b c d e:Int),(aj a/\aj b)/\(aj c/\aj d)/\aj e/\True->True->min (ai (c+ai (e -d))) (ai (a*b))=sS (a,b) (c,d) e:=by
  delta ai;rintro x y a b c - -;rfl
theorem ag7:aD 282 Ui.spec:=aH Tryz.func282 aE aR aX0
def UH:Ct:=⟨[.agg sw,.val cI],[.agg ob],λ_=>[],λd=>((wR d.1 d.2.1,()),())⟩
theorem aX1 :
 ∀(a b c:Int),(aj a/\aj b)/\aj c/\True->True->(ai (a*b),c)=(w (a*b),c):=by
  delta ai;rintro x y a - -;rfl
theorem Ul:aD 107 UH.spec:=aH Tryz.func107 aE aR aX1
def U5:Ct:=⟨[.agg sw,.agg ob,.val cI],[.agg ob,.val .bool],λ_=>[],λd=>(((gm d.1 d.2.1 d.2.2.1).1,(gm d.1 d.2.1 d.2.2.1).2,()),())⟩
theorem Zq :
 ∀(a b c d e:Int),(aj a/\aj b)/\(aj c/\aj d)/\aj e/\True->True->ao (decide ((a,b)=((0:Int),(0:Int)))) (((0:Int),max e d)=(gm (a,b) (c,d) e).1/\true=(gm (a,b) (c,d) e).2) (ao (decide (sS (a,b) (c,d) (max e d)<b)) ((sS (a,b) (c,d) (max e d),max e d)=(gm (a,b) (c,d) e).1/\false=(gm (a,b) (c,d) e).2) ((ai (sS (a,b) (c,d) (max e d) -b),max e d)=(gm (a,b) (c,d) e).1/\true=(gm (a,b) (c,d) e).2)):=by
  delta ai;rintro x y a b c - -;simp only[gm];refine bt (λhb=>?_) (λhb=>?_)
  .rw[am hb];exact⟨rfl,rfl⟩
  .rw[af hb];refine bt (λh=>?_) (λh=>?_)
   .rw[am h];exact⟨rfl,rfl⟩
   .rw[af h];exact⟨rfl,rfl⟩
theorem Kg:aD 271 U5.spec:=aH Tryz.func271 (au (au aE OZ) ag7) aR Zq
def Mf(up:Bool)(l:ad):Prop:=l.length<=39/\(∀ x∈l,0<=x/\x<=8000)/\(up=true->l.Pairwise (· ≤ ·))
def gu(b:Int×Int):Int:=if b=(0,0)∨(1<=b.1/\b.1<=65536/\1<=b.2/\b.2<=1073741824) then 0 else 1
def bq(x:ar):ad:=(aA x).map (·.2)
def lL(x:ar):ad:=(aA x).map (·.1)
def iy(q:Int×Int->Bool)(l:List (Int×Int)):Int:=if l.findIdx q<l.length then (l.findIdx q:Int) else -1
def gZ(a:Int)(p:Int×Int):Bool:=decide (p.1=a)
def iq(k:Int)(p:Int×Int):Bool:=decide (p.2=k)
def jo(x:ar)(a:Int):Int:=iy (gZ a) (aA x)
def cG(x:ar)(k:Int):Int:=iy (iq k) (aA x)
def fH(x:ar)(a:Int):Bool:=decide (0<=jo x a)||(!decide (fM x=0)&&decide (fM x=a))
theorem uM{α:Type} [Inhabited α] {l:List α} {k:Int} (h0:0<=k) (h1:k<l.length):l.take (k+1).toNat=l.take k.toNat++[l.getD k.toNat default]:=by
 rw[show (k+1).toNat=k.toNat+1 by omega,List.take_add_one,cF ab,ce,cF ab];rfl
def aj9:Ct:=⟨[.agg sw],[.val cI],λ_=>[],λd=>((gu d.1,()),())⟩
theorem au8 :
 ∀(a b:Int),(aj a/\aj b)/\True->True-> ∀(c:Bool),c= ! decide ((a,b)=((0:Int),(0:Int)))->(ae c)/\(ae c)/\(ae c)/\ ∀(d:Bool),d=decide (a<1)->(ae (c&& ! d))/\(ae (c&& ! d))/\(c->(aq c)/\(d=false->(c&& ! d))/\True)/\(ae c)/\ ∀(e:Bool),(e=bif d then true else decide (65536<a))->(ae (c&& ! e))/\(ae (c&& ! e))/\(c->(aq c)/\(e=false->(c&& ! e))/\True)/\(ae c)/\ ∀(f:Bool),(f=bif e then true else decide (b<1))->(ae (c&& ! f))/\(ae (c&& ! f))/\(c->(aq c)/\(f=false->(c&& ! f))/\True)/\(aq c)/\ao (bif c then bif f then true else decide (1073741824<b) else false) (1=gu (a,b)) (0=gu (a,b)):=by
  delta ae aq;rintro a b - -
  (repeat (refine bO ?_;repeat refine bP ?_));unfold gu;refine av (λh=>?_) (λh=>?_)
  .simp at h;rw[af (by simp;omega)]
  .simp at h;rw[am (by simp;omega)]
theorem aq5:aD 211 aj9.spec:=aH Tryz.func211 (au aE OZ) aR au8
def aK9:Ct:=⟨[.agg sw],[.val cI],λ_=>[],λd=>((gu d.1,()),())⟩
theorem aZ2 :
 ∀(a b:Int),(aj a/\aj b)/\True->True-> ∀(c:Bool),c=(decide (a=0)&&(decide (b=0)&&true))->(ae (! c))/\(ae (! c))/\(ae (! c))/\ ∀(d:Bool),d=decide (1<=a)->(ae (! c&&d))/\(ae (! c&&d))/\((! c)->(aq (! c))/\(d->(! c&&d))/\True)/\(ae (! c))/\ ∀(e:Bool),(e=bif d then decide (a<=65536) else false)->(ae (! c&&e))/\(ae (! c&&e))/\((! c)->(aq (! c))/\(e->(! c&&e))/\True)/\(ae (! c))/\ ∀(f:Bool),(f=bif e then decide (1<=b) else false)->(ae (! c&&f))/\(ae (! c&&f))/\((! c)->(aq (! c))/\(f->(! c&&f))/\True)/\(aF c)/\ao (bif c then true else bif f then decide (b<=1073741824) else false) (0=gu (a,b)) (1=gu (a,b)):=by
  delta ae aq aF;rintro a b - -
  (repeat (intro (b_:Bool) (hb_:b_=_);(repeat refine⟨(by first|(simp;done)|(rw[hb_];simp;done)|(rw[hb_];simp;omega)|(rw[hb_];simp;intros;omega)|(rw[hb_];simp +contextual;done)),?_⟩);subst hb_));unfold gu;refine⟨by intro h;rw[h];rfl,?_⟩;refine av (λh=>?_) (λh=>?_)
  .simp at h;rw[am (by simp;omega)]
  .simp at h;rw[af (by simp;omega)]
theorem aF2:aD 111 aK9.spec:=aH Tryz.func111 aE aR aZ2
def SA:Ct:=⟨[.val cy],[.val .bool],λd=>[],λd=>((decide (fq d.1),()),())⟩
theorem aT3 :
 ∀(a:Int),(0<=a/\a<=4294967295)/\True->True-> ∀(b:Bool),b=decide (fE a=0)->(ae (! b))/\(aF b)/\(bif b then true else decide (fE a=3))=decide (fq a):=by
  delta ae aF;rintro a - -
  (repeat (refine bO ?_;repeat refine bP ?_));rw[sY,ng];simp[fq,db]
theorem Ta:aD 209 SA.spec:=aH Tryz.func209 (au aE MX) aR aT3
def Te:Ct:=⟨[.agg su,.box 58 cy],[.val .bool],λd=>[],λd=>((gZ d.2.1 d.1,()),(d.2.1,()))⟩
theorem aF8 :
 ∀(a b c:Int),((0<=a/\a<=4294967295)/\aj b)/\(0<=c/\c<=4294967295)/\True->True->decide (a=c)=gZ c (a,b)/\c=c:=by
  rintro a b c - -;exact⟨rfl,rfl⟩
theorem aZ4:aD 202 Te.spec:=aH Tryz.func202 aE aR aF8
def aN3:Ct:=⟨[.agg su,.box 3 cI],[.val .bool],λd=>[],λd=>((iq d.2.1 d.1,()),(d.2.1,()))⟩
theorem aJ2 :
 ∀(a b c:Int),((0<=a/\a<=4294967295)/\aj b)/\aj c/\True->True->decide (b=c)=iq c (a,b)/\c=c:=by
  rintro a b c - -;exact⟨rfl,rfl⟩
theorem aY0:aD 156 aN3.spec:=aH Tryz.func156 aE aR aJ2
def Mj:Ct:=⟨[.val (.sl su),.fn 202 1,.box 58 cy],[.val cI],λd=>[],λd=>((iy (gZ d.2.2.1) d.1,()),(d.2.2.1,()))⟩
def VH:bu Mj.ps->bS:=(λd=>{loops:=(bm 2 (λS=>{ι:=Int,μ:=λi=>(d.1.length-i).toNat,inv:=λi=>0<=i/\i<=d.1.length∧∀ x∈d.1.take i.toNat,gZ d.2.2.1 x=false,keep:=[0,1,6,7],slots:=λi=>[(8,.int .i64 i)],keepN:=[1048576]}) ci)})
theorem Yo :
 ∀(a:List (Int×Int))(b:Int),(a.length<=maxLen/\ ∀(c:Int×Int),c∈a->(0<=c.1/\c.1<=4294967295)/\aj c.2)/\True/\(0<=b/\b<=4294967295)/\True->True->(∃(c:Int),(0<=c/\c<=(ac a)/\ ∀(d:Int×Int),d∈take c.toNat a->gZ b d=false)/\a=a/\a=a/\(ac a)=(ac a)/\0=c/\b=b/\True)/\ ∀(c:Int),(0<=c/\c<=(ac a)/\ ∀(d:Int×Int),d∈take c.toNat a->gZ b d=false)->ao (decide (c<(ac a))) (0<=c/\c<(ac a)/\ao (gZ b (ah a c)) (c=iy (gZ b) a/\b=b) (∃(d:Int),(0<=d/\d<=(ac a)/\ ∀(e:Int×Int),e∈take d.toNat a->gZ b e=false)/\toNat ((ac a) -d)<toNat ((ac a) -c)/\a=a/\a=a/\(ac a)=(ac a)/\ai (c+1)=d/\b=b/\True)) (-1=iy (gZ b) a/\b=b):=by
  delta ai ah ac;rintro l a ⟨⟨hl,-⟩,-⟩ -;simp only[maxLen] at hl;refine⟨⟨0,⟨ab,ab,aC⟩,aM⟩,?_⟩;rintro j ⟨j0,j1,hj⟩;refine bt (λhk=>?_) (λhk=>?_)
  .refine⟨j0,hk,av (λhm=>?_) (λhm=>?_)⟩
   .exact⟨xY j0 hk hj hm,rfl⟩
   .exact⟨j+1,⟨ab,ab,nY j0 hk hj hm⟩,ab,aM⟩
  .exact⟨zO hk hj,rfl⟩
theorem aB7:aD 155 Mj.spec:=aH Tryz.func155 (au aE aZ4) VH Yo
def Ol:Ct:=⟨[.val (.sl su),.fn 156 1,.box 3 cI],[.val cI],λd=>[],λd=>((iy (iq d.2.2.1) d.1,()),(d.2.2.1,()))⟩
def ag8:bu Ol.ps->bS:=(λd=>{loops:=(bm 2 (λS=>{ι:=Int,μ:=λi=>(d.1.length-i).toNat,inv:=λi=>0<=i/\i<=d.1.length∧∀ x∈d.1.take i.toNat,iq d.2.2.1 x=false,keep:=[0,1,6,7],slots:=λi=>[(8,.int .i64 i)],keepN:=[1048576]}) ci)})
theorem ZS :
 ∀(a:List (Int×Int))(b:Int),(a.length<=maxLen/\ ∀(c:Int×Int),c∈a->(0<=c.1/\c.1<=4294967295)/\aj c.2)/\True/\aj b/\True->True->(∃(c:Int),(0<=c/\c<=(ac a)/\ ∀(d:Int×Int),d∈take c.toNat a->iq b d=false)/\a=a/\a=a/\(ac a)=(ac a)/\0=c/\b=b/\True)/\ ∀(c:Int),(0<=c/\c<=(ac a)/\ ∀(d:Int×Int),d∈take c.toNat a->iq b d=false)->ao (decide (c<(ac a))) (0<=c/\c<(ac a)/\ao (iq b (ah a c)) (c=iy (iq b) a/\b=b) (∃(d:Int),(0<=d/\d<=(ac a)/\ ∀(e:Int×Int),e∈take d.toNat a->iq b e=false)/\toNat ((ac a) -d)<toNat ((ac a) -c)/\a=a/\a=a/\(ac a)=(ac a)/\ai (c+1)=d/\b=b/\True)) (-1=iy (iq b) a/\b=b):=by
  delta ai ah ac;rintro l a ⟨⟨hl,-⟩,-⟩ -;simp only[maxLen] at hl;refine⟨⟨0,⟨ab,ab,aC⟩,aM⟩,?_⟩;rintro j ⟨j0,j1,hj⟩;refine bt (λhk=>?_) (λhk=>?_)
  .refine⟨j0,hk,av (λhm=>?_) (λhm=>?_)⟩
   .exact⟨xY j0 hk hj hm,rfl⟩
   .exact⟨j+1,⟨ab,ab,nY j0 hk hj hm⟩,ab,aM⟩
  .exact⟨zO hk hj,rfl⟩
theorem Yc:aD 155 Ol.spec:=aH Tryz.func155 (au aE aY0) ag8 ZS
def Sw:Ct:=⟨[.agg bN,.val cy],[.val cI],λd=>[],λd=>((jo d.1 d.2.1,()),())⟩
theorem WO :
 ∀(a:ar)(b:Int),CT.wf bN a/\(0<=b/\b<=4294967295)/\True->True->iy (gZ b) a.1=jo a b:=by
  rintro d x - -;rfl
theorem RT:aD 153 Sw.spec:=aH Tryz.func153 (au aE aB7) aR WO
def Uz:Ct:=⟨[.agg bN,.val cI],[.val cI],λd=>[],λd=>((cG d.1 d.2.1,()),())⟩
theorem aR8 :
 ∀(a:ar)(b:Int),CT.wf bN a/\aj b/\True->True->iy (iq b) a.1=cG a b:=by
  rintro d x - -;rfl
theorem C9:aD 83 Uz.spec:=aH Tryz.func83 (au aE Yc) aR aR8
def SP:Ct:=⟨[.agg bN,.val cy],[.val .bool],λd=>[],λd=>((fH d.1 d.2.1,()),())⟩
theorem aT6 :
 ∀(a:ar)(b:Int),CT.wf bN a/\(0<=b/\b<=4294967295)/\True->True-> ∀(c:Int),c=jo a b-> ∀(d:Bool),d=decide (0<=c)->(ae (! d))/\(ae (! d))/\(ae (! d))/\ ∀(e:Bool),e= ! decide (a.2.1=0)->(ae (! d&&e))/\((! d&&e)->(aq (! d&&e))/\(aq (! d&&e))/\True)/\((! d)->(aq (! d))/\(e->(! d&&e))/\True)/\(aF d)/\(bif d then true else bif e then decide (a.2.1=b) else false)=fH a b:=by
  delta ae aq aF;rintro d x - - q hq;unfold fH;rw[show fM d=d.2.1 from rfl,← hq];generalize d.2.1=z;intro b hb;refine⟨aC,aC,aC,?_⟩;intro b1 hb1
  (repeat refine⟨(by cases b <;> cases b1 <;> simp),?_⟩);rw[hb,hb1];cases decide (0<=q) <;> cases decide (z=0) <;> cases decide (z=x) <;> rfl
theorem UJ:aD 78 SP.spec:=aH Tryz.func78 (au aE (Ct.named RT)) aR aT6
def ML:Ct:=⟨[.agg bN],[.own 3 cI],λd=>[(aA d.1).length<=100000],λd=>((bq d.1,()),())⟩
def Vs:bu ML.ps->bS:=(λd=>{loops:=(bm 3 (λS=>{ι:=Int×ad,qn:=fj,μ:=λi=>((aA d.1).length-i.1).toNat,inv:=λi=>0<=i.1/\i.1<=(aA d.1).length/\i.2=(bq d.1).take i.1.toNat,keep:=[1,7,8],slots:=λi=>[(3,.own 524288 1),(9,.int .i64 i.1)],keepN:=[32],names:=λi=>[(524288,.live (.row 3 cI i.2))]}) ci)})
def ym(a:ar) :=
 ((length (aA a)):Int)
theorem Ys :
 ∀(a:ar),CT.wf bN a/\True->length (aA a)<=(100000:Nat)->(∃(b:Int) (c:ad),(0<=b/\b<=(ym a)/\c=take b.toNat (bq a))/\a.1=a.1/\(ac a.1)=(ac a.1)/\0=b/\a.1=a.1/\a.2.1=a.2.1/\a.2.2.1=a.2.2.1/\a.2.2.2.1=a.2.2.2.1/\a.2.2.2.2.1=a.2.2.2.2.1/\a.2.2.2.2.2.1=a.2.2.2.2.2.1/\a.2.2.2.2.2.2.1=a.2.2.2.2.2.2.1/\a.2.2.2.2.2.2.2.1=a.2.2.2.2.2.2.2.1/\a.2.2.2.2.2.2.2.2.1=a.2.2.2.2.2.2.2.2.1/\a.2.2.2.2.2.2.2.2.2.1=a.2.2.2.2.2.2.2.2.2.1/\a.2.2.2.2.2.2.2.2.2.2.1.1=a.2.2.2.2.2.2.2.2.2.2.1.1/\a.2.2.2.2.2.2.2.2.2.2.1.2=a.2.2.2.2.2.2.2.2.2.2.1.2/\a.2.2.2.2.2.2.2.2.2.2.2.1=a.2.2.2.2.2.2.2.2.2.2.2.1/\a.2.2.2.2.2.2.2.2.2.2.2.2.1=a.2.2.2.2.2.2.2.2.2.2.2.2.1/\a.2.2.2.2.2.2.2.2.2.2.2.2.2.1=a.2.2.2.2.2.2.2.2.2.2.2.2.2.1/\a.2.2.2.2.2.2.2.2.2.2.2.2.2.2=a.2.2.2.2.2.2.2.2.2.2.2.2.2.2/\c=([]:ad)/\True)/\ ∀(b:Int)(c:ad),0<=b/\b<=(ym a)/\c=take b.toNat (bq a)->ao (decide
 (b<(ac a.1))) (0<=b/\b<(ac a.1)/\(c.length+length [(getD a.1 b.toNat default).2])*(8:Nat)<=(140737488355328:Nat)/\ ∃(d:Int) (e:ad),(0<=d/\d<=(ym a)/\e=take d.toNat (bq a))/\toNat ((ym a) -d)<toNat ((ym a) -b)/\a.1=a.1/\(ac a.1)=(ac a.1)/\ai
 (b+1)=d/\a.1=a.1/\a.2.1=a.2.1/\a.2.2.1=a.2.2.1/\a.2.2.2.1=a.2.2.2.1/\a.2.2.2.2.1=a.2.2.2.2.1/\a.2.2.2.2.2.1=a.2.2.2.2.2.1/\a.2.2.2.2.2.2.1=a.2.2.2.2.2.2.1/\a.2.2.2.2.2.2.2.1=a.2.2.2.2.2.2.2.1/\a.2.2.2.2.2.2.2.2.1=a.2.2.2.2.2.2.2.2.1/\a.2.2.2.2.2.2.2.2.2.1=a.2.2.2.2.2.2.2.2.2.1/\a.2.2.2.2.2.2.2.2.2.2.1.1=a.2.2.2.2.2.2.2.2.2.2.1.1/\a.2.2.2.2.2.2.2.2.2.2.1.2=a.2.2.2.2.2.2.2.2.2.2.1.2/\a.2.2.2.2.2.2.2.2.2.2.2.1=a.2.2.2.2.2.2.2.2.2.2.2.1/\a.2.2.2.2.2.2.2.2.2.2.2.2.1=a.2.2.2.2.2.2.2.2.2.2.2.2.1/\a.2.2.2.2.2.2.2.2.2.2.2.2.2.1=a.2.2.2.2.2.2.2.2.2.2.2.2.2.1/\a.2.2.2.2.2.2.2.2.2.2.2.2.2.2=a.2.2.2.2.2.2.2.2.2.2.2.2.2.2/\c++[(getD a.1 b.toNat default).2]=e/\True) (c=bq a):=by
  delta ym ai ac;rintro d-hl;have hlen:(bq d).length=(aA d).length:=by simp[bq]
  refine⟨⟨0,[],⟨ab,ab,rfl⟩,aM⟩,?_⟩;rintro j l ⟨j0,j1,rfl⟩;have hd:d.1=aA d:=rfl;rw[hd];refine bt (λhk=>?_) (λhk=>?_)
  .refine⟨j0,hk,by simp only[cW,cQ,List.length_nil];omega,j+1,_,⟨ab,ab,rfl⟩,ab,?_⟩
   (repeat refine iK ?_);refine⟨?_,bv⟩;rw[uM j0 (by rw[hlen];exact hk)];unfold bq;rw[ce,ce,List.getElem?_map,cF ab];rfl
  .rw[dm ab]
theorem UR:aD 212 ML.spec:=aH Tryz.func212 aE Vs Ys
def first(f:Nat->Int):Nat->Int
 | 0=>0
 | n+1=>if first f n≠0 then first f n else f n
theorem xD{f:Nat->Int}{i:Int}(h0:0<=i)(h:first f i.toNat=0)(hf:f i.toNat=0):first f (i+1).toNat=0:=by
 rw[show (i+1).toNat=i.toNat+1 by omega,first,af (by simp[h]),hf]
theorem Fx{f:Nat->Int}{a:Nat}(h:first f a≠0):∀ k,first f (a+k)=first f a
 | 0=>rfl
 | k+1=>by rw[← gW,first,am (by rw[Fx h k];exact h),Fx h k]
theorem Ai{f:Nat->Int}{i:Int}{n:Nat}(h0:0<=i)(h1:i<n)(h:first f i.toNat=0)(hf:f i.toNat≠0):f i.toNat=first f n:=by
 have e:first f (i.toNat+1)=f i.toNat:=by rw[first,af (by simp[h])]
 have k:=Fx (a:=i.toNat+1) (by rw[e];exact hf) (n-(i.toNat+1))
 rw[show i.toNat+1+(n-(i.toNat+1))=n by omega] at k
 rw[k,e]
theorem um{f:Nat->Int}:∀{n:Nat},first f n=0→∀ i,i<n->f i=0
 | 0,_,i,hi=>ab
 | n+1,h,i,hi=>by
  by_cases k:first f n=0
  .rw[first,af (by simp[k])] at h;by_cases e:i=n
   .rw[e];exact h
   .exact um k i ab
  .rw[first,am k] at h;exact absurd h k
theorem Do{f:Nat->Int}:∀{n:Nat},(∀ i,i<n->f i=0)->first f n=0
 | 0,_=>rfl
 | n+1,h=>by rw[first,af (by rw[Do λi hi=>h i ab];simp),h n ab]
def g9(x:ar)(i:Nat):Int :=
 if ¬ fq ((aA x).getD i default).1∨jo x ((aA x).getD i default).1<i then 10
 else if ((aA x).getD i default).2<0∨cG x ((aA x).getD i default).2<i then 11 else 0
def nU(x:ar):Prop:=fM x≠0/\(¬ fq (fM x)∨0<=jo x (fM x))
instance (x:ar):Decidable (nU x):=by unfold nU;infer_instance
def mJ(x:ar):Prop:=JU x<0∨(lu x<1∨4<lu x)∨(lu x=3/\fM x=0)∨(pK x≠0∧¬ fq (pK x))∨(lu x=4/\pK x=0)∨(jt x<1∨255<jt x)∨(aA x).length=0
instance (x:ar):Decidable (mJ x):=by unfold mJ;infer_instance
def dN(x:ar):Int :=
 if 32<(aA x).length then 5
 else if first (g9 x) (aA x).length≠0 then first (g9 x) (aA x).length
 else if nU x then 10
 else if mJ x then 13
 else if io x≠0 then io x
 else if gu (jE x)≠0 then gu (jE x)
 else dJ (bf x) (bq x)
theorem xJ{c:Bool}{y n m:Prop}(hy:c=true->y)(hm:c=false->m):ao c (ao c y n) m:=by
 cases c with
 | true=>exact hy rfl
 | false=>exact hm rfl
theorem PY{q:Int×Int->Bool}{l:List (Int×Int)}{i:Nat}(hi:i<l.length)(hq:q (l.getD i default)=true):iy q l<i↔∃ y∈l.take i,q y=true:=by
 rw[ce,cF hi,fu] at hq
 have hlt:l.findIdx q<l.length:=List.findIdx_lt_length_of_exists ⟨_,List.getElem_mem hi,hq⟩
 unfold iy
 rw[am hlt]
 constructor
 .intro h;have h:l.findIdx q<i:=ab;exact⟨_,List.mem_take_iff_getElem.2 ⟨l.findIdx q,ab,rfl⟩,List.findIdx_getElem (w:=hlt)⟩
 .rintro⟨y,hy,hq⟩;obtain⟨j,hj,rfl⟩:=List.mem_take_iff_getElem.1 hy;have:¬ j<l.findIdx q:=λh=>by have:=List.not_of_lt_findIdx h;simp_all
  omega
theorem C8{x:ar}(h:(aA x).length<=32){i:Int}(h0:0<=i)(h1:i<(aA x).length)(hf:first (g9 x) i.toNat=0)(hb:g9 x i.toNat≠0):g9 x i.toNat=dN x:=by
 have e:=Ai h0 h1 hf hb
 unfold dN
 rw[af ab,← e,am hb]
theorem Hp{x:ar}(h:(aA x).length<=32)(hf:first (g9 x) (aA x).length=0)(hl:nU x):10=dN x:=by
 unfold dN
 rw[af ab,af (by simp[hf]),am hl]
theorem M9{x:ar}(h:(aA x).length<=32)(hf:first (g9 x) (aA x).length=0)(hl:¬ nU x)(hb:mJ x):13=dN x:=by
 unfold dN
 rw[af ab,af (by simp[hf]),af hl,am hb]
theorem Iu{x:ar}(h:(aA x).length<=32)(hf:first (g9 x) (aA x).length=0)(hl:¬ nU x)(hb:¬ mJ x):dN x=if io x≠0 then io x else if gu (jE x)≠0 then gu (jE x) else dJ (bf x) (bq x):=by
 unfold dN
 rw[af ab,af (by simp[hf]),af hl,af hb]
theorem Mv{x:ar}{i:Int}(h0:0<=i)(h:¬ fq ((aA x).getD i.toNat default).1∨jo x ((aA x).getD i.toNat default).1<i):g9 x i.toNat=10:=by
 unfold g9
 rw[show ((i.toNat:Nat):Int)=i by omega,am h]
theorem KL{x:ar}{i:Int}(h0:0<=i)(h:¬ (¬ fq ((aA x).getD i.toNat default).1∨jo x ((aA x).getD i.toNat default).1<i))(k:((aA x).getD i.toNat default).2<0∨cG x ((aA x).getD i.toNat default).2<i):g9 x i.toNat=11:=by
 unfold g9
 rw[show ((i.toNat:Nat):Int)=i by omega,af h,am k]
theorem Lo{x:ar}{i:Int}(h0:0<=i)(h:¬ (¬ fq ((aA x).getD i.toNat default).1∨jo x ((aA x).getD i.toNat default).1<i))(k:¬ (((aA x).getD i.toNat default).2<0∨cG x ((aA x).getD i.toNat default).2<i)):g9 x i.toNat=0:=by
 unfold g9
 rw[show ((i.toNat:Nat):Int)=i by omega,af h,af k]
def KT:Ct:=⟨[.agg bN],[.val cI],λd=>[],λd=>((dN d.1,()),())⟩
def aw6:bu KT.ps->bS:=(λd=>{loops:=(bm 4 (λS=>{ι:=Int,μ:=λi=>((aA d.1).length-i).toNat,inv:=λi=>0<=i/\i<=(aA d.1).length/\first (g9 d.1) i.toNat=0,keep:=[1,12,13],slots:=λi=>[(14,.int .i64 i)],keepN:=[32]}) ci),cuts:=(bm 21 (λS=>{ι:=Unit,inv:=λi=>(aA d.1).length<=32/\first (g9 d.1) (aA d.1).length=0∧¬ nU d.1∧¬ mJ d.1,keep:=[1],slots:=λi=>[],keepN:=[32]}) ci),unr:=λn=>match n with|22=>4|_=>0})
def mO(a:ar) :=
 a.1=a.1/\a.2.1=a.2.1/\a.2.2.1=a.2.2.1/\a.2.2.2.1=a.2.2.2.1/\a.2.2.2.2.1=a.2.2.2.2.1/\a.2.2.2.2.2.1=a.2.2.2.2.2.1/\a.2.2.2.2.2.2.1=a.2.2.2.2.2.2.1/\a.2.2.2.2.2.2.2.1=a.2.2.2.2.2.2.2.1/\a.2.2.2.2.2.2.2.2.1=a.2.2.2.2.2.2.2.2.1/\a.2.2.2.2.2.2.2.2.2.1=a.2.2.2.2.2.2.2.2.2.1/\a.2.2.2.2.2.2.2.2.2.2.1.1=a.2.2.2.2.2.2.2.2.2.2.1.1/\a.2.2.2.2.2.2.2.2.2.2.1.2=a.2.2.2.2.2.2.2.2.2.2.1.2/\a.2.2.2.2.2.2.2.2.2.2.2.1=a.2.2.2.2.2.2.2.2.2.2.2.1/\a.2.2.2.2.2.2.2.2.2.2.2.2.1=a.2.2.2.2.2.2.2.2.2.2.2.2.1/\a.2.2.2.2.2.2.2.2.2.2.2.2.2.1=a.2.2.2.2.2.2.2.2.2.2.2.2.2.1/\a.2.2.2.2.2.2.2.2.2.2.2.2.2.2=a.2.2.2.2.2.2.2.2.2.2.2.2.2.2/\True
def vf(a:ar) :=
 (length (aA a)<=(32:Nat)/\first (g9 a) (length (aA a))=0/\ ¬nU a/\ ¬mJ a)/\(mO a)
def gR(a:ar) :=
 ((length (aA a)):Int)
def D7(a:ar) :=
 ((length [io a,gu a.2.2.2.2.2.2.2.2.2.2.1,dJ a.2.2.2.2.1 (bq a)]):Int)
def pE(a:ar)(b:Int) :=
 getD a.1 b.toNat default
theorem aV1 :
 ∀(a:ar),CT.wf bN a/\True->True->ao (decide (32<(ac a.1))) (5=dN a) ((∃(b:Int),(0<=b/\b<=(gR a)/\first (g9 a) b.toNat=0)/\a.1=a.1/\(ac a.1)=(ac a.1)/\0=b/\(mO a))/\ ∀(b:Int),0<=b/\b<=(gR a)/\first (g9 a) b.toNat=0->ao (decide (b<(ac a.1))) (0<=b/\b<(ac a.1)/\ ∀(c:Bool),c= ! decide (fq (pE a b).1)->(ae (! c))/\((! c)->(aq (! c))/\(aq (! c))/\True)/\((! c)->(aq (! c))/\(aq (! c))/\True)/\(aF c)/\ao (bif c then true else decide (jo a (pE a b).1<b)) (10=dN a) (∀(d:Bool),d=decide ((pE a b).2<0)->(ae (! d))/\((! d)->(aq (! d))/\(aq (! d))/\True)/\((! d)->(aq (! d))/\(aq (! d))/\True)/\(aF d)/\ao (bif d then true else decide (cG a (pE a b).2<b)) (11=dN a) (∃(e:Int),(0<=e/\e<=(gR a)/\first (g9 a) e.toNat=0)/\toNat ((gR a) -e)<toNat ((gR a) -b)/\a.1=a.1/\(ac a.1)=(ac a.1)/\ai (b+1)=e/\(mO a))))
 (∀(c:Bool),c= ! decide (a.2.1=0)->(ae c)/\(ae c)/\(ae c)/\(ae c)/\ ∀(d:Bool),d= ! decide (fq a.2.1)->(ae (c&& ! d))/\((c&& ! d)->(aq (c&& ! d))/\(aq (c&& ! d))/\True)/\(ae (c&& ! d))/\(c->(aq c)/\(d=false->(c&& ! d))/\True)/\(aq c)/\ao (bif c then bif d then true else decide (0<=jo a a.2.1) else false) (10=dN a) (ao (decide (a.2.2.1<0)) (ao (decide (a.2.2.1<0)) (13=dN a) (∃(e:Unit),(vf a))) (∀(e:Bool),e=decide (a.2.2.2.2.2.1<1)->(ae (! e))/\(ae (! e))/\(aF e)/\ao (bif e then true else decide (4<a.2.2.2.2.2.1)) (ao (bif e then true else decide (4<a.2.2.2.2.2.1)) (13=dN a) (∃(f:Unit),(vf a))) (∀(f:Bool),f=decide (a.2.2.2.2.2.1=3)->(ae f)/\(ae f)/\(aq f)/\ao (bif f then decide (a.2.1=0) else false) (ao (bif f then decide (a.2.1=0) else false) (13=dN a) (∃(g:Unit),(vf a))) (∀(g:Bool),g= ! decide (a.2.2.2.2.2.2.1=0)->(ae g)/\(ae g)/\(ae
 g)/\(aq g)/\ao (bif g then ! decide (fq a.2.2.2.2.2.2.1) else false) (ao (bif g then ! decide (fq a.2.2.2.2.2.2.1) else false) (13=dN a) (∃(h:Unit),(vf a))) (∀(h:Bool),h=decide (a.2.2.2.2.2.1=4)->(ae h)/\(ae h)/\(aq h)/\ao (bif h then decide (a.2.2.2.2.2.2.1=0) else false) (ao (bif h then decide (a.2.2.2.2.2.2.1=0) else false) (13=dN a) (∃(i:Unit),(vf a))) (∀(i:Bool),i=decide (a.2.2.2.2.2.2.2.2.2.2.2.2.2.1<1)->(ae (! i))/\(ae (! i))/\(aF i)/\ao (bif i then true else decide (255<a.2.2.2.2.2.2.2.2.2.2.2.2.2.1)) (ao (bif i then true else decide (255<a.2.2.2.2.2.2.2.2.2.2.2.2.2.1)) (13=dN a) (∃(j:Unit),(vf a))) (ao (decide ((ac a.1)=0)) (13=dN a) (∃(j:Unit),(vf a))))))))/\ ∀(e:Unit),length (aA a)<=(32:Nat)/\first (g9 a) (length (aA a))=0/\ ¬nU a/\ ¬mJ a->length (aA a)<=(100000:Nat)/\(0:Int)<=0/\0<(D7
 a)/\ao (! decide (getD [io a,gu a.2.2.2.2.2.2.2.2.2.2.1,dJ a.2.2.2.2.1 (bq a)] (toNat 0) default=0)) (getD [io a,gu a.2.2.2.2.2.2.2.2.2.2.1,dJ a.2.2.2.2.1 (bq a)] (toNat 0) default=dN a) (0<=ai ((0:Int)+1)/\ai ((0:Int)+1)<(D7 a)/\ao (! decide (getD [io a,gu a.2.2.2.2.2.2.2.2.2.2.1,dJ a.2.2.2.2.1 (bq a)] (toNat (ai ((0:Int)+1))) default=0)) (getD [io a,gu a.2.2.2.2.2.2.2.2.2.2.1,dJ a.2.2.2.2.1 (bq a)] (toNat (ai ((0:Int)+1))) default=dN a) (0<=ai (ai ((0:Int)+1)+1)/\ai (ai ((0:Int)+1)+1)<(D7 a)/\ao (! decide (getD [io a,gu a.2.2.2.2.2.2.2.2.2.2.1,dJ a.2.2.2.2.1 (bq a)] (toNat (ai (ai ((0:Int)+1)+1))) default=0)) (getD [io a,gu a.2.2.2.2.2.2.2.2.2.2.1,dJ a.2.2.2.2.1 (bq a)] (toNat (ai (ai ((0:Int)+1)+1)))
 default=dN a) (0=dN a)))))):=by
  delta mO vf gR D7 pE ae aq aF ai ac;rintro d - -;have hd:d.1=aA d:=rfl;rw[hd];refine av (λh=>?_) (λh=>?_)
  .unfold dN;rw[am (by have:=aL h;omega)]
  have h32:(aA d).length<=32:=by have:=aO h;omega
  clear h;refine⟨⟨0,⟨ab,ab,rfl⟩,aM⟩,?_⟩;rintro x ⟨x0,x1,hf⟩;refine av (λhx=>?_) (λhx=>?_)
  .have hx:=aL hx;refine⟨x0,hx,?_⟩
   (repeat (refine bO ?_;repeat refine bP ?_));refine oT (λho=>?_) (λh1 h2=>?_)
   .have e:=Mv (x:=d) x0 (ho.imp fQ aL);rw[← C8 h32 x0 hx hf (by rw[e];decide),e]
   have hn:¬ (¬ fq ((aA d).getD x.toNat default).1∨jo d ((aA d).getD x.toNat default).1<x):=by
    rintro (k|k)
    .exact k (gH h1)
    .exact aO h2 k
   (repeat (refine bO ?_;repeat refine bP ?_));refine oT (λho=>?_) (λh1 h2=>?_)
   .have e:=KL (x:=d) x0 hn (ho.imp aL aL);rw[← C8 h32 x0 hx hf (by rw[e];decide),e]
   .have e:=Lo (x:=d) x0 hn (by
     rintro (k|k)
     .exact aO h1 k
     .exact aO h2 k)
    exact⟨x+1,⟨ab,ab,xD x0 hf e⟩,ab,aM⟩
  have hx:=aO hx;rw[show x.toNat=(aA d).length by omega] at hf;rw[show d.2.1=fM d from rfl];intro b hb;refine⟨aC,aC,aC,aC,?_⟩;intro b1 hb1
  (repeat refine⟨(by cases b <;> cases b1 <;> simp),?_⟩);have hL:(bif b then bif b1 then true else decide (0<=jo d (fM d)) else false)=decide (nU d):=by
   rw[hb,hb1];unfold nU;by_cases k1:fM d=0 <;> by_cases k2:fq (fM d) <;> by_cases k3:0<=jo d (fM d) <;> simp[k1,k2,k3]
  rw[hL];refine av (λh=>Hp h32 hf (aL h)) (λhl=>?_);have hl:=aO hl;clear hL hb hb1;refine⟨?_,?_⟩
  .have bad:=λh=>M9 (x:=d) h32 hf hl h;refine xJ (λh=>bad (.inl (aL h))) (λc1=>?_)
   (repeat (refine bO ?_;repeat refine bP ?_));rw[lR];refine xJ (λh=>bad (.inr (.inl (aL h)))) (λc2=>?_)
   (repeat (refine bO ?_;repeat refine bP ?_));rw[BW];refine xJ (λh=>bad (.inr (.inr (.inl (aL h))))) (λc3=>?_)
   (repeat (refine bO ?_;repeat refine bP ?_));rw[Hn];refine xJ (λh=>bad (.inr (.inr (.inr (.inl (aL h)))))) (λc4=>?_)
   (repeat (refine bO ?_;repeat refine bP ?_));rw[BW];refine xJ (λh=>bad (.inr (.inr (.inr (.inr (.inl (aL h))))))) (λc5=>?_)
   (repeat (refine bO ?_;repeat refine bP ?_));rw[lR];refine xJ (λh=>bad (.inr (.inr (.inr (.inr (.inr (.inl (aL h)))))))) (λc6=>?_);refine av (λh=>bad (.inr (.inr (.inr (.inr (.inr (.inr ?_))))))) (λc7=>?_)
   .have:=aL h;omega
   refine⟨(),⟨h32,hf,hl,?_⟩,aM⟩;rintro (k|k|k|k|k|k|k)
   .exact aO c1 k
   .exact aO c2 k
   .exact aO c3 k
   .exact aO c4 k
   .exact aO c5 k
   .exact aO c6 k
   .have:=aO c7;omega
  rintro-⟨-,-,-,hb⟩;have e:=Iu h32 hf hl hb;rw[show IntKind.wrap IntKind.i64 (IntKind.wrap IntKind.i64 ((0:Int)+1)+1)=2 by decide,show IntKind.wrap IntKind.i64 ((0:Int)+1)=1 by decide,e];refine⟨ab,ab,aC,av (λh=>?_) (λh=>?_)⟩
  .rw[am (show io d≠0 from fQ h)];rfl
  rw[af (show ¬ io d≠0 from λk=>k (gH h))];refine⟨ab,aC,av (λh=>?_) (λh=>?_)⟩
  .rw[am (show gu (jE d)≠0 from fQ h)];rfl
  rw[af (show ¬ gu (jE d)≠0 from λk=>k (gH h))];refine⟨ab,aC,av (λh=>?_) (λh=>?_)⟩
  .rfl
  .exact (show dJ (bf d) (bq d)=0 from gH h).symm
theorem am9:aD 164 KT.spec:=aH Tryz.func164 (au (au (au (au (au (au (au aE Ta) RT) C9) aL2) aq5) NW) UR) aw6 aV1
def QK:Ct:=⟨[.agg bN],[.own 3 cI],λd=>[(aA d.1).length<=100000],λd=>((bq d.1,()),())⟩
def as4:bu QK.ps->bS:=(λd=>{loops:=(bm 3 (λS=>{ι:=Int×ad,qn:=fj,μ:=λi=>((aA d.1).length-i.1).toNat,inv:=λi=>0<=i.1/\i.1<=(aA d.1).length/\i.2=(bq d.1).take i.1.toNat,keep:=[1],slots:=λi=>[(3,.own 524288 1),(4,.int .i64 i.1)],keepN:=[32],names:=λi=>[(524288,.live (.row 3 cI i.2))]}) ci)})
theorem aH3 :
 ∀(a:ar),CT.wf bN a/\True->length (aA a)<=(100000:Nat)->(∃(b:Int) (c:ad),(0<=b/\b<=(gR a)/\c=take b.toNat (bq a))/\0=b/\a.1=a.1/\a.2.1=a.2.1/\a.2.2.1=a.2.2.1/\a.2.2.2.1=a.2.2.2.1/\a.2.2.2.2.1=a.2.2.2.2.1/\a.2.2.2.2.2.1=a.2.2.2.2.2.1/\a.2.2.2.2.2.2.1=a.2.2.2.2.2.2.1/\a.2.2.2.2.2.2.2.1=a.2.2.2.2.2.2.2.1/\a.2.2.2.2.2.2.2.2.1=a.2.2.2.2.2.2.2.2.1/\a.2.2.2.2.2.2.2.2.2.1=a.2.2.2.2.2.2.2.2.2.1/\a.2.2.2.2.2.2.2.2.2.2.1.1=a.2.2.2.2.2.2.2.2.2.2.1.1/\a.2.2.2.2.2.2.2.2.2.2.1.2=a.2.2.2.2.2.2.2.2.2.2.1.2/\a.2.2.2.2.2.2.2.2.2.2.2.1=a.2.2.2.2.2.2.2.2.2.2.2.1/\a.2.2.2.2.2.2.2.2.2.2.2.2.1=a.2.2.2.2.2.2.2.2.2.2.2.2.1/\a.2.2.2.2.2.2.2.2.2.2.2.2.2.1=a.2.2.2.2.2.2.2.2.2.2.2.2.2.1/\a.2.2.2.2.2.2.2.2.2.2.2.2.2.2=a.2.2.2.2.2.2.2.2.2.2.2.2.2.2/\c=([]:ad)/\True)/\ ∀(b:Int)(c:ad),0<=b/\b<=(gR a)/\c=take b.toNat (bq a)->ao (decide (b<(ac a.1))) (0<=b/\b<(ac
 a.1)/\(c.length+length [(pE a b).2])*(8:Nat)<=(140737488355328:Nat)/\ ∃(d:Int) (e:ad),(0<=d/\d<=(gR a)/\e=take d.toNat (bq a))/\toNat ((gR a) -d)<toNat ((gR a) -b)/\ai (b+1)=d/\a.1=a.1/\a.2.1=a.2.1/\a.2.2.1=a.2.2.1/\a.2.2.2.1=a.2.2.2.1/\a.2.2.2.2.1=a.2.2.2.2.1/\a.2.2.2.2.2.1=a.2.2.2.2.2.1/\a.2.2.2.2.2.2.1=a.2.2.2.2.2.2.1/\a.2.2.2.2.2.2.2.1=a.2.2.2.2.2.2.2.1/\a.2.2.2.2.2.2.2.2.1=a.2.2.2.2.2.2.2.2.1/\a.2.2.2.2.2.2.2.2.2.1=a.2.2.2.2.2.2.2.2.2.1/\a.2.2.2.2.2.2.2.2.2.2.1.1=a.2.2.2.2.2.2.2.2.2.2.1.1/\a.2.2.2.2.2.2.2.2.2.2.1.2=a.2.2.2.2.2.2.2.2.2.2.1.2/\a.2.2.2.2.2.2.2.2.2.2.2.1=a.2.2.2.2.2.2.2.2.2.2.2.1/\a.2.2.2.2.2.2.2.2.2.2.2.2.1=a.2.2.2.2.2.2.2.2.2.2.2.2.1/\a.2.2.2.2.2.2.2.2.2.2.2.2.2.1=a.2.2.2.2.2.2.2.2.2.2.2.2.2.1/\a.2.2.2.2.2.2.2.2.2.2.2.2.2.2=a.2.2.2.2.2.2.2.2.2.2.2.2.2.2/\c++[(pE a b).2]=e/\True) (c=bq a):=by
  delta gR pE ai ac;rintro d-hl;have hlen:(bq d).length=(aA d).length:=by simp[bq]
  refine⟨⟨0,[],⟨ab,ab,rfl⟩,aM⟩,?_⟩;rintro j l ⟨j0,j1,rfl⟩;have hd:d.1=aA d:=rfl;rw[hd];refine bt (λhk=>?_) (λhk=>?_)
  .refine⟨j0,hk,by simp only[cW,cQ,List.length_nil];omega,j+1,_,⟨ab,ab,rfl⟩,ab,?_⟩
   (repeat refine iK ?_);refine⟨?_,bv⟩;rw[uM j0 (by rw[hlen];exact hk)];unfold bq;rw[ce,ce,List.getElem?_map,cF ab];rfl
  .rw[dm ab]
theorem LB:aD 113 QK.spec:=aH Tryz.func113 aE as4 aH3
def MS:Ct:=⟨[.agg bN,.val cI],[.val cI],λd=>[],λd=>((cG d.1 d.2.1,()),())⟩
def TD:bu MS.ps->bS:=(λd=>{loops:=(bm 2 (λS=>{ι:=Int,μ:=λi=>((aA d.1).length-i).toNat,inv:=λi=>0<=i/\i<=(aA d.1).length∧∀ x∈(aA d.1).take i.toNat,iq d.2.1 x=false,keep:=[1,2],slots:=λi=>[(5,.int .i64 i)],keepN:=[48]}) ci)})
theorem aI1 :
 ∀(a:ar)(b:Int),CT.wf bN a/\aj b/\True->True->(∃(c:Int),(0<=c/\c<=(gR a)/\ ∀(d:Int×Int),d∈take c.toNat (aA a)->iq b d=false)/\b=b/\0=c/\(mO a))/\ ∀(c:Int),(0<=c/\c<=(gR a)/\ ∀(d:Int×Int),d∈take c.toNat (aA a)->iq b d=false)->ao (decide (c<(ac a.1))) (0<=c/\c<(ac a.1)/\ao (decide ((getD a.1 c.toNat default).2=b)) (c=cG a b) (∃(d:Int),(0<=d/\d<=(gR a)/\ ∀(e:Int×Int),e∈take d.toNat (aA a)->iq b e=false)/\toNat ((gR a) -d)<toNat ((gR a) -c)/\b=b/\ai (c+1)=d/\(mO a))) (-1=cG a b):=by
  delta mO gR ai ac;rintro d k ⟨⟨⟨hl,-⟩,-⟩,-⟩ -;have hd:d.1=aA d:=rfl;rw[hd] at hl ⊢;simp only[maxLen] at hl;refine⟨⟨0,⟨ab,ab,aC⟩,aM⟩,?_⟩;rintro j ⟨j0,j1,hj⟩;refine bt (λhk=>?_) (λhk=>?_)
  .refine⟨j0,hk,av (λhm=>?_) (λhm=>?_)⟩
   .exact xY j0 hk hj hm
   .exact⟨j+1,⟨ab,ab,nY j0 hk hj hm⟩,ab,aM⟩
  .exact zO hk hj
theorem LY:aD 51 MS.spec:=aH Tryz.func51 aE TD aI1
def QV:Ct:=⟨[.agg bN,.val cy],[.val .bool],λd=>[],λd=>((fH d.1 d.2.1,()),())⟩
def X5:bu QV.ps->bS:=(λd=>{loops:=(bm 2 (λS=>{ι:=Int,μ:=λi=>((aA d.1).length-i).toNat,inv:=λi=>0<=i/\i<=(aA d.1).length∧∀ x∈(aA d.1).take i.toNat,gZ d.2.1 x=false,keep:=[1,2],slots:=λi=>[(5,.int .i64 i)],keepN:=[48]}) ci)})
theorem aO2 :
 ∀(a:ar)(b:Int),CT.wf bN a/\(0<=b/\b<=4294967295)/\True->True->(∃(c:Int),(0<=c/\c<=(gR a)/\ ∀(d:Int×Int),d∈take c.toNat (aA a)->gZ b d=false)/\b=b/\0=c/\(mO a))/\ ∀(c:Int),(0<=c/\c<=(gR a)/\ ∀(d:Int×Int),d∈take c.toNat (aA a)->gZ b d=false)->ao (decide (c<(ac a.1))) (0<=c/\c<(ac a.1)/\ao (decide ((getD a.1 c.toNat default).1=b)) (true=fH a b) (∃(d:Int),(0<=d/\d<=(gR a)/\ ∀(e:Int×Int),e∈take d.toNat (aA a)->gZ b e=false)/\toNat ((gR a) -d)<toNat ((gR a) -c)/\b=b/\ai (c+1)=d/\(mO a))) (∀(d:Bool),d= ! decide (a.2.1=0)->(ae d)/\(d->(aq d)/\(aq d)/\True)/\(aq d)/\(bif d then decide (a.2.1=b) else false)=fH a b):=by
  delta mO gR ae aq ai ac;rintro d a ⟨⟨⟨hl,-⟩,-⟩,-⟩ -;have hd:d.1=aA d:=rfl;rw[hd] at hl ⊢;simp only[maxLen] at hl;refine⟨⟨0,⟨ab,ab,aC⟩,aM⟩,?_⟩;rintro j ⟨j0,j1,hj⟩;refine bt (λhk=>?_) (λhk=>?_)
  .refine⟨j0,hk,av (λhm=>?_) (λhm=>?_)⟩
   .have e:j=jo d a:=xY j0 hk hj hm;unfold fH;rw[← e,dM j0];rfl
   .exact⟨j+1,⟨ab,ab,nY j0 hk hj hm⟩,ab,aM⟩
  .have e : -1=jo d a:=zO hk hj
   (repeat (refine bO ?_;repeat refine bP ?_));unfold fH;rw[← e,show d.2.1=fM d from rfl];cases decide (fM d=0) <;> rfl
theorem Pr:aD 53 QV.spec:=aH Tryz.func53 aE X5 aO2
def rY(x:ar)(i k:Nat):Bool:=decide (fq ((aA x).getD i default).1)&&decide (∀ q∈(aA x).take k,q.1≠((aA x).getD i default).1)
def r8(x:ar)(i k:Nat):Bool:=decide (0<=((aA x).getD i default).2)&&decide (∀ q∈(aA x).take k,q.2≠((aA x).getD i default).2)
theorem ak6{x:ar}{a:Int}(h:∃ q∈aA x,q.1=a):0<=jo x a:=by
 obtain⟨q,hq,rfl⟩:=h
 unfold jo iy
 have:(aA x).findIdx (gZ q.1)<(aA x).length:=List.findIdx_lt_length_of_exists ⟨q,hq,by unfold gZ;simp⟩
 rw[am this];omega
theorem O6{α:Type}{l:List α}{q:α}{P:α->Prop} [DecidablePred P]:decide (∀ x∈l++[q],P x)=(decide (∀ x∈l,P x)&&decide (P q)):=by
 rw[← Bool.decide_and]
 apply decide_eq_decide.2
 simp[or_imp,forall_and]
theorem ZY{x:ar}{i:Nat}{k:Int}{q:Int×Int}(st:(aA x).take (k+1).toNat=(aA x).take k.toNat++[q]) :
  (bif rY x i k.toNat then !decide (q.1=((aA x).getD i default).1) else false)=rY x i (k+1).toNat:=by
 unfold rY
 rw[st,O6 (P:=λq:Int×Int=>q.1≠((aA x).getD i default).1),En]
 cases decide (fq ((aA x).getD i default).1) <;> cases decide (∀ q∈(aA x).take k.toNat,q.1≠((aA x).getD i default).1) <;> rfl
theorem ax4{x:ar}{i:Nat}{k:Int}{q:Int×Int}(st:(aA x).take (k+1).toNat=(aA x).take k.toNat++[q]) :
  (bif r8 x i k.toNat then !decide (q.2=((aA x).getD i default).2) else false)=r8 x i (k+1).toNat:=by
 unfold r8
 rw[st,O6 (P:=λq:Int×Int=>q.2≠((aA x).getD i default).2),En]
 cases decide (0<=((aA x).getD i default).2) <;> cases decide (∀ q∈(aA x).take k.toNat,q.2≠((aA x).getD i default).2) <;> rfl
theorem aq3{x:ar}{i:Int}(h0:0<=i)(h1:i<(aA x).length):rY x i.toNat i.toNat=decide (¬ (¬ fq ((aA x).getD i.toNat default).1∨jo x ((aA x).getD i.toNat default).1<i)):=by
 have k:=PY (q:=gZ ((aA x).getD i.toNat default).1) (l:=aA x) (i:=i.toNat) ab (by unfold gZ;exact dM rfl)
 rw[show ((i.toNat:Nat):Int)=i by omega] at k
 unfold rY jo
 rw[← Bool.decide_and]
 apply decide_eq_decide.2
 rw[k,not_or,Classical.not_not,not_exists]
 refine and_congr lW (forall_congr' λq=>?_)
 rw[not_and]
 refine imp_congr lW ?_
 unfold gZ
 rw[ng]
theorem aC2{x:ar}{i:Int}(h0:0<=i)(h1:i<(aA x).length):r8 x i.toNat i.toNat=decide (¬ (((aA x).getD i.toNat default).2<0∨cG x ((aA x).getD i.toNat default).2<i)):=by
 have k:=PY (q:=iq ((aA x).getD i.toNat default).2) (l:=aA x) (i:=i.toNat) ab (by unfold iq;exact dM rfl)
 rw[show ((i.toNat:Nat):Int)=i by omega] at k
 unfold r8 cG
 rw[← Bool.decide_and]
 apply decide_eq_decide.2
 rw[k,not_or,not_exists,Int.not_lt]
 refine and_congr lW (forall_congr' λq=>?_)
 rw[not_and]
 refine imp_congr lW ?_
 unfold iq
 rw[ng]
def QH:Ct:=⟨[.agg bN],[.val cI],λd=>[],λd=>((dN d.1,()),())⟩
def Yq:bu QH.ps->bS:=(λd=>{loops:=(bm 4 (λS=>{ι:=Int,μ:=λi=>((aA d.1).length-i).toNat,inv:=λi=>0<=i/\i<=(aA d.1).length/\first (g9 d.1) i.toNat=0,keep:=[1],slots:=λi=>[(3,.int .i64 i)],keepN:=[32]}) (bm 8 (λS=>{ι:=Int×Bool×Bool,qn:=qU,μ:=λi=>(S.i 3-i.1).toNat,inv:=λi=>0<=i.1/\i.1<=S.i 3/\i.2.1=rY d.1 (S.i 3).toNat i.1.toNat/\i.2.2=r8 d.1 (S.i 3).toNat i.1.toNat,keep:=[1,3],slots:=λi=>[(4,.bool i.2.1),(5,.bool i.2.2),(6,.int .i64 i.1)],keepN:=[32]}) (bm 17 (λS=>{ι:=Int,μ:=λi=>((aA d.1).length-i).toNat,inv:=λi=>0<=i/\i<=(aA d.1).length/\(fM d.1≠0→∀ q∈(aA d.1).take i.toNat,gZ (fM d.1) q=false),keep:=[1],slots:=λi=>[(7,.int .i64 i)],keepN:=[32]}) ci)))})
def Gg(a:ar)(c:Int) :=
 c<=(gR a)/\(fM a≠(0:Int)-> ∀(d:Int×Int),d∈take c.toNat (aA a)->gZ (fM a) d=false)
theorem Un :
 ∀(a:ar),CT.wf bN a/\True->True->ao (decide (32<(ac a.1))) (5=dN a) ((∃(b:Int),(0<=b/\b<=(gR a)/\first (g9 a) b.toNat=0)/\0=b/\(mO a))/\ ∀(b:Int),0<=b/\b<=(gR a)/\first (g9 a) b.toNat=0->ao (decide (b<(ac a.1))) (0<=b/\b<(ac a.1)/\0<=b/\b<(ac a.1)/\(∃(c:Int) (d:Bool),∃(e:Bool),(0<=c/\c<=b/\d=rY a b.toNat c.toNat/\e=r8 a b.toNat c.toNat)/\b=b/\decide (fq (pE a b).1)=d/\decide (0<=(pE a b).2)=e/\0=c/\(mO a))/\ ∀(c:Int)(d e:Bool),0<=c/\c<=b/\d=rY a b.toNat c.toNat/\e=r8 a b.toNat c.toNat->ao (decide (c<b)) (∀(f:Bool),f=d->(ae f)/\(f->(aq f)/\(aq f)/\0<=c/\c<(ac a.1)/\True)/\(ae f)/\(ae f)/\(ae f)/\(f->(aq f)/\(aq f)/\0<=b/\b<(ac a.1)/\True)/\(ae f)/\(ae f)/\(f->(aq f)/\(aq f)/\True)/\(aq f)/\ ∀(g:Bool),g=e->(ae g)/\(g->(aq g)/\(aq g)/\0<=c/\c<(ac a.1)/\True)/\(ae g)/\(ae g)/\(ae g)/\(g->(aq g)/\(aq
 g)/\0<=b/\b<(ac a.1)/\True)/\(ae g)/\(ae g)/\(g->(aq g)/\(aq g)/\True)/\(aq g)/\ ∃(h:Int) (i:Bool),∃(j:Bool),(0<=h/\h<=b/\i=rY a b.toNat h.toNat/\j=r8 a b.toNat h.toNat)/\toNat (b -h)<toNat (b -c)/\b=b/\(bif f then ! decide ((getD a.1 c.toNat default).1=(pE a b).1) else false)=i/\(bif g then ! decide ((getD a.1 c.toNat default).2=(pE a b).2) else false)=j/\ai (c+1)=h/\(mO a)) (ao (! d) (10=dN a) (ao (! e) (11=dN a) (∃(f:Int),(0<=f/\f<=(gR a)/\first (g9 a) f.toNat=0)/\toNat ((gR a) -f)<toNat ((gR a) -b)/\ai (b+1)=f/\(mO a))))) ((∃(c:Int),(0<=c/\(Gg a c))/\0=c/\(mO a))/\ ∀(c:Int),0<=c/\(Gg a c)-> ∀(d:Bool),d=decide (c<(ac a.1))->(ae d)/\(ae d)/\(aq d)/\ao (bif d then ! decide (a.2.1=0) else false) (0<=c/\c<(ac a.1)/\ao (decide ((getD a.1 c.toNat default).1=a.2.1)) (10=dN a) (∃(e:Int),(0<=e/\e<=(gR
 a)/\(fM a≠(0:Int)-> ∀(f:Int×Int),f∈take e.toNat (aA a)->gZ (fM a) f=false))/\toNat ((gR a) -e)<toNat ((gR a) -c)/\ai (c+1)=e/\(mO a))) (∀(e:Bool),e= ! decide (a.2.1=0)->(ae e)/\(ae e)/\(ae e)/\(aq e)/\ao (bif e then ! decide (fq a.2.1) else false) (10=dN a) (∀(f:Bool),f=decide (a.2.2.1<0)->(ae (! f))/\(ae (! f))/\(aF f)/\ ∀(g:Bool),(g=bif f then true else decide (a.2.2.2.2.2.1<1))->(ae (! g))/\(ae (! g))/\(aF g)/\ ∀(h:Bool),(h=bif g then true else decide (4<a.2.2.2.2.2.1))->(ae (! h))/\(ae (! h))/\(ae (! h))/\ ∀(i:Bool),i=decide (a.2.2.2.2.2.1=3)->(ae (! h&&i))/\(ae (! h&&i))/\((! h)->(aq (! h))/\(i->(! h&&i))/\True)/\(aF h)/\ ∀(j:Bool),(j=bif h then true else bif i then decide (a.2.1=0) else false)->(ae (! j))/\(ae (! j))/\(ae (! j))/\ ∀(k:Bool),k= ! decide (a.2.2.2.2.2.2.1=0)->(ae (! j&&k))/\(ae (! j&&k))/\(ae (! j&&k))/\((!
 j)->(aq (! j))/\(k->(! j&&k))/\True)/\(aF j)/\ ∀(l:Bool),(l=bif j then true else bif k then ! decide (fq a.2.2.2.2.2.2.1) else false)->(ae (! l))/\(ae (! l))/\(ae (! l))/\ ∀(m:Bool),m=decide (a.2.2.2.2.2.1=4)->(ae (! l&&m))/\(ae (! l&&m))/\((! l)->(aq (! l))/\(m->(! l&&m))/\True)/\(aF l)/\ ∀(n:Bool),(n=bif l then true else bif m then decide (a.2.2.2.2.2.2.1=0) else false)->(ae (! n))/\(ae (! n))/\(aF n)/\ ∀(o:Bool),(o=bif n then true else decide (a.2.2.2.2.2.2.2.2.2.2.2.2.2.1<1))->(ae (! o))/\(ae (! o))/\(aF o)/\ ∀(p:Bool),(p=bif o then true else decide (255<a.2.2.2.2.2.2.2.2.2.2.2.2.2.1))->(ae (! p))/\(ae (! p))/\(ae (! p))/\(aF p)/\ao (bif p then true else decide ((ac a.1)=0)) (13=dN a) (ao (! decide (io a=0)) (io a=dN a) (ao (! decide (gu a.2.2.2.2.2.2.2.2.2.2.1=0)) (gu a.2.2.2.2.2.2.2.2.2.2.1=dN a) (length (aA
 a)<=(100000:Nat)/\dJ a.2.2.2.2.1 (bq a)=dN a))))))):=by
  delta mO gR pE Gg ae aq aF ai ac;rintro d ⟨⟨⟨hl,-⟩,-⟩,-⟩ -;have hd:d.1=aA d:=rfl;rw[hd] at hl ⊢;simp only[maxLen] at hl;refine av (λh=>?_) (λh=>?_)
  .unfold dN;rw[am (by have:=aL h;omega)]
  have h32:(aA d).length<=32:=by have:=aO h;omega
  clear h;refine⟨⟨0,⟨ab,ab,rfl⟩,aM⟩,?_⟩;rintro x ⟨x0,x1,hf⟩;refine av (λhx=>?_) (λhx=>?_)
  .have hx:=aL hx;refine⟨x0,hx,x0,hx,⟨0,_,_,⟨ab,x0,?_,?_⟩,aM⟩,?_⟩
   .simp[rY]
   .simp[r8]
   rintro k a b ⟨k0,k1,ha,hb⟩;refine bt (λhk=>?_) (λhk=>?_)
   .have st:=uM (l:=aA d) k0 ab;rintro b1 hb1
    (repeat refine⟨(by first|(simp;done)|exact λh=>⟨λ_=>h,λ_=>h,k0,ab,bv⟩|exact λh=>⟨λ_=>h,λ_=>h,x0,ab,bv⟩),?_⟩);rintro b2 hb2
    (repeat refine⟨(by first|(simp;done)|exact λh=>⟨λ_=>h,λ_=>h,k0,ab,bv⟩|exact λh=>⟨λ_=>h,λ_=>h,x0,ab,bv⟩),?_⟩);refine⟨k+1,_,_,⟨ab,ab,?_,?_⟩,ab,aM⟩
    .rw[hb1,ha,ZY st]
    .rw[hb2,hb,ax4 st]
   .have hk:k=x:=by have:=hk;omega
    subst hk;have fa:a=decide (¬ (¬ fq ((aA d).getD k.toNat default).1∨jo d ((aA d).getD k.toNat default).1<k)):=by rw[ha,aq3 x0 hx]
    have fb:b=decide (¬ (((aA d).getD k.toNat default).2<0∨cG d ((aA d).getD k.toNat default).2<k)):=by rw[hb,aC2 x0 hx]
    refine av (λh=>?_) (λh=>?_)
    .have e:=Mv (x:=d) x0 (by rw[fa,En] at h;exact Classical.not_not.1 (aL h));rw[← C8 h32 x0 hx hf (by rw[e];decide),e]
    have hn:=aL (fa.symm.trans (by simpa using h));refine av (λh=>?_) (λh=>?_)
    .have e:=KL (x:=d) x0 hn (by rw[fb,En] at h;exact Classical.not_not.1 (aL h));rw[← C8 h32 x0 hx hf (by rw[e];decide),e]
    have hm:=aL (fb.symm.trans (by simpa using h));exact⟨k+1,⟨ab,ab,xD x0 hf (Lo x0 hn hm)⟩,ab,aM⟩
  have hx:=aO hx;rw[show x.toNat=(aA d).length by omega] at hf;clear x1 x0;refine⟨⟨0,⟨ab,ab,aC⟩,aM⟩,?_⟩;rw[show d.2.1=fM d from rfl];rintro k ⟨k0,k1,hk⟩
  (repeat (refine bO ?_;repeat refine bP ?_));rw[as1];refine av (λh=>?_) (λh=>?_)
  .obtain⟨h1,h2⟩:=aL h;refine⟨k0,h1,av (λhm=>?_) (λhm=>?_)⟩
   .refine Hp h32 hf ⟨h2,.inr (ak6 ?_)⟩;have:=aL hm;exact⟨_,bW k0 h1,this⟩
   .exact⟨k+1,⟨ab,ab,λh0=>nY k0 h1 (hk h0) hm⟩,ab,aM⟩
  have hend:fM d≠0→¬ 0<=jo d (fM d):=λh0 hp=>by
   have hkl:¬ k<(aA d).length:=λh1=>aO h ⟨h1,h0⟩;have hk:=hk h0;have e : -1=jo d (fM d):=zO hkl hk;omega
  (repeat (refine bO ?_;repeat refine bP ?_));rw[Hn];refine av (λh=>?_) (λh=>?_)
  .obtain⟨h1,h2⟩:=aL h;exact Hp h32 hf ⟨h1,.inl h2⟩
  have hL:¬ nU d:=by
   rintro⟨h1,h2⟩;rcases h2 with h2|h2
   .exact aO h ⟨h1,h2⟩
   .exact hend h1 h2
  have e:=Iu h32 hf hL;have gd:True:=trivial;intro b1 hb1
  (repeat refine⟨(by first|(simp;done)|(simp +contextual;done)),?_⟩);intro b2 hb2
  (repeat refine⟨(by first|(simp;done)|(simp +contextual;done)),?_⟩);intro b3 hb3
  (repeat refine⟨(by first|(simp;done)|(simp +contextual;done)),?_⟩);intro b4 hb4
  (repeat refine⟨(by first|(simp;done)|(simp +contextual;done)),?_⟩);intro b5 hb5
  (repeat refine⟨(by first|(simp;done)|(simp +contextual;done)),?_⟩);intro b6 hb6
  (repeat refine⟨(by first|(simp;done)|(simp +contextual;done)),?_⟩);intro b7 hb7
  (repeat refine⟨(by first|(simp;done)|(simp +contextual;done)),?_⟩);intro b8 hb8
  (repeat refine⟨(by first|(simp;done)|(simp +contextual;done)),?_⟩);intro b9 hb9
  (repeat refine⟨(by first|(simp;done)|(simp +contextual;done)),?_⟩);intro b10 hb10
  (repeat refine⟨(by first|(simp;done)|(simp +contextual;done)),?_⟩);intro b11 hb11
  (repeat refine⟨(by first|(simp;done)|(simp +contextual;done)),?_⟩);have hF:(bif b11 then true else decide (((aA d).length:Int)=0))=decide (mJ d):=by
   rw[hb11,hb10,hb9,hb8,hb7,hb6,hb5,hb4,hb3,hb2,hb1];simp only[lR,BW,Hn];apply decide_eq_decide.2;unfold mJ JU lu pK jt fM;by_cases hu:fq d.2.2.2.2.2.2.1 <;> simp only[hu,not_true_eq_false,not_false_eq_true,and_false,iD,or_false,false_or,ne_eq] <;> omega
  rw[hF];refine av (λh=>M9 h32 hf hL (aL h)) (λh=>?_);rw[e (aO h)];refine av (λh=>?_) (λh=>?_)
  .rw[am (show io d≠0 from fQ h)]
  rw[af (show ¬ io d≠0 from λk=>k (gH h))];refine av (λh=>?_) (λh=>?_)
  .rw[am (show gu (jE d)≠0 from fQ h)];rfl
  rw[af (show ¬ gu (jE d)≠0 from λk=>k (gH h))];exact⟨ab,rfl⟩
theorem T9:aD 50 QH.spec:=aH Tryz.func50 (au (au (au (au (au aE Sj) U8) aF2) M5) LB) Yq Un
end Go.RS
