/- Nodek: the first error of a node, in the program and in the reference; the reference's parts of a node. -/
import Derived.Test.YtpdpkobkpacbnaaGreatDoorNodec
import Derived.Test.YtpdpkobkpacbnaaGreatDoorIdent
set_option maxRecDepth 100000
set_option linter.unusedVariables false
open Int (toNat)
open List (length take getD set replicate range)
namespace Go.RS
open Go.SX Go.Proofs
def first(f:Nat->Int):Nat->Int
 | 0=>0
 | n+1=>if first f n≠0 then first f n else f n
theorem xK{f:Nat->Int}{i:Int}(h0:0<=i)(h:first f i.toNat=0)(hf:f i.toNat=0):first f (i+1).toNat=0:=by
 rw[show (i+1).toNat=i.toNat+1 by omega,first,af (by simp[h]),hf]
theorem Gf{f:Nat->Int}{a:Nat}(h:first f a≠0):∀ k,first f (a+k)=first f a
 | 0=>rfl
 | k+1=>by rw[← gP,first,am (by rw[Gf h k];exact h),Gf h k]
theorem Bd{f:Nat->Int}{i:Int}{n:Nat}(h0:0<=i)(h1:i<n)(h:first f i.toNat=0)(hf:f i.toNat≠0):f i.toNat=first f n:=by
 have e:first f (i.toNat+1)=f i.toNat:=by rw[first,af (by simp[h])]
 have k:=Gf (a:=i.toNat+1) (by rw[e];exact hf) (n-(i.toNat+1))
 rw[show i.toNat+1+(n-(i.toNat+1))=n by omega] at k
 rw[k,e]
theorem wz{f:Nat->Int}:∀{n:Nat},first f n=0→∀ i,i<n->f i=0
 | 0,_,i,hi=>ab
 | n+1,h,i,hi=>by
  by_cases k:first f n=0
  .rw[first,af (by simp[k])] at h;by_cases e:i=n
   .rw[e];exact h
   .exact wz k i ab
  .rw[first,am k] at h;exact absurd h k
theorem Fc{f:Nat->Int}:∀{n:Nat},(∀ i,i<n->f i=0)->first f n=0
 | 0,_=>rfl
 | n+1,h=>by rw[first,af (by rw[Fc λi hi=>h i ab];simp),h n ab]
def g7(x:au)(i:Nat):Int :=
 if ¬ fC ((ay x).getD i default).1∨jl x ((ay x).getD i default).1<i then 10
 else if ((ay x).getD i default).2<0∨cy x ((ay x).getD i default).2<i then 11 else 0
def oH(x:au):Prop:=fy x≠0/\(¬ fC (fy x)∨0<=jl x (fy x))
instance (x:au):Decidable (oH x):=by unfold oH;infer_instance
def mK(x:au):Prop:=JJ x<0∨(fS x<1∨4<fS x)∨(fS x=3/\fy x=0)∨(oB x≠0∧¬ fC (oB x))∨(fS x=4/\oB x=0)∨(iM x<1∨255<iM x)∨(ay x).length=0
instance (x:au):Decidable (mK x):=by unfold mK;infer_instance
def eG(x:au):Int :=
 if 32<(ay x).length then 5
 else if first (g7 x) (ay x).length≠0 then first (g7 x) (ay x).length
 else if oH x then 10
 else if mK x then 13
 else if iZ x≠0 then iZ x
 else if hV (jV x)≠0 then hV (jV x)
 else dP (aU x) (bj x)
theorem yG{c:Bool}{y n m:Prop}(hy:c=true->y)(hm:c=false->m):ao c (ao c y n) m:=by
 cases c with
 | true=>exact hy rfl
 | false=>exact hm rfl
theorem Q3{q:Int×Int->Bool}{l:List (Int×Int)}{i:Nat}(hi:i<l.length)(hq:q (l.getD i default)=true):gW q l<i↔∃ y∈l.take i,q y=true:=by
 rw[bL,cK hi,fZ] at hq
 have hlt:l.findIdx q<l.length:=List.findIdx_lt_length_of_exists ⟨_,List.getElem_mem hi,hq⟩
 unfold gW
 rw[am hlt]
 constructor
 .intro h;have h:l.findIdx q<i:=ab;exact⟨_,List.mem_take_iff_getElem.2 ⟨l.findIdx q,ab,rfl⟩,List.findIdx_getElem (w:=hlt)⟩
 .rintro⟨y,hy,hq⟩;obtain⟨j,hj,rfl⟩:=List.mem_take_iff_getElem.1 hy;have:¬ j<l.findIdx q:=λh=>by have:=List.not_of_lt_findIdx h;simp_all
  omega
theorem Fh{x:au}(h:(ay x).length<=32){i:Int}(h0:0<=i)(h1:i<(ay x).length)(hf:first (g7 x) i.toNat=0)(hb:g7 x i.toNat≠0):g7 x i.toNat=eG x:=by
 have e:=Bd h0 h1 hf hb
 unfold eG
 rw[af ab,← e,am hb]
theorem IE{x:au}(h:(ay x).length<=32)(hf:first (g7 x) (ay x).length=0)(hl:oH x):10=eG x:=by
 unfold eG
 rw[af ab,af (by simp[hf]),am hl]
theorem Mr{x:au}(h:(ay x).length<=32)(hf:first (g7 x) (ay x).length=0)(hl:¬ oH x)(hb:mK x):13=eG x:=by
 unfold eG
 rw[af ab,af (by simp[hf]),af hl,am hb]
theorem IM{x:au}(h:(ay x).length<=32)(hf:first (g7 x) (ay x).length=0)(hl:¬ oH x)(hb:¬ mK x):eG x=if iZ x≠0 then iZ x else if hV (jV x)≠0 then hV (jV x) else dP (aU x) (bj x):=by
 unfold eG
 rw[af ab,af (by simp[hf]),af hl,af hb]
theorem L9{x:au}{i:Int}(h0:0<=i)(h:¬ fC ((ay x).getD i.toNat default).1∨jl x ((ay x).getD i.toNat default).1<i):g7 x i.toNat=10:=by
 unfold g7
 rw[show ((i.toNat:Nat):Int)=i by omega,am h]
theorem PV{x:au}{i:Int}(h0:0<=i)(h:¬ (¬ fC ((ay x).getD i.toNat default).1∨jl x ((ay x).getD i.toNat default).1<i))(k:((ay x).getD i.toNat default).2<0∨cy x ((ay x).getD i.toNat default).2<i):g7 x i.toNat=11:=by
 unfold g7
 rw[show ((i.toNat:Nat):Int)=i by omega,af h,am k]
theorem NI{x:au}{i:Int}(h0:0<=i)(h:¬ (¬ fC ((ay x).getD i.toNat default).1∨jl x ((ay x).getD i.toNat default).1<i))(k:¬ (((ay x).getD i.toNat default).2<0∨cy x ((ay x).getD i.toNat default).2<i)):g7 x i.toNat=0:=by
 unfold g7
 rw[show ((i.toNat:Nat):Int)=i by omega,af h,af k]
def OZ:Ct:=⟨[.agg bR],[.val cI],λd=>[],λd=>((eG d.1,()),())⟩
def aP9:bw OZ.ps->ce:=(λd=>{loops:=(bq 4 (λS=>{ι:=Int,μ:=λi=>((ay d.1).length-i).toNat,inv:=λi=>0<=i/\i<=(ay d.1).length/\first (g7 d.1) i.toNat=0,keep:=[1,12,13],slots:=λi=>[(14,.int .i64 i)],keepN:=[32]}) cC),cuts:=(bq 21 (λS=>{ι:=Unit,inv:=λi=>(ay d.1).length<=32/\first (g7 d.1) (ay d.1).length=0∧¬ oH d.1∧¬ mK d.1,keep:=[1],slots:=λi=>[],keepN:=[32]}) cC),unr:=λn=>match n with|22=>4|_=>0})
def nC(a:au) :=
 a.1=a.1/\a.2.1=a.2.1/\a.2.2.1=a.2.2.1/\a.2.2.2.1=a.2.2.2.1/\a.2.2.2.2.1=a.2.2.2.2.1/\a.2.2.2.2.2.1=a.2.2.2.2.2.1/\a.2.2.2.2.2.2.1=a.2.2.2.2.2.2.1/\a.2.2.2.2.2.2.2.1=a.2.2.2.2.2.2.2.1/\a.2.2.2.2.2.2.2.2.1=a.2.2.2.2.2.2.2.2.1/\a.2.2.2.2.2.2.2.2.2.1=a.2.2.2.2.2.2.2.2.2.1/\a.2.2.2.2.2.2.2.2.2.2.1.1=a.2.2.2.2.2.2.2.2.2.2.1.1/\a.2.2.2.2.2.2.2.2.2.2.1.2=a.2.2.2.2.2.2.2.2.2.2.1.2/\a.2.2.2.2.2.2.2.2.2.2.2.1=a.2.2.2.2.2.2.2.2.2.2.2.1/\a.2.2.2.2.2.2.2.2.2.2.2.2.1=a.2.2.2.2.2.2.2.2.2.2.2.2.1/\a.2.2.2.2.2.2.2.2.2.2.2.2.2.1=a.2.2.2.2.2.2.2.2.2.2.2.2.2.1/\a.2.2.2.2.2.2.2.2.2.2.2.2.2.2=a.2.2.2.2.2.2.2.2.2.2.2.2.2.2/\True
def vQ(a:au) :=
 (length (ay a)<=(32:Nat)/\first (g7 a) (length (ay a))=0/\ ¬oH a/\ ¬mK a)/\(nC a)
def gO(a:au) :=
 ((length (ay a)):Int)
def CJ(a:au) :=
 ((length [iZ a,hV a.2.2.2.2.2.2.2.2.2.2.1,dP a.2.2.2.2.1 (bj a)]):Int)
def pW(a:au)(b:Int) :=
 getD a.1 b.toNat default
theorem Vh :
 ∀(a:au),CT.wf bR a/\True->True->ao (decide (32<(ac a.1))) (5=eG a) ((∃(b:Int),(0<=b/\b<=(gO a)/\first (g7 a) b.toNat=0)/\a.1=a.1/\(ac a.1)=(ac a.1)/\0=b/\(nC a))/\ ∀(b:Int),0<=b/\b<=(gO a)/\first (g7 a) b.toNat=0->ao (decide (b<(ac a.1))) (0<=b/\b<(ac a.1)/\ ∀(c:Bool),c= ! decide (fC (pW a b).1)->(ah (! c))/\((! c)->(ar (! c))/\(ar (! c))/\True)/\((! c)->(ar (! c))/\(ar (! c))/\True)/\(aE c)/\ao (bif c then true else decide (jl a (pW a b).1<b)) (10=eG a) (∀(d:Bool),d=decide ((pW a b).2<0)->(ah (! d))/\((! d)->(ar (! d))/\(ar (! d))/\True)/\((! d)->(ar (! d))/\(ar (! d))/\True)/\(aE d)/\ao (bif d then true else decide (cy a (pW a b).2<b)) (11=eG a) (∃(e:Int),(0<=e/\e<=(gO a)/\first (g7 a) e.toNat=0)/\toNat ((gO a) -e)<toNat ((gO a) -b)/\a.1=a.1/\(ac a.1)=(ac a.1)/\aj (b+1)=e/\(nC a))))
 (∀(c:Bool),c= ! decide (a.2.1=0)->(ah c)/\(ah c)/\(ah c)/\(ah c)/\ ∀(d:Bool),d= ! decide (fC a.2.1)->(ah (c&& ! d))/\((c&& ! d)->(ar (c&& ! d))/\(ar (c&& ! d))/\True)/\(ah (c&& ! d))/\(c->(ar c)/\(d=false->(c&& ! d))/\True)/\(ar c)/\ao (bif c then bif d then true else decide (0<=jl a a.2.1) else false) (10=eG a) (ao (decide (a.2.2.1<0)) (ao (decide (a.2.2.1<0)) (13=eG a) (∃(e:Unit),(vQ a))) (∀(e:Bool),e=decide (a.2.2.2.2.2.1<1)->(ah (! e))/\(ah (! e))/\(aE e)/\ao (bif e then true else decide (4<a.2.2.2.2.2.1)) (ao (bif e then true else decide (4<a.2.2.2.2.2.1)) (13=eG a) (∃(f:Unit),(vQ a))) (∀(f:Bool),f=decide (a.2.2.2.2.2.1=3)->(ah f)/\(ah f)/\(ar f)/\ao (bif f then decide (a.2.1=0) else false) (ao (bif f then decide (a.2.1=0) else false) (13=eG a) (∃(g:Unit),(vQ a))) (∀(g:Bool),g= ! decide (a.2.2.2.2.2.2.1=0)->(ah g)/\(ah g)/\(ah
 g)/\(ar g)/\ao (bif g then ! decide (fC a.2.2.2.2.2.2.1) else false) (ao (bif g then ! decide (fC a.2.2.2.2.2.2.1) else false) (13=eG a) (∃(h:Unit),(vQ a))) (∀(h:Bool),h=decide (a.2.2.2.2.2.1=4)->(ah h)/\(ah h)/\(ar h)/\ao (bif h then decide (a.2.2.2.2.2.2.1=0) else false) (ao (bif h then decide (a.2.2.2.2.2.2.1=0) else false) (13=eG a) (∃(i:Unit),(vQ a))) (∀(i:Bool),i=decide (a.2.2.2.2.2.2.2.2.2.2.2.2.2.1<1)->(ah (! i))/\(ah (! i))/\(aE i)/\ao (bif i then true else decide (255<a.2.2.2.2.2.2.2.2.2.2.2.2.2.1)) (ao (bif i then true else decide (255<a.2.2.2.2.2.2.2.2.2.2.2.2.2.1)) (13=eG a) (∃(j:Unit),(vQ a))) (ao (decide ((ac a.1)=0)) (13=eG a) (∃(j:Unit),(vQ a))))))))/\ ∀(e:Unit),length (ay a)<=(32:Nat)/\first (g7 a) (length (ay a))=0/\ ¬oH a/\ ¬mK a->length (ay a)<=(100000:Nat)/\(0:Int)<=0/\0<(CJ
 a)/\ao (! decide (getD [iZ a,hV a.2.2.2.2.2.2.2.2.2.2.1,dP a.2.2.2.2.1 (bj a)] (toNat 0) default=0)) (getD [iZ a,hV a.2.2.2.2.2.2.2.2.2.2.1,dP a.2.2.2.2.1 (bj a)] (toNat 0) default=eG a) (0<=aj ((0:Int)+1)/\aj ((0:Int)+1)<(CJ a)/\ao (! decide (getD [iZ a,hV a.2.2.2.2.2.2.2.2.2.2.1,dP a.2.2.2.2.1 (bj a)] (toNat (aj ((0:Int)+1))) default=0)) (getD [iZ a,hV a.2.2.2.2.2.2.2.2.2.2.1,dP a.2.2.2.2.1 (bj a)] (toNat (aj ((0:Int)+1))) default=eG a) (0<=aj (aj ((0:Int)+1)+1)/\aj (aj ((0:Int)+1)+1)<(CJ a)/\ao (! decide (getD [iZ a,hV a.2.2.2.2.2.2.2.2.2.2.1,dP a.2.2.2.2.1 (bj a)] (toNat (aj (aj ((0:Int)+1)+1))) default=0)) (getD [iZ a,hV a.2.2.2.2.2.2.2.2.2.2.1,dP a.2.2.2.2.1 (bj a)] (toNat (aj (aj ((0:Int)+1)+1)))
 default=eG a) (0=eG a)))))):=by
  delta nC vQ gO CJ pW ah ar aE aj ac;rintro d - -;have hd:d.1=ay d:=rfl;rw[hd];refine aw (λh=>?_) (λh=>?_)
  .unfold eG;rw[am (by have:=aI h;omega)]
  have h32:(ay d).length<=32:=by have:=aL h;omega
  clear h;refine⟨⟨0,⟨ab,ab,rfl⟩,aP⟩,?_⟩;rintro x ⟨x0,x1,hf⟩;refine aw (λhx=>?_) (λhx=>?_)
  .have hx:=aI hx;refine⟨x0,hx,?_⟩
   (repeat (refine bY ?_;repeat refine bZ ?_));refine sF (λho=>?_) (λh1 h2=>?_)
   .have e:=L9 (x:=d) x0 (ho.imp gF aI);rw[← Fh h32 x0 hx hf (by rw[e];decide),e]
   have hn:¬ (¬ fC ((ay d).getD x.toNat default).1∨jl d ((ay d).getD x.toNat default).1<x):=by
    rintro (k|k)
    .exact k (iD h1)
    .exact aL h2 k
   (repeat (refine bY ?_;repeat refine bZ ?_));refine sF (λho=>?_) (λh1 h2=>?_)
   .have e:=PV (x:=d) x0 hn (ho.imp aI aI);rw[← Fh h32 x0 hx hf (by rw[e];decide),e]
   .have e:=NI (x:=d) x0 hn (by
     rintro (k|k)
     .exact aL h1 k
     .exact aL h2 k)
    exact⟨x+1,⟨ab,ab,xK x0 hf e⟩,ab,aP⟩
  have hx:=aL hx;rw[show x.toNat=(ay d).length by omega] at hf;rw[show d.2.1=fy d from rfl];intro b hb;refine⟨aA,aA,aA,aA,?_⟩;intro b1 hb1
  (repeat refine⟨(by cases b <;> cases b1 <;> simp),?_⟩);have hL:(bif b then bif b1 then true else decide (0<=jl d (fy d)) else false)=decide (oH d):=by
   rw[hb,hb1];unfold oH;by_cases k1:fy d=0 <;> by_cases k2:fC (fy d) <;> by_cases k3:0<=jl d (fy d) <;> simp[k1,k2,k3]
  rw[hL];refine aw (λh=>IE h32 hf (aI h)) (λhl=>?_);have hl:=aL hl;clear hL hb hb1;refine⟨?_,?_⟩
  .have bad:=λh=>Mr (x:=d) h32 hf hl h;refine yG (λh=>bad (.inl (aI h))) (λc1=>?_)
   (repeat (refine bY ?_;repeat refine bZ ?_));rw[lx];refine yG (λh=>bad (.inr (.inl (aI h)))) (λc2=>?_)
   (repeat (refine bY ?_;repeat refine bZ ?_));rw[uL];refine yG (λh=>bad (.inr (.inr (.inl (aI h))))) (λc3=>?_)
   (repeat (refine bY ?_;repeat refine bZ ?_));rw[F7];refine yG (λh=>bad (.inr (.inr (.inr (.inl (aI h)))))) (λc4=>?_)
   (repeat (refine bY ?_;repeat refine bZ ?_));rw[uL];refine yG (λh=>bad (.inr (.inr (.inr (.inr (.inl (aI h))))))) (λc5=>?_)
   (repeat (refine bY ?_;repeat refine bZ ?_));rw[lx];refine yG (λh=>bad (.inr (.inr (.inr (.inr (.inr (.inl (aI h)))))))) (λc6=>?_);refine aw (λh=>bad (.inr (.inr (.inr (.inr (.inr (.inr ?_))))))) (λc7=>?_)
   .have:=aI h;omega
   refine⟨(),⟨h32,hf,hl,?_⟩,aP⟩;rintro (k|k|k|k|k|k|k)
   .exact aL c1 k
   .exact aL c2 k
   .exact aL c3 k
   .exact aL c4 k
   .exact aL c5 k
   .exact aL c6 k
   .have:=aL c7;omega
  rintro-⟨-,-,-,hb⟩;have e:=IM h32 hf hl hb;rw[show IntKind.wrap IntKind.i64 (IntKind.wrap IntKind.i64 ((0:Int)+1)+1)=2 by decide,show IntKind.wrap IntKind.i64 ((0:Int)+1)=1 by decide,e];refine⟨ab,ab,aA,aw (λh=>?_) (λh=>?_)⟩
  .rw[am (show iZ d≠0 from gF h)];rfl
  rw[af (show ¬ iZ d≠0 from λk=>k (iD h))];refine⟨ab,aA,aw (λh=>?_) (λh=>?_)⟩
  .rw[am (show hV (jV d)≠0 from gF h)];rfl
  rw[af (show ¬ hV (jV d)≠0 from λk=>k (iD h))];refine⟨ab,aA,aw (λh=>?_) (λh=>?_)⟩
  .rfl
  .exact (show dP (aU d) (bj d)=0 from iD h).symm
theorem aG8:aB 149 OZ.spec:=aF Tryz.func149 (av (av (av (av (av (av (av aD YF) M5) Bo) an4) ab6) PH) aM4) aP9 Vh
def KP:Ct:=⟨[.agg bR],[.own 3 cI],λd=>[(ay d.1).length<=100000],λd=>((bj d.1,()),())⟩
def VZ:bw KP.ps->ce:=(λd=>{loops:=(bq 3 (λS=>{ι:=Int×ae,qn:=fj,μ:=λi=>((ay d.1).length-i.1).toNat,inv:=λi=>0<=i.1/\i.1<=(ay d.1).length/\i.2=(bj d.1).take i.1.toNat,keep:=[1],slots:=λi=>[(3,.own 524288 1),(4,.int .i64 i.1)],keepN:=[32],names:=λi=>[(524288,.live (.row 3 cI i.2))]}) cC)})
theorem ag0 :
 ∀(a:au),CT.wf bR a/\True->length (ay a)<=(100000:Nat)->(∃(b:Int) (c:ae),(0<=b/\b<=(gO a)/\c=take b.toNat (bj a))/\0=b/\a.1=a.1/\a.2.1=a.2.1/\a.2.2.1=a.2.2.1/\a.2.2.2.1=a.2.2.2.1/\a.2.2.2.2.1=a.2.2.2.2.1/\a.2.2.2.2.2.1=a.2.2.2.2.2.1/\a.2.2.2.2.2.2.1=a.2.2.2.2.2.2.1/\a.2.2.2.2.2.2.2.1=a.2.2.2.2.2.2.2.1/\a.2.2.2.2.2.2.2.2.1=a.2.2.2.2.2.2.2.2.1/\a.2.2.2.2.2.2.2.2.2.1=a.2.2.2.2.2.2.2.2.2.1/\a.2.2.2.2.2.2.2.2.2.2.1.1=a.2.2.2.2.2.2.2.2.2.2.1.1/\a.2.2.2.2.2.2.2.2.2.2.1.2=a.2.2.2.2.2.2.2.2.2.2.1.2/\a.2.2.2.2.2.2.2.2.2.2.2.1=a.2.2.2.2.2.2.2.2.2.2.2.1/\a.2.2.2.2.2.2.2.2.2.2.2.2.1=a.2.2.2.2.2.2.2.2.2.2.2.2.1/\a.2.2.2.2.2.2.2.2.2.2.2.2.2.1=a.2.2.2.2.2.2.2.2.2.2.2.2.2.1/\a.2.2.2.2.2.2.2.2.2.2.2.2.2.2=a.2.2.2.2.2.2.2.2.2.2.2.2.2.2/\c=([]:ae)/\True)/\ ∀(b:Int)(c:ae),0<=b/\b<=(gO a)/\c=take b.toNat (bj a)->ao (decide (b<(ac a.1))) (0<=b/\b<(ac
 a.1)/\(c.length+length [(pW a b).2])*(8:Nat)<=(140737488355328:Nat)/\ ∃(d:Int) (e:ae),(0<=d/\d<=(gO a)/\e=take d.toNat (bj a))/\toNat ((gO a) -d)<toNat ((gO a) -b)/\aj (b+1)=d/\a.1=a.1/\a.2.1=a.2.1/\a.2.2.1=a.2.2.1/\a.2.2.2.1=a.2.2.2.1/\a.2.2.2.2.1=a.2.2.2.2.1/\a.2.2.2.2.2.1=a.2.2.2.2.2.1/\a.2.2.2.2.2.2.1=a.2.2.2.2.2.2.1/\a.2.2.2.2.2.2.2.1=a.2.2.2.2.2.2.2.1/\a.2.2.2.2.2.2.2.2.1=a.2.2.2.2.2.2.2.2.1/\a.2.2.2.2.2.2.2.2.2.1=a.2.2.2.2.2.2.2.2.2.1/\a.2.2.2.2.2.2.2.2.2.2.1.1=a.2.2.2.2.2.2.2.2.2.2.1.1/\a.2.2.2.2.2.2.2.2.2.2.1.2=a.2.2.2.2.2.2.2.2.2.2.1.2/\a.2.2.2.2.2.2.2.2.2.2.2.1=a.2.2.2.2.2.2.2.2.2.2.2.1/\a.2.2.2.2.2.2.2.2.2.2.2.2.1=a.2.2.2.2.2.2.2.2.2.2.2.2.1/\a.2.2.2.2.2.2.2.2.2.2.2.2.2.1=a.2.2.2.2.2.2.2.2.2.2.2.2.2.1/\a.2.2.2.2.2.2.2.2.2.2.2.2.2.2=a.2.2.2.2.2.2.2.2.2.2.2.2.2.2/\c++[(pW a b).2]=e/\True) (c=bj a):=by
  delta gO pW aj ac;rintro d-hl;have hlen:(bj d).length=(ay d).length:=by simp[bj]
  refine⟨⟨0,[],⟨ab,ab,rfl⟩,aP⟩,?_⟩;rintro j l ⟨j0,j1,rfl⟩;have hd:d.1=ay d:=rfl;rw[hd];refine bU (λhk=>?_) (λhk=>?_)
  .refine⟨j0,hk,by simp only[dA,dM,List.length_nil];omega,j+1,_,⟨ab,ab,rfl⟩,ab,?_⟩
   (repeat refine js ?_);refine⟨?_,bv⟩;rw[rk j0 (by rw[hlen];exact hk)];unfold bj;rw[bL,bL,List.getElem?_map,cK ab];rfl
  .rw[fi ab]
theorem Pw:aB 70 KP.spec:=aF Tryz.func70 aD VZ ag0
def LM:Ct:=⟨[.agg bR,.val cI],[.val cI],λd=>[],λd=>((cy d.1 d.2.1,()),())⟩
def aW5:bw LM.ps->ce:=(λd=>{loops:=(bq 2 (λS=>{ι:=Int,μ:=λi=>((ay d.1).length-i).toNat,inv:=λi=>0<=i/\i<=(ay d.1).length∧∀ x∈(ay d.1).take i.toNat,ic d.2.1 x=false,keep:=[1,2],slots:=λi=>[(5,.int .i64 i)],keepN:=[48]}) cC)})
theorem TD :
 ∀(a:au)(b:Int),CT.wf bR a/\aq b/\True->True->(∃(c:Int),(0<=c/\c<=(gO a)/\ ∀(d:Int×Int),d∈take c.toNat (ay a)->ic b d=false)/\b=b/\0=c/\(nC a))/\ ∀(c:Int),(0<=c/\c<=(gO a)/\ ∀(d:Int×Int),d∈take c.toNat (ay a)->ic b d=false)->ao (decide (c<(ac a.1))) (0<=c/\c<(ac a.1)/\ao (decide ((getD a.1 c.toNat default).2=b)) (c=cy a b) (∃(d:Int),(0<=d/\d<=(gO a)/\ ∀(e:Int×Int),e∈take d.toNat (ay a)->ic b e=false)/\toNat ((gO a) -d)<toNat ((gO a) -c)/\b=b/\aj (c+1)=d/\(nC a))) (-1=cy a b):=by
  delta nC gO aj ac;rintro d k ⟨⟨⟨hl,-⟩,-⟩,-⟩ -;have hd:d.1=ay d:=rfl;rw[hd] at hl ⊢;simp only[maxLen] at hl;refine⟨⟨0,⟨ab,ab,aA⟩,aP⟩,?_⟩;rintro j ⟨j0,j1,hj⟩;refine bU (λhk=>?_) (λhk=>?_)
  .refine⟨j0,hk,aw (λhm=>?_) (λhm=>?_)⟩
   .exact xA j0 hk hj hm
   .exact⟨j+1,⟨ab,ab,nW j0 hk hj hm⟩,ab,aP⟩
  .exact yd hk hj
theorem Ta:aB 28 LM.spec:=aF Tryz.func28 aD aW5 TD
def RT:Ct:=⟨[.agg bR,.val cP],[.val .bool],λd=>[],λd=>((dC d.1 d.2.1,()),())⟩
def ZO:bw RT.ps->ce:=(λd=>{loops:=(bq 2 (λS=>{ι:=Int,μ:=λi=>((ay d.1).length-i).toNat,inv:=λi=>0<=i/\i<=(ay d.1).length∧∀ x∈(ay d.1).take i.toNat,gV d.2.1 x=false,keep:=[1,2],slots:=λi=>[(5,.int .i64 i)],keepN:=[48]}) cC)})
theorem ax4 :
 ∀(a:au)(b:Int),CT.wf bR a/\(0<=b/\b<=4294967295)/\True->True->(∃(c:Int),(0<=c/\c<=(gO a)/\ ∀(d:Int×Int),d∈take c.toNat (ay a)->gV b d=false)/\b=b/\0=c/\(nC a))/\ ∀(c:Int),(0<=c/\c<=(gO a)/\ ∀(d:Int×Int),d∈take c.toNat (ay a)->gV b d=false)->ao (decide (c<(ac a.1))) (0<=c/\c<(ac a.1)/\ao (decide ((getD a.1 c.toNat default).1=b)) (true=dC a b) (∃(d:Int),(0<=d/\d<=(gO a)/\ ∀(e:Int×Int),e∈take d.toNat (ay a)->gV b e=false)/\toNat ((gO a) -d)<toNat ((gO a) -c)/\b=b/\aj (c+1)=d/\(nC a))) (∀(d:Bool),d= ! decide (a.2.1=0)->(ah d)/\(d->(ar d)/\(ar d)/\True)/\(ar d)/\(bif d then decide (a.2.1=b) else false)=dC a b):=by
  delta nC gO ah ar aj ac;rintro d a ⟨⟨⟨hl,-⟩,-⟩,-⟩ -;have hd:d.1=ay d:=rfl;rw[hd] at hl ⊢;simp only[maxLen] at hl;refine⟨⟨0,⟨ab,ab,aA⟩,aP⟩,?_⟩;rintro j ⟨j0,j1,hj⟩;refine bU (λhk=>?_) (λhk=>?_)
  .refine⟨j0,hk,aw (λhm=>?_) (λhm=>?_)⟩
   .have e:j=jl d a:=xA j0 hk hj hm;unfold dC;rw[← e,cM j0];rfl
   .exact⟨j+1,⟨ab,ab,nW j0 hk hj hm⟩,ab,aP⟩
  .have e : -1=jl d a:=yd hk hj
   (repeat (refine bY ?_;repeat refine bZ ?_));unfold dC;rw[← e,show d.2.1=fy d from rfl];cases decide (fy d=0) <;> rfl
theorem Yy:aB 30 RT.spec:=aF Tryz.func30 aD ZO ax4
def tO(x:au)(i k:Nat):Bool:=decide (fC ((ay x).getD i default).1)&&decide (∀ q∈(ay x).take k,q.1≠((ay x).getD i default).1)
def tG(x:au)(i k:Nat):Bool:=decide (0<=((ay x).getD i default).2)&&decide (∀ q∈(ay x).take k,q.2≠((ay x).getD i default).2)
theorem az1{x:au}{a:Int}(h:∃ q∈ay x,q.1=a):0<=jl x a:=by
 obtain⟨q,hq,rfl⟩:=h
 unfold jl gW
 have:(ay x).findIdx (gV q.1)<(ay x).length:=List.findIdx_lt_length_of_exists ⟨q,hq,by unfold gV;simp⟩
 rw[am this];omega
theorem MI{α:Type}{l:List α}{q:α}{P:α->Prop} [DecidablePred P]:decide (∀ x∈l++[q],P x)=(decide (∀ x∈l,P x)&&decide (P q)):=by
 rw[← Bool.decide_and]
 apply decide_eq_decide.2
 simp[or_imp,forall_and]
theorem aV5{x:au}{i:Nat}{k:Int}{q:Int×Int}(st:(ay x).take (k+1).toNat=(ay x).take k.toNat++[q]) :
  (bif tO x i k.toNat then !decide (q.1=((ay x).getD i default).1) else false)=tO x i (k+1).toNat:=by
 unfold tO
 rw[st,MI (P:=λq:Int×Int=>q.1≠((ay x).getD i default).1),EB]
 cases decide (fC ((ay x).getD i default).1) <;> cases decide (∀ q∈(ay x).take k.toNat,q.1≠((ay x).getD i default).1) <;> rfl
theorem at8{x:au}{i:Nat}{k:Int}{q:Int×Int}(st:(ay x).take (k+1).toNat=(ay x).take k.toNat++[q]) :
  (bif tG x i k.toNat then !decide (q.2=((ay x).getD i default).2) else false)=tG x i (k+1).toNat:=by
 unfold tG
 rw[st,MI (P:=λq:Int×Int=>q.2≠((ay x).getD i default).2),EB]
 cases decide (0<=((ay x).getD i default).2) <;> cases decide (∀ q∈(ay x).take k.toNat,q.2≠((ay x).getD i default).2) <;> rfl
theorem TW{x:au}{i:Int}(h0:0<=i)(h1:i<(ay x).length):tO x i.toNat i.toNat=decide (¬ (¬ fC ((ay x).getD i.toNat default).1∨jl x ((ay x).getD i.toNat default).1<i)):=by
 have k:=Q3 (q:=gV ((ay x).getD i.toNat default).1) (l:=ay x) (i:=i.toNat) ab (by unfold gV;exact cM rfl)
 rw[show ((i.toNat:Nat):Int)=i by omega] at k
 unfold tO jl
 rw[← Bool.decide_and]
 apply decide_eq_decide.2
 rw[k,not_or,Classical.not_not,not_exists]
 refine and_congr nh (forall_congr' λq=>?_)
 rw[not_and]
 refine imp_congr nh ?_
 unfold gV
 rw[nZ]
theorem YD{x:au}{i:Int}(h0:0<=i)(h1:i<(ay x).length):tG x i.toNat i.toNat=decide (¬ (((ay x).getD i.toNat default).2<0∨cy x ((ay x).getD i.toNat default).2<i)):=by
 have k:=Q3 (q:=ic ((ay x).getD i.toNat default).2) (l:=ay x) (i:=i.toNat) ab (by unfold ic;exact cM rfl)
 rw[show ((i.toNat:Nat):Int)=i by omega] at k
 unfold tG cy
 rw[← Bool.decide_and]
 apply decide_eq_decide.2
 rw[k,not_or,not_exists,Int.not_lt]
 refine and_congr nh (forall_congr' λq=>?_)
 rw[not_and]
 refine imp_congr nh ?_
 unfold ic
 rw[nZ]
def QU:Ct:=⟨[.agg bR],[.val cI],λd=>[],λd=>((eG d.1,()),())⟩
def ap3:bw QU.ps->ce:=(λd=>{loops:=(bq 4 (λS=>{ι:=Int,μ:=λi=>((ay d.1).length-i).toNat,inv:=λi=>0<=i/\i<=(ay d.1).length/\first (g7 d.1) i.toNat=0,keep:=[1],slots:=λi=>[(3,.int .i64 i)],keepN:=[32]}) (bq 8 (λS=>{ι:=Int×Bool×Bool,qn:=rH,μ:=λi=>(S.i 3-i.1).toNat,inv:=λi=>0<=i.1/\i.1<=S.i 3/\i.2.1=tO d.1 (S.i 3).toNat i.1.toNat/\i.2.2=tG d.1 (S.i 3).toNat i.1.toNat,keep:=[1,3],slots:=λi=>[(4,.bool i.2.1),(5,.bool i.2.2),(6,.int .i64 i.1)],keepN:=[32]}) (bq 17 (λS=>{ι:=Int,μ:=λi=>((ay d.1).length-i).toNat,inv:=λi=>0<=i/\i<=(ay d.1).length/\(fy d.1≠0→∀ q∈(ay d.1).take i.toNat,gV (fy d.1) q=false),keep:=[1],slots:=λi=>[(7,.int .i64 i)],keepN:=[32]}) cC)))})
def GY(a:au)(c:Int) :=
 c<=(gO a)/\(fy a≠(0:Int)-> ∀(d:Int×Int),d∈take c.toNat (ay a)->gV (fy a) d=false)
theorem au8 :
 ∀(a:au),CT.wf bR a/\True->True->ao (decide (32<(ac a.1))) (5=eG a) ((∃(b:Int),(0<=b/\b<=(gO a)/\first (g7 a) b.toNat=0)/\0=b/\(nC a))/\ ∀(b:Int),0<=b/\b<=(gO a)/\first (g7 a) b.toNat=0->ao (decide (b<(ac a.1))) (0<=b/\b<(ac a.1)/\0<=b/\b<(ac a.1)/\(∃(c:Int) (d:Bool),∃(e:Bool),(0<=c/\c<=b/\d=tO a b.toNat c.toNat/\e=tG a b.toNat c.toNat)/\b=b/\decide (fC (pW a b).1)=d/\decide (0<=(pW a b).2)=e/\0=c/\(nC a))/\ ∀(c:Int)(d e:Bool),0<=c/\c<=b/\d=tO a b.toNat c.toNat/\e=tG a b.toNat c.toNat->ao (decide (c<b)) (∀(f:Bool),f=d->(ah f)/\(f->(ar f)/\(ar f)/\0<=c/\c<(ac a.1)/\True)/\(ah f)/\(ah f)/\(ah f)/\(f->(ar f)/\(ar f)/\0<=b/\b<(ac a.1)/\True)/\(ah f)/\(ah f)/\(f->(ar f)/\(ar f)/\True)/\(ar f)/\ ∀(g:Bool),g=e->(ah g)/\(g->(ar g)/\(ar g)/\0<=c/\c<(ac a.1)/\True)/\(ah g)/\(ah g)/\(ah g)/\(g->(ar g)/\(ar
 g)/\0<=b/\b<(ac a.1)/\True)/\(ah g)/\(ah g)/\(g->(ar g)/\(ar g)/\True)/\(ar g)/\ ∃(h:Int) (i:Bool),∃(j:Bool),(0<=h/\h<=b/\i=tO a b.toNat h.toNat/\j=tG a b.toNat h.toNat)/\toNat (b -h)<toNat (b -c)/\b=b/\(bif f then ! decide ((getD a.1 c.toNat default).1=(pW a b).1) else false)=i/\(bif g then ! decide ((getD a.1 c.toNat default).2=(pW a b).2) else false)=j/\aj (c+1)=h/\(nC a)) (ao (! d) (10=eG a) (ao (! e) (11=eG a) (∃(f:Int),(0<=f/\f<=(gO a)/\first (g7 a) f.toNat=0)/\toNat ((gO a) -f)<toNat ((gO a) -b)/\aj (b+1)=f/\(nC a))))) ((∃(c:Int),(0<=c/\(GY a c))/\0=c/\(nC a))/\ ∀(c:Int),0<=c/\(GY a c)-> ∀(d:Bool),d=decide (c<(ac a.1))->(ah d)/\(ah d)/\(ar d)/\ao (bif d then ! decide (a.2.1=0) else false) (0<=c/\c<(ac a.1)/\ao (decide ((getD a.1 c.toNat default).1=a.2.1)) (10=eG a) (∃(e:Int),(0<=e/\e<=(gO
 a)/\(fy a≠(0:Int)-> ∀(f:Int×Int),f∈take e.toNat (ay a)->gV (fy a) f=false))/\toNat ((gO a) -e)<toNat ((gO a) -c)/\aj (c+1)=e/\(nC a))) (∀(e:Bool),e= ! decide (a.2.1=0)->(ah e)/\(ah e)/\(ah e)/\(ar e)/\ao (bif e then ! decide (fC a.2.1) else false) (10=eG a) (∀(f:Bool),f=decide (a.2.2.1<0)->(ah (! f))/\(ah (! f))/\(aE f)/\ ∀(g:Bool),(g=bif f then true else decide (a.2.2.2.2.2.1<1))->(ah (! g))/\(ah (! g))/\(aE g)/\ ∀(h:Bool),(h=bif g then true else decide (4<a.2.2.2.2.2.1))->(ah (! h))/\(ah (! h))/\(ah (! h))/\ ∀(i:Bool),i=decide (a.2.2.2.2.2.1=3)->(ah (! h&&i))/\(ah (! h&&i))/\((! h)->(ar (! h))/\(i->(! h&&i))/\True)/\(aE h)/\ ∀(j:Bool),(j=bif h then true else bif i then decide (a.2.1=0) else false)->(ah (! j))/\(ah (! j))/\(ah (! j))/\ ∀(k:Bool),k= ! decide (a.2.2.2.2.2.2.1=0)->(ah (! j&&k))/\(ah (! j&&k))/\(ah (! j&&k))/\((!
 j)->(ar (! j))/\(k->(! j&&k))/\True)/\(aE j)/\ ∀(l:Bool),(l=bif j then true else bif k then ! decide (fC a.2.2.2.2.2.2.1) else false)->(ah (! l))/\(ah (! l))/\(ah (! l))/\ ∀(m:Bool),m=decide (a.2.2.2.2.2.1=4)->(ah (! l&&m))/\(ah (! l&&m))/\((! l)->(ar (! l))/\(m->(! l&&m))/\True)/\(aE l)/\ ∀(n:Bool),(n=bif l then true else bif m then decide (a.2.2.2.2.2.2.1=0) else false)->(ah (! n))/\(ah (! n))/\(aE n)/\ ∀(o:Bool),(o=bif n then true else decide (a.2.2.2.2.2.2.2.2.2.2.2.2.2.1<1))->(ah (! o))/\(ah (! o))/\(aE o)/\ ∀(p:Bool),(p=bif o then true else decide (255<a.2.2.2.2.2.2.2.2.2.2.2.2.2.1))->(ah (! p))/\(ah (! p))/\(ah (! p))/\(aE p)/\ao (bif p then true else decide ((ac a.1)=0)) (13=eG a) (ao (! decide (iZ a=0)) (iZ a=eG a) (ao (! decide (hV a.2.2.2.2.2.2.2.2.2.2.1=0)) (hV a.2.2.2.2.2.2.2.2.2.2.1=eG a) (length (ay
 a)<=(100000:Nat)/\dP a.2.2.2.2.1 (bj a)=eG a))))))):=by
  delta nC gO pW GY ah ar aE aj ac;rintro d ⟨⟨⟨hl,-⟩,-⟩,-⟩ -;have hd:d.1=ay d:=rfl;rw[hd] at hl ⊢;simp only[maxLen] at hl;refine aw (λh=>?_) (λh=>?_)
  .unfold eG;rw[am (by have:=aI h;omega)]
  have h32:(ay d).length<=32:=by have:=aL h;omega
  clear h;refine⟨⟨0,⟨ab,ab,rfl⟩,aP⟩,?_⟩;rintro x ⟨x0,x1,hf⟩;refine aw (λhx=>?_) (λhx=>?_)
  .have hx:=aI hx;refine⟨x0,hx,x0,hx,⟨0,_,_,⟨ab,x0,?_,?_⟩,aP⟩,?_⟩
   .simp[tO]
   .simp[tG]
   rintro k a b ⟨k0,k1,ha,hb⟩;refine bU (λhk=>?_) (λhk=>?_)
   .have st:=rk (l:=ay d) k0 ab;rintro b1 hb1
    (repeat refine⟨(by first|(simp;done)|exact λh=>⟨λ_=>h,λ_=>h,k0,ab,bv⟩|exact λh=>⟨λ_=>h,λ_=>h,x0,ab,bv⟩),?_⟩);rintro b2 hb2
    (repeat refine⟨(by first|(simp;done)|exact λh=>⟨λ_=>h,λ_=>h,k0,ab,bv⟩|exact λh=>⟨λ_=>h,λ_=>h,x0,ab,bv⟩),?_⟩);refine⟨k+1,_,_,⟨ab,ab,?_,?_⟩,ab,aP⟩
    .rw[hb1,ha,aV5 st]
    .rw[hb2,hb,at8 st]
   .have hk:k=x:=by have:=hk;omega
    subst hk;have fa:a=decide (¬ (¬ fC ((ay d).getD k.toNat default).1∨jl d ((ay d).getD k.toNat default).1<k)):=by rw[ha,TW x0 hx]
    have fb:b=decide (¬ (((ay d).getD k.toNat default).2<0∨cy d ((ay d).getD k.toNat default).2<k)):=by rw[hb,YD x0 hx]
    refine aw (λh=>?_) (λh=>?_)
    .have e:=L9 (x:=d) x0 (by rw[fa,EB] at h;exact Classical.not_not.1 (aI h));rw[← Fh h32 x0 hx hf (by rw[e];decide),e]
    have hn:=aI (fa.symm.trans (by simpa using h));refine aw (λh=>?_) (λh=>?_)
    .have e:=PV (x:=d) x0 hn (by rw[fb,EB] at h;exact Classical.not_not.1 (aI h));rw[← Fh h32 x0 hx hf (by rw[e];decide),e]
    have hm:=aI (fb.symm.trans (by simpa using h));exact⟨k+1,⟨ab,ab,xK x0 hf (NI x0 hn hm)⟩,ab,aP⟩
  have hx:=aL hx;rw[show x.toNat=(ay d).length by omega] at hf;clear x1 x0;refine⟨⟨0,⟨ab,ab,aA⟩,aP⟩,?_⟩;rw[show d.2.1=fy d from rfl];rintro k ⟨k0,k1,hk⟩
  (repeat (refine bY ?_;repeat refine bZ ?_));rw[aN2];refine aw (λh=>?_) (λh=>?_)
  .obtain⟨h1,h2⟩:=aI h;refine⟨k0,h1,aw (λhm=>?_) (λhm=>?_)⟩
   .refine IE h32 hf ⟨h2,.inr (az1 ?_)⟩;have:=aI hm;exact⟨_,bS k0 h1,this⟩
   .exact⟨k+1,⟨ab,ab,λh0=>nW k0 h1 (hk h0) hm⟩,ab,aP⟩
  have hend:fy d≠0→¬ 0<=jl d (fy d):=λh0 hp=>by
   have hkl:¬ k<(ay d).length:=λh1=>aL h ⟨h1,h0⟩;have hk:=hk h0;have e : -1=jl d (fy d):=yd hkl hk;omega
  (repeat (refine bY ?_;repeat refine bZ ?_));rw[F7];refine aw (λh=>?_) (λh=>?_)
  .obtain⟨h1,h2⟩:=aI h;exact IE h32 hf ⟨h1,.inl h2⟩
  have hL:¬ oH d:=by
   rintro⟨h1,h2⟩;rcases h2 with h2|h2
   .exact aL h ⟨h1,h2⟩
   .exact hend h1 h2
  have e:=IM h32 hf hL;have gd:True:=trivial;intro b1 hb1
  (repeat refine⟨(by first|(simp;done)|(simp +contextual;done)),?_⟩);intro b2 hb2
  (repeat refine⟨(by first|(simp;done)|(simp +contextual;done)),?_⟩);intro b3 hb3
  (repeat refine⟨(by first|(simp;done)|(simp +contextual;done)),?_⟩);intro b4 hb4
  (repeat refine⟨(by first|(simp;done)|(simp +contextual;done)),?_⟩);intro b5 hb5
  (repeat refine⟨(by first|(simp;done)|(simp +contextual;done)),?_⟩);intro b6 hb6
  (repeat refine⟨(by first|(simp;done)|(simp +contextual;done)),?_⟩);intro b7 hb7
  (repeat refine⟨(by first|(simp;done)|(simp +contextual;done)),?_⟩);intro b8 hb8
  (repeat refine⟨(by first|(simp;done)|(simp +contextual;done)),?_⟩);intro b9 hb9
  (repeat refine⟨(by first|(simp;done)|(simp +contextual;done)),?_⟩);intro b10 hb10
  (repeat refine⟨(by first|(simp;done)|(simp +contextual;done)),?_⟩);intro b11 hb11
  (repeat refine⟨(by first|(simp;done)|(simp +contextual;done)),?_⟩);have hF:(bif b11 then true else decide (((ay d).length:Int)=0))=decide (mK d):=by
   rw[hb11,hb10,hb9,hb8,hb7,hb6,hb5,hb4,hb3,hb2,hb1];simp only[lx,uL,F7];apply decide_eq_decide.2;unfold mK JJ fS oB iM fy;by_cases hu:fC d.2.2.2.2.2.2.1 <;> simp only[hu,not_true_eq_false,not_false_eq_true,and_false,io,or_false,false_or,ne_eq] <;> omega
  rw[hF];refine aw (λh=>Mr h32 hf hL (aI h)) (λh=>?_);rw[e (aL h)];refine aw (λh=>?_) (λh=>?_)
  .rw[am (show iZ d≠0 from gF h)]
  rw[af (show ¬ iZ d≠0 from λk=>k (iD h))];refine aw (λh=>?_) (λh=>?_)
  .rw[am (show hV (jV d)≠0 from gF h)];rfl
  rw[af (show ¬ hV (jV d)≠0 from λk=>k (iD h))];exact⟨ab,rfl⟩
theorem ai2:aB 27 QU.spec:=aF Tryz.func27 (av (av (av (av (av aD Xp) Vf) VX) K8) Pw) ap3 au8
abbrev aH8:OT := .pair (.dat (.sl dj)) (.pair cI (.pair (.row 3 cI) (.pair vM cI)))
abbrev pI:OT := .pair bR (.pair aH8 (.pair cI (.pair cI (.pair (.dat (.sl bP)) jS))))
abbrev wK:CT := .pair cI (.sl bP)
abbrev dQ:Type:=au×ct×Int×Int×ae×cJ
abbrev oP:Type:=ct×(Int×ae)×Int
def lE(h:cJ):Int:=h.2.2.2.2.2.1
def jm(h:cJ):Int:=h.2.2.2.2.2.2
def pU(h:cJ):Int:=h.2.1
def tI(h:cJ):Int:=h.2.2.1
def Ba(h:cJ):Int:=h.2.2.2.1
def ci(x:au)(link:Int):Int:=max (cy x link) 0
def adr(x:au)(i:Int):Int:=if i<0∨(ay x).length<=i then 0 else ((ay x).getD i.toNat default).1
def fV(s:ct)(a:Int):Bool:=ie (bT s) a&&decide (0<(bf (bT s) a).2.1.length)
def lO(x:au)(s:ct)(r:Rt)(k:dZ):Int:=(ju r.2.2 (sw x) k (jz s) r.2.1.length).1
def ja(x:au)(s:ct)(r:Rt)(k:dZ):Int:=if r.2.1.length=1 then r.2.1.getD 0 default else r.2.1.getD (lO x s r k).toNat default
def QE(s:ct)(b:Int):ct:=(s.1,s.2.1,s.2.2.1,s.2.2.2.1,b)
def gz(s:ct)(r:Rt):ct:=if r.2.1.length=1 then s else QE s (IntKind.i64.wrap (jz s+1))
def AT(s:ct)(t:Int×Int):ct:=(s.1,s.2.1,s.2.2.1,t,s.2.2.2.2)
def qK(l:ae)(i:Int):ae:=if i<l.length then l.set i.toNat (IntKind.i64.wrap (l.getD i.toNat default+1)) else l
def PR(s:ct)(i:Int):ct:=(s.1,IntKind.i64.wrap (s.2.1+1),qK s.2.2.1 i,s.2.2.2)
def kO(x:au)(i link:Int):Int:=if fS x=2 then adr x (cy x link) else if fS x=3 then fy x else if fS x=4 then oB x else adr x i
def iR(w:dQ)(s:ct):dQ:=(w.1,s,w.2.2)
def vC(w:dQ)(h:cJ):dQ:=(w.1,w.2.1,w.2.2.1,w.2.2.2.1,w.2.2.2.2.1,h)
def iN:Int×ae:=(0,[])
def lT(w:dQ):(Int×Int)×Bool:=kF (jV w.1) (sR w.2.1) w.2.2.2.1
def kg(w:dQ):ct:=PR (AT w.2.1 (lT w).1) (ci w.1 w.2.2.1)
def kq(w:dQ):Rt:=bf (bT w.2.1) (lE w.2.2.2.2.2)
def j8(B:Int->Int->ae)(w:dQ):Int:=ja w.1 (kg w) (kq w) (bc (B (adr w.1 (ci w.1 w.2.2.1)) 0))
def iu(w:dQ):Int:=mD w.1 (AT w.2.1 (lT w).1) (ci w.1 w.2.2.1) w.2.2.2.1 (pU w.2.2.2.2.2) (lE w.2.2.2.2.2)
def j5(B:Int->Int->ae)(w:dQ)(own:Int):Int:=if own=0 then kO w.1 (ci w.1 w.2.2.1) (j8 B w) else own
def dD(B:Int->Int->ae)(E:Int->Int)(w:dQ)(own:Int):oP :=
 if own=0/\ku w.1=true then (w.2.1,iN,4)
 else if E 0≠0 then (w.2.1,iN,6)
 else if fV w.2.1 (lE w.2.2.2.2.2)=false then (w.2.1,iN,8)
 else if (lT w).2=false then (AT w.2.1 (lT w).1,iN,5)
 else (gz (kg w) (kq w),(j8 B w,B (j5 B w own) (iu w)),2)
def fT(w:dQ)(f i:Int):ae:=jw w.2.2.2.2.1 f i (iM w.1)
def kT(w:dQ)(i:Int):Int:=gI w.2.2.2.2.1 i (iM w.1)
def dW(w:dQ)(kind code f i:Int):ae:=jv w.2.2.2.2.1 f kind code i (iM w.1)
def jq(w:dQ)(kind code i:Int):Int:=fY w.2.2.2.2.1 kind code i (iM w.1)
def iy(w:dQ):oP :=
 if w.2.2.1 = -1∨kT w 0≠0 then (w.2.1,iN,1)
 else dD (fT w) (kT w) w (if Ba w.2.2.2.2.2=17 then 0 else jm w.2.2.2.2.2)
def fO(w:dQ):oP :=
 if w.2.2.1 ≠ -1/\dJ w.1=false/\tI w.2.2.2.2.2<2 then dD (dW w 11 0) (jq w 11 0) w 0
 else if fV w.2.1 (jm w.2.2.2.2.2)=false then (if w.2.2.1 = -1 then (w.2.1,iN,8) else dD (dW w 3 0) (jq w 3 0) w 0)
 else (gz w.2.1 (bf (bT w.2.1) (jm w.2.2.2.2.2)),(ja w.1 w.2.1 (bf (bT w.2.1) (jm w.2.2.2.2.2)) (bc w.2.2.2.2.1),if w.2.2.1 ≠ -1/\dJ w.1=false then ig w.2.2.2.2.1 else w.2.2.2.2.1),0)
def gb(w:dQ):oP :=
 if bX w.2.2.2.2.1≠0 then (w.2.1,iN,6)
 else if dC w.1 (jm (aY w.2.2.2.2.1).1)=true then iy (vC w (aY w.2.2.2.2.1).1)
 else if iL w.1=true/\w.2.2.1 ≠ -1 then (w.2.1,iN,6)
 else fO (vC w (aY w.2.2.2.2.1).1)
def fI(x:au)(s:ct)(link at':Int)(b:ae):oP:=gb (x,s,link,at',b,oY)
def pD(w:dQ):Prop:=cH (bT w.2.1)/\okL (bT w.2.1)/\(w.2.2.2.2.1.length:Int)<=1000000
theorem KO{way seed:Int}{k:dZ}{count n:Int}(h:1<=n):0<=(ju way seed k count n).1/\(ju way seed k count n).1<n:=by
 have h1:=xT seed k
 have h2:=xT seed (k.1,k.2.1,0,0,0)
 unfold ju
 split
 .exact⟨f8 _,by show (0:Int)<n;omega⟩
 next hn=>
  dsimp only;split
  .exact⟨Int.tmod_nonneg _ h1.1,Int.tmod_lt_of_pos _ ab⟩
  .split
   .exact⟨Int.tmod_nonneg _ h2.1,Int.tmod_lt_of_pos _ ab⟩
   .exact⟨Int.tmod_nonneg _ ab,Int.tmod_lt_of_pos _ ab⟩
theorem DG{r:oP}{s:ct}{o:Int×ae}{y:Int}(w:dQ)(e:r=(s,o,y)):o=r.2.1/\y=r.2.2/\iR w s=iR w r.1:=by subst e;exact⟨rfl,rfl,rfl⟩
theorem xE{B:Int->Int->ae}{E:Int->Int}{w:dQ}{own:Int}(h:own=0/\ku w.1=true):dD B E w own=(w.2.1,iN,4):=by unfold dD;rw[am h]
theorem wU{B:Int->Int->ae}{E:Int->Int}{w:dQ}{own:Int}(h:¬ (own=0/\ku w.1=true))(h1:E 0≠0):dD B E w own=(w.2.1,iN,6):=by unfold dD;rw[af h,am h1]
theorem zm{B:Int->Int->ae}{E:Int->Int}{w:dQ}{own:Int}(h:¬ (own=0/\ku w.1=true))(h1:¬ E 0≠0)(h2:fV w.2.1 (lE w.2.2.2.2.2)=false):dD B E w own=(w.2.1,iN,8):=by
 unfold dD;rw[af h,af h1,am h2]
theorem zW{B:Int->Int->ae}{E:Int->Int}{w:dQ}{own:Int}(h:¬ (own=0/\ku w.1=true))(h1:¬ E 0≠0)(h2:¬ fV w.2.1 (lE w.2.2.2.2.2)=false)(h3:(lT w).2=false):dD B E w own=(AT w.2.1 (lT w).1,iN,5):=by
 unfold dD;rw[af h,af h1,af h2,am h3]
theorem ze{B:Int->Int->ae}{E:Int->Int}{w:dQ}{own:Int}(h:¬ (own=0/\ku w.1=true))(h1:¬ E 0≠0)(h2:¬ fV w.2.1 (lE w.2.2.2.2.2)=false)(h3:¬ (lT w).2=false) :
  dD B E w own=(gz (kg w) (kq w),(j8 B w,B (j5 B w own) (iu w)),2):=by
 unfold dD;rw[af h,af h1,af h2,af h3]
theorem CB{s:ct}{a:Int}(h:¬ fV s a=false):(bf (bT s) a).2.1≠[]:=by
 intro e;apply h;unfold fV;rw[e];simp
theorem I6(p:rA):((d8 p).length:Int)<=1500:=by
 unfold d8
 split
 next h=>
  unfold fA at h;split at h
  .cases h
  .split at h
   .cases h
   .rw[cu,sK];omega
 .simp
theorem Ml(b:ae)(src kind code id ttl:Int):((jv b src kind code id ttl).length:Int)<=1500:=by
 unfold jv;split
 .exact I6 _
 .simp
theorem ae4(b:ae)(src id ttl:Int):((jw b src id ttl).length:Int)<=1500:=by
 unfold jw;split
 .split
  .exact I6 _
  .split
   .exact Ml ..
   .exact I6 _
 .simp
theorem Ok(w:dQ)(f i:Int):((fT w f i).length:Int)<=1500:=ae4 ..
theorem GK(w:dQ)(k c f i:Int):((dW w k c f i).length:Int)<=1500:=Ml ..
theorem DS(x:au)(k:Int):0<=ci x k:=by unfold ci;omega
theorem Gw{l:ae}{i:Int}(h:i<l.length):qK l i=l.set i.toNat (IntKind.i64.wrap (l.getD i.toNat default+1)):=am h
theorem QH{l:ae}{i:Int}(h:¬ i<l.length):qK l i=l:=af h
def WV:Ct:=⟨[.box 238 pI],[.val cI],λd=>[],λd=>((ci d.1.1 d.1.2.2.1,()),(d.1,()))⟩
def vt(a:au)(b:List aN)(c:Int)(d:ae)(e f g h i:Int)(j:ae)(k:cJ) :=
 CT.wf bR a/\((b.length<=maxLen/\ ∀(l:aN),l∈b->((0<=l.1.1/\l.1.1<=4294967295)/\aq l.1.2)/\(l.2.1.length<=maxLen/\ ∀(m:Int),m∈l.2.1->aq m)/\aq l.2.2)/\aq c/\(d.length<=maxLen/\ ∀(l:Int),l∈d->aq l)/\(aq e/\aq f)/\aq g)/\aq h/\aq i/\(j.length<=maxLen/\ ∀(l:Int),l∈j->0<=l/\l<=255)/\CT.wf jS k
def pe(a:au)(b:List aN)(c:Int)(d:ae)(e f g h i:Int)(j:ae)(k:cJ) :=
 (a,(b,c,d,(e,f),g),h,i,j,k)=(a,(b,c,d,(e,f),g),h,i,j,k)
theorem VL :
 ∀(a:au)(b:List aN)(c:Int)(d:ae)(e f g h i:Int)(j:ae)(k:cJ),(vt a b c d e f g h i j k)/\True->True->max (cy a h) (0:Int)=ci a h/\(pe a b c d e f g h i j k):=by
  delta vt pe
  intros
  exact⟨rfl,rfl⟩
theorem Rq:aB 219 WV.spec:=aF Tryz.func219 (av aD Bo) aT VL
def af7:Ct:=⟨[.box 238 pI,.val cI],[.val cP],λd=>[],λd=>((adr d.1.1 d.2.1,()),(d.1,()))⟩
def AB(a:au)(b:List aN)(c:Int)(d:ae)(e f g h i:Int)(j:ae)(k:cJ) :=
 CT.wf bR a/\((b.length<=maxLen/\ ∀(m:aN),m∈b->((0<=m.1.1/\m.1.1<=4294967295)/\aq m.1.2)/\(m.2.1.length<=maxLen/\ ∀(n:Int),n∈m.2.1->aq n)/\aq m.2.2)/\aq c/\(d.length<=maxLen/\ ∀(m:Int),m∈d->aq m)/\(aq e/\aq f)/\aq g)/\aq h/\aq i/\(j.length<=maxLen/\ ∀(m:Int),m∈j->0<=m/\m<=255)/\CT.wf jS k
theorem aw1 :
 ∀(a:au)(b:List aN)(c:Int)(d:ae)(e f g h i:Int)(j:ae)(k:cJ)(l:Int),(AB a b c d e f g h i j k)/\aq l/\True->True-> ∀(m:Bool),m=decide (l<0)->(ah (! m))/\(ah (! m))/\(ah (! m))/\(ah (! m))/\(ah (! m))/\((! m)->(ar (! m))/\(ar (! m))/\True)/\(aE m)/\ao (bif m then true else decide ((ac a.1)<=l)) (0=adr a l/\(pe a b c d e f g h i j k)) (0<=l/\l<(ac a.1)/\(getD a.1 l.toNat default).1=adr a l/\(pe a b c d e f g h i j k)):=by
  delta AB pe ah ar aE ac;rintro d x x1 x2 x3 x4 x5 x6 x7 x8 h i - -
  (repeat (refine bY ?_;repeat refine bZ ?_));refine sF (λho=>?_) (λh1 h2=>?_)
  .unfold adr;rw[am (by rcases ho with q|q <;> have:=aI q <;> first|exact .inl this|exact .inr this)];exact⟨rfl,rfl⟩
  .have h1:=aL h1;have h2:=aL h2;refine⟨ab,ab,?_,rfl⟩;unfold adr;rw[af (by rintro (q|q);exact h1 q;exact h2 q)];rfl
theorem Jj:aB 220 af7.spec:=aF Tryz.func220 aD aT aw1
def U8:Ct:=⟨[.box 238 pI,.agg dj,.val (.sl bP)],[.val cI],λd=>[d.2.1.2.1≠[],(d.2.2.1.length:Int)<=1000000],λd=>((ja d.1.1 d.1.2.1 d.2.1 (bc d.2.2.1),()),(iR d.1 (gz d.1.2.1 d.2.1),()))⟩
theorem aK2 :
 ∀(a:au)(b:List aN)(c:Int)(d:ae)(e f g h i:Int)(j:ae)(k:cJ)(l m:Int)(n:ae)(o:Int)(p:ae),(CT.wf bR a/\((b.length<=maxLen/\ ∀(q:aN),q∈b->((0<=q.1.1/\q.1.1<=4294967295)/\aq q.1.2)/\(q.2.1.length<=maxLen/\ ∀(r:Int),r∈q.2.1->aq r)/\aq q.2.2)/\aq c/\(d.length<=maxLen/\ ∀(q:Int),q∈d->aq q)/\(aq e/\aq f)/\aq g)/\aq h/\aq i/\(j.length<=maxLen/\ ∀(q:Int),q∈j->0<=q/\q<=255)/\CT.wf jS k)/\(((0<=l/\l<=4294967295)/\aq m)/\(n.length<=maxLen/\ ∀(q:Int),q∈n->aq q)/\aq o)/\(p.length<=maxLen/\ ∀(q:Int),q∈p->0<=q/\q<=255)/\True->n≠([]:ae)/\(ac p)<=1000000->ao (decide ((ac n)=1)) ((0:Int)<=0/\0<(ac n)/\ai n (0:Int)=ja a (b,c,d,(e,f),g) ((l,m),n,o) (bc p)/\(a,(b,c,d,(e,f),g),h,i,j,k)=iR (a,(b,c,d,(e,f),g),h,i,j,k) (gz (b,c,d,(e,f),g) ((l,m),n,o))) ((ac p)<=1099511627776/\0<=(ju o a.2.2.2.2.2.2.2.2.2.2.2.2.2.2 (bc p) g
 (ac n)).1/\(ju o a.2.2.2.2.2.2.2.2.2.2.2.2.2.2 (bc p) g (ac n)).1<(ac n)/\n.getD (toNat (ju o a.2.2.2.2.2.2.2.2.2.2.2.2.2.2 (bc p) g (ac n)).1) default=ja a (b,c,d,(e,f),g) ((l,m),n,o) (bc p)/\(a,(b,c,d,(e,f),aj (g+1)),h,i,j,k)=iR (a,(b,c,d,(e,f),g),h,i,j,k) (gz (b,c,d,(e,f),g) ((l,m),n,o))):=by
  delta aj ai ac;rintro d x x1 x2 x3 x4 x5 x6 x7 x8 h r1 r2 nx bl b-⟨hn,hb⟩;have hpos:1<=(nx.length:Int):=by cases nx with
   | nil=>exact absurd rfl hn
   | cons a l=>simp;omega
  refine bU (λh1=>?_) (λh1=>?_)
  .have h1':nx.length=1:=ab;refine⟨ab,ab,?_,?_⟩
   .unfold ja;rw[am h1'];rfl
   .unfold gz;rw[am h1'];rfl
  .have h1':¬ nx.length=1:=ab;have hc:=KO (way:=bl) (seed:=d.2.2.2.2.2.2.2.2.2.2.2.2.2.2) (k:=bc b) (count:=x5) hpos;refine⟨ab,hc.1,hc.2,?_,?_⟩
   .unfold ja;rw[af h1'];rfl
   .unfold gz;rw[af h1'];rfl
theorem G6:aB 203 U8.spec:=aF Tryz.func203 (av (av aD ah0) QW) aT aK2
def av6:Ct:=⟨[.box 238 pI,.val cP],[.agg dj,.val .bool],λd=>[cH (bT d.1.2.1),okL (bT d.1.2.1)],λd=>((bf (bT d.1.2.1) d.2.1,fV d.1.2.1 d.2.1,()),(d.1,()))⟩
theorem VG :
 ∀(a:au)(b:List aN)(c:Int)(d:ae)(e f g h i:Int)(j:ae)(k:cJ)(l:Int),(AB a b c d e f g h i j k)/\(0<=l/\l<=4294967295)/\True->(cH (bT (b,c,d,(e,f),g))/\((length (bT (b,c,d,(e,f),g))):Int)<=134217728/\ ∀(m:Rt),m∈bT (b,c,d,(e,f),g)->(ac m.2.1)<=1099511627776)->cH b/\okL b/\ ∀(m:Bool),m=ie b l->(ah m)/\(ah m)/\(ah m)/\(ar m)/\bf b l=bf (bT (b,c,d,(e,f),g)) l/\(bif m then decide (0<((length (bf b l).2.1):Int)) else false)=fV (b,c,d,(e,f),g) l/\(pe a b c d e f g h i j k):=by
  delta AB pe ah ar ac;rintro d x x1 x2 x3 x4 x5 x6 x7 x8 h a-⟨h1,h2⟩;refine⟨h1,h2,?_⟩
  (repeat (refine bY ?_;repeat refine bZ ?_));refine⟨rfl,?_,rfl⟩;show (bif ie x a then decide (0<((bf x a).2.1.length:Int)) else false)=(ie x a&&decide (0<(bf x a).2.1.length))
  cases ie x a <;> simp
theorem I5:aB 202 av6.spec:=aF Tryz.func202 (av aD Gc) aT VG
def ai5:Ct:=⟨[.val cP,.val cI,.box 236 (.ref 238 pI),.box 3 cI,.box 3 cI],[.own 5 bP,.val cI],λd=>[(d.2.2.1.2.2.2.2.1.length:Int)<=1000000],λd=>((dW d.2.2.1 d.2.2.2.1 d.2.2.2.2.1 d.1 d.2.1,jq d.2.2.1 d.2.2.2.1 d.2.2.2.2.1 d.2.1,()),(d.2.2.1,d.2.2.2.1,d.2.2.2.2.1,()))⟩
theorem au4 :
 ∀(a b:Int)(c:au)(d:List aN)(e:Int)(f:ae)(g h i j k:Int)(l:ae)(m:cJ)(n o:Int),(0<=a/\a<=4294967295)/\aq b/\(CT.wf bR c/\((d.length<=maxLen/\ ∀(p:aN),p∈d->((0<=p.1.1/\p.1.1<=4294967295)/\aq p.1.2)/\(p.2.1.length<=maxLen/\ ∀(q:Int),q∈p.2.1->aq q)/\aq p.2.2)/\aq e/\(f.length<=maxLen/\ ∀(p:Int),p∈f->aq p)/\(aq g/\aq h)/\aq i)/\aq j/\aq k/\(l.length<=maxLen/\ ∀(p:Int),p∈l->0<=p/\p<=255)/\CT.wf jS m)/\aq n/\aq o/\True->(ac l)<=1000000->(ac l)<=1099511627776/\jv l a n o b c.2.2.2.2.2.2.2.2.2.2.2.2.2.1=dW (c,(d,e,f,(g,h),i),j,k,l,m) n o a b/\fY l n o b c.2.2.2.2.2.2.2.2.2.2.2.2.2.1=jq (c,(d,e,f,(g,h),i),j,k,l,m) n o b/\(c,(d,e,f,(g,h),i),j,k,l,m)=(c,(d,e,f,(g,h),i),j,k,l,m)/\n=n/\o=o:=by
  delta ac;rintro x x1 d y y1 y2 y3 y4 y5 y6 y7 b h k c-hb;exact⟨ab,rfl,rfl,rfl,rfl,rfl⟩
theorem aN4:aB 224 ai5.spec:=aF Tryz.func224 (av aD LL) aT au4
def ak2:Ct:=⟨[.box 238 pI,.val cI,.val cI],[.fn 224 3,.box 236 .ali,.box 3 cI,.box 3 cI],λd=>[],λd=>(((),(),d.2.1,d.2.2.1,()),(d.1,()))⟩
def BP(n:aN) :=
 ((0<=n.1.1/\n.1.1<=4294967295)/\aq n.1.2)/\(n.2.1.length<=maxLen/\ ∀(o:Int),o∈n.2.1->aq o)/\aq n.2.2
def FJ(a:au)(b:List aN)(c:Int)(d:ae)(e f g h i:Int)(j:ae)(k:cJ) :=
 CT.wf bR a/\((b.length<=maxLen/\ ∀(n:aN),n∈b->(BP n))/\aq c/\(d.length<=maxLen/\ ∀(n:Int),n∈d->aq n)/\(aq e/\aq f)/\aq g)/\aq h/\aq i/\(j.length<=maxLen/\ ∀(n:Int),n∈j->0<=n/\n<=255)/\CT.wf jS k
theorem Wk :
 ∀(a:au)(b:List aN)(c:Int)(d:ae)(e f g h i:Int)(j:ae)(k:cJ)(l m:Int),(FJ a b c d e f g h i j k)/\aq l/\aq m/\True->True->()=()/\()=()/\l=l/\m=m/\(pe a b c d e f g h i j k):=by
  delta FJ BP pe
  intros
  exact⟨rfl,rfl,rfl,rfl,rfl⟩
theorem ai4:aB 201 ak2.spec:=aF Tryz.func201 aD aT Wk
def aP2:Ct:=⟨[.val cP,.val cI,.box 236 (.ref 238 pI)],[.own 5 bP,.val cI],λd=>[(d.2.2.1.2.2.2.2.1.length:Int)<=1000000],λd=>((fT d.2.2.1 d.1 d.2.1,kT d.2.2.1 d.2.1,()),(d.2.2.1,()))⟩
theorem U3 :
 ∀(a b:Int)(c:au)(d:List aN)(e:Int)(f:ae)(g h i j k:Int)(l:ae)(m:cJ),(0<=a/\a<=4294967295)/\aq b/\(CT.wf bR c/\((d.length<=maxLen/\ ∀(n:aN),n∈d->(BP n))/\aq e/\(f.length<=maxLen/\ ∀(n:Int),n∈f->aq n)/\(aq g/\aq h)/\aq i)/\aq j/\aq k/\(l.length<=maxLen/\ ∀(n:Int),n∈l->0<=n/\n<=255)/\CT.wf jS m)/\True->(ac l)<=1000000->(ac l)<=1099511627776/\jw l a b c.2.2.2.2.2.2.2.2.2.2.2.2.2.1=fT (c,(d,e,f,(g,h),i),j,k,l,m) a b/\gI l b c.2.2.2.2.2.2.2.2.2.2.2.2.2.1=kT (c,(d,e,f,(g,h),i),j,k,l,m) b/\(c,(d,e,f,(g,h),i),j,k,l,m)=(c,(d,e,f,(g,h),i),j,k,l,m):=by
  delta BP ac;rintro x x1 d y y1 y2 y3 y4 y5 y6 y7 b h-hb;exact⟨ab,rfl,rfl,rfl⟩
theorem QB:aB 198 aP2.spec:=aF Tryz.func198 (av aD au2) aT U3
def Vv:Ct:=⟨[.box 238 pI,.val cI,.val cI],[.val cP],λd=>[],λd=>((kO d.1.1 d.2.1 d.2.2.1,()),(d.1,()))⟩
theorem VQ :
 ∀(a:au)(b:List aN)(c:Int)(d:ae)(e f g h i:Int)(j:ae)(k:cJ)(l m:Int),(FJ a b c d e f g h i j k)/\aq l/\aq m/\True->True->ao (decide (a.2.2.2.2.2.1=2)) (adr a (cy a m)=kO a l m/\(pe a b c d e f g h i j k)) (ao (decide (a.2.2.2.2.2.1=3)) (a.2.1=kO a l m/\(pe a b c d e f g h i j k)) (ao (decide (a.2.2.2.2.2.1=4)) (a.2.2.2.2.2.2.1=kO a l m/\(pe a b c d e f g h i j k)) (adr a l=kO a l m/\(pe a b c d e f g h i j k)))):=by
  delta FJ BP pe;rintro d x x1 x2 x3 x4 x5 x6 x7 x8 h i l - -;unfold kO fS fy oB;refine aw (λh1=>?_) (λh1=>?_)
  .rw[am (aI h1)];exact⟨rfl,rfl⟩
  rw[af (aL h1)];refine aw (λh2=>?_) (λh2=>?_)
  .rw[am (aI h2)];exact⟨rfl,rfl⟩
  rw[af (aL h2)];refine aw (λh3=>?_) (λh3=>?_)
  .rw[am (aI h3)];exact⟨rfl,rfl⟩
  rw[af (aL h3)];exact⟨rfl,rfl⟩
theorem NS:aB 223 Vv.spec:=aF Tryz.func223 (av (av aD Bo) Jj) aT VQ
def K7:Ct:=⟨[.box 238 pI,.fn 198 1,.box 236 .ali,.val cP],[.agg wK,.val cI],λd=>[pD d.1],λd=>(((dD (fT d.1) (kT d.1) d.1 d.2.2.2.1).2.1,(dD (fT d.1) (kT d.1) d.1 d.2.2.2.1).2.2,()),(iR d.1 (dD (fT d.1) (kT d.1) d.1 d.2.2.2.1).1,(),()))⟩
def ao5:bw K7.ps->ce:=(λd=>{cuts:=(bq 17 (λS=>{ι:=Int×ae×(Int×Int),qn:=rH,inv:=λi=>dD (fT d.1) (kT d.1) d.1 d.2.2.2.1=(gz (kg d.1) (kq d.1),(j8 (fT d.1) d.1,(fT d.1) (j5 (fT d.1) d.1 d.2.2.2.1) (iu d.1)),2)/\(kq d.1).2.1≠[]/\(bT d.1.2.1,i.1,i.2.1,i.2.2,jz d.1.2.1)=kg d.1,keep:=[0,1,2,6,9,11],slots:=λi=>[(8,.int .i64 (ci d.1.1 d.1.2.2.1)),(13,.int .i64 (iu d.1))],keepN:=[112,192,560,1048577],names:=λi=>[(1048576,.live (.cells 238 (dU bR d.1.1++([.dsl dj (bT d.1.2.1),.int .i64 i.1,.own 524288 1]++(dU vM i.2.2++([.int .i64 (jz d.1.2.1),.int .i64 d.1.2.2.1,.int .i64 d.1.2.2.2.1,.dsl bP d.1.2.2.2.2.1]++dU jS d.1.2.2.2.2.2)))))),(524288,.live (.row 3 cI i.2.1))]}) cC)})
def mM(a:au)(b:List aN)(c:Int)(d:ae)(e f g h i:Int)(j:ae)(k:cJ)(l:Int) :=
 dD (fT (a,(b,c,d,(e,f),g),h,i,j,k)) (kT (a,(b,c,d,(e,f),g),h,i,j,k)) (a,(b,c,d,(e,f),g),h,i,j,k) l
def d6(b:List aN)(c:Int)(d:ae)(e f g:Int)(k:cJ) :=
 bf (bT (b,c,d,(e,f),g)) k.2.2.2.2.2.1
def Jx(a:au)(b:List aN)(c:Int)(d:ae)(e f g h i:Int)(j:ae)(k:cJ)(l:Int) :=
 (gz (kg (a,(b,c,d,(e,f),g),h,i,j,k)) (kq (a,(b,c,d,(e,f),g),h,i,j,k)),(j8 (fT (a,(b,c,d,(e,f),g),h,i,j,k)) (a,(b,c,d,(e,f),g),h,i,j,k),fT (a,(b,c,d,(e,f),g),h,i,j,k) (j5 (fT (a,(b,c,d,(e,f),g),h,i,j,k)) (a,(b,c,d,(e,f),g),h,i,j,k) l) (iu (a,(b,c,d,(e,f),g),h,i,j,k))),(2:Int))
def nj(a:au)(e f i:Int) :=
 kF a.2.2.2.2.2.2.2.2.2.2.1 (e,f) i
def nI :=
 ((0:Int),([]:ae))
def ua(b:List aN)(c:Int)(d:ae)(e f g:Int)(j:ae) :=
 cH (bT (b,c,d,(e,f),g))/\okL (bT (b,c,d,(e,f),g))/\(ac j)<=1000000
def Ij(a:au)(b:List aN)(c:Int)(d:ae)(e f g h i:Int)(j:ae)(k:cJ)(l n:Int)(o:ae)(p:Int×Int) :=
 dD (fT (a,(b,c,d,(e,f),g),h,i,j,k)) (kT (a,(b,c,d,(e,f),g),h,i,j,k)) (a,(b,c,d,(e,f),g),h,i,j,k) l=(Jx a b c d e f g h i j k l)/\(kq (a,(b,c,d,(e,f),g),h,i,j,k)).2.1≠([]:ae)/\(bT (b,c,d,(e,f),g),n,o,p,jz (b,c,d,(e,f),g))=kg (a,(b,c,d,(e,f),g),h,i,j,k)
theorem aw4 :
 ∀(a:au)(b:List aN)(c:Int)(d:ae)(e f g h i:Int)(j:ae)(k:cJ)(l:Int),(AB a b c d e f g h i j k)/\True/\True/\(0<=l/\l<=4294967295)/\True->(ua b c d e f g j)-> ∀(m:Bool),m=decide (l=0)->(ah m)/\(ah m)/\(ah m)/\(ah m)/\(ar m)/\ao (bif m then a.2.2.2.2.2.2.2.2.2.2.2.1 else false) ((nI)=(mM a b c d e f g h i j k l).2.1/\4=(mM a b c d e f g h i j k l).2.2/\(a,(b,c,d,(e,f),g),h,i,j,k)=iR (a,(b,c,d,(e,f),g),h,i,j,k) (mM a b c d e f g h i j k l).1/\()=()) ((ac j)<=1000000/\ao (! decide (kT (a,(b,c,d,(e,f),g),h,i,j,k) (0:Int)=0)) ((nI)=(mM a b c d e f g h i j k l).2.1/\6=(mM a b c d e f g h i j k l).2.2/\(a,(b,c,d,(e,f),g),h,i,j,k)=iR (a,(b,c,d,(e,f),g),h,i,j,k) (mM a b c d e f g h i j k l).1/\()=()) (cH (bT (b,c,d,(e,f),g))/\okL (bT (b,c,d,(e,f),g))/\ao (! fV (b,c,d,(e,f),g) k.2.2.2.2.2.1) ((nI)=(mM a b c d e f g
 h i j k l).2.1/\8=(mM a b c d e f g h i j k l).2.2/\(a,(b,c,d,(e,f),g),h,i,j,k)=iR (a,(b,c,d,(e,f),g),h,i,j,k) (mM a b c d e f g h i j k l).1/\()=()) (ao (! (nj a e f i).2) ((nI)=(mM a b c d e f g h i j k l).2.1/\5=(mM a b c d e f g h i j k l).2.2/\(a,(b,c,d,(nj a e f i).1,g),h,i,j,k)=iR (a,(b,c,d,(e,f),g),h,i,j,k) (mM a b c d e f g h i j k l).1/\()=()) (ao (decide (ci a h<(ac d))) (0<=ci a h/\ci a h<(ac d)/\0<=ci a h/\ci a h<(ac d)/\ ∃(n:Int) (o:ae),∃(p:Int×Int),(Ij a b c d e f g h i j k l n o p)/\l=l/\ci a h=ci a h/\mD a (b,c,d,(nj a e f i).1,g) (ci a h) i k.2.1 k.2.2.2.2.2.1=iu (a,(b,c,d,(e,f),g),h,i,j,k)/\(0:Int)=0/\(d6 b c d e f g k).1.1=(d6 b c d e f g k).1.1/\(d6 b c d e f g k).1.2=(d6 b c d e f g k).1.2/\(d6 b c d e f g k).2.1=(d6 b c d e f g k).2.1/\(d6 b c d e f g k).2.2=(d6 b c d e f g k).2.2/\fT
 (a,(b,c,d,(e,f),g),h,i,j,k) (adr a (ci a h)) (0:Int)=fT (a,(b,c,d,(e,f),g),h,i,j,k) (adr a (ci a h)) (0:Int)/\a.1=a.1/\a.2.1=a.2.1/\a.2.2.1=a.2.2.1/\a.2.2.2.1=a.2.2.2.1/\a.2.2.2.2.1=a.2.2.2.2.1/\a.2.2.2.2.2.1=a.2.2.2.2.2.1/\a.2.2.2.2.2.2.1=a.2.2.2.2.2.2.1/\a.2.2.2.2.2.2.2.1=a.2.2.2.2.2.2.2.1/\a.2.2.2.2.2.2.2.2.1=a.2.2.2.2.2.2.2.2.1/\a.2.2.2.2.2.2.2.2.2.1=a.2.2.2.2.2.2.2.2.2.1/\a.2.2.2.2.2.2.2.2.2.2.1.1=a.2.2.2.2.2.2.2.2.2.2.1.1/\a.2.2.2.2.2.2.2.2.2.2.1.2=a.2.2.2.2.2.2.2.2.2.2.1.2/\a.2.2.2.2.2.2.2.2.2.2.2.1=a.2.2.2.2.2.2.2.2.2.2.2.1/\a.2.2.2.2.2.2.2.2.2.2.2.2.1=a.2.2.2.2.2.2.2.2.2.2.2.2.1/\a.2.2.2.2.2.2.2.2.2.2.2.2.2.1=a.2.2.2.2.2.2.2.2.2.2.2.2.2.1/\a.2.2.2.2.2.2.2.2.2.2.2.2.2.2=a.2.2.2.2.2.2.2.2.2.2.2.2.2.2/\b=bT (b,c,d,(e,f),g)/\aj (c+1)=n/\(nj a e f i).1.1=p.1/\(nj a e f i).1.2=p.2/\g=jz
 (b,c,d,(e,f),g)/\h=h/\i=i/\j=j/\k.1=k.1/\k.2.1=k.2.1/\k.2.2.1=k.2.2.1/\k.2.2.2.1=k.2.2.2.1/\k.2.2.2.2.1=k.2.2.2.2.1/\k.2.2.2.2.2.1=k.2.2.2.2.2.1/\k.2.2.2.2.2.2=k.2.2.2.2.2.2/\set d (toNat (ci a h)) (aj (ai d (ci a h)+1))=o/\True) (∃(n:Int) (o:ae),∃(p:Int×Int),(Ij a b c d e f g h i j k l n o p)/\l=l/\ci a h=ci a h/\mD a (b,c,d,(nj a e f i).1,g) (ci a h) i k.2.1 k.2.2.2.2.2.1=iu (a,(b,c,d,(e,f),g),h,i,j,k)/\(0:Int)=0/\(d6 b c d e f g k).1.1=(d6 b c d e f g k).1.1/\(d6 b c d e f g k).1.2=(d6 b c d e f g k).1.2/\(d6 b c d e f g k).2.1=(d6 b c d e f g k).2.1/\(d6 b c d e f g k).2.2=(d6 b c d e f g k).2.2/\fT (a,(b,c,d,(e,f),g),h,i,j,k) (adr a (ci a h)) (0:Int)=fT (a,(b,c,d,(e,f),g),h,i,j,k) (adr a (ci a h))
 (0:Int)/\a.1=a.1/\a.2.1=a.2.1/\a.2.2.1=a.2.2.1/\a.2.2.2.1=a.2.2.2.1/\a.2.2.2.2.1=a.2.2.2.2.1/\a.2.2.2.2.2.1=a.2.2.2.2.2.1/\a.2.2.2.2.2.2.1=a.2.2.2.2.2.2.1/\a.2.2.2.2.2.2.2.1=a.2.2.2.2.2.2.2.1/\a.2.2.2.2.2.2.2.2.1=a.2.2.2.2.2.2.2.2.1/\a.2.2.2.2.2.2.2.2.2.1=a.2.2.2.2.2.2.2.2.2.1/\a.2.2.2.2.2.2.2.2.2.2.1.1=a.2.2.2.2.2.2.2.2.2.2.1.1/\a.2.2.2.2.2.2.2.2.2.2.1.2=a.2.2.2.2.2.2.2.2.2.2.1.2/\a.2.2.2.2.2.2.2.2.2.2.2.1=a.2.2.2.2.2.2.2.2.2.2.2.1/\a.2.2.2.2.2.2.2.2.2.2.2.2.1=a.2.2.2.2.2.2.2.2.2.2.2.2.1/\a.2.2.2.2.2.2.2.2.2.2.2.2.2.1=a.2.2.2.2.2.2.2.2.2.2.2.2.2.1/\a.2.2.2.2.2.2.2.2.2.2.2.2.2.2=a.2.2.2.2.2.2.2.2.2.2.2.2.2.2/\b=bT (b,c,d,(e,f),g)/\aj (c+1)=n/\(nj a e f i).1.1=p.1/\(nj a e f i).1.2=p.2/\g=jz
 (b,c,d,(e,f),g)/\h=h/\i=i/\j=j/\k.1=k.1/\k.2.1=k.2.1/\k.2.2.1=k.2.2.1/\k.2.2.2.1=k.2.2.2.1/\k.2.2.2.2.1=k.2.2.2.2.1/\k.2.2.2.2.2.1=k.2.2.2.2.2.1/\k.2.2.2.2.2.2=k.2.2.2.2.2.2/\d=o/\True)/\ ∀(n:Int)(o:ae)(p:Int×Int),dD (fT (a,(b,c,d,(e,f),g),h,i,j,k)) (kT (a,(b,c,d,(e,f),g),h,i,j,k)) (a,(b,c,d,(e,f),g),h,i,j,k) l=(Jx a b c d e f g h i j k l)/\(kq (a,(b,c,d,(e,f),g),h,i,j,k)).2.1≠([]:ae)/\(bT (b,c,d,(e,f),g),n,o,p,jz (b,c,d,(e,f),g))=kg (a,(b,c,d,(e,f),g),h,i,j,k)->(d6 b c d e f g k).2.1≠([]:ae)/\((length (fT (a,(b,c,d,(e,f),g),h,i,j,k) (adr a (ci a h)) (0:Int))):Int)<=1000000/\ao (decide (l=0)) ((ac j)<=1000000/\(ja a (b,n,o,p,g) (d6 b c d e f g k) (bc (fT (a,(b,c,d,(e,f),g),h,i,j,k) (adr a (ci a h)) (0:Int))),fT (a,gz (b,n,o,p,g) (d6 b c d e f g k),h,i,j,k) (kO a (ci a h) (ja a (b,n,o,p,g) (d6 b c
 d e f g k) (bc (fT (a,(b,c,d,(e,f),g),h,i,j,k) (adr a (ci a h)) (0:Int))))) (iu (a,(b,c,d,(e,f),g),h,i,j,k)))=(mM a b c d e f g h i j k l).2.1/\2=(mM a b c d e f g h i j k l).2.2/\(a,gz (b,n,o,p,g) (d6 b c d e f g k),h,i,j,k)=iR (a,(b,c,d,(e,f),g),h,i,j,k) (mM a b c d e f g h i j k l).1/\()=()) ((ac j)<=1000000/\(ja a (b,n,o,p,g) (d6 b c d e f g k) (bc (fT (a,(b,c,d,(e,f),g),h,i,j,k) (adr a (ci a h)) (0:Int))),fT (a,gz (b,n,o,p,g) (d6 b c d e f g k),h,i,j,k) l (iu (a,(b,c,d,(e,f),g),h,i,j,k)))=(mM a b c d e f g h i j k l).2.1/\2=(mM a b c d e f g h i j k l).2.2/\(a,gz (b,n,o,p,g) (d6 b c d e f g k),h,i,j,k)=iR (a,(b,c,d,(e,f),g),h,i,j,k) (mM a b c d e f g h i j k l).1/\()=()))))):=by
  delta mM d6 AB Jx nj nI ua Ij ah ar aj ai ac;rintro d x x1 x2 x3 x4 x5 x6 x7 x8 h own-⟨hs,hl,hb⟩;obtain⟨w,hw⟩:∃ w:dQ,w=(d,(x,x1,x2,(x3,x4),x5),x6,x7,x8,h):=⟨_,rfl⟩
  have e0:d.2.2.2.2.2.2.2.2.2.2.2.1=ku w.1:=by rw[hw];rfl
  have e2:fV (x,x1,x2,(x3,x4),x5) h.2.2.2.2.2.1=fV w.2.1 (lE w.2.2.2.2.2):=by rw[hw];rfl
  have e3:kF d.2.2.2.2.2.2.2.2.2.2.1 (x3,x4) x7=lT w:=by rw[hw];rfl
  rw[e0,e2,e3,← hw];have fin:=λ{s o y}=>DG (r:=dD (fT w) (kT w) w own) (s:=s) (o:=o) (y:=y) w;intro b hb0
  (repeat refine⟨(by first|(simp;done)|(rw[hb0];simp;done)|(cases b <;> simp)),?_⟩);have hq:(bif b then ku w.1 else false)=true↔own=0/\ku w.1=true:=by rw[hb0];by_cases k:own=0 <;> simp[k]
  refine aw (λh0=>?_) (λh0=>?_)
  .obtain⟨f1,f2,f3⟩:=fin (xE (hq.1 h0));exact⟨f1,f2,by rw[← f3,hw];rfl,rfl⟩
  have h0:¬ (own=0/\ku w.1=true):=λk=>by rw[hq.2 k] at h0;cases h0
  refine⟨hb,aw (λh1=>?_) (λh1=>?_)⟩
  .obtain⟨f1,f2,f3⟩:=fin (wU h0 (by simpa using h1));exact⟨f1,f2,by rw[← f3,hw];rfl,rfl⟩
  have h1:¬ (kT w) 0≠0:=by simpa using h1
  refine⟨hs,hl,aw (λh2=>?_) (λh2=>?_)⟩
  .obtain⟨f1,f2,f3⟩:=fin (zm h0 h1 (by simpa using h2));exact⟨f1,f2,by rw[← f3,hw];rfl,rfl⟩
  have h2:¬ fV w.2.1 (lE w.2.2.2.2.2)=false:=by simpa using h2
  refine aw (λh3=>?_) (λh3=>⟨?_,?_⟩)
  .obtain⟨f1,f2,f3⟩:=fin (zW h0 h1 h2 (by simpa using h3));exact⟨f1,f2,by rw[← f3,hw];rfl,rfl⟩
  .have h3:¬ (lT w).2=false:=by simpa using h3
   have eg:=ze (B:=fT w) h0 h1 h2 h3;have hne:(kq w).2.1≠[]:=CB h2;have hin:=DS d x6;have pU:mD d (x,x1,x2,(lT w).1,x5) (ci d x6) x7 h.2.1 h.2.2.2.2.2.1=iu w:=by rw[← e3,hw];rfl
   have hS:kg w=(x,IntKind.i64.wrap (x1+1),qK x2 (ci d x6),(lT w).1,x5):=by rw[← e3,hw];rfl
   refine bU (λh4=>?_) (λh4=>?_)
   .refine⟨hin,h4,hin,h4,_,_,_,⟨eg,hne,?_⟩,rfl,rfl,pU,aP⟩;rw[hS,Gw h4];rfl
   .refine⟨_,_,_,⟨eg,hne,?_⟩,rfl,rfl,pU,aP⟩;rw[hS,QH h4];rfl
  .rintro k l t ⟨eg,hne,hS⟩;have e4:bf (bT (x,x1,x2,(x3,x4),x5)) h.2.2.2.2.2.1=kq w:=by rw[hw];rfl
   have e5:(x,k,l,t,x5)=kg w:=hS;have e6:ja d (kg w) (kq w) (bc ((fT w) (adr d (ci d x6)) 0))=j8 (fT w) w:=by rw[hw];rfl
   rw[e4,e5,e6];obtain⟨f1,f2,f3⟩:=fin eg;have hlen:=Ok w (adr d (ci d x6)) 0;refine⟨hne,ab,bU (λh4=>?_) (λh4=>?_)⟩
   .refine⟨hb,?_,f2,by rw[← f3,hw];rfl,rfl⟩;rw[← f1];unfold j5;rw[am h4,hw];rfl
   .refine⟨hb,?_,f2,by rw[← f3,hw];rfl,rfl⟩;rw[← f1];unfold j5;rw[af h4,hw];rfl
theorem WU:aB 200 K7.spec:=aF Tryz.func200 (av (av (av (av (av (av (av (av aD Rq) Jj) QB) I5) Pa) Rs) G6) NS) ao5 aw4
def OB:Ct:=⟨[.box 238 pI,.fn 224 3,.box 236 .ali,.box 3 cI,.box 3 cI,.val cP],[.agg wK,.val cI],λd=>[pD d.1],λd=>(((dD (dW d.1 d.2.2.2.1 d.2.2.2.2.1) (jq d.1 d.2.2.2.1 d.2.2.2.2.1) d.1 d.2.2.2.2.2.1).2.1,(dD (dW d.1 d.2.2.2.1 d.2.2.2.2.1) (jq d.1 d.2.2.2.1 d.2.2.2.2.1) d.1 d.2.2.2.2.2.1).2.2,()),(iR d.1 (dD (dW d.1 d.2.2.2.1 d.2.2.2.2.1) (jq d.1 d.2.2.2.1 d.2.2.2.2.1) d.1 d.2.2.2.2.2.1).1,(),d.2.2.2.1,d.2.2.2.2.1,()))⟩
def ag3:bw OB.ps->ce:=(λd=>{cuts:=(bq 17 (λS=>{ι:=Int×ae×(Int×Int),qn:=rH,inv:=λi=>dD (dW d.1 d.2.2.2.1 d.2.2.2.2.1) (jq d.1 d.2.2.2.1 d.2.2.2.2.1) d.1 d.2.2.2.2.2.1=(gz (kg d.1) (kq d.1),(j8 (dW d.1 d.2.2.2.1 d.2.2.2.2.1) d.1,(dW d.1 d.2.2.2.1 d.2.2.2.2.1) (j5 (dW d.1 d.2.2.2.1 d.2.2.2.2.1) d.1 d.2.2.2.2.2.1) (iu d.1)),2)/\(kq d.1).2.1≠[]/\(bT d.1.2.1,i.1,i.2.1,i.2.2,jz d.1.2.1)=kg d.1,keep:=[0,1,2,6,9,11],slots:=λi=>[(8,.int .i64 (ci d.1.1 d.1.2.2.1)),(13,.int .i64 (iu d.1))],keepN:=[112,192,560,1048577,1048578,1048579],names:=λi=>[(1048576,.live (.cells 238 (dU bR d.1.1++([.dsl dj (bT d.1.2.1),.int .i64 i.1,.own 524288 1]++(dU vM i.2.2++([.int .i64 (jz d.1.2.1),.int .i64 d.1.2.2.1,.int .i64 d.1.2.2.2.1,.dsl bP d.1.2.2.2.2.1]++dU jS d.1.2.2.2.2.2)))))),(524288,.live (.row 3 cI i.2.1))]}) cC)})
def mR(a:au)(b:List aN)(c:Int)(d:ae)(e f g h i:Int)(j:ae)(k:cJ)(l m n:Int) :=
 dD (dW (a,(b,c,d,(e,f),g),h,i,j,k) l m) (jq (a,(b,c,d,(e,f),g),h,i,j,k) l m) (a,(b,c,d,(e,f),g),h,i,j,k) n
def I4(a:au)(b:List aN)(c:Int)(d:ae)(e f g h i:Int)(j:ae)(k:cJ)(l m n:Int) :=
 (gz (kg (a,(b,c,d,(e,f),g),h,i,j,k)) (kq (a,(b,c,d,(e,f),g),h,i,j,k)),(j8 (dW (a,(b,c,d,(e,f),g),h,i,j,k) l m) (a,(b,c,d,(e,f),g),h,i,j,k),dW (a,(b,c,d,(e,f),g),h,i,j,k) l m (j5 (dW (a,(b,c,d,(e,f),g),h,i,j,k) l m) (a,(b,c,d,(e,f),g),h,i,j,k) n) (iu (a,(b,c,d,(e,f),g),h,i,j,k))),(2:Int))
def HC(a:au)(b:List aN)(c:Int)(d:ae)(e f g h i:Int)(j:ae)(k:cJ)(l m n p:Int)(q:ae)(r:Int×Int) :=
 dD (dW (a,(b,c,d,(e,f),g),h,i,j,k) l m) (jq (a,(b,c,d,(e,f),g),h,i,j,k) l m) (a,(b,c,d,(e,f),g),h,i,j,k) n=(I4 a b c d e f g h i j k l m n)/\(kq (a,(b,c,d,(e,f),g),h,i,j,k)).2.1≠([]:ae)/\(bT (b,c,d,(e,f),g),p,q,r,jz (b,c,d,(e,f),g))=kg (a,(b,c,d,(e,f),g),h,i,j,k)
theorem VI :
 ∀(a:au)(b:List aN)(c:Int)(d:ae)(e f g h i:Int)(j:ae)(k:cJ)(l m n:Int),(CT.wf bR a/\((b.length<=maxLen/\ ∀(o:aN),o∈b->((0<=o.1.1/\o.1.1<=4294967295)/\aq o.1.2)/\(o.2.1.length<=maxLen/\ ∀(p:Int),p∈o.2.1->aq p)/\aq o.2.2)/\aq c/\(d.length<=maxLen/\ ∀(o:Int),o∈d->aq o)/\(aq e/\aq f)/\aq g)/\aq h/\aq i/\(j.length<=maxLen/\ ∀(o:Int),o∈j->0<=o/\o<=255)/\CT.wf jS k)/\True/\True/\aq l/\aq m/\(0<=n/\n<=4294967295)/\True->(ua b c d e f g j)-> ∀(o:Bool),o=decide (n=0)->(ah o)/\(ah o)/\(ah o)/\(ah o)/\(ar o)/\ao (bif o then a.2.2.2.2.2.2.2.2.2.2.2.1 else false) ((nI)=(mR a b c d e f g h i j k l m n).2.1/\4=(mR a b c d e f g h i j k l m n).2.2/\(a,(b,c,d,(e,f),g),h,i,j,k)=iR (a,(b,c,d,(e,f),g),h,i,j,k) (mR a b c d e f g h i j k l m n).1/\()=()/\l=l/\m=m) ((ac j)<=1000000/\ao (! decide (jq (a,(b,c,d,(e,f),g),h,i,j,k) l m
 (0:Int)=0)) ((nI)=(mR a b c d e f g h i j k l m n).2.1/\6=(mR a b c d e f g h i j k l m n).2.2/\(a,(b,c,d,(e,f),g),h,i,j,k)=iR (a,(b,c,d,(e,f),g),h,i,j,k) (mR a b c d e f g h i j k l m n).1/\()=()/\l=l/\m=m) (cH (bT (b,c,d,(e,f),g))/\okL (bT (b,c,d,(e,f),g))/\ao (! fV (b,c,d,(e,f),g) k.2.2.2.2.2.1) ((nI)=(mR a b c d e f g h i j k l m n).2.1/\8=(mR a b c d e f g h i j k l m n).2.2/\(a,(b,c,d,(e,f),g),h,i,j,k)=iR (a,(b,c,d,(e,f),g),h,i,j,k) (mR a b c d e f g h i j k l m n).1/\()=()/\l=l/\m=m) (ao (! (nj a e f i).2) ((nI)=(mR a b c d e f g h i j k l m n).2.1/\5=(mR a b c d e f g h i j k l m n).2.2/\(a,(b,c,d,(nj a e f i).1,g),h,i,j,k)=iR (a,(b,c,d,(e,f),g),h,i,j,k) (mR a b c d e f g h i j k l m n).1/\()=()/\l=l/\m=m) (ao (decide (ci a h<(ac d))) (0<=ci a h/\ci a h<(ac d)/\0<=ci a h/\ci a h<(ac d)/\ ∃(p:Int) (q:List
 Int),∃(r:Int×Int),(HC a b c d e f g h i j k l m n p q r)/\n=n/\ci a h=ci a h/\mD a (b,c,d,(nj a e f i).1,g) (ci a h) i k.2.1 k.2.2.2.2.2.1=iu (a,(b,c,d,(e,f),g),h,i,j,k)/\(0:Int)=0/\(d6 b c d e f g k).1.1=(d6 b c d e f g k).1.1/\(d6 b c d e f g k).1.2=(d6 b c d e f g k).1.2/\(d6 b c d e f g k).2.1=(d6 b c d e f g k).2.1/\(d6 b c d e f g k).2.2=(d6 b c d e f g k).2.2/\dW (a,(b,c,d,(e,f),g),h,i,j,k) l m (adr a (ci a h)) (0:Int)=dW (a,(b,c,d,(e,f),g),h,i,j,k) l m (adr a (ci a h))
 (0:Int)/\l=l/\m=m/\a.1=a.1/\a.2.1=a.2.1/\a.2.2.1=a.2.2.1/\a.2.2.2.1=a.2.2.2.1/\a.2.2.2.2.1=a.2.2.2.2.1/\a.2.2.2.2.2.1=a.2.2.2.2.2.1/\a.2.2.2.2.2.2.1=a.2.2.2.2.2.2.1/\a.2.2.2.2.2.2.2.1=a.2.2.2.2.2.2.2.1/\a.2.2.2.2.2.2.2.2.1=a.2.2.2.2.2.2.2.2.1/\a.2.2.2.2.2.2.2.2.2.1=a.2.2.2.2.2.2.2.2.2.1/\a.2.2.2.2.2.2.2.2.2.2.1.1=a.2.2.2.2.2.2.2.2.2.2.1.1/\a.2.2.2.2.2.2.2.2.2.2.1.2=a.2.2.2.2.2.2.2.2.2.2.1.2/\a.2.2.2.2.2.2.2.2.2.2.2.1=a.2.2.2.2.2.2.2.2.2.2.2.1/\a.2.2.2.2.2.2.2.2.2.2.2.2.1=a.2.2.2.2.2.2.2.2.2.2.2.2.1/\a.2.2.2.2.2.2.2.2.2.2.2.2.2.1=a.2.2.2.2.2.2.2.2.2.2.2.2.2.1/\a.2.2.2.2.2.2.2.2.2.2.2.2.2.2=a.2.2.2.2.2.2.2.2.2.2.2.2.2.2/\b=bT (b,c,d,(e,f),g)/\aj (c+1)=p/\(nj a e f i).1.1=r.1/\(nj a e f i).1.2=r.2/\g=jz
 (b,c,d,(e,f),g)/\h=h/\i=i/\j=j/\k.1=k.1/\k.2.1=k.2.1/\k.2.2.1=k.2.2.1/\k.2.2.2.1=k.2.2.2.1/\k.2.2.2.2.1=k.2.2.2.2.1/\k.2.2.2.2.2.1=k.2.2.2.2.2.1/\k.2.2.2.2.2.2=k.2.2.2.2.2.2/\set d (toNat (ci a h)) (aj (ai d (ci a h)+1))=q/\True) (∃(p:Int) (q:ae),∃(r:Int×Int),(HC a b c d e f g h i j k l m n p q r)/\n=n/\ci a h=ci a h/\mD a (b,c,d,(nj a e f i).1,g) (ci a h) i k.2.1 k.2.2.2.2.2.1=iu (a,(b,c,d,(e,f),g),h,i,j,k)/\(0:Int)=0/\(d6 b c d e f g k).1.1=(d6 b c d e f g k).1.1/\(d6 b c d e f g k).1.2=(d6 b c d e f g k).1.2/\(d6 b c d e f g k).2.1=(d6 b c d e f g k).2.1/\(d6 b c d e f g k).2.2=(d6 b c d e f g k).2.2/\dW (a,(b,c,d,(e,f),g),h,i,j,k) l m (adr a (ci a h)) (0:Int)=dW (a,(b,c,d,(e,f),g),h,i,j,k) l m (adr a (ci a h))
 (0:Int)/\l=l/\m=m/\a.1=a.1/\a.2.1=a.2.1/\a.2.2.1=a.2.2.1/\a.2.2.2.1=a.2.2.2.1/\a.2.2.2.2.1=a.2.2.2.2.1/\a.2.2.2.2.2.1=a.2.2.2.2.2.1/\a.2.2.2.2.2.2.1=a.2.2.2.2.2.2.1/\a.2.2.2.2.2.2.2.1=a.2.2.2.2.2.2.2.1/\a.2.2.2.2.2.2.2.2.1=a.2.2.2.2.2.2.2.2.1/\a.2.2.2.2.2.2.2.2.2.1=a.2.2.2.2.2.2.2.2.2.1/\a.2.2.2.2.2.2.2.2.2.2.1.1=a.2.2.2.2.2.2.2.2.2.2.1.1/\a.2.2.2.2.2.2.2.2.2.2.1.2=a.2.2.2.2.2.2.2.2.2.2.1.2/\a.2.2.2.2.2.2.2.2.2.2.2.1=a.2.2.2.2.2.2.2.2.2.2.2.1/\a.2.2.2.2.2.2.2.2.2.2.2.2.1=a.2.2.2.2.2.2.2.2.2.2.2.2.1/\a.2.2.2.2.2.2.2.2.2.2.2.2.2.1=a.2.2.2.2.2.2.2.2.2.2.2.2.2.1/\a.2.2.2.2.2.2.2.2.2.2.2.2.2.2=a.2.2.2.2.2.2.2.2.2.2.2.2.2.2/\b=bT (b,c,d,(e,f),g)/\aj (c+1)=p/\(nj a e f i).1.1=r.1/\(nj a e f i).1.2=r.2/\g=jz
 (b,c,d,(e,f),g)/\h=h/\i=i/\j=j/\k.1=k.1/\k.2.1=k.2.1/\k.2.2.1=k.2.2.1/\k.2.2.2.1=k.2.2.2.1/\k.2.2.2.2.1=k.2.2.2.2.1/\k.2.2.2.2.2.1=k.2.2.2.2.2.1/\k.2.2.2.2.2.2=k.2.2.2.2.2.2/\d=q/\True)/\ ∀(p:Int)(q:ae)(r:Int×Int),dD (dW (a,(b,c,d,(e,f),g),h,i,j,k) l m) (jq (a,(b,c,d,(e,f),g),h,i,j,k) l m) (a,(b,c,d,(e,f),g),h,i,j,k) n=(I4 a b c d e f g h i j k l m n)/\(kq (a,(b,c,d,(e,f),g),h,i,j,k)).2.1≠([]:ae)/\(bT (b,c,d,(e,f),g),p,q,r,jz (b,c,d,(e,f),g))=kg (a,(b,c,d,(e,f),g),h,i,j,k)->(d6 b c d e f g k).2.1≠([]:ae)/\((length (dW (a,(b,c,d,(e,f),g),h,i,j,k) l m (adr a (ci a h)) (0:Int))):Int)<=1000000/\ao (decide (n=0)) ((ac j)<=1000000/\(ja a (b,p,q,r,g) (d6 b c d e f g k) (bc (dW (a,(b,c,d,(e,f),g),h,i,j,k) l m (adr a (ci a h)) (0:Int))),dW (a,gz (b,p,q,r,g) (d6 b c d e f g k),h,i,j,k) l m (kO a (ci a h) (ja a
 (b,p,q,r,g) (d6 b c d e f g k) (bc (dW (a,(b,c,d,(e,f),g),h,i,j,k) l m (adr a (ci a h)) (0:Int))))) (iu (a,(b,c,d,(e,f),g),h,i,j,k)))=(mR a b c d e f g h i j k l m n).2.1/\2=(mR a b c d e f g h i j k l m n).2.2/\(a,gz (b,p,q,r,g) (d6 b c d e f g k),h,i,j,k)=iR (a,(b,c,d,(e,f),g),h,i,j,k) (mR a b c d e f g h i j k l m n).1/\()=()/\l=l/\m=m) ((ac j)<=1000000/\(ja a (b,p,q,r,g) (d6 b c d e f g k) (bc (dW (a,(b,c,d,(e,f),g),h,i,j,k) l m (adr a (ci a h)) (0:Int))),dW (a,gz (b,p,q,r,g) (d6 b c d e f g k),h,i,j,k) l m n (iu (a,(b,c,d,(e,f),g),h,i,j,k)))=(mR a b c d e f g h i j k l m n).2.1/\2=(mR a b c d e f g h i j k l m n).2.2/\(a,gz (b,p,q,r,g) (d6 b c d e f g k),h,i,j,k)=iR (a,(b,c,d,(e,f),g),h,i,j,k) (mR a b c d e f g h i j k l m n).1/\()=()/\l=l/\m=m))))):=by
  delta mR d6 I4 nj nI ua HC ah ar aj ai ac;rintro d x x1 x2 x3 x4 x5 x6 x7 x8 h ki co own-⟨hs,hl,hb⟩;obtain⟨w,hw⟩:∃ w:dQ,w=(d,(x,x1,x2,(x3,x4),x5),x6,x7,x8,h):=⟨_,rfl⟩
  have e0:d.2.2.2.2.2.2.2.2.2.2.2.1=ku w.1:=by rw[hw];rfl
  have e2:fV (x,x1,x2,(x3,x4),x5) h.2.2.2.2.2.1=fV w.2.1 (lE w.2.2.2.2.2):=by rw[hw];rfl
  have e3:kF d.2.2.2.2.2.2.2.2.2.2.1 (x3,x4) x7=lT w:=by rw[hw];rfl
  rw[e0,e2,e3,← hw];have fin:=λ{s o y}=>DG (r:=dD (dW w ki co) (jq w ki co) w own) (s:=s) (o:=o) (y:=y) w;intro b hb0
  (repeat refine⟨(by first|(simp;done)|(rw[hb0];simp;done)|(cases b <;> simp)),?_⟩);have hq:(bif b then ku w.1 else false)=true↔own=0/\ku w.1=true:=by rw[hb0];by_cases k:own=0 <;> simp[k]
  refine aw (λh0=>?_) (λh0=>?_)
  .obtain⟨f1,f2,f3⟩:=fin (xE (hq.1 h0));exact⟨f1,f2,by rw[← f3,hw];rfl,rfl,rfl,rfl⟩
  have h0:¬ (own=0/\ku w.1=true):=λk=>by rw[hq.2 k] at h0;cases h0
  refine⟨hb,aw (λh1=>?_) (λh1=>?_)⟩
  .obtain⟨f1,f2,f3⟩:=fin (wU h0 (by simpa using h1));exact⟨f1,f2,by rw[← f3,hw];rfl,rfl,rfl,rfl⟩
  have h1:¬ (jq w ki co) 0≠0:=by simpa using h1
  refine⟨hs,hl,aw (λh2=>?_) (λh2=>?_)⟩
  .obtain⟨f1,f2,f3⟩:=fin (zm h0 h1 (by simpa using h2));exact⟨f1,f2,by rw[← f3,hw];rfl,rfl,rfl,rfl⟩
  have h2:¬ fV w.2.1 (lE w.2.2.2.2.2)=false:=by simpa using h2
  refine aw (λh3=>?_) (λh3=>⟨?_,?_⟩)
  .obtain⟨f1,f2,f3⟩:=fin (zW h0 h1 h2 (by simpa using h3));exact⟨f1,f2,by rw[← f3,hw];rfl,rfl,rfl,rfl⟩
  .have h3:¬ (lT w).2=false:=by simpa using h3
   have eg:=ze (B:=dW w ki co) h0 h1 h2 h3;have hne:(kq w).2.1≠[]:=CB h2;have hin:=DS d x6;have pU:mD d (x,x1,x2,(lT w).1,x5) (ci d x6) x7 h.2.1 h.2.2.2.2.2.1=iu w:=by rw[← e3,hw];rfl
   have hS:kg w=(x,IntKind.i64.wrap (x1+1),qK x2 (ci d x6),(lT w).1,x5):=by rw[← e3,hw];rfl
   refine bU (λh4=>?_) (λh4=>?_)
   .refine⟨hin,h4,hin,h4,_,_,_,⟨eg,hne,?_⟩,rfl,rfl,pU,aP⟩;rw[hS,Gw h4];rfl
   .refine⟨_,_,_,⟨eg,hne,?_⟩,rfl,rfl,pU,aP⟩;rw[hS,QH h4];rfl
  .rintro k l t ⟨eg,hne,hS⟩;have e4:bf (bT (x,x1,x2,(x3,x4),x5)) h.2.2.2.2.2.1=kq w:=by rw[hw];rfl
   have e5:(x,k,l,t,x5)=kg w:=hS;have e6:ja d (kg w) (kq w) (bc ((dW w ki co) (adr d (ci d x6)) 0))=j8 (dW w ki co) w:=by rw[hw];rfl
   rw[e4,e5,e6];obtain⟨f1,f2,f3⟩:=fin eg;have hlen:=GK w ki co (adr d (ci d x6)) 0;refine⟨hne,ab,bU (λh4=>?_) (λh4=>?_)⟩
   .refine⟨hb,?_,f2,by rw[← f3,hw];rfl,rfl,rfl,rfl⟩;rw[← f1];unfold j5;rw[am h4,hw];rfl
   .refine⟨hb,?_,f2,by rw[← f3,hw];rfl,rfl,rfl,rfl⟩;rw[← f1];unfold j5;rw[af h4,hw];rfl
theorem ac4:aB 200 OB.spec:=aF Tryz.func200 (av (av (av (av (av (av (av (av aD Rq) Jj) aN4) I5) Pa) Rs) G6) NS) ag3 VI
def am5:Ct:=⟨[.box 238 pI],[.agg wK,.val cI],λd=>[pD d.1],λd=>(((iy d.1).2.1,(iy d.1).2.2,()),(iR d.1 (iy d.1).1,()))⟩
def DR(a:au)(b:List aN)(c:Int)(d:ae)(e f g h i:Int)(j:ae)(k:cJ) :=
 dD (fT (a,(b,c,d,(e,f),g),h,i,j,k)) (kT (a,(b,c,d,(e,f),g),h,i,j,k)) (a,(b,c,d,(e,f),g),h,i,j,k) k.2.2.2.2.2.2
def ET(a:au)(b:List aN)(c:Int)(d:ae)(e f g h i:Int)(j:ae)(k:cJ) :=
 dD (fT (a,(b,c,d,(e,f),g),h,i,j,k)) (kT (a,(b,c,d,(e,f),g),h,i,j,k)) (a,(b,c,d,(e,f),g),h,i,j,k) (0:Int)
theorem as0 :
 ∀(a:au)(b:List aN)(c:Int)(d:ae)(e f g h i:Int)(j:ae)(k:cJ),(vt a b c d e f g h i j k)/\True->(ua b c d e f g j)->(ac j)<=1000000/\ ∀(l:Bool),l=decide (h= -1)->(ah (! l))/\(aE l)/\ao (bif l then true else ! decide (kT (a,(b,c,d,(e,f),g),h,i,j,k) (0:Int)=0)) ((nI)=(iy (a,(b,c,d,(e,f),g),h,i,j,k)).2.1/\1=(iy (a,(b,c,d,(e,f),g),h,i,j,k)).2.2/\(a,(b,c,d,(e,f),g),h,i,j,k)=iR (a,(b,c,d,(e,f),g),h,i,j,k) (iy (a,(b,c,d,(e,f),g),h,i,j,k)).1) (ao (decide (k.2.2.2.1=17)) (pD (a,(b,c,d,(e,f),g),h,i,j,k)/\(ET a b c d e f g h i j k).2.1=(iy (a,(b,c,d,(e,f),g),h,i,j,k)).2.1/\(ET a b c d e f g h i j k).2.2=(iy (a,(b,c,d,(e,f),g),h,i,j,k)).2.2/\(a,(ET a b c d e f g h i j k).1,h,i,j,k)=iR (a,(b,c,d,(e,f),g),h,i,j,k) (iy (a,(b,c,d,(e,f),g),h,i,j,k)).1) (pD (a,(b,c,d,(e,f),g),h,i,j,k)/\(DR a b c d e f g h i j k).2.1=(iy
 (a,(b,c,d,(e,f),g),h,i,j,k)).2.1/\(DR a b c d e f g h i j k).2.2=(iy (a,(b,c,d,(e,f),g),h,i,j,k)).2.2/\(a,(DR a b c d e f g h i j k).1,h,i,j,k)=iR (a,(b,c,d,(e,f),g),h,i,j,k) (iy (a,(b,c,d,(e,f),g),h,i,j,k)).1)):=by
  delta vt nI ua DR ET ah aE ac;rintro d x x1 x2 x3 x4 x5 x6 x7 x8 h-⟨hs,hl,hb⟩;obtain⟨w,hw⟩:∃ w:dQ,w=(d,(x,x1,x2,(x3,x4),x5),x6,x7,x8,h):=⟨_,rfl⟩
  rw[← hw];have fin:=λ{s o y}=>DG (r:=iy w) (s:=s) (o:=o) (y:=y) w;have e0:w.2.2.1=x6:=by rw[hw]
  have e1:h=w.2.2.2.2.2:=by rw[hw]
  have okw:pD w:=by rw[hw];exact⟨hs,hl,hb⟩
  refine⟨hb,?_⟩
  (repeat (refine bY ?_;repeat refine bZ ?_));refine sF (λho=>?_) (λh1 h2=>?_)
  .obtain⟨f1,f2,f3⟩:=fin (s:=w.2.1) (o:=iN) (y:=1) (by unfold iy;rw[am];rcases ho with q|q;left;rw[e0];exact aI q;right;simpa using q);exact⟨f1,f2,by rw[← f3,hw];rfl⟩
  have hn:¬ (w.2.2.1 = -1∨kT w 0≠0):=by
   rintro (q|q)
   .rw[e0] at q;exact aL h1 q
   .apply q;simpa using h2
  have er:iy w=dD (fT w) (kT w) w (if h.2.2.2.1=17 then 0 else h.2.2.2.2.2.2):=by unfold iy;rw[af hn,e1];rfl
  rw[er];refine bU (λh3=>?_) (λh3=>?_)
  .rw[am h3];exact⟨okw,rfl,rfl,by rw[hw];rfl⟩
  .rw[af h3];exact⟨okw,rfl,rfl,by rw[hw];rfl⟩
theorem YL:aB 186 am5.spec:=aF Tryz.func186 (av (av aD QB) WU) aT as0
def aJ3:Ct:=⟨[.box 238 pI],[.agg wK,.val cI],λd=>[pD d.1],λd=>(((fO d.1).2.1,(fO d.1).2.2,()),(iR d.1 (fO d.1).1,()))⟩
def Db(a:au)(b:List aN)(c:Int)(d:ae)(e f g h i:Int)(j:ae)(k:cJ) :=
 dD (dW (a,(b,c,d,(e,f),g),h,i,j,k) (11:Int) (0:Int)) (jq (a,(b,c,d,(e,f),g),h,i,j,k) (11:Int) (0:Int)) (a,(b,c,d,(e,f),g),h,i,j,k) (0:Int)
def EA(a:au)(b:List aN)(c:Int)(d:ae)(e f g h i:Int)(j:ae)(k:cJ) :=
 dD (dW (a,(b,c,d,(e,f),g),h,i,j,k) (3:Int) (0:Int)) (jq (a,(b,c,d,(e,f),g),h,i,j,k) (3:Int) (0:Int)) (a,(b,c,d,(e,f),g),h,i,j,k) (0:Int)
theorem T9 :
 ∀(a:au)(b:List aN)(c:Int)(d:ae)(e f g h i:Int)(j:ae)(k:cJ),(vt a b c d e f g h i j k)/\True->(ua b c d e f g j)-> ∀(l:Bool),l= ! decide (h= -1)->(ah l)/\(ah l)/\(ah l)/\(ah l)/\(ah l)/\(ar l)/\ ∀(m:Bool),(m=bif l then ! a.2.2.2.2.2.2.2.2.2.2.2.2.1 else false)->(ah m)/\(ah m)/\(ah m)/\(ah m)/\(ah m)/\(ar m)/\ao (bif m then decide (k.2.2.1<2) else false) (pD (a,(b,c,d,(e,f),g),h,i,j,k)/\(Db a b c d e f g h i j k).2.1=(fO (a,(b,c,d,(e,f),g),h,i,j,k)).2.1/\(Db a b c d e f g h i j k).2.2=(fO (a,(b,c,d,(e,f),g),h,i,j,k)).2.2/\(a,(Db a b c d e f g h i j k).1,h,i,j,k)=iR (a,(b,c,d,(e,f),g),h,i,j,k) (fO (a,(b,c,d,(e,f),g),h,i,j,k)).1) (cH (bT (b,c,d,(e,f),g))/\okL (bT (b,c,d,(e,f),g))/\ ∀(n:Bool),n= ! fV (b,c,d,(e,f),g) k.2.2.2.2.2.2->(ar n)/\ao (bif n then decide (h= -1) else false) ((nI)=(fO
 (a,(b,c,d,(e,f),g),h,i,j,k)).2.1/\8=(fO (a,(b,c,d,(e,f),g),h,i,j,k)).2.2/\(a,(b,c,d,(e,f),g),h,i,j,k)=iR (a,(b,c,d,(e,f),g),h,i,j,k) (fO (a,(b,c,d,(e,f),g),h,i,j,k)).1) (ao (! fV (b,c,d,(e,f),g) k.2.2.2.2.2.2) (pD (a,(b,c,d,(e,f),g),h,i,j,k)/\(EA a b c d e f g h i j k).2.1=(fO (a,(b,c,d,(e,f),g),h,i,j,k)).2.1/\(EA a b c d e f g h i j k).2.2=(fO (a,(b,c,d,(e,f),g),h,i,j,k)).2.2/\(a,(EA a b c d e f g h i j k).1,h,i,j,k)=iR (a,(b,c,d,(e,f),g),h,i,j,k) (fO (a,(b,c,d,(e,f),g),h,i,j,k)).1) ((bf (bT (b,c,d,(e,f),g)) k.2.2.2.2.2.2).2.1≠([]:ae)/\(ac j)<=1000000/\j=j/\j=j/\(ac j)<=1099511627776/\ ∀(o:Bool),o= ! decide (h= -1)->(ah o)/\(ah o)/\(ah o)/\(ah o)/\(ah o)/\(ar o)/\ao (bif o then ! a.2.2.2.2.2.2.2.2.2.2.2.2.1 else false) ((ac j)<=1099511627776/\(ja a (b,c,d,(e,f),g) (bf (bT (b,c,d,(e,f),g)) k.2.2.2.2.2.2) (bc j),ig j)=(fO
 (a,(b,c,d,(e,f),g),h,i,j,k)).2.1/\0=(fO (a,(b,c,d,(e,f),g),h,i,j,k)).2.2/\(a,gz (b,c,d,(e,f),g) (bf (bT (b,c,d,(e,f),g)) k.2.2.2.2.2.2),h,i,j,k)=iR (a,(b,c,d,(e,f),g),h,i,j,k) (fO (a,(b,c,d,(e,f),g),h,i,j,k)).1) ((ja a (b,c,d,(e,f),g) (bf (bT (b,c,d,(e,f),g)) k.2.2.2.2.2.2) (bc j),j)=(fO (a,(b,c,d,(e,f),g),h,i,j,k)).2.1/\0=(fO (a,(b,c,d,(e,f),g),h,i,j,k)).2.2/\(a,gz (b,c,d,(e,f),g) (bf (bT (b,c,d,(e,f),g)) k.2.2.2.2.2.2),h,i,j,k)=iR (a,(b,c,d,(e,f),g),h,i,j,k) (fO (a,(b,c,d,(e,f),g),h,i,j,k)).1)))):=by
  delta vt nI ua Db EA ah ar ac;rintro d x x1 x2 x3 x4 x5 x6 x7 x8 h-⟨hs,hl,hb⟩;obtain⟨w,hw⟩:∃ w:dQ,w=(d,(x,x1,x2,(x3,x4),x5),x6,x7,x8,h):=⟨_,rfl⟩
  have e0:d.2.2.2.2.2.2.2.2.2.2.2.2.1=dJ w.1:=by rw[hw];rfl
  have e2:fV (x,x1,x2,(x3,x4),x5) h.2.2.2.2.2.2=fV w.2.1 (jm w.2.2.2.2.2):=by rw[hw];rfl
  have e3:x6=w.2.2.1:=by rw[hw]
  have e4:h.2.2.1=tI w.2.2.2.2.2:=by rw[hw];rfl
  have e5:bf (bT (x,x1,x2,(x3,x4),x5)) h.2.2.2.2.2.2=bf (bT w.2.1) (jm w.2.2.2.2.2):=by rw[hw];rfl
  have okw:pD w:=by rw[hw];exact⟨hs,hl,hb⟩
  have fin:=λ{s o y}=>DG (r:=fO w) (s:=s) (o:=o) (y:=y) w;rw[← hw,e0,e2,e4,e5];intro b hb0
  (repeat refine⟨(by first|(simp;done)|(rw[hb0];simp;done)|(cases b <;> simp)),?_⟩);intro b1 hb1
  (repeat refine⟨(by first|(simp;done)|(rw[hb1];simp;done)|(cases b1 <;> simp)|(cases b <;> cases b1 <;> simp)),?_⟩);have h1b:b1=true↔w.2.2.1 ≠ -1/\dJ w.1=false:=by rw[hb1,hb0,e3];by_cases k:w.2.2.1 = -1 <;> cases dJ w.1 <;> simp[k]
  have hq:(bif b1 then decide (tI w.2.2.2.2.2<2) else false)=true↔w.2.2.1 ≠ -1/\dJ w.1=false/\tI w.2.2.2.2.2<2:=by
   rw[← and_assoc,← h1b];cases b1 <;> simp
  refine aw (λk1=>?_) (λk1=>?_)
  .have e:fO w=dD (dW w 11 0) (jq w 11 0) w 0:=by unfold fO;rw[am (hq.1 k1)]
   rw[e];exact⟨okw,rfl,rfl,by rw[hw];rfl⟩
  have k1:¬ (w.2.2.1 ≠ -1/\dJ w.1=false/\tI w.2.2.2.2.2<2):=λk=>by rw[hq.2 k] at k1;cases k1
  refine⟨hs,hl,?_⟩;intro c hc
  (repeat refine⟨(by first|(simp;done)|(rw[hc];simp;done)|(cases c <;> simp)),?_⟩);refine aw (λk2=>?_) (λk2=>?_)
  .have q:fV w.2.1 (jm w.2.2.2.2.2)=false/\w.2.2.1 = -1:=by
    rw[hc,e3] at k2;cases hh:fV w.2.1 (jm w.2.2.2.2.2) with
    | true=>rw[hh] at k2;simp at k2
    | false=>rw[hh] at k2;exact⟨rfl,by simpa using k2⟩
   obtain⟨f1,f2,f3⟩:=fin (s:=w.2.1) (o:=iN) (y:=8) (by unfold fO;rw[af k1,am q.1,am q.2]);exact⟨f1,f2,by rw[← f3,hw];rfl⟩
  refine aw (λk3=>?_) (λk3=>?_)
  .have k3:fV w.2.1 (jm w.2.2.2.2.2)=false:=by simpa using k3
   have q:¬ w.2.2.1 = -1:=λq=>by rw[hc,k3,e3,q] at k2;simp at k2
   have e:fO w=dD (dW w 3 0) (jq w 3 0) w 0:=by unfold fO;rw[af k1,am k3,af q]
   rw[e];exact⟨okw,rfl,rfl,by rw[hw];rfl⟩
  have k3:¬ fV w.2.1 (jm w.2.2.2.2.2)=false:=by simpa using k3
  refine⟨CB k3,hb,?_⟩;clear h1b hq
  (repeat refine⟨(by first|(with_reducible rfl)|trivial|omega),?_⟩);intro b' hb0'
  (repeat refine⟨(by first|(simp;done)|(rw[hb0'];simp;done)|(cases b' <;> simp)),?_⟩);have hq:(bif b' then !dJ w.1 else false)=true↔w.2.2.1 ≠ -1/\dJ w.1=false:=by rw[hb0',e3];by_cases k:w.2.2.1 = -1 <;> cases dJ w.1 <;> simp[k]
  have e:fO w=(gz w.2.1 (bf (bT w.2.1) (jm w.2.2.2.2.2)),(ja w.1 w.2.1 (bf (bT w.2.1) (jm w.2.2.2.2.2)) (bc w.2.2.2.2.1),if w.2.2.1 ≠ -1/\dJ w.1=false then ig w.2.2.2.2.1 else w.2.2.2.2.1),0):=by unfold fO;rw[af k1,af k3]
  obtain⟨f1,f2,f3⟩:=fin e;refine aw (λk4=>?_) (λk4=>?_)
  .refine⟨ab,?_,f2,by rw[← f3,hw];rfl⟩;rw[← f1,am (hq.1 k4),hw]
  .refine⟨?_,f2,by rw[← f3,hw];rfl⟩;rw[← f1,af (λk=>by rw[hq.2 k] at k4;cases k4),hw]
theorem am8:aB 187 aJ3.spec:=aF Tryz.func187 (av (av (av (av (av (av aD ai4) ac4) I5) G6) VK) sD) aT T9
def TU:Ct:=⟨[.box 238 pI],[.agg wK,.val cI],λd=>[pD d.1],λd=>(((gb d.1).2.1,(gb d.1).2.2,()),((d.1.1,(gb d.1).1,d.1.2.2.1,d.1.2.2.2.1,d.1.2.2.2.2.1,(aY d.1.2.2.2.2.1).1),()))⟩
theorem Ye :
 ∀(a:au)(b:List aN)(c:Int)(d:ae)(e f g h i:Int)(j:ae)(k:cJ),(vt a b c d e f g h i j k)/\True->(ua b c d e f g j)->(ac j)<=1099511627776/\ao (! decide (bX j=0)) ((nI)=(gb (a,(b,c,d,(e,f),g),h,i,j,k)).2.1/\6=(gb (a,(b,c,d,(e,f),g),h,i,j,k)).2.2/\(a,(b,c,d,(e,f),g),h,i,j,(aY j).1)=(a,(gb (a,(b,c,d,(e,f),g),h,i,j,k)).1,h,i,j,(aY j).1)) (ao (dC a (aY j).1.2.2.2.2.2.2) (pD (a,(b,c,d,(e,f),g),h,i,j,(aY j).1)/\(iy (a,(b,c,d,(e,f),g),h,i,j,(aY j).1)).2.1=(gb (a,(b,c,d,(e,f),g),h,i,j,k)).2.1/\(iy (a,(b,c,d,(e,f),g),h,i,j,(aY j).1)).2.2=(gb (a,(b,c,d,(e,f),g),h,i,j,k)).2.2/\(a,(iy (a,(b,c,d,(e,f),g),h,i,j,(aY j).1)).1,h,i,j,(aY j).1)=(a,(gb (a,(b,c,d,(e,f),g),h,i,j,k)).1,h,i,j,(aY j).1)) (∀(l:Bool),l=a.2.2.2.1->(ah l)/\(ah l)/\(ah l)/\(ah l)/\(ar l)/\ao (bif l then ! decide (h= -1) else false)
 ((nI)=(gb (a,(b,c,d,(e,f),g),h,i,j,k)).2.1/\6=(gb (a,(b,c,d,(e,f),g),h,i,j,k)).2.2/\(a,(b,c,d,(e,f),g),h,i,j,(aY j).1)=(a,(gb (a,(b,c,d,(e,f),g),h,i,j,k)).1,h,i,j,(aY j).1)) (pD (a,(b,c,d,(e,f),g),h,i,j,(aY j).1)/\(fO (a,(b,c,d,(e,f),g),h,i,j,(aY j).1)).2.1=(gb (a,(b,c,d,(e,f),g),h,i,j,k)).2.1/\(fO (a,(b,c,d,(e,f),g),h,i,j,(aY j).1)).2.2=(gb (a,(b,c,d,(e,f),g),h,i,j,k)).2.2/\(a,(fO (a,(b,c,d,(e,f),g),h,i,j,(aY j).1)).1,h,i,j,(aY j).1)=(a,(gb (a,(b,c,d,(e,f),g),h,i,j,k)).1,h,i,j,(aY j).1)))):=by
  delta vt nI ua ah ar ac;rintro d x x1 x2 x3 x4 x5 x6 x7 x8 h-⟨hs,hl,hb⟩;refine⟨ab,aw (λh1=>?_) (λh1=>?_)⟩
  .have e:gb (d,(x,x1,x2,(x3,x4),x5),x6,x7,x8,h)=((x,x1,x2,(x3,x4),x5),iN,6):=by unfold gb;rw[am (by simpa using h1)]
   rw[e];exact⟨rfl,rfl,rfl⟩
  have h1:¬ bX x8≠0:=by simpa using h1
  refine aw (λh2=>?_) (λh2=>?_)
  .have e:gb (d,(x,x1,x2,(x3,x4),x5),x6,x7,x8,h)=iy (d,(x,x1,x2,(x3,x4),x5),x6,x7,x8,(aY x8).1):=by unfold gb;rw[af h1];exact am h2
   rw[e];exact⟨⟨hs,hl,hb⟩,rfl,rfl,rfl⟩
  have h2:¬ dC d (jm (aY x8).1)=true:=by show ¬ dC d (aY x8).1.2.2.2.2.2.2=true;rw[h2];simp
  intro b hb0
  (repeat refine⟨(by first|(simp;done)|(rw[hb0];simp;done)|(cases b <;> simp)),?_⟩);have hq:(bif b then !decide (x6 = -1) else false)=true↔iL d=true/\x6 ≠ -1:=by rw[hb0];show (bif d.2.2.2.1 then _ else _)=true↔d.2.2.2.1=true/\_;cases d.2.2.2.1 <;> simp
  refine aw (λh3=>?_) (λh3=>?_)
  .have e:gb (d,(x,x1,x2,(x3,x4),x5),x6,x7,x8,h)=((x,x1,x2,(x3,x4),x5),iN,6):=by unfold gb;rw[af h1,af h2];exact am (hq.1 h3)
   rw[e];exact⟨rfl,rfl,rfl⟩
  .have e:gb (d,(x,x1,x2,(x3,x4),x5),x6,x7,x8,h)=fO (d,(x,x1,x2,(x3,x4),x5),x6,x7,x8,(aY x8).1):=by unfold gb;rw[af h1,af h2];exact af (λk=>by rw[hq.2 k] at h3;cases h3)
   rw[e];exact⟨⟨hs,hl,hb⟩,rfl,rfl,rfl⟩
theorem Ue:aB 158 TU.spec:=aF Tryz.func158 (av (av (av (av aD BQ) HN) YL) am8) aT Ye
def aB7:Ct:=⟨[.val (.sl dj)],[.own 96 dj],λd=>[(d.1.length:Int)<=134217728],λd=>((d.1,()),())⟩
theorem aW1 :
 ∀(a:List aN),(a.length<=maxLen/\ ∀(b:aN),b∈a->((0<=b.1.1/\b.1.1<=4294967295)/\aq b.1.2)/\(b.2.1.length<=maxLen/\ ∀(c:Int),c∈b.2.1->aq c)/\aq b.2.2)/\True->(ac a)<=134217728-> ∀(b:Bool),(b=true->a.length=(0:Nat))->ao b (([]:List aN)=a) (((0:Nat)+a.length)*(48:Nat)<=(140737488355328:Nat)/\a=a):=by
  delta ac;rintro x ⟨⟨hl,-⟩,-⟩ h b hb;refine aw (λh1=>?_) (λh1=>⟨ab,aA⟩);have:=hb h1;exact (oW this).symm
theorem KX:aB 118 aB7.spec:=aF Tryz.func118 aD aT aW1
abbrev fU:CT := .pair cI (.pair cI (.pair cI (.pair cI (.pair cI cI))))
abbrev fg:CT := .pair cI (.pair cI (.pair .bool dj))
abbrev ib:CT := .pair (.sl bR) (.pair (.sl fU) (.sl fg))
abbrev aK:Type:=Int×Int×Int×Int×Int×Int
abbrev aV:Type:=Int×Int×Bool×Rt
abbrev aQ:Type:=List au×List aK×List aV
abbrev aX:Type:=ae×Int
abbrev pi:Type:=Int×Int
def lA(l:aK):Int:=l.1
def lB(l:aK):Int:=l.2.1
def gS(l:aK):Int:=l.2.2.1
def fK(l:aK):Int:=l.2.2.2.1
def oo(l:aK):Int:=l.2.2.2.2.1
def vK(l:aK):Int:=l.2.2.2.2.2
theorem nA{α:Type} [Inhabited α] {l:List α} {i j:Nat} {a:α} (h:i≠j):(l.set i a).getD j default=l.getD j default:=by
 rw[bL,bL,List.getElem?_set_ne h]
def B7(c:aX):Int:=c.1.getD c.2.toNat default
def nt(c:aX)(n:Int):Int×aX:=if (c.1.length:Int)<=c.2∨n<1 then (0,c) else ((B7 c).tmod n,(c.1,c.2+1))
def ax(c:aX)(n:Int):Int×aX :=
 if (c.1.length:Int)<=c.2∨n<1 then (0,c)
 else if 256<n then ((256*B7 c+(nt (c.1,c.2+1) 256).1).tmod n,(nt (c.1,c.2+1) 256).2)
 else ((B7 c).tmod n,(c.1,c.2+1))
structure cQ (c:aX):Prop where
 at':aS c
 b:∀ x∈c.1,0<=x/\x<=255
theorem cQ.code{c:aX}(h:cQ c)(hb:¬ (c.1.length:Int)<=c.2):0<=B7 c/\B7 c<=255:=h.b _ (bS h.at'.1 ab)
theorem R7{c:aX}(h:cQ c)(n:Int):cQ (nt c n).2/\0<=(nt c n).1/\((nt c n).1<n∨(nt c n).1=0):=by
 unfold nt
 split
 .exact⟨h,aA,.inr rfl⟩
 next hb=>have hc:=h.code ab;have ha:=h.at';exact⟨⟨⟨by have:=ha.1;show 0<=c.2+1;omega,by show c.2+1<=(c.1.length:Int);omega⟩,h.b⟩,sO hc.1,.inl (rK hc.1 ab)⟩
theorem dr{c:aX}(h:cQ c)(n:Int):cQ (ax c n).2/\0<=(ax c n).1/\((ax c n).1<n∨(ax c n).1=0):=by
 unfold ax
 split
 .exact⟨h,aA,.inr rfl⟩
 next hb=>
  have hc:=h.code ab;have ha:=h.at';have h1:cQ (c.1,c.2+1):=⟨⟨by have:=ha.1;show 0<=c.2+1;omega,by show c.2+1<=(c.1.length:Int);omega⟩,h.b⟩
  split
  .have k:=R7 h1 256;exact⟨k.1,sO ab,.inl (rK ab ab)⟩
  .exact⟨h1,sO hc.1,.inl (rK hc.1 ab)⟩
theorem ft{c:aX}(h:cQ c){n:Int}(hn:0<n):0<=(ax c n).1/\(ax c n).1<n:=by
 have:=dr h n;omega
def r6(i:Int)(host:Bool)(f sd:Int):au:=([],0,1+i/3,host,[],1,0,0,0,0,(0,0),false,false,f,sd)
abbrev bu:Type:=aQ×aX
def kH(s:bu)(host:Bool):bu :=
 ((s.1.1++[r6 s.1.1.length host (([64,255,128]:ae).getD (ax s.2 3).1.toNat default) (ax (ax s.2 3).2 256).1],s.1.2),(ax (ax s.2 3).2 256).2)
def kz(ns:List au)(x:Int)(p:pi):List au:=ns.set x.toNat ((ns.getD x.toNat default).1++[p],(ns.getD x.toNat default).2)
def gp(l:Int):Int:=167837696+4*l
def jn(s:bu)(a b:Int):bu :=
 ((kz (kz s.1.1 a (gp s.1.2.1.length+1,s.1.2.1.length)) b (gp s.1.2.1.length+2,s.1.2.1.length),
   s.1.2.1++[(a,b,1+(ax s.2 20).1,0,0,(ax (ax s.2 20).2 256).1)],s.1.2.2),(ax (ax s.2 20).2 256).2)
def lF(k:Int):ae->ae
 | []=>[k]
 | x::r=>if k<x then k::x::r else x::lF k r
theorem Ly{k:Int}:∀{l:ae},(∀ x∈l,¬ k<x)->lF k l=l++[k]
 | [],_=>rfl
 | x::r,h=>by rw[lF,af (h x fW),Ly λy hy=>h y (fL _ hy)];rfl
theorem Sj{k:Int}{m:ae}:∀{l:ae},(∃ x∈l,k<x)->lF k (l++m)=lF k l++m
 | [],h=>by obtain⟨x,hx,-⟩:=h;cases hx
 | y::r,h=>by
  rw[me,lF,lF];by_cases hy:k<y
  .rw[am hy,am hy];rfl
  .rw[af hy,af hy,Sj (l:=r)];rfl;obtain⟨x,hx,hk⟩:=h;rcases dL.1 hx with rfl|hx
   .exact absurd hk hy
   .exact⟨x,hx,hk⟩
theorem RR{k x:Int}:∀{l:ae},(∀ y∈l,¬ k<y)->k<x->lF k (l++[x])=l++[k]++[x]
 | [],_,h=>by rw[rx,lF,am h];rfl
 | y::r,h,hk=>by rw[me,lF,af (h y fW),RR (λz hz=>h z (fL _ hz)) hk];rfl
theorem Gh(k:Int):∀ l:ae,(lF k l).length=l.length+1
 | []=>rfl
 | x::r=>by rw[lF];split <;> simp[Gh k r]
def rO(l:List Rt)(p:eh):Nat:=l.findIdx λr=>decide (r.1=p)
def Ao(x:au)(l:List Rt):au:=(x.1,x.2.1,x.2.2.1,x.2.2.2.1,l,x.2.2.2.2.2)
def wv(l:List Rt)(p:eh)(k way:Int):List Rt :=
 if rO l p<l.length then
  if k∈(l.getD (rO l p) default).2.1 then l else f6 l (p,lF k (l.getD (rO l p) default).2.1,(l.getD (rO l p) default).2.2)
 else f6 l (p,[k],way)
def sN(ns:List au)(n:Int)(p:eh)(k way:Int):List au:=ns.set n.toNat (Ao (ns.getD n.toNat default) (wv (aU (ns.getD n.toNat default)) p k way))
def sG(d:ae)(l:aK):ae :=
 (d.set (lA l).toNat (min (d.getD (lA l).toNat default) (d.getD (lB l).toNat default+1))).set (lB l).toNat (min (d.getD (lB l).toNat default) (d.getD (lA l).toNat default+1))
def eU(nn:Nat)(ls:List aK)(to:Int):ae:=(range nn).foldl (λd _=>ls.foldl sG d) ((replicate nn (1000:Int)).set to.toNat 0)
def r0(d:ae)(to:Int)(p:eh)(plain:Bool)(k way:Int)(ns:List au)(a b:Int):List au :=
 if d.getD a.toNat default≠d.getD b.toNat default+1∨(b≠to/\iL (ns.getD b.toNat default)=true) then ns
 else if plain=true/\m5 (aU (ns.getD a.toNat default)) p=true then ns else sN ns a p k way
def stepK(ls:List aK)(d:ae)(to:Int)(p:eh)(plain:Bool)(way:Int)(ns:List au)(k:Nat):List au :=
 r0 d to p plain k way (r0 d to p plain k way ns (lA (ls.getD k default)) (lB (ls.getD k default))) (lB (ls.getD k default)) (lA (ls.getD k default))
def stepP(ls:List aK)(d:ae)(to:Int)(plain:Bool)(way:Int)(ns:List au)(q:pi):List au :=
 (range ls.length).foldl (stepK ls d to (q.1,32) plain way) ns
def oF(c:aX):Int×aX:=if 1+(ax c 3).1=3 then (if 0<(ax (ax c 3).2 3).1 then 1 else 3,(ax (ax c 3).2 3).2) else (1+(ax c 3).1,(ax c 3).2)
def stepT(ls:List aK)(plain:Bool)(s:List au×aX)(to:Nat):List au×aX :=
 ((ay (s.1.getD to default)).foldl (stepP ls (eU s.1.length ls to) to plain (oF s.2).1) s.1,(oF s.2).2)
def Cw(s:bu)(plain:Bool):bu :=
 let r:=(range s.1.1.length).foldl (stepT s.1.2.1 plain) (s.1.1,s.2)
 ((r.1,s.1.2),r.2)
def aF1(x:au):au:=(x.1,x.2.1,x.2.2.1,x.2.2.2.1,x.2.2.2.2.1,x.2.2.2.2.2.1,x.2.2.2.2.2.2.1,x.2.2.2.2.2.2.2.1,x.2.2.2.2.2.2.2.2.1,x.2.2.2.2.2.2.2.2.2.1,x.2.2.2.2.2.2.2.2.2.2.1,true,x.2.2.2.2.2.2.2.2.2.2.2.2)
def aP3(x:au)(b:Int×Int):au:=(x.1,x.2.1,x.2.2.1,x.2.2.2.1,x.2.2.2.2.1,x.2.2.2.2.2.1,x.2.2.2.2.2.2.1,x.2.2.2.2.2.2.2.1,x.2.2.2.2.2.2.2.2.1,x.2.2.2.2.2.2.2.2.2.1,b,x.2.2.2.2.2.2.2.2.2.2.2)
def D4(x:au)(b:Bool):au:=(x.1,x.2.1,x.2.2.1,x.2.2.2.1,x.2.2.2.2.1,x.2.2.2.2.2.1,x.2.2.2.2.2.2.1,x.2.2.2.2.2.2.2.1,x.2.2.2.2.2.2.2.2.1,x.2.2.2.2.2.2.2.2.2.1,x.2.2.2.2.2.2.2.2.2.2.1,x.2.2.2.2.2.2.2.2.2.2.2.1,b,x.2.2.2.2.2.2.2.2.2.2.2.2.2)
def Xg(x:au)(s:Int):au:=(x.1,x.2.1,x.2.2.1,x.2.2.2.1,x.2.2.2.2.1,s,x.2.2.2.2.2.2)
def Vp(x:au)(a s:Int):au:=(x.1,a,x.2.2.1,x.2.2.2.1,x.2.2.2.2.1,s,x.2.2.2.2.2.2)
def V4(x:au)(a s:Int):au:=(x.1,x.2.1,x.2.2.1,x.2.2.2.1,x.2.2.2.2.1,s,a,x.2.2.2.2.2.2.2)
def aE3(x:au)(i b s:Int):au:=(x.1,x.2.1,x.2.2.1,x.2.2.2.1,x.2.2.2.2.1,x.2.2.2.2.2.1,x.2.2.2.2.2.2.1,i,b,s,x.2.2.2.2.2.2.2.2.2.2)
def ik(x:au)(i:Int)(c:aX):au×aX :=
 let a:=ax c 10
 if a.1=1 then (aF1 x,a.2)
 else if a.1=2 then (aP3 x (1+(ax a.2 3).1,1+(ax (ax a.2 3).2 200).1),(ax (ax a.2 3).2 200).2)
 else if a.1=3 then (D4 x (!iL x&&decide (i%2=1)),a.2)
 else if a.1=4 then (Xg x 2,a.2)
 else if a.1=5 then (Vp x (167903232+i) 3,a.2)
 else if a.1=6 then (V4 x (167837696+(ax a.2 40).1) 4,(ax a.2 40).2)
 else (x,a.2)
def wO(x:au)(i:Int)(c:aX):au×aX :=
 let y:=ik x i c
 (aE3 y.1 (ax y.2 6).1 (ax (ax y.2 6).2 65536).1 (ax (ax (ax y.2 6).2 65536).2 1000).1,(ax (ax (ax y.2 6).2 65536).2 1000).2)
def wS(s:List au×aX)(i:Nat):List au×aX:=(s.1.set i (wO (s.1.getD i default) i s.2).1,(wO (s.1.getD i default) i s.2).2)
def odLink(l:aK)(c:aX):aK×aX :=
 let a:=ax c 6
 if a.1=1 then ((l.1,l.2.1,l.2.2.1,(ax a.2 10).1,l.2.2.2.2),(ax a.2 10).2)
 else if a.1=2 then ((l.1,l.2.1,l.2.2.1,l.2.2.2.1,([65536,20000,3]:ae).getD (ax a.2 3).1.toNat default,l.2.2.2.2.2),(ax a.2 3).2)
 else (l,a.2)
def r8(ns:List au)(l:aK):List au :=
 if dJ (ns.getD (lA l).toNat default)=true/\dJ (ns.getD (lB l).toNat default)=true then ns.set (lB l).toNat (D4 (ns.getD (lB l).toNat default) false) else ns
def th(s:(List au×List aK)×aX)(i:Nat):(List au×List aK)×aX :=
 let r:=odLink (s.1.2.getD i default) s.2
 ((r8 s.1.1 r.1,s.1.2.set i r.1),r.2)
def pL(ns:List au)(s:List aV×Int×aX):List aV×Int×aX :=
 let a:=ax s.2.2 60
 let at':=s.2.1+a.1
 let w:=ax a.2 ns.length
 let x:=ns.getD w.1.toNat default
 if (aU x).length=0 then (s.1,at',w.2)
 else
  let r:=ax w.2 (aU x).length
  let p:=ax r.2 (ay x).length
  let z:=ax p.2 4
  let rt:=(aU x).getD r.1.toNat default
  (s.1++[(at',w.1,false,(rt.1,if z.1=3 then [] else [((ay x).getD p.1.toNat default).2],rt.2.2))],at',z.2)
def pC(s:bu):bu :=
 let n:=(range s.1.1.length).foldl wS (s.1.1,s.2)
 let l:=(range s.1.2.1.length).foldl th ((n.1,s.1.2.1),n.2)
 let k:=ax l.2 4
 let h:=(range k.1.toNat).foldl (λs _=>pL l.1.1 s) ([],0,k.2)
 ((l.1.1,l.1.2,h.1),h.2.2)
def r9(s:bu)(k:Nat):bu:=jn (kH s false) k (k+1)
def sU(n:Int)(s:bu):bu :=
 let a:=ax s.2 n
 let b:=ax a.2 n
 if a.1=b.1 then (s.1,b.2) else jn (s.1,b.2) (1+a.1) (1+b.1)
def n6(c:aX):Int×bu :=
 let a:=kH (([],[],[]),c) true
 let m:=ax a.2 5
 let s:=(range (1+m.1).toNat).foldl r9 (a.1,m.2)
 (1+m.1,jn (kH s true) (1+m.1) (1+m.1+1))
def Aa(plain:Bool)(n:Int)(s:bu):bu :=
 let k:=ax s.2 4
 let s1:=if 1<n/\plain=false then (range k.1.toNat).foldl (λs _=>sU n s) (s.1,k.2) else (s.1,k.2)
 if plain=true/\2<n then
  if (ax s1.2 2).1=1 then jn (s1.1,(ax (ax s1.2 2).2 (n-1)).2) (1+(ax (ax s1.2 2).2 (n-1)).1) n else (s1.1,(ax s1.2 2).2)
 else s1
def A8(plain:Bool)(c:aX):bu :=
 let s:=Cw (Aa plain (n6 c).1 (n6 c).2) plain
 if plain then s else pC s
def ji(plain:Bool)(c:aX):aQ:=(A8 plain c).1
def xc(plain:Bool)(c:aX):aX:=(A8 plain c).2
def cG(x:au):ae:=md x++(if fy x=0 then [] else [fy x])
def Tc:Ct:=⟨[.val cI,.val cI,.val cI],[.val .bool],λ_=>[],λd=>((decide (d.2.1<=d.1/\d.1<=d.2.2.1),()),())⟩
theorem ao7 :
 ∀(a b c:Int),aq a/\aq b/\aq c/\True->True-> ∀(d:Bool),d=decide (b<=a)->(d->(ar d)/\(ar d)/\True)/\(ar d)/\(bif d then decide (a<=c) else false)=decide (b<=a/\a<=c):=by
  delta ar;rintro a b c - -
  (repeat (refine bY ?_;repeat refine bZ ?_));by_cases h1:b<=a <;> by_cases h2:a<=c <;> simp[h1,h2]
theorem DK:aB 117 Tc.spec:=aF Tryz.func117 aD aT ao7
def Q1:Ct:=⟨[.agg bR],[.own 35 cP],λd=>[(ay d.1).length<=100000],λd=>((cG d.1,()),())⟩
def Yz:bw Q1.ps->ce:=(λd=>{loops:=(bq 3 (λS=>{ι:=Int×ae,qn:=fj,μ:=λi=>((ay d.1).length-i.1).toNat,inv:=λi=>0<=i.1/\i.1<=(ay d.1).length/\i.2=(md d.1).take i.1.toNat,keep:=[1,7,8],slots:=λi=>[(3,.own 524288 1),(9,.int .i64 i.1)],keepN:=[32],names:=λi=>[(524288,.live (.row 35 cP i.2))]}) cC)})
def C6(a:au)(b:Int)(c:ae) :=
 a.1=a.1/\(ac a.1)=(ac a.1)/\0=b/\a.1=a.1/\a.2.1=a.2.1/\a.2.2.1=a.2.2.1/\a.2.2.2.1=a.2.2.2.1/\a.2.2.2.2.1=a.2.2.2.2.1/\a.2.2.2.2.2.1=a.2.2.2.2.2.1/\a.2.2.2.2.2.2.1=a.2.2.2.2.2.2.1/\a.2.2.2.2.2.2.2.1=a.2.2.2.2.2.2.2.1/\a.2.2.2.2.2.2.2.2.1=a.2.2.2.2.2.2.2.2.1/\a.2.2.2.2.2.2.2.2.2.1=a.2.2.2.2.2.2.2.2.2.1/\a.2.2.2.2.2.2.2.2.2.2.1.1=a.2.2.2.2.2.2.2.2.2.2.1.1/\a.2.2.2.2.2.2.2.2.2.2.1.2=a.2.2.2.2.2.2.2.2.2.2.1.2/\a.2.2.2.2.2.2.2.2.2.2.2.1=a.2.2.2.2.2.2.2.2.2.2.2.1/\a.2.2.2.2.2.2.2.2.2.2.2.2.1=a.2.2.2.2.2.2.2.2.2.2.2.2.1/\a.2.2.2.2.2.2.2.2.2.2.2.2.2.1=a.2.2.2.2.2.2.2.2.2.2.2.2.2.1/\a.2.2.2.2.2.2.2.2.2.2.2.2.2.2=a.2.2.2.2.2.2.2.2.2.2.2.2.2.2/\c=([]:ae)/\True
def qA(a:au) :=
 ((length (ay a)):Int)
theorem Wl :
 ∀(a:au),CT.wf bR a/\True->length (ay a)<=(100000:Nat)->(∃(b:Int) (c:ae),(0<=b/\b<=(qA a)/\c=take b.toNat (md a))/\(C6 a b c))/\ ∀(b:Int)(c:ae),0<=b/\b<=(qA a)/\c=take b.toNat (md a)->ao (decide (b<(ac a.1))) (0<=b/\b<(ac a.1)/\(c.length+length [(getD a.1 b.toNat default).1])*(4:Nat)<=(140737488355328:Nat)/\ ∃(d:Int) (e:ae),(0<=d/\d<=(qA a)/\e=take d.toNat (md a))/\toNat ((qA a) -d)<toNat ((qA a) -b)/\a.1=a.1/\(ac a.1)=(ac a.1)/\aj
 (b+1)=d/\a.1=a.1/\a.2.1=a.2.1/\a.2.2.1=a.2.2.1/\a.2.2.2.1=a.2.2.2.1/\a.2.2.2.2.1=a.2.2.2.2.1/\a.2.2.2.2.2.1=a.2.2.2.2.2.1/\a.2.2.2.2.2.2.1=a.2.2.2.2.2.2.1/\a.2.2.2.2.2.2.2.1=a.2.2.2.2.2.2.2.1/\a.2.2.2.2.2.2.2.2.1=a.2.2.2.2.2.2.2.2.1/\a.2.2.2.2.2.2.2.2.2.1=a.2.2.2.2.2.2.2.2.2.1/\a.2.2.2.2.2.2.2.2.2.2.1.1=a.2.2.2.2.2.2.2.2.2.2.1.1/\a.2.2.2.2.2.2.2.2.2.2.1.2=a.2.2.2.2.2.2.2.2.2.2.1.2/\a.2.2.2.2.2.2.2.2.2.2.2.1=a.2.2.2.2.2.2.2.2.2.2.2.1/\a.2.2.2.2.2.2.2.2.2.2.2.2.1=a.2.2.2.2.2.2.2.2.2.2.2.2.1/\a.2.2.2.2.2.2.2.2.2.2.2.2.2.1=a.2.2.2.2.2.2.2.2.2.2.2.2.2.1/\a.2.2.2.2.2.2.2.2.2.2.2.2.2.2=a.2.2.2.2.2.2.2.2.2.2.2.2.2.2/\c++[(getD a.1 b.toNat default).1]=e/\True) (ao (! decide (a.2.1=0)) ((c.length+length [a.2.1])*(4:Nat)<=(140737488355328:Nat)/\c++[a.2.1]=cG a) (c=cG a)):=by
  delta C6 qA aj ac;rintro d-hl;have hlen:(md d).length=(ay d).length:=by simp[md]
  have hd:d.1=ay d:=rfl;have hz:d.2.1=fy d:=rfl;rw[hd,hz];refine⟨⟨0,[],⟨ab,ab,rfl⟩,aP⟩,?_⟩;rintro j l ⟨j0,j1,rfl⟩;refine bU (λhk=>?_) (λhk=>?_)
  .refine⟨j0,hk,by simp only[dA,dM,List.length_nil];omega,j+1,_,⟨ab,ab,rfl⟩,ab,?_⟩
   (repeat refine js ?_);refine⟨?_,bv⟩;rw[rk j0 (by rw[hlen];exact hk)];unfold md;rw[bL,bL,List.getElem?_map,cK ab];rfl
  .rw[fi ab];unfold cG;refine aw (λh=>?_) (λh=>?_)
   .rw[af (gF h)];exact⟨by simp only[dM,List.length_nil];omega,rfl⟩
   .rw[am (iD h),jG]
theorem am7:aB 151 Q1.spec:=aF Tryz.func151 aD Yz Wl
def nJ(i:Int)(l:ae)(m:List (Int×Int)):List (Int×Int):=l.foldl (λm a=>kM a i m) m
def gh(ns:List au)(k:Nat):List (Int×Int):=(range k).foldl (λm (i:Nat)=>nJ (i:Int) (cG (ns.getD i default)) m) []
def LS(ns:List au):Bool:=(range ns.length).any λ(i:Nat)=>(cG (ns.getD i default)).any λa=>gm a (gh ns i)
def oJ(n:aQ):Int:=if LS n.1 then 10 else 0
theorem Nz{a b v:Int}:∀{m:List (Int×Int)},gm a (kM b v m)=(decide (a=b)||gm a m)
 | []=>by simp only[kM,gm];cases decide (a=b) <;> rfl
 | p::m=>by
  simp only[kM];by_cases hb:b=p.1
  .rw[cM hb,cond_true,gm,gm,← hb];cases decide (a=b) <;> rfl
  .rw[dO hb,oM,gm,gm,Nz];cases decide (a=p.1) <;> cases decide (a=b) <;> rfl
theorem Pp{a b v:Int}:∀{m:List (Int×Int)},lI a (kM b v m)=if a=b then v else lI a m
 | []=>by
  simp only[kM,lI];by_cases h:a=b
  .rw[cM h,am h];rfl
  .rw[dO h,af h];rfl
 | p::m=>by
  simp only[kM];by_cases hb:b=p.1
  .rw[cM hb,cond_true,lI,lI,← hb];by_cases h:a=b
   .rw[cM h,am h];rfl
   .rw[dO h,af h];rfl
  .rw[dO hb,oM,lI,lI,Pp];by_cases h:a=p.1
   .have hab:¬ a=b:=λe=>hb (e.symm.trans h);simp only[af hab]
   .rw[dO h];rfl
theorem Yx(i a:Int)(l:ae)(m:List (Int×Int)):nJ i (l++[a]) m=kM a i (nJ i l m):=by
 unfold nJ;rw[iG];rfl
theorem Ep{i a:Int}{m:List (Int×Int)}:∀{l:ae},gm a (nJ i l m)=(decide (a∈l)||gm a m)/\lI a (nJ i l m)=if a∈l then i else lI a m:=by
 intro l
 induction l generalizing m with
 | nil=>simp[nJ]
 | cons b l ih =>
  have k:=ih (m:=kM b i m);unfold nJ at k ⊢;rw[List.foldl_cons,k.1,k.2,Nz,Pp];by_cases h1:a=b <;> by_cases h2:a∈l <;> simp[h1,h2]
theorem MU(ns:List au):∀(k:Nat)(a:Int),gm a (gh ns k)=true->lI a (gh ns k)<k
 | 0,a,h=>by cases h
 | k+1,a,h=>by
  have e:gh ns (k+1)=nJ k (cG (ns.getD k default)) (gh ns k):=by unfold gh;rw[m3,iG];rfl
  rw[e] at h ⊢;have q:=Ep (i:=(k:Int)) (a:=a) (m:=gh ns k) (l:=cG (ns.getD k default));rw[q.1] at h;rw[q.2];split
  .omega
  next hn=>rw[dO hn,Bool.false_or] at h;have:=MU ns k a h;omega
def K0:Ct:=⟨[.agg ib],[.val cI],λd=>[∀ x∈d.1.1,(ay x).length<=100000],λd=>((oJ d.1,()),())⟩
def aS7:bw K0.ps->ce:=(λd=>{loops:=(bq 3 (λS=>{ι:=Int,μ:=λi=>(d.1.1.length-i).toNat,inv:=λi=>0<=i/\i<=d.1.1.length∧∀ k:Nat,(k:Int)<i→∀ a∈cG (d.1.1.getD k default),gm a (gh d.1.1 k)=false,keep:=[1,12,13],slots:=λi=>[(14,.int .i64 i),(3,.mapp 524288)],keepN:=[32],names:=λi=>[(524288,.live (.mp .u32 .i64 (gh d.1.1 i.toNat)))]}) (bq 6 (λS=>{ι:=Int,μ:=λi=>((cG (d.1.1.getD (S.i 14).toNat default)).length-i).toNat,inv:=λi=>0<=i/\i<=(cG (d.1.1.getD (S.i 14).toNat default)).length∧∀ a∈(cG (d.1.1.getD (S.i 14).toNat default)).take i.toNat,gm a (gh d.1.1 (S.i 14).toNat)=false,keep:=[1,4,12,13,14,20,21],slots:=λi=>[(22,.int .i64 i),(3,.mapp 524288)],keepN:=[32,336],names:=λi=>[(524288,.live (.mp .u32 .i64 (nJ (S.i 14) ((cG (d.1.1.getD (S.i 14).toNat default)).take i.toNat) (gh d.1.1 (S.i 14).toNat))))]}) cC))})
def tm(a:List au)(b:List aK)(c:List aV) :=
 (a.length<=maxLen/\ ∀(d:au),d∈a->CT.wf bR d)/\(b.length<=maxLen/\ ∀(d:aK),d∈b->CT.wf fU d)/\c.length<=maxLen/\ ∀(d:aV),d∈c->CT.wf fg d
def rg(a:List au)(d:Int) :=
 ((length (cG (ai a d))):Int)
def Ec(a:List au)(d e:Int) :=
 nJ d (take e.toNat (cG (ai a d))) (gh a d.toNat)
def Kd(a:List au)(d:Int) :=
 0<=d/\d<=(ac a)/\ ∀(e:Nat),(↑e:Int)<d-> ∀(f:Int),f∈cG (a.getD e default)->gm f (gh a e)=false
theorem aa2 :
 ∀(a:List au)(b:List aK)(c:List aV),(tm a b c)/\True->(∀(d:au),d∈a->length (ay d)<=(100000:Nat))->(∃(d:Int),(Kd a d)/\a=a/\(ac a)=(ac a)/\0=d/\a=a/\b=b/\c=c/\([]:List (Int×Int))=gh a d.toNat/\True)/\ ∀(d:Int),(Kd a d)->ao (decide (d<(ac a))) (0<=d/\d<(ac a)/\length (ay (ai a d))<=(100000:Nat)/\(∃(e:Int),(0<=e/\e<=(rg a d)/\ ∀(f:Int),f∈take e.toNat (cG (ai a d))->gm f (gh a d.toNat)=false)/\d=d/\a=a/\(ac a)=(ac a)/\d=d/\(rg a d)=(rg a d)/\0=e/\a=a/\b=b/\c=c/\cG (ai a d)=cG (ai a d)/\gh a d.toNat=nJ d (take e.toNat (cG (ai a d))) (gh a d.toNat)/\True)/\ ∀(e:Int),(0<=e/\e<=(rg a d)/\ ∀(f:Int),f∈take e.toNat (cG (ai a d))->gm f (gh a d.toNat)=false)->ao (decide (e<(rg a d))) (0<=e/\e<(rg a d)/\ ∀(f:Bool),f=gm (getD (cG (ai a d)) e.toNat default) (Ec a d e)->(f->(ar f)/\(ar
 f)/\True)/\(ar f)/\ao (bif f then ! decide (lI (getD (cG (ai a d)) e.toNat default) (Ec a d e)=d) else false) (10=oJ (a,b,c)) (∃(g:Int),(0<=g/\g<=(rg a d)/\ ∀(h:Int),h∈take g.toNat (cG (ai a d))->gm h (gh a d.toNat)=false)/\toNat ((rg a d) -g)<toNat ((rg a d) -e)/\d=d/\a=a/\(ac a)=(ac a)/\d=d/\(rg a d)=(rg a d)/\aj (e+1)=g/\a=a/\b=b/\c=c/\cG (ai a d)=cG (ai a d)/\kM (getD (cG (ai a d)) e.toNat default) d (Ec a d e)=nJ d (take g.toNat (cG (ai a d))) (gh a d.toNat)/\True)) (∃(f:Int),(0<=f/\f<=(ac a)/\ ∀(g:Nat),(↑g:Int)<f-> ∀(h:Int),h∈cG (a.getD g default)->gm h (gh a g)=false)/\toNat ((ac a) -f)<toNat ((ac a) -d)/\a=a/\(ac a)=(ac a)/\aj (d+1)=f/\a=a/\b=b/\c=c/\nJ d (take e.toNat (cG (ai a d))) (gh a d.toNat)=gh a f.toNat/\True)) (0=oJ (a,b,c)):=by
  delta tm rg Ec Kd ar aj ai ac;rintro ns ls hs ⟨⟨⟨hnl,-⟩,-⟩,-⟩ hp;simp only[maxLen] at hnl;have hlen:∀ x∈ns,(cG x).length<=100001:=λx hx=>by
   have:=hp x hx;unfold cG md;rw[cu,mh];split <;> simp <;> omega
  refine⟨⟨0,⟨ab,ab,λk hk=>ab⟩,aP⟩,?_⟩;rintro i ⟨i0,i1,hI⟩;refine aw (λhi=>?_) (λhi=>?_)
  rotate_left
  .have hi:=aL hi;unfold oJ;rw[af];intro h;obtain⟨k,hk,h2⟩:=List.any_eq_true.1 h;obtain⟨a,ha,h3⟩:=List.any_eq_true.1 h2;have hk:k<ns.length:=List.mem_range.1 hk;rw[hI k ab a ha] at h3;cases h3
  have hi:=aI hi;have hm:=bS i0 hi;have hl:=hlen _ hm;refine⟨i0,hi,hp _ hm,⟨0,⟨ab,ab,aA⟩,aP⟩,?_⟩;rintro j ⟨j0,j1,hJ⟩;have ei:((i.toNat:Nat):Int)=i:=ab;refine aw (λhj=>?_) (λhj=>?_)
  rotate_left
  .have hj:=aL hj;rw[fi ab] at hJ ⊢;refine⟨i+1,⟨ab,ab,λk hk a ha=>?_⟩,ab,?_⟩
   .by_cases e:(k:Int)<i
    .exact hI k e a ha
    .have:k=i.toNat:=ab;subst this;exact hJ a ha
   .have e:nJ i (cG (ns.getD i.toNat default)) (gh ns i.toNat)=gh ns (i+1).toNat:=by
     rw[show (i+1).toNat=i.toNat+1 by omega];unfold gh;rw[m3,iG,List.foldl_cons,List.foldl_nil,ei]
    rw[e];exact aP
  have hj:=aI hj;have ha:=bS j0 hj;have st:=rk j0 hj;refine⟨j0,hj,?_⟩;have q:=Ep (i:=i) (a:=(cG (ns.getD i.toNat default)).getD j.toNat default) (m:=gh ns i.toNat) (l:=(cG (ns.getD i.toNat default)).take j.toNat);generalize (cG (ns.getD i.toNat default)).getD j.toNat default=a at ha st q ⊢;have lt:=MU ns i.toNat a;rw[ei] at lt;intro b hb
  (repeat refine⟨aA,?_⟩);refine uD (λx1 x2=>?_) (λhno=>?_)
  .have x2:=gF x2;rw[hb,q.1] at x1;rw[q.2] at x2;have hn:a ∉ (cG (ns.getD i.toNat default)).take j.toNat:=λh=>by rw[am h] at x2;exact x2 rfl
   rw[dO hn,Bool.false_or] at x1;unfold oJ;rw[am];exact List.any_eq_true.2 ⟨i.toNat,List.mem_range.2 (show i.toNat<ns.length by omega),List.any_eq_true.2 ⟨a,ha,x1⟩⟩
  .have hz:gm a (gh ns i.toNat)=false:=by
    by_cases hn:a∈(cG (ns.getD i.toNat default)).take j.toNat
    .exact hJ a hn
    .rw[dO hn,Bool.false_or] at q;rw[af hn] at q;rcases hno with h|h
     .rw[hb,q.1] at h;exact h
     .have h:=iD h;rw[q.2] at h;cases hq:gm a (gh ns i.toNat) with
      | false=>rfl
      | true=>have:=lt hq;omega
   refine⟨j+1,⟨ab,ab,λy hy=>?_⟩,ab,?_⟩
   .rw[st] at hy;rcases dw.1 hy with hy|hy
    .exact hJ y hy
    .rw[iP.1 hy];exact hz
   .rw[st,Yx];exact aP
theorem S5:aB 89 K0.spec:=aF Tryz.func89 (av aD am7) aS7 aa2
def fB(ls:List aK)(k x:Int):Int:=if k<0∨(ls.length:Int)<=k then -1 else if x=lA (ls.getD k.toNat default) then lB (ls.getD k.toNat default) else if x=lB (ls.getD k.toNat default) then lA (ls.getD k.toNat default) else -1
def nR(n:aQ):Int:=if n.1.length<1∨64<n.1.length∨128<n.2.1.length∨64<n.2.2.length then 5 else 0
def aJ8:Ct:=⟨[.agg ib],[.val cI],λ_=>[],λd=>((nR d.1,()),())⟩
theorem VR :
 ∀(a:List au)(b:List aK)(c:List aV),(tm a b c)/\True->True-> ∀(d:Bool),d=decide ((ac a)<1)->(ah (! d))/\(ah (! d))/\(ah (! d))/\(aE d)/\ ∀(e:Bool),(e=bif d then true else decide (64<(ac a)))->(ah (! e))/\(ah (! e))/\(ah (! e))/\(aE e)/\ ∀(f:Bool),(f=bif e then true else decide (128<(ac b)))->(ah (! f))/\(ah (! f))/\(ah (! f))/\(aE f)/\ao (bif f then true else decide (64<(ac c))) (5=nR (a,b,c)) (0=nR (a,b,c)):=by
  delta tm ah aE ac;rintro ns ls hs - -
  (repeat (refine bY ?_;repeat refine bZ ?_));unfold nR;refine aw (λh=>?_) (λh=>?_)
  .simp[dE] at h;rw[am (by dsimp only;omega)]
  .simp[dE] at h;rw[af (by dsimp only;omega)]
theorem aS9:aB 85 aJ8.spec:=aF Tryz.func85 aD aT VR
def Sa:Ct:=⟨[.agg bR],[.own 3 cI],λd=>[(ay d.1).length<=100000],λd=>((bj d.1,()),())⟩
def aU9:bw Sa.ps->ce:=(λd=>{loops:=(bq 3 (λS=>{ι:=Int×ae,qn:=fj,μ:=λi=>((ay d.1).length-i.1).toNat,inv:=λi=>0<=i.1/\i.1<=(ay d.1).length/\i.2=(bj d.1).take i.1.toNat,keep:=[1,7,8],slots:=λi=>[(3,.own 524288 1),(9,.int .i64 i.1)],keepN:=[32],names:=λi=>[(524288,.live (.row 3 cI i.2))]}) cC)})
theorem Ym :
 ∀(a:au),CT.wf bR a/\True->length (ay a)<=(100000:Nat)->(∃(b:Int) (c:ae),(0<=b/\b<=(qA a)/\c=take b.toNat (bj a))/\(C6 a b c))/\ ∀(b:Int)(c:ae),0<=b/\b<=(qA a)/\c=take b.toNat (bj a)->ao (decide (b<(ac a.1))) (0<=b/\b<(ac a.1)/\(c.length+length [(getD a.1 b.toNat default).2])*(8:Nat)<=(140737488355328:Nat)/\ ∃(d:Int) (e:ae),(0<=d/\d<=(qA a)/\e=take d.toNat (bj a))/\toNat ((qA a) -d)<toNat ((qA a) -b)/\a.1=a.1/\(ac a.1)=(ac a.1)/\aj
 (b+1)=d/\a.1=a.1/\a.2.1=a.2.1/\a.2.2.1=a.2.2.1/\a.2.2.2.1=a.2.2.2.1/\a.2.2.2.2.1=a.2.2.2.2.1/\a.2.2.2.2.2.1=a.2.2.2.2.2.1/\a.2.2.2.2.2.2.1=a.2.2.2.2.2.2.1/\a.2.2.2.2.2.2.2.1=a.2.2.2.2.2.2.2.1/\a.2.2.2.2.2.2.2.2.1=a.2.2.2.2.2.2.2.2.1/\a.2.2.2.2.2.2.2.2.2.1=a.2.2.2.2.2.2.2.2.2.1/\a.2.2.2.2.2.2.2.2.2.2.1.1=a.2.2.2.2.2.2.2.2.2.2.1.1/\a.2.2.2.2.2.2.2.2.2.2.1.2=a.2.2.2.2.2.2.2.2.2.2.1.2/\a.2.2.2.2.2.2.2.2.2.2.2.1=a.2.2.2.2.2.2.2.2.2.2.2.1/\a.2.2.2.2.2.2.2.2.2.2.2.2.1=a.2.2.2.2.2.2.2.2.2.2.2.2.1/\a.2.2.2.2.2.2.2.2.2.2.2.2.2.1=a.2.2.2.2.2.2.2.2.2.2.2.2.2.1/\a.2.2.2.2.2.2.2.2.2.2.2.2.2.2=a.2.2.2.2.2.2.2.2.2.2.2.2.2.2/\c++[(getD a.1 b.toNat default).2]=e/\True) (c=bj a):=by
  delta C6 qA aj ac;rintro d-hl;have hlen:(bj d).length=(ay d).length:=by simp[bj]
  refine⟨⟨0,[],⟨ab,ab,rfl⟩,aP⟩,?_⟩;rintro j l ⟨j0,j1,rfl⟩;have hd:d.1=ay d:=rfl;rw[hd];refine bU (λhk=>?_) (λhk=>?_)
  .refine⟨j0,hk,by simp only[dA,dM,List.length_nil];omega,j+1,_,⟨ab,ab,rfl⟩,ab,?_⟩
   (repeat refine js ?_);refine⟨?_,bv⟩;rw[rk j0 (by rw[hlen];exact hk)];unfold bj;rw[bL,bL,List.getElem?_map,cK ab];rfl
  .rw[fi ab]
theorem MH:aB 150 Sa.spec:=aF Tryz.func150 aD aU9 Ym
def at5:Ct:=⟨[.agg ib,.val cI,.val cI],[.val cI],λ_=>[],λd=>((fB d.1.2.1 d.2.1 d.2.2.1,()),())⟩
theorem Wf :
 ∀(a:List au)(b:List aK)(c:List aV)(d e:Int),((a.length<=maxLen/\ ∀(f:au),f∈a->CT.wf bR f)/\(b.length<=maxLen/\ ∀(f:aK),f∈b->CT.wf fU f)/\c.length<=maxLen/\ ∀(f:aV),f∈c->CT.wf fg f)/\aq d/\aq e/\True->True->ao (! decide (0<=d/\d<=aj ((ac b) -1))) (-1=fB b d e) (0<=d/\d<(ac b)/\ao (decide (e=(ai b d).1)) ((ai b d).2.1=fB b d e) (ao (decide (e=(ai b d).2.1)) ((ai b d).1=fB b d e) (-1=fB b d e))):=by
  delta aj ai ac;rintro ns ls hs k x ⟨⟨-,⟨hl,-⟩,-⟩,-⟩ -;simp only[maxLen] at hl;rw[aG (n:=(ls.length:Int)-1) ab ab];unfold fB lA lB;refine aw (λh=>?_) (λh=>?_)
  .have h:=gF h;rw[am ab]
  have h:=iD h;rw[af ab];refine⟨h.1,ab,aw (λh1=>?_) (λh1=>?_)⟩
  .rw[am (aI h1)]
  rw[af (aL h1)];refine bU (λh2=>?_) (λh2=>?_)
  .rw[am h2]
  .rw[af h2]
theorem RP:aB 53 at5.spec:=aF Tryz.func53 (av aD DK) aT Wf
def iV(ns:List au)(l:aK):Bool:=dJ (ns.getD (lA l).toNat default)&&dJ (ns.getD (lB l).toNat default)
def nT(n:aQ):Int:=if n.2.1.any (iV n.1) then 13 else 0
def Be(n:aQ):Prop:=∀ l∈n.2.1,0<=lA l/\lA l<n.1.length/\0<=lB l/\lB l<n.1.length
def Qy:Ct:=⟨[.agg ib],[.val cI],λd=>[Be d.1],λd=>((nT d.1,()),())⟩
def aT4:bw Qy.ps->ce:=(λd=>{loops:=(bq 2 (λS=>{ι:=Int,μ:=λi=>(d.1.2.1.length-i).toNat,inv:=λi=>0<=i/\i<=d.1.2.1.length∧∀ x∈d.1.2.1.take i.toNat,iV d.1.1 x=false,keep:=[1,6,7],slots:=λi=>[(8,.int .i64 i)],keepN:=[32]}) cC)})
theorem aV3 :
 ∀(a:List au)(b:List aK)(c:List aV),(tm a b c)/\True->(∀(d:aK),d∈b->0<=lA d/\lA d<(ac a)/\0<=lB d/\lB d<(ac a))->(∃(d:Int),(0<=d/\d<=(ac b)/\ ∀(e:Int×Int×Int×Int×Int×Int),e∈take d.toNat b->iV a e=false)/\b=b/\(ac b)=(ac b)/\0=d/\a=a/\b=b/\c=c/\True)/\ ∀(d:Int),(0<=d/\d<=(ac b)/\ ∀(e:Int×Int×Int×Int×Int×Int),e∈take d.toNat b->iV a e=false)->ao (decide (d<(ac b))) (0<=d/\d<(ac b)/\0<=(ai b d).1/\(ai b d).1<(ac a)/\ ∀(e:Bool),e=(a.getD (toNat (ai b d).1) default).2.2.2.2.2.2.2.2.2.2.2.2.1->(ah e)/\(ah e)/\(e->(ar e)/\(ar e)/\0<=(ai b d).2.1/\(ai b d).2.1<(ac a)/\True)/\(ah e)/\(ah e)/\(ar e)/\ao (bif e then (a.getD (toNat (ai b d).2.1) default).2.2.2.2.2.2.2.2.2.2.2.2.1 else false) (13=nT (a,b,c)) (∃(f:Int),(0<=f/\f<=(ac b)/\ ∀(g:Int×Int×Int×Int×Int×Int),g∈take f.toNat b->iV a g=false)/\toNat ((ac b)
 -f)<toNat ((ac b) -d)/\b=b/\(ac b)=(ac b)/\aj (d+1)=f/\a=a/\b=b/\c=c/\True)) (0=nT (a,b,c)):=by
  delta tm ah ar aj ai ac;rintro ns ls hs ⟨⟨-,⟨hl,-⟩,-⟩,-⟩ he;simp only[maxLen] at hl;refine⟨⟨0,⟨ab,ab,aA⟩,aP⟩,?_⟩;rintro i ⟨i0,i1,hI⟩;refine aw (λhi=>?_) (λhi=>?_)
  rotate_left
  .have hi:=aL hi;rw[fi ab] at hI;unfold nT;rw[af];intro h;obtain⟨l,h1,h2⟩:=List.any_eq_true.1 h;rw[hI l h1] at h2;cases h2
  have hi:=aI hi;have hm:=bS i0 hi;have e:=he _ hm;refine⟨i0,hi,e.1,e.2.1,?_⟩;intro b hb
  (repeat first|refine⟨λh=>⟨λ_=>h,λ_=>h,e.2.2.1,e.2.2.2,bv⟩,?_⟩|refine⟨λh=>⟨λ_=>h,e.2.2.1,e.2.2.2,bv⟩,?_⟩|refine⟨aA,?_⟩);refine uD (λx1 x2=>?_) (λhno=>?_)
  .unfold nT;rw[am];refine List.any_eq_true.2 ⟨_,hm,?_⟩;unfold iV;rw[dK];exact⟨hb.symm.trans x1,x2⟩
  .refine⟨i+1,⟨ab,ab,nW i0 hi hI ?_⟩,ab,aP⟩;unfold iV;rw[Bool.and_eq_false_iff];rcases hno with h|h
   .exact .inl (hb.symm.trans h)
   .exact .inr h
theorem XR:aB 90 Qy.spec:=aF Tryz.func90 aD aT4 aV3
def na(n:aQ)(k:Nat):Bool:=decide (cy (n.1.getD (lA (n.2.1.getD k default)).toNat default) k<0)||decide (cy (n.1.getD (lB (n.2.1.getD k default)).toNat default) k<0)
def nH(n:aQ):Int:=if (range n.2.1.length).any (na n) then 11 else 0
def Li:Ct:=⟨[.agg ib],[.val cI],λd=>[Be d.1],λd=>((nH d.1,()),())⟩
def XT:bw Li.ps->ce:=(λd=>{loops:=(bq 2 (λS=>{ι:=Int,μ:=λi=>(d.1.2.1.length-i).toNat,inv:=λi=>0<=i/\i<=d.1.2.1.length∧∀ k:Nat,(k:Int)<i->na d.1 k=false,keep:=[1,6,7],slots:=λi=>[(8,.int .i64 i)],keepN:=[32]}) cC)})
theorem ab8 :
 ∀(a:List au)(b:List aK)(c:List aV),(tm a b c)/\True->(∀(d:aK),d∈b->0<=lA d/\lA d<(ac a)/\0<=lB d/\lB d<(ac a))->(∃(d:Int),(0<=d/\d<=(ac b)/\ ∀(e:Nat),(↑e:Int)<d->na (a,b,c) e=false)/\b=b/\(ac b)=(ac b)/\0=d/\a=a/\b=b/\c=c/\True)/\ ∀(d:Int),(0<=d/\d<=(ac b)/\ ∀(e:Nat),(↑e:Int)<d->na (a,b,c) e=false)->ao (decide (d<(ac b))) (0<=d/\d<(ac b)/\0<=(ai b d).1/\(ai b d).1<(ac a)/\ ∀(e:Bool),e=decide (cy (a.getD (toNat (ai b d).1) default) d<0)->(ah (! e))/\(ah (! e))/\((! e)->(ar (! e))/\(ar (! e))/\0<=(ai b d).2.1/\(ai b d).2.1<(ac a)/\True)/\(ah (! e))/\((! e)->(ar (! e))/\(ar (! e))/\True)/\(ah (! e))/\(aE e)/\ao (bif e then true else decide (cy (a.getD (toNat (ai b d).2.1) default) d<0)) (11=nH (a,b,c)) (∃(f:Int),(0<=f/\f<=(ac b)/\ ∀(g:Nat),(↑g:Int)<f->na (a,b,c) g=false)/\toNat ((ac b) -f)<toNat ((ac b)
 -d)/\b=b/\(ac b)=(ac b)/\aj (d+1)=f/\a=a/\b=b/\c=c/\True)) (0=nH (a,b,c)):=by
  delta tm ah ar aE aj ai ac;rintro ns ls hs ⟨⟨-,⟨hl,-⟩,-⟩,-⟩ he;simp only[maxLen] at hl;refine⟨⟨0,⟨ab,ab,λk hk=>ab⟩,aP⟩,?_⟩;rintro i ⟨i0,i1,hI⟩;refine aw (λhi=>?_) (λhi=>?_)
  rotate_left
  .have hi:=aL hi;unfold nH;rw[af];intro h;obtain⟨k,h1,h2⟩:=List.any_eq_true.1 h;have h1:k<ls.length:=List.mem_range.1 h1;rw[hI k ab] at h2;cases h2
  have hi:=aI hi;have hm:=bS i0 hi;have e:=he _ hm;have ei:((i.toNat:Nat):Int)=i:=ab;refine⟨i0,hi,e.1,e.2.1,?_⟩;intro b hb
  (repeat first|refine⟨λh=>⟨λ_=>h,λ_=>h,e.2.2.1,e.2.2.2,bv⟩,?_⟩|refine⟨λh=>⟨λ_=>h,e.2.2.1,e.2.2.2,bv⟩,?_⟩|refine⟨aA,?_⟩);refine sF (λho=>?_) (λx1 x2=>?_)
  .unfold nH;rw[am];refine List.any_eq_true.2 ⟨i.toNat,List.mem_range.2 (show i.toNat<ls.length by omega),?_⟩;unfold na;rw[pb,ei];rcases ho with h|h
   .exact .inl (hb.symm.trans h)
   .exact .inr h
  .refine⟨i+1,⟨ab,ab,λk hk=>?_⟩,ab,aP⟩;by_cases e2:(k:Int)<i
   .exact hI k e2
   .have:k=i.toNat:=ab;subst this;unfold na;rw[Bool.or_eq_false_iff,ei];exact⟨hb.symm.trans x1,x2⟩
theorem Wd:aB 88 Li.spec:=aF Tryz.func88 (av aD Bo) XT ab8
def gZ(nn:Nat)(l:aK):Prop:=0<=lA l/\lA l<nn/\0<=lB l/\lB l<nn/\lA l≠lB l/\1<=gS l/\gS l<=1073741824/\0<=fK l/\fK l<=1073741824/\0<=oo l/\oo l<=65536
instance (nn:Nat) (l:aK):Decidable (gZ nn l):=by unfold gZ;infer_instance
def lX(n:aQ):Int:=if n.2.1.all (λl=>decide (gZ n.1.length l)) then 0 else 11
def LA:Ct:=⟨[.agg ib],[.val cI],λd=>[],λd=>((lX d.1,()),())⟩
def aE5:bw LA.ps->ce:=(λd=>{loops:=(bq 3 (λS=>{ι:=Int,μ:=λi=>(d.1.2.1.length-i).toNat,inv:=λi=>0<=i/\i<=d.1.2.1.length∧∀ x∈d.1.2.1.take i.toNat,gZ d.1.1.length x,keep:=[1,3,11,12],slots:=λi=>[(13,.int .i64 i)],keepN:=[32]}) cC)})
theorem WH :
 ∀(a:List au)(b:List aK)(c:List aV),(tm a b c)/\True->True->(∃(d:Int),(0<=d/\d<=(ac b)/\ ∀(e:Int×Int×Int×Int×Int×Int),e∈take d.toNat b->gZ a.length e)/\aj ((ac a) -1)=aj ((ac a) -1)/\b=b/\(ac b)=(ac b)/\0=d/\a=a/\b=b/\c=c/\True)/\ ∀(d:Int),(0<=d/\d<=(ac b)/\ ∀(e:Int×Int×Int×Int×Int×Int),e∈take d.toNat b->gZ a.length e)->ao (decide (d<(ac b))) (0<=d/\d<(ac b)/\ ∀(e:Bool),e= ! decide (0<=(ai b d).1/\(ai b d).1<=aj ((ac a) -1))->(ah (! e))/\((! e)->(ar (! e))/\(ar (! e))/\True)/\(ah (! e))/\(aE e)/\ ∀(f:Bool),(f=bif e then true else ! decide (0<=(ai b d).2.1/\(ai b d).2.1<=aj ((ac a) -1)))->(ah (! f))/\(ah (! f))/\((! f)->(ar (! f))/\(ar (! f))/\True)/\(aE f)/\ ∀(g:Bool),(g=bif f then true else decide ((ai b d).1=(ai b d).2.1))->(ah (! g))/\(ah (! g))/\(ah (! g))/\(aE g)/\ ∀(h:Bool),(h=bif g then true else ! decide (1<=(ai b
 d).2.2.1/\(ai b d).2.2.1<=1073741824))->(ah (! h))/\(ah (! h))/\(ah (! h))/\(aE h)/\ ∀(i:Bool),(i=bif h then true else ! decide (0<=(ai b d).2.2.2.1/\(ai b d).2.2.2.1<=1073741824))->(ah (! i))/\(ah (! i))/\(ah (! i))/\(aE i)/\ao (bif i then true else ! decide (0<=(ai b d).2.2.2.2.1/\(ai b d).2.2.2.2.1<=65536)) (11=lX (a,b,c)) (∃(j:Int),(0<=j/\j<=(ac b)/\ ∀(k:Int×Int×Int×Int×Int×Int),k∈take j.toNat b->gZ a.length k)/\toNat ((ac b) -j)<toNat ((ac b) -d)/\aj ((ac a) -1)=aj ((ac a) -1)/\b=b/\(ac b)=(ac b)/\aj (d+1)=j/\a=a/\b=b/\c=c/\True)) (0=lX (a,b,c)):=by
  delta tm ah ar aE aj ai ac;rintro ns ls hs ⟨⟨⟨hnl,-⟩,⟨hl,-⟩,-⟩,-⟩ -;simp only[maxLen] at hl hnl;rw[aG (n:=(ns.length:Int)-1) ab ab];refine⟨⟨0,⟨ab,ab,aA⟩,aP⟩,?_⟩;rintro i ⟨i0,i1,hI⟩;refine aw (λhi=>?_) (λhi=>?_)
  rotate_left
  .have hi:=aL hi;rw[fi ab] at hI;unfold lX;rw[am];exact List.all_eq_true.2 λl hl=>cM (hI l hl)
  have hi:=aI hi;have hm:=bS i0 hi;refine⟨i0,hi,?_⟩;have key:gZ ns.length (ls.getD i.toNat default)↔((0<=(ls.getD i.toNat default).1/\(ls.getD i.toNat default).1<=(ns.length:Int)-1)/\(0<=(ls.getD i.toNat default).2.1/\(ls.getD i.toNat default).2.1<=(ns.length:Int)-1)∧¬ (ls.getD i.toNat default).1=(ls.getD i.toNat default).2.1/\(1<=(ls.getD i.toNat default).2.2.1/\(ls.getD i.toNat default).2.2.1<=1073741824)/\(0<=(ls.getD i.toNat default).2.2.2.1/\(ls.getD i.toNat default).2.2.2.1<=1073741824)/\(0<=(ls.getD i.toNat default).2.2.2.2.1/\(ls.getD i.toNat default).2.2.2.2.1<=65536)):=by
   unfold gZ lA lB gS fK oo;omega
  have eJ:=λh=>nW i0 hi hI (P:=gZ ns.length) h;generalize ls.getD i.toNat default=l at hm key eJ ⊢;generalize hA:decide (0<=l.1/\l.1<=(ns.length:Int)-1)=bA;generalize hB:decide (0<=l.2.1/\l.2.1<=(ns.length:Int)-1)=bB;generalize hC:decide (l.1=l.2.1)=bC;generalize hD:decide (1<=l.2.2.1/\l.2.2.1<=1073741824)=bD;generalize hE:decide (0<=l.2.2.2.1/\l.2.2.2.1<=1073741824)=bE;generalize hF:decide (0<=l.2.2.2.2.1/\l.2.2.2.2.1<=65536)=bF;have key2:gZ ns.length l↔(bA=true/\bB=true/\bC=false/\bD=true/\bE=true/\bF=true):=by
   rw[key,← hA,← hB,← hC,← hD,← hE,← hF];simp only[lU,pj]
  have bad:¬ gZ ns.length l->(11:Int)=lX (ns,ls,hs):=λh=>by
   unfold lX;rw[af];intro k;exact h (aI (List.all_eq_true.1 k l hm))
  intro b1 hb1
  (repeat refine⟨aA,?_⟩);intro b2 hb2
  (repeat refine⟨aA,?_⟩);intro b3 hb3
  (repeat refine⟨aA,?_⟩);intro b4 hb4
  (repeat refine⟨aA,?_⟩);intro b5 hb5
  (repeat refine⟨aA,?_⟩);have tot:(bif b5 then true else !bF) = !(bA&&bB && !bC&&bD&&bE&&bF):=by
   rw[hb5,hb4,hb3,hb2,hb1];cases bA <;> cases bB <;> cases bC <;> cases bD <;> cases bE <;> cases bF <;> rfl
  rw[tot];refine aw (λh=>bad λk=>?_) (λh=>?_)
  .obtain⟨a1,a2,a3,a4,a5,a6⟩:=key2.1 k;rw[a1,a2,a3,a4,a5,a6] at h;cases h
  .have h2:gZ ns.length l:=key2.2 (by
    clear tot hb1 hb2 hb3 hb4 hb5 key2 hA hB hC hD hE hF;revert h;cases bA <;> cases bB <;> cases bC <;> cases bD <;> cases bE <;> cases bF <;> decide)
   exact⟨i+1,⟨ab,ab,eJ h2⟩,ab,aP⟩
theorem Zb:aB 86 LA.spec:=aF Tryz.func86 (av aD DK) aE5 WH
theorem Og{links:ae}:∀{l:List Rt}{q:Option eh},chk links q l=0->cH l/\(∀ p,q=some p→∀ r∈l,bH p r.1)∧∀ r∈l,jT r.1=true/\kX r links
 | [],q,_=>⟨List.Pairwise.nil,λ_ _ r hr=>(by cases hr),λr hr=>(by cases hr)⟩
 | r::l,q,h=>by
  rw[chk] at h;split at h
  .cases h
  rename_i h1;split at h
  .cases h
  rename_i h2;split at h
  .cases h
  rename_i h3;obtain⟨i1,i2,i3⟩:=Og h;have hv:jT r.1=true:=by cases hh:jT r.1 <;> simp_all
  have hp:∀ p,q=some p->bH p r.1:=λp hp=>by
   subst hp;rw[Option.any_some] at h2;have:¬ (0<=gD p r.1):=by simpa using h2
   exact By.1 ab
  refine⟨List.pairwise_cons.2 ⟨i2 _ rfl,i1⟩,λp e z hz=>?_,λz hz=>?_⟩
  .rcases dL.1 hz with rfl|hz
   .exact hp p e
   .exact BT (hp p e) (i2 _ rfl z hz)
  .rcases dL.1 hz with rfl|hz
   .exact⟨hv,fq h3⟩
   .exact i3 z hz
theorem Bn{l:List Rt}{links:ae}(h:dP l links=0):cH l/\l.length<=64∧∀ r∈l,jT r.1=true/\kX r links:=by
 unfold dP at h
 split at h
 .cases h
 next hl=>have k:=Og h;exact⟨k.1,ab,k.2.2⟩
theorem xx{l:List Rt}{links:ae}(h:dP l links=0):cH l/\okL l:=by
 obtain⟨h1,h2,h3⟩:=Bn h
 exact⟨h1,ab,λr hr=>by have:=(h3 r hr).2.1.1;omega⟩
def fc(c:aV):Int:=c.1
def bJ(c:aV):Int:=c.2.1
def pQ(c:aV):Bool:=c.2.2.1
def dN(c:aV):Rt:=c.2.2.2
def mH(a b:Int):Int:=if a≠0 then a else b
theorem ro{a b:Int}(h:mH a b=0):a=0/\b=0:=by
 unfold mH at h
 split at h
 next k=>exact absurd h k
 next k=>exact⟨ab,h⟩
def mL(n:aQ)(i:Nat)(k:Int):Bool:=decide ((n.2.1.length:Int)<=k) || !(decide (lA (n.2.1.getD k.toNat default)=i)||decide (lB (n.2.1.getD k.toNat default)=i))
def kQ(n:aQ)(i:Nat):Int :=
 if eG (n.1.getD i default)≠0 then eG (n.1.getD i default)
 else if (bj (n.1.getD i default)).any (mL n i) then 11 else 0
def lq(n:aQ):Int:=first (kQ n) n.1.length
def f9(l:List Rt)(c:aV):List Rt:=if pQ c=true then jk l (dN c).1 else f6 l (dN c)
def dG(n:aQ):Nat->List (List Rt)
 | 0=>n.1.map aU
 | i+1=>(dG n i).set (bJ (n.2.2.getD i default)).toNat (f9 ((dG n i).getD (bJ (n.2.2.getD i default)).toNat default) (n.2.2.getD i default))
def mV(n:aQ)(i:Nat)(c p:aV)(l:List Rt):Int :=
 if fc c<0∨1125899906842624<fc c then 1
 else if 0<i/\fc c<fc p then 6
 else if bJ c<0∨(n.1.length:Int)<=bJ c then 8
 else if pQ c=true/\m5 l (dN c).1=false then 8
 else dP (f9 l c) (bj (n.1.getD (bJ c).toNat default))
def hY(n:aQ)(i:Nat):Int:=mV n i (n.2.2.getD i default) (n.2.2.getD (i-1) default) ((dG n i).getD (bJ (n.2.2.getD i default)).toNat default)
def lS(n:aQ):Int:=first (hY n) n.2.2.length
def d9(n:aQ):Int:=mH (nR n) (mH (lX n) (mH (lq n) (mH (nH n) (mH (oJ n) (mH (nT n) (lS n))))))
theorem HL{n:aQ}(h:lX n=0):Be n:=λl hl=>by
 unfold lX at h
 split at h
 next k=>have k:=aI (List.all_eq_true.1 k l hl);exact⟨k.1,k.2.1,k.2.2.1,k.2.2.2.1⟩
 .cases h
theorem nX{α:Type} [Inhabited α] {xs:List α} {i:Nat} (h:i<xs.length):xs.getD i default∈xs:=by
 have:=bS (xs:=xs) (i:=(i:Nat)) ab ab
 simpa using this
theorem Q2{x:au}(h:first (g7 x) (ay x).length=0):∀ k∈bj x,0<=k:=λk hk=>by
 obtain⟨q,hq,rfl⟩:=List.mem_map.1 hk
 obtain⟨i,hi,e⟩:=List.mem_iff_getElem.1 hq
 have k1:=wz h i hi
 unfold g7 at k1
 rw[bL,cK hi,fZ,e] at k1
 split at k1
 .cases k1
 split at k1
 .cases k1
 rename_i h2
 show 0<=q.2
 omega
structure NV (x:au):Prop where
 len:(ay x).length<=32
 pos:0<(ay x).length
 bad:first (g7 x) (ay x).length=0
 loop:¬ oH x
 form:¬ mK x
 tab:dP (aU x) (bj x)=0
theorem IB{x:au}(h:eG x=0):NV x:=by
 unfold eG at h
 split at h
 .cases h
 rename_i h1
 split at h
 next k=>exact absurd h k
 rename_i h2
 split at h
 .cases h
 rename_i h3
 split at h
 .cases h
 rename_i h4
 split at h
 next k=>exact absurd h k
 split at h
 next k=>exact absurd h k
 refine⟨ab,?_,ab,h3,h4,h⟩
 unfold mK at h4
 omega
theorem Bu{n:aQ}(h:lq n=0){i:Nat}(hi:i<n.1.length):NV (n.1.getD i default):=by
 have k:=wz h i hi
 unfold kQ at k
 split at k
 next e=>exact absurd k e
 next e=>exact IB ab
theorem O1{n:aQ}(h:lq n=0):∀ x∈n.1,NV x:=λx hx=>by
 obtain⟨i,hi,e⟩:=List.mem_iff_getElem.1 hx
 have:=Bu h hi
 rw[bL,cK hi,e] at this;exact this
structure TB (n:aQ) (t:List (List Rt)):Prop where
 len:t.length=n.1.length
 r:∀ i:Nat,i<n.1.length->cH (t.getD i default)/\okL (t.getD i default)
theorem zp{α β:Type} [Inhabited α] [Inhabited β] {f:α->β} {l:List α} {i:Nat} (h:i<l.length):(l.map f).getD i default=f (l.getD i default):=by
 rw[bL,bL,List.getElem?_map,cK h];rfl
theorem qJ(n:aQ):∀ i:Nat,(dG n i).length=n.1.length
 | 0=>by simp[dG]
 | i+1=>by rw[dG,gB,qJ n i]
theorem I9{n:aQ}(hb:lq n=0):∀{i:Nat},first (hY n) i=0->TB n (dG n i)
 | 0,_=>⟨qJ n 0,λi hi=>by
  rw[dG,zp hi];exact xx (Bu hb hi).tab⟩
 | i+1,h=>by
  have h0:first (hY n) i=0:=by
   by_cases e:first (hY n) i=0
   .exact e
   .rw[first,am e] at h;exact h
  have k:=I9 hb h0;have hz:hY n i=0:=wz h i ab;refine⟨qJ n _,λj hj=>?_⟩;rw[dG];unfold hY mV at hz;generalize n.2.2.getD i default=c at hz ⊢;split at hz
  .cases hz
  split at hz
  .cases hz
  split at hz
  .cases hz
  rename_i hw;split at hz
  .cases hz
  by_cases e:(bJ c).toNat=j
  .subst e;rw[kw (by rw[k.len];exact hj)];exact xx hz
  .rw[nA e];exact k.r j hj
structure okNet (n:aQ):Prop where
 t:∀ x∈n.1,cH (aU x)/\(aU x).length<=1000∧∀ r∈aU x,(r.2.1.length:Int)<=1099511627776
 c:n.2.2.length<=1000
 s:∀ c∈n.2.2,((dN c).2.1.length:Int)<=1099511627776
def BJ(who at':Int)(l:List Rt)(c:aV):List Rt:=if bJ c=who/\fc c<=at' then f9 l c else l
def rm(n:aQ)(who at':Int)(k:Int):List Rt:=(n.2.2.take k.toNat).foldl (BJ who at') (aU (n.1.getD who.toNat default))
def d5(n:aQ)(who at':Int):List Rt:=if who<0∨(n.1.length:Int)<=who then [] else rm n who at' n.2.2.length
structure xw (m:Nat) (l:List Rt):Prop where
 s:cH l
 n:l.length<=m
 x:∀ r∈l,(r.2.1.length:Int)<=1099511627776
theorem xw.okL{m:Nat}{l:List Rt}(h:xw m l)(hm:m<=100000):okL l:=⟨by have:=h.n;omega,h.x⟩
theorem xw.ch{m:Nat}{l:List Rt}(h:xw m l){c:aV}(hc:((dN c).2.1.length:Int)<=1099511627776):xw (m+1) (f9 l c):=by
 unfold f9
 split
 .refine⟨List.Pairwise.filter _ h.s,?_,λr hr=>h.x r (List.mem_filter.1 hr).1⟩;have:=Ln l (dN c).1;have:=h.n;omega
 .refine⟨Gz h.s,?_,λr hr=>?_⟩
  .have:=Lf l (dN c);have:=h.n;omega
  .rcases MV.1 hr with rfl|⟨hr,-⟩
   .exact hc
   .exact h.x r hr
theorem OR{n:aQ}{who at' k:Int}(k0:0<=k)(k1:k<n.2.2.length):rm n who at' (k+1)=BJ who at' (rm n who at' k) (n.2.2.getD k.toNat default):=by
 unfold rm
 rw[rk k0 k1,iG];rfl
theorem GE{n:aQ}(h:okNet n){who at':Int}(w0:0<=who)(w1:who<n.1.length):∀ k:Nat,k<=n.2.2.length->xw (1000+k) (rm n who at' k)
 | 0,_=>by
  have:=h.t _ (bS w0 w1);exact⟨this.1,this.2.1,this.2.2⟩
 | k+1,hk=>by
  have i:=GE h (at':=at') w0 w1 k ab;rw[show ((k+1:Nat):Int)=(k:Int)+1 by omega,OR ab ab];unfold BJ;split
  .have:=i.ch (c:=n.2.2.getD (k:Int).toNat default) (h.s _ (bS ab ab));exact this
  .exact⟨i.s,by have:=i.n;omega,i.x⟩
theorem MT{n:aQ}(h:okNet n)(who at':Int):xw 2000 (d5 n who at'):=by
 unfold d5
 split
 .exact⟨List.Pairwise.nil,aA,λr hr=>by cases hr⟩
 .have:=GE h (who:=who) (at':=at') ab ab n.2.2.length (iq _);have hc:=h.c;exact⟨this.s,by have:=this.n;omega,this.x⟩
def Cv(ns:List au)(a:Int):Nat:=ns.findIdx λx=>dC x a
def rJ(n:aQ)(a:Int):Bool:=decide (Cv n.1 a<n.1.length)
def vl(n:aQ)(a:Int):Int:=if Cv n.1 a<n.1.length then (Cv n.1 a:Int) else 0
theorem KQ{x:au}{a:Int}:0<=jl x a↔a∈md x:=by
 unfold jl gW
 constructor
 .intro h;split at h
  next k=>have:=List.findIdx_getElem (w:=k);exact List.mem_map.2 ⟨_,List.getElem_mem k,aI this⟩
  .omega
 .intro h;obtain⟨q,hq,rfl⟩:=List.mem_map.1 h;have:(ay x).findIdx (gV q.1)<(ay x).length:=List.findIdx_lt_length_of_exists ⟨q,hq,by unfold gV;simp⟩;rw[am this];omega
theorem Mj{x:au}{a:Int}:dC x a=true↔a∈cG x:=by
 unfold dC cG
 rw[pb,dK,nZ,KQ,dw]
 refine or_congr nh ?_
 by_cases h:fy x=0
 .rw[am h];simp[h]
 .rw[af h];simp[h];exact eq_comm
def nB(x:au):ct:=(aU x,0,replicate (ay x).length 0,AY (jV x) 0,0)
def zO(b t:Int×Int):Prop:=(0<=t.2/\t.2<=1125899906842624)/\(b=(0,0)->t.1=0)/\(b≠(0,0)->0<=t.1/\t.1<=b.1*b.2)
structure iT (x:au) (s:ct) (K:Int):Prop where
 srt:cH (bT s)
 okl:okL (bT s)
 rt:∀ r∈bT s,kX r (bj x)
 ps:(lP s).length=(ay x).length
 tk:zO (jV x) (sR s)
 cn:0<=qa s/\qa s<=K
 cp:∀ y∈lP s,0<=y/\y<=K
def jc(x:au)(s:ct)(link at':Int)(b:ae):dQ:=(x,s,link,at',b,(aY b).1)
def kB(kind:Int)(w:dQ)(f i:Int):ae:=if kind=2 then dW w 11 0 f i else if kind=3 then dW w 3 0 f i else fT w f i
def kE(kind:Int)(w:dQ)(i:Int):Int:=if kind=2 then jq w 11 0 i else if kind=3 then jq w 3 0 i else kT w i
def pt(kind:Int)(w:dQ):Int:=if kind=0 then jm w.2.2.2.2.2 else 0
def t9(w:dQ)(kind:Int):oP:=dD (kB kind w) (kE kind w) w (pt kind w)
theorem CM{b:Int×Int}(h:hV b=0):b=(0,0)∨(1<=b.1/\b.1<=65536/\1<=b.2/\b.2<=1073741824/\b.2<=b.1*b.2/\b.1*b.2<=70368744177664):=by
 unfold hV at h
 split at h
 next hh=>
  rcases hh with hh|⟨h1,h2,h3,h4⟩
  .exact .inl hh
  .refine .inr ⟨h1,h2,h3,h4,?_,?_⟩
   .have:=Int.mul_le_mul_of_nonneg_right (a:=1) (b:=b.1) (c:=b.2) h1 ab;omega
   .have:=Int.mul_le_mul (a:=b.1) (b:=b.2) (c:=65536) (d:=1073741824) h2 h4 ab ab;omega
 .cases h
theorem Yt{b:Int×Int}(h:hV b=0)(x:Int):AY b x=(b.1*b.2,x):=by
 rcases CM h with rfl|hh
 .rfl
 .unfold AY w;rw[aG ab ab]
theorem aF8{b t:Int×Int}{x:Int}(h:hV b=0)(hb:b≠(0,0))(ht:zO b t)(hx:0<=x/\x<=1125899906842624) :
  kF b t x=if min (t.1+(max x t.2-t.2)) (b.1*b.2)<b.2 then ((min (t.1+(max x t.2-t.2)) (b.1*b.2),max x t.2),false) else ((min (t.1+(max x t.2-t.2)) (b.1*b.2)-b.2,max x t.2),true):=by
 obtain⟨h1,-,h3⟩:=ht
 have h3:=h3 hb
 have hc:=(CM h).resolve_left hb
 have e:uc b t (max x t.2)=min (t.1+(max x t.2-t.2)) (b.1*b.2):=by
  unfold uc w;rw[aG (n:=max x t.2-t.2) ab ab,aG ab ab,aG ab ab]
 unfold kF w
 rw[af hb,e]
 split
 .rfl
 .rw[aG ab ab]
theorem am1{b t:Int×Int}{x:Int}(h:hV b=0)(ht:zO b t)(hx:0<=x/\x<=1125899906842624):zO b (kF b t x).1/\(kF b t x).1.2=max x t.2:=by
 have h1:=ht.1
 by_cases hb:b=(0,0)
 .subst hb;rw[show kF (0,0) t x=((0,max x t.2),true) by simp[kF]];exact⟨⟨⟨by show 0<=max x t.2;omega,by show max x t.2<=_;omega⟩,λ_=>rfl,λk=>absurd rfl k⟩,rfl⟩
 .have hc:=(CM h).resolve_left hb;have h3:=ht.2.2 hb;rw[aF8 h hb ht hx];split
  .exact⟨⟨⟨by show 0<=max x t.2;omega,by show max x t.2<=_;omega⟩,λk=>absurd k hb,λ_=>⟨by show 0<=min _ _;omega,by show min _ _<=_;omega⟩⟩,rfl⟩
  .exact⟨⟨⟨by show 0<=max x t.2;omega,by show max x t.2<=_;omega⟩,λk=>absurd k hb,λ_=>⟨by show 0<=min _ _-_;omega,by show min _ _-_<=_;omega⟩⟩,rfl⟩
structure nP (x:au):Prop where
 n1:1<=(ay x).length
 n32:(ay x).length<=32
 id:iZ x=0
 bk:hV (jV x)=0
 rt:dP (aU x) (bj x)=0
 loop:¬ oH x
 ports:∀ i,i<(ay x).length->g7 x i=0
 form:¬ mK x
theorem R4{x:au}(h:eG x=0):nP x:=by
 unfold eG at h
 split at h
 .cases h
 rename_i a1
 split at h
 next k=>exact absurd h k
 rename_i a2
 split at h
 .cases h
 rename_i a3
 split at h
 .cases h
 rename_i a4
 split at h
 next k=>exact absurd h k
 rename_i a5
 split at h
 next k=>exact absurd h k
 rename_i a6
 refine⟨?_,ab,by simpa using a5,by simpa using a6,h,a3,wz (by simpa using a2),a4⟩
 by_cases k:(ay x).length=0
 .exact absurd (.inr (.inr (.inr (.inr (.inr (.inr k)))))) a4
 .omega
theorem aT5{a:Int}(h:fC a):a≠0:=by
 rintro rfl
 revert h
 unfold fC
 decide
theorem sW{q:Int×Int->Bool}{l:List (Int×Int)}(h:0<=gW q l):gW q l<l.length/\q (l.getD (gW q l).toNat default)=true:=by
 unfold gW at h ⊢
 split at h
 next hlt=>rw[am hlt];refine⟨ab,?_⟩;rw[Int.toNat_natCast,bL,cK hlt,fZ];exact List.findIdx_getElem (w:=hlt)
 .omega
theorem Po{q:Int×Int->Bool}{l:List (Int×Int)}{y:Int×Int}(hy:y∈l)(hq:q y=true):0<=gW q l:=by
 have hlt:l.findIdx q<l.length:=List.findIdx_lt_length_of_exists ⟨y,hy,hq⟩
 unfold gW;rw[am hlt];omega
theorem Qf{x:au}{i:Nat}(h:g7 x i=0):fC ((ay x).getD i default).1∧¬ ((ay x).getD i default).2<0:=by
 unfold g7 at h
 split at h
 .cases h
 next k=>
  split at h
  .cases h
  next k2=>exact⟨o4.1 λq=>k (.inl q),λq=>k2 (.inl q)⟩
theorem Sn{x:au}(h:nP x){a:Int}(ha:dC x a=true):a≠0:=by
 rintro rfl
 unfold dC at ha
 simp only[pb,lU,dK,sa,pj] at ha
 rcases ha with ha|⟨h1,h2⟩
 .have ha:0<=gW (gV 0) (ay x):=ha;obtain⟨k1,k2⟩:=sW (q:=gV 0) (l:=ay x) ha;have:=(Qf (h.ports (gW (gV 0) (ay x)).toNat ab)).1;have e:((ay x).getD (gW (gV 0) (ay x)).toNat default).1=0:=aI k2;rw[e] at this;exact aT5 this rfl
 .exact h1 h2
theorem au1{x:au}(h:nP x)(k:Int):ci x k<(ay x).length:=by
 have:=h.n1
 unfold ci
 by_cases hk:0<=cy x k
 .have:=(sW hk).1;have e:cy x k=gW (ic k) (ay x):=rfl;omega
 .omega
theorem Qr{x:au}{i:Int}(h0:0<=i)(h1:i<(ay x).length):adr x i=((ay x).getD i.toNat default).1:=by
 unfold adr;rw[af ab]
theorem at1{l:List Rt}{a:Int}(h:ie l a=true):bf l a∈l:=by
 have key:∀(l:List Rt)(b:Option Rt)(r:Rt),l.foldl (ta a) b=some r->r∈l∨b=some r:=by
  intro l
  induction l with
  | nil=>intro b r e;exact .inr e
  | cons y l ih =>
   intro b r e;rcases ih _ _ e with h1|h1
   .exact .inl (fL _ h1)
   .unfold ta at h1;split at h1
    .split at h1
     .cases h1;exact .inl fW
     .split at h1
      .cases h1;exact .inl fW
      .exact .inr h1
    .exact .inr h1
 unfold ie at h
 unfold bf
 cases hl:ma l a with
 | none=>rw[hl] at h;cases h
 | some r =>
  rcases key l none r hl with k|k
  .exact k
  .cases k
theorem JQ{s:ct}{a:Int}(h:¬ fV s a=false):bf (bT s) a∈bT s:=by
 refine at1 ?_
 unfold fV at h
 cases hb:ie (bT s) a with
 | true=>rfl
 | false=>rw[hb] at h;simp at h
theorem NA{x:au}{s:ct}{r:Rt}{k:dZ}(h:r.2.1≠[]):ja x s r k∈r.2.1:=by
 have hpos:1<=(r.2.1.length:Int):=by cases hh:r.2.1 with
  | nil=>exact absurd hh h
  | cons a l=>simp;omega
 unfold ja
 split
 .exact bS (i:=0) ab ab
 .have hc:=KO (way:=r.2.2) (seed:=sw x) (k:=k) (count:=jz s) hpos;exact bS hc.1 hc.2
theorem Ld{r:Rt}{links:ae}(h:kX r links):∀ y∈r.2.1,y∈links:=by
 intro y hy
 obtain⟨i,hi,rfl⟩:=List.mem_iff_getElem.1 hy
 have:=(h.1.2 i hi).2
 rwa [bL,cK hi,fZ] at this
theorem Ih{x:au}{k:Int}(h:k∈bj x):0<=cy x k:=by
 obtain⟨y,hy,rfl⟩:=List.mem_map.1 h
 exact Po hy (by simp[ic])
theorem aN5{x:au}{s:ct}{K:Int}(hs:iT x s K){a:Int}(hw:¬ fV s a=false)(s':ct)(k:dZ):0<=cy x (ja x s' (bf (bT s) a) k) :=
 Ih (Ld (hs.rt _ (JQ hw)) _ (NA (CB hw)))
theorem aO2{l:ae}{K i:Int}(h:∀ y∈l,0<=y/\y<=K)(hK:0<=K/\K<=2199023255552)(h0:0<=i):(qK l i).length=l.length∧∀ y∈qK l i,0<=y/\y<=K+1:=by
 unfold qK
 split
 next hi=>
  refine⟨gB,λy hy=>?_⟩;rcases Ck hy with hy|rfl
  .have:=h y hy;omega
  .have:=h _ (bS h0 hi);rw[aG ab ab];omega
 .exact⟨rfl,λy hy=>by have:=h y hy;omega⟩
theorem iT.more{x:au}{s:ct}{K K':Int}(h:iT x s K)(hk:K<=K'):iT x s K' :=
 ⟨h.srt,h.okl,h.rt,h.ps,h.tk,by have:=h.cn;omega,λy hy=>by have:=h.cp y hy;omega⟩
theorem iT.tok{x:au}{s:ct}{K:Int}(h:iT x s K){t:Int×Int}(ht:zO (jV x) t):iT x (AT s t) K:=⟨h.srt,h.okl,h.rt,h.ps,ht,h.cn,h.cp⟩
theorem iT.bal{x:au}{s:ct}{K:Int}(h:iT x s K)(b:Int):iT x (QE s b) K:=⟨h.srt,h.okl,h.rt,h.ps,h.tk,h.cn,h.cp⟩
theorem iT.pick{x:au}{s:ct}{K:Int}(h:iT x s K)(r:Rt):iT x (gz s r) K:=by
 unfold gz;split
 .exact h
 .exact h.bal _
theorem iT.sent{x:au}{s:ct}{K i:Int}(h:iT x s K)(hK:0<=K/\K<=2199023255552)(h0:0<=i):iT x (PR s i) (K+1):=by
 obtain⟨b1,b2⟩:=aO2 h.cp hK h0
 refine⟨h.srt,h.okl,h.rt,b1.trans h.ps,h.tk,?_,b2⟩
 have:=h.cn
 show 0<=IntKind.i64.wrap (qa s+1)/\IntKind.i64.wrap (qa s+1)<=K+1
 rw[aG ab ab];omega
theorem ID{B:Int->Int->ae}{E:Int->Int}{w:dQ}{own:Int}{K:Int}(hx:nP w.1)(hs:iT w.1 w.2.1 K)(hK:0<=K/\K<=2199023255552)(ha:0<=w.2.2.2.1/\w.2.2.2.1<=1125899906842624) :
  iT w.1 (dD B E w own).1 (K+1):=by
 have ht:=am1 hx.bk hs.tk ha
 unfold dD
 split
 .exact hs.more ab
 split
 .exact hs.more ab
 split
 .exact hs.more ab
 split
 .exact (hs.tok ht.1).more ab
 .exact ((hs.tok ht.1).sent hK (DS _ _)).pick _
theorem Xf{x:au}{s:ct}{link at':Int}{b:ae}{K:Int}(hx:nP x)(hs:iT x s K)(hK:0<=K/\K<=2199023255552)(ha:0<=at'∧at'<=1125899906842624):iT x (fI x s link at' b).1 (K+1):=by
 have m:iT x s (K+1):=hs.more ab
 unfold fI gb
 split
 .exact m
 split
 .unfold iy;split
  .exact m
  .exact ID (w:=vC (x,s,link,at',b,oY) (aY b).1) hx hs hK ha
 split
 .exact m
 .unfold fO;split
  .exact ID (w:=vC (x,s,link,at',b,oY) (aY b).1) hx hs hK ha
  split
  .split
   .exact m
   .exact ID (w:=vC (x,s,link,at',b,oY) (aY b).1) hx hs hK ha
  .exact m.pick _
theorem OF{x:au}(hx:nP x):iT x (nB x) 0:=by
 obtain⟨h1,h2⟩:=xx hx.rt
 obtain⟨-,-,h3⟩:=Bn hx.rt
 refine⟨h1,h2,λr hr=>(h3 r hr).2,ue,?_,⟨f8 _,f8 _⟩,λy hy=>by rw[List.eq_of_mem_replicate hy];exact⟨f8 _,f8 _⟩⟩
 show zO (jV x) (AY (jV x) 0)
 rw[Yt hx.bk]
 refine⟨⟨aA,aA⟩,λk=>by rw[k];rfl,λk=>?_⟩
 have:=(CM hx.bk).resolve_left k
 exact⟨by show 0<=_*_;omega,f8 _⟩
def QA:Ct:=⟨[.val (.sl dj)],[.own 96 dj],λd=>[okL d.1],λd=>((d.1,()),())⟩
def X4:bw QA.ps->ce:=(λd=>{loops:=(bq 3 (λS=>{ι:=Int,μ:=λi=>(d.1.length-i).toNat,inv:=λi=>0<=i/\i<=d.1.length,keep:=[3,8,9],slots:=λi=>[(10,.int .i64 i)],keepN:=[128]}) cC)})
theorem Wv :
 ∀(a:List aN),(a.length<=maxLen/\ ∀(b:aN),b∈a->((0<=b.1.1/\b.1.1<=4294967295)/\aq b.1.2)/\(b.2.1.length<=maxLen/\ ∀(c:Int),c∈b.2.1->aq c)/\aq b.2.2)/\True->((ac a)<=134217728/\ ∀(b:Rt),b∈a->(ac b.2.1)<=1099511627776)->(ac a)<=134217728/\(∃(b:Int),(0<=b/\b<=(ac a))/\(ac a)=(ac a)/\0=b/\a=a/\True)/\ ∀(b:Int),0<=b/\b<=(ac a)->ao (decide (b<(ac a))) (0<=b/\b<(ac a)/\((length (ai a b).2.1):Int)<=1099511627776/\0<=b/\b<(ac a)/\ ∃(c:Int),(0<=c/\c<=(ac a))/\toNat ((ac a) -c)<toNat ((ac a) -b)/\(ac a)=(ac a)/\aj (b+1)=c/\set a b.toNat (ai a b)=a/\True) (a=a):=by
  delta aj ai ac;rintro l ⟨⟨hl,-⟩,-⟩⟨h1,h2⟩;simp only[maxLen] at hl;refine⟨h1,⟨0,⟨ab,ab⟩,aP⟩,?_⟩;rintro j ⟨j0,j1⟩;refine bU (λhj=>?_) (λhj=>?_)
  .refine⟨j0,hj,h2 _ (bS j0 hj),j0,hj,j+1,⟨ab,ab⟩,ab,?_⟩
   (repeat refine js ?_);exact⟨rX j0 hj,bv⟩
  .rfl
theorem RV:aB 99 QA.spec:=aF Tryz.func99 (av (av aD KX) wX) X4 Wv
def aq4:Ct:=⟨[.agg bR],[.agg pZ],λd=>[okL (aU d.1),((ay d.1).length:Int)<=1000000],λd=>((nB d.1,()),())⟩
theorem aK8 :
 ∀(a:au),CT.wf bR a/\True->okL (aU a)/\((length (ay a)):Int)<=1000000->0<=(ac a.1)/\(ac a.1)<=(ac a.1)/\(↑(8:Nat):Int)*(ac a.1)<=281474976710656/\okL a.2.2.2.2.1/\(a.2.2.2.2.1,(0:Int),replicate (toNat (ac a.1)) (0:Int),(w (a.2.2.2.2.2.2.2.2.2.2.1.1*a.2.2.2.2.2.2.2.2.2.2.1.2),(0:Int)),(0:Int))=nB a:=by
  delta ac;rintro d-⟨h,hl⟩;have hl:(d.1.length:Int)<=1000000:=hl;exact⟨ab,ab,ab,h,rfl⟩
theorem WG:aB 41 aq4.spec:=aF Tryz.func41 (av (av aD V6) RV) aT aK8
def aC8:Ct:=⟨[.agg bR,.agg pZ,.val cI,.val cI,.val (.sl bP)],[.agg pZ,.agg wK,.val cI],λd=>[cH (bT d.2.1),okL (bT d.2.1),((lP d.2.1).length:Int)<=1000000,(d.2.2.2.2.1.length:Int)<=1000000],λd=>(((fI d.1 d.2.1 d.2.2.1 d.2.2.2.1 d.2.2.2.2.1).1,(fI d.1 d.2.1 d.2.2.1 d.2.2.2.1 d.2.2.2.2.1).2.1,(fI d.1 d.2.1 d.2.2.1 d.2.2.2.1 d.2.2.2.2.1).2.2,()),())⟩
def Ce(a:au)(b:List aN)(c:Int)(d:ae)(e f g h i:Int)(j:ae) :=
 (a,(b,c,d,(e,f),g),h,i,j,(0:Int),(0:Int),(0:Int),(0:Int),false,(0:Int),(0:Int))
theorem Zg :
 ∀(a:au)(b:List aN)(c:Int)(d:ae)(e f g h i:Int)(j:ae),CT.wf bR a/\((b.length<=maxLen/\ ∀(k:aN),k∈b->((0<=k.1.1/\k.1.1<=4294967295)/\aq k.1.2)/\(k.2.1.length<=maxLen/\ ∀(l:Int),l∈k.2.1->aq l)/\aq k.2.2)/\aq c/\(d.length<=maxLen/\ ∀(k:Int),k∈d->aq k)/\(aq e/\aq f)/\aq g)/\aq h/\aq i/\(j.length<=maxLen/\ ∀(k:Int),k∈j->0<=k/\k<=255)/\True->cH (bT (b,c,d,(e,f),g))/\okL (bT (b,c,d,(e,f),g))/\((length (lP (b,c,d,(e,f),g))):Int)<=1000000/\(ac j)<=1000000->(ac d)<=1099511627776/\okL b/\pD (Ce a b c d e f g h i j)/\(gb (Ce a b c d e f g h i j)).1=(fI a (b,c,d,(e,f),g) h i j).1/\(gb (Ce a b c d e f g h i j)).2.1=(fI a (b,c,d,(e,f),g) h i j).2.1/\(gb (Ce a b c d e f g h i j)).2.2=(fI a (b,c,d,(e,f),g) h i j).2.2:=by
  delta Ce ac;rintro d x x1 x2 x3 x4 x5 x6 x7 x8-⟨hs,hl,hp,hb⟩;have e2:lP (x,x1,x2,(x3,x4),x5)=x2:=rfl;rw[e2] at hp;exact⟨ab,hl,⟨hs,hl,hb⟩,rfl,rfl,rfl⟩
theorem TC:aB 109 aC8.spec:=aF Tryz.func109 (av (av (av aD wX) RV) Ue) aT Zg
theorem yM(s:ct)(r:Rt):gz s r=(s.1,s.2.1,s.2.2.1,s.2.2.2.1,jz (gz s r)):=by unfold gz;split <;> rfl
theorem Td(k:Int)(w:dQ)(f i:Int):((kB k w f i).length:Int)<=1500:=by
 unfold kB;split
 .exact GK ..
 .split
  .exact GK ..
  .exact Ok ..
theorem aE8(w:dQ):t9 w 0=dD (fT w) (kT w) w (jm w.2.2.2.2.2):=rfl
theorem az6(w:dQ):t9 w 1=dD (fT w) (kT w) w 0:=rfl
theorem Vy(w:dQ):t9 w 2=dD (dW w 11 0) (jq w 11 0) w 0:=rfl
theorem UU(w:dQ):t9 w 3=dD (dW w 3 0) (jq w 3 0) w 0:=rfl
end Go.RS
