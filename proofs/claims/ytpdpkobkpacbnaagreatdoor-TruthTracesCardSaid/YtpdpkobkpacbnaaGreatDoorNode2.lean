/- Nodek: the first error of a node, in the program and in the reference; the reference's parts of a node. -/
import Derived.Test.YtpdpkobkpacbnaaGreatDoorNodec
import Derived.Test.YtpdpkobkpacbnaaGreatDoorIdent
set_option maxRecDepth 100000
set_option linter.unusedVariables false
open Int (toNat)
open List (length take getD set replicate range)
namespace Go.RS
open Go.SX Go.Proofs
def first(f:Nat->Int):Nat->Int
 | 0=>0
 | n+1=>if first f n≠0 then first f n else f n
theorem xz{f:Nat->Int}{i:Int}(h0:0<=i)(h:first f i.toNat=0)(hf:f i.toNat=0):first f (i+1).toNat=0:=by
 rw[show (i+1).toNat=i.toNat+1 by omega,first,af (by simp[h]),hf]
theorem IW{f:Nat->Int}{a:Nat}(h:first f a≠0):∀ k,first f (a+k)=first f a
 | 0=>rfl
 | k+1=>by rw[← gN,first,am (by rw[IW h k];exact h),IW h k]
theorem Bl{f:Nat->Int}{i:Int}{n:Nat}(h0:0<=i)(h1:i<n)(h:first f i.toNat=0)(hf:f i.toNat≠0):f i.toNat=first f n:=by
 have e:first f (i.toNat+1)=f i.toNat:=by rw[first,af (by simp[h])]
 have k:=IW (a:=i.toNat+1) (by rw[e];exact hf) (n-(i.toNat+1))
 rw[show i.toNat+1+(n-(i.toNat+1))=n by omega] at k
 rw[k,e]
theorem vw{f:Nat->Int}:∀{n:Nat},first f n=0→∀ i,i<n->f i=0
 | 0,_,i,hi=>ab
 | n+1,h,i,hi=>by
  by_cases k:first f n=0
  .rw[first,af (by simp[k])] at h;by_cases e:i=n
   .rw[e];exact h
   .exact vw k i ab
  .rw[first,am k] at h;exact absurd h k
theorem C7{f:Nat->Int}:∀{n:Nat},(∀ i,i<n->f i=0)->first f n=0
 | 0,_=>rfl
 | n+1,h=>by rw[first,af (by rw[C7 λi hi=>h i ab];simp),h n ab]
def gW(x:au)(i:Nat):Int :=
 if ¬ fB ((ay x).getD i default).1∨jq x ((ay x).getD i default).1<i then 10
 else if ((ay x).getD i default).2<0∨cu x ((ay x).getD i default).2<i then 11 else 0
def oo(x:au):Prop:=fA x≠0/\(¬ fB (fA x)∨0<=jq x (fA x))
instance (x:au):Decidable (oo x):=by unfold oo;infer_instance
def mN(x:au):Prop:=Gl x<0∨(fX x<1∨4<fX x)∨(fX x=3/\fA x=0)∨(oD x≠0∧¬ fB (oD x))∨(fX x=4/\oD x=0)∨(iE x<1∨255<iE x)∨(ay x).length=0
instance (x:au):Decidable (mN x):=by unfold mN;infer_instance
def d8(x:au):Int :=
 if 32<(ay x).length then 5
 else if first (gW x) (ay x).length≠0 then first (gW x) (ay x).length
 else if oo x then 10
 else if mN x then 13
 else if iW x≠0 then iW x
 else if g7 (jT x)≠0 then g7 (jT x)
 else dL (aU x) (bo x)
theorem zI{c:Bool}{y n m:Prop}(hy:c=true->y)(hm:c=false->m):ao c (ao c y n) m:=by
 cases c with
 | true=>exact hy rfl
 | false=>exact hm rfl
theorem RA{q:Int×Int->Bool}{l:List (Int×Int)}{i:Nat}(hi:i<l.length)(hq:q (l.getD i default)=true):gX q l<i↔∃ y∈l.take i,q y=true:=by
 rw[bJ,cK hi,f9] at hq
 have hlt:l.findIdx q<l.length:=List.findIdx_lt_length_of_exists ⟨_,List.getElem_mem hi,hq⟩
 unfold gX
 rw[am hlt]
 constructor
 .intro h;have h:l.findIdx q<i:=ab;exact⟨_,List.mem_take_iff_getElem.2 ⟨l.findIdx q,ab,rfl⟩,List.findIdx_getElem (w:=hlt)⟩
 .rintro⟨y,hy,hq⟩;obtain⟨j,hj,rfl⟩:=List.mem_take_iff_getElem.1 hy;have:¬ j<l.findIdx q:=λh=>by have:=List.not_of_lt_findIdx h;simp_all
  omega
theorem Eo{x:au}(h:(ay x).length<=32){i:Int}(h0:0<=i)(h1:i<(ay x).length)(hf:first (gW x) i.toNat=0)(hb:gW x i.toNat≠0):gW x i.toNat=d8 x:=by
 have e:=Bl h0 h1 hf hb
 unfold d8
 rw[af ab,← e,am hb]
theorem JO{x:au}(h:(ay x).length<=32)(hf:first (gW x) (ay x).length=0)(hl:oo x):10=d8 x:=by
 unfold d8
 rw[af ab,af (by simp[hf]),am hl]
theorem P7{x:au}(h:(ay x).length<=32)(hf:first (gW x) (ay x).length=0)(hl:¬ oo x)(hb:mN x):13=d8 x:=by
 unfold d8
 rw[af ab,af (by simp[hf]),af hl,am hb]
theorem Iu{x:au}(h:(ay x).length<=32)(hf:first (gW x) (ay x).length=0)(hl:¬ oo x)(hb:¬ mN x):d8 x=if iW x≠0 then iW x else if g7 (jT x)≠0 then g7 (jT x) else dL (aU x) (bo x):=by
 unfold d8
 rw[af ab,af (by simp[hf]),af hl,af hb]
theorem KQ{x:au}{i:Int}(h0:0<=i)(h:¬ fB ((ay x).getD i.toNat default).1∨jq x ((ay x).getD i.toNat default).1<i):gW x i.toNat=10:=by
 unfold gW
 rw[show ((i.toNat:Nat):Int)=i by omega,am h]
theorem LV{x:au}{i:Int}(h0:0<=i)(h:¬ (¬ fB ((ay x).getD i.toNat default).1∨jq x ((ay x).getD i.toNat default).1<i))(k:((ay x).getD i.toNat default).2<0∨cu x ((ay x).getD i.toNat default).2<i):gW x i.toNat=11:=by
 unfold gW
 rw[show ((i.toNat:Nat):Int)=i by omega,af h,am k]
theorem Rq{x:au}{i:Int}(h0:0<=i)(h:¬ (¬ fB ((ay x).getD i.toNat default).1∨jq x ((ay x).getD i.toNat default).1<i))(k:¬ (((ay x).getD i.toNat default).2<0∨cu x ((ay x).getD i.toNat default).2<i)):gW x i.toNat=0:=by
 unfold gW
 rw[show ((i.toNat:Nat):Int)=i by omega,af h,af k]
def RY:Ct:=⟨[.agg bU],[.val cI],λd=>[],λd=>((d8 d.1,()),())⟩
def aQ8:bw RY.ps->ce:=(λd=>{loops:=(bp 4 (λS=>{ι:=Int,μ:=λi=>((ay d.1).length-i).toNat,inv:=λi=>0<=i/\i<=(ay d.1).length/\first (gW d.1) i.toNat=0,keep:=[1,12,13],slots:=λi=>[(14,.int .i64 i)],keepN:=[32]}) cC),cuts:=(bp 21 (λS=>{ι:=Unit,inv:=λi=>(ay d.1).length<=32/\first (gW d.1) (ay d.1).length=0∧¬ oo d.1∧¬ mN d.1,keep:=[1],slots:=λi=>[],keepN:=[32]}) cC),unr:=λn=>match n with|22=>4|_=>0})
def nz(a:au) :=
 a.1=a.1/\a.2.1=a.2.1/\a.2.2.1=a.2.2.1/\a.2.2.2.1=a.2.2.2.1/\a.2.2.2.2.1=a.2.2.2.2.1/\a.2.2.2.2.2.1=a.2.2.2.2.2.1/\a.2.2.2.2.2.2.1=a.2.2.2.2.2.2.1/\a.2.2.2.2.2.2.2.1=a.2.2.2.2.2.2.2.1/\a.2.2.2.2.2.2.2.2.1=a.2.2.2.2.2.2.2.2.1/\a.2.2.2.2.2.2.2.2.2.1=a.2.2.2.2.2.2.2.2.2.1/\a.2.2.2.2.2.2.2.2.2.2.1.1=a.2.2.2.2.2.2.2.2.2.2.1.1/\a.2.2.2.2.2.2.2.2.2.2.1.2=a.2.2.2.2.2.2.2.2.2.2.1.2/\a.2.2.2.2.2.2.2.2.2.2.2.1=a.2.2.2.2.2.2.2.2.2.2.2.1/\a.2.2.2.2.2.2.2.2.2.2.2.2.1=a.2.2.2.2.2.2.2.2.2.2.2.2.1/\a.2.2.2.2.2.2.2.2.2.2.2.2.2.1=a.2.2.2.2.2.2.2.2.2.2.2.2.2.1/\a.2.2.2.2.2.2.2.2.2.2.2.2.2.2=a.2.2.2.2.2.2.2.2.2.2.2.2.2.2/\True
def vv(a:au) :=
 (length (ay a)<=(32:Nat)/\first (gW a) (length (ay a))=0/\ ¬oo a/\ ¬mN a)/\(nz a)
def gP(a:au) :=
 ((length (ay a)):Int)
def Fu(a:au) :=
 ((length [iW a,g7 a.2.2.2.2.2.2.2.2.2.2.1,dL a.2.2.2.2.1 (bo a)]):Int)
def pQ(a:au)(b:Int) :=
 getD a.1 b.toNat default
theorem af2 :
 ∀(a:au),CT.wf bU a/\True->True->ao (decide (32<(ac a.1))) (5=d8 a) ((∃(b:Int),(0<=b/\b<=(gP a)/\first (gW a) b.toNat=0)/\a.1=a.1/\(ac a.1)=(ac a.1)/\0=b/\(nz a))/\ ∀(b:Int),0<=b/\b<=(gP a)/\first (gW a) b.toNat=0->ao (decide (b<(ac a.1))) (0<=b/\b<(ac a.1)/\ ∀(c:Bool),c= ! decide (fB (pQ a b).1)->(ah (! c))/\((! c)->(ar (! c))/\(ar (! c))/\True)/\((! c)->(ar (! c))/\(ar (! c))/\True)/\(aE c)/\ao (bif c then true else decide (jq a (pQ a b).1<b)) (10=d8 a) (∀(d:Bool),d=decide ((pQ a b).2<0)->(ah (! d))/\((! d)->(ar (! d))/\(ar (! d))/\True)/\((! d)->(ar (! d))/\(ar (! d))/\True)/\(aE d)/\ao (bif d then true else decide (cu a (pQ a b).2<b)) (11=d8 a) (∃(e:Int),(0<=e/\e<=(gP a)/\first (gW a) e.toNat=0)/\toNat ((gP a) -e)<toNat ((gP a) -b)/\a.1=a.1/\(ac a.1)=(ac a.1)/\aj (b+1)=e/\(nz a))))
 (∀(c:Bool),c= ! decide (a.2.1=0)->(ah c)/\(ah c)/\(ah c)/\(ah c)/\ ∀(d:Bool),d= ! decide (fB a.2.1)->(ah (c&& ! d))/\((c&& ! d)->(ar (c&& ! d))/\(ar (c&& ! d))/\True)/\(ah (c&& ! d))/\(c->(ar c)/\(d=false->(c&& ! d))/\True)/\(ar c)/\ao (bif c then bif d then true else decide (0<=jq a a.2.1) else false) (10=d8 a) (ao (decide (a.2.2.1<0)) (ao (decide (a.2.2.1<0)) (13=d8 a) (∃(e:Unit),(vv a))) (∀(e:Bool),e=decide (a.2.2.2.2.2.1<1)->(ah (! e))/\(ah (! e))/\(aE e)/\ao (bif e then true else decide (4<a.2.2.2.2.2.1)) (ao (bif e then true else decide (4<a.2.2.2.2.2.1)) (13=d8 a) (∃(f:Unit),(vv a))) (∀(f:Bool),f=decide (a.2.2.2.2.2.1=3)->(ah f)/\(ah f)/\(ar f)/\ao (bif f then decide (a.2.1=0) else false) (ao (bif f then decide (a.2.1=0) else false) (13=d8 a) (∃(g:Unit),(vv a))) (∀(g:Bool),g= ! decide (a.2.2.2.2.2.2.1=0)->(ah g)/\(ah g)/\(ah
 g)/\(ar g)/\ao (bif g then ! decide (fB a.2.2.2.2.2.2.1) else false) (ao (bif g then ! decide (fB a.2.2.2.2.2.2.1) else false) (13=d8 a) (∃(h:Unit),(vv a))) (∀(h:Bool),h=decide (a.2.2.2.2.2.1=4)->(ah h)/\(ah h)/\(ar h)/\ao (bif h then decide (a.2.2.2.2.2.2.1=0) else false) (ao (bif h then decide (a.2.2.2.2.2.2.1=0) else false) (13=d8 a) (∃(i:Unit),(vv a))) (∀(i:Bool),i=decide (a.2.2.2.2.2.2.2.2.2.2.2.2.2.1<1)->(ah (! i))/\(ah (! i))/\(aE i)/\ao (bif i then true else decide (255<a.2.2.2.2.2.2.2.2.2.2.2.2.2.1)) (ao (bif i then true else decide (255<a.2.2.2.2.2.2.2.2.2.2.2.2.2.1)) (13=d8 a) (∃(j:Unit),(vv a))) (ao (decide ((ac a.1)=0)) (13=d8 a) (∃(j:Unit),(vv a))))))))/\ ∀(e:Unit),length (ay a)<=(32:Nat)/\first (gW a) (length (ay a))=0/\ ¬oo a/\ ¬mN a->length (ay a)<=(100000:Nat)/\(0:Int)<=0/\0<(Fu
 a)/\ao (! decide (getD [iW a,g7 a.2.2.2.2.2.2.2.2.2.2.1,dL a.2.2.2.2.1 (bo a)] (toNat 0) default=0)) (getD [iW a,g7 a.2.2.2.2.2.2.2.2.2.2.1,dL a.2.2.2.2.1 (bo a)] (toNat 0) default=d8 a) (0<=aj ((0:Int)+1)/\aj ((0:Int)+1)<(Fu a)/\ao (! decide (getD [iW a,g7 a.2.2.2.2.2.2.2.2.2.2.1,dL a.2.2.2.2.1 (bo a)] (toNat (aj ((0:Int)+1))) default=0)) (getD [iW a,g7 a.2.2.2.2.2.2.2.2.2.2.1,dL a.2.2.2.2.1 (bo a)] (toNat (aj ((0:Int)+1))) default=d8 a) (0<=aj (aj ((0:Int)+1)+1)/\aj (aj ((0:Int)+1)+1)<(Fu a)/\ao (! decide (getD [iW a,g7 a.2.2.2.2.2.2.2.2.2.2.1,dL a.2.2.2.2.1 (bo a)] (toNat (aj (aj ((0:Int)+1)+1))) default=0)) (getD [iW a,g7 a.2.2.2.2.2.2.2.2.2.2.1,dL a.2.2.2.2.1 (bo a)] (toNat (aj (aj ((0:Int)+1)+1)))
 default=d8 a) (0=d8 a)))))):=by
  delta nz vv gP Fu pQ ah ar aE aj ac;rintro d - -;have hd:d.1=ay d:=rfl;rw[hd];refine aw (λh=>?_) (λh=>?_)
  .unfold d8;rw[am (by have:=aI h;omega)]
  have h32:(ay d).length<=32:=by have:=aL h;omega
  clear h;refine⟨⟨0,⟨ab,ab,rfl⟩,aP⟩,?_⟩;rintro x ⟨x0,x1,hf⟩;refine aw (λhx=>?_) (λhx=>?_)
  .have hx:=aI hx;refine⟨x0,hx,?_⟩
   (repeat (refine bX ?_;repeat refine bZ ?_));refine rX (λho=>?_) (λh1 h2=>?_)
   .have e:=KQ (x:=d) x0 (ho.imp gH aI);rw[← Eo h32 x0 hx hf (by rw[e];decide),e]
   have hn:¬ (¬ fB ((ay d).getD x.toNat default).1∨jq d ((ay d).getD x.toNat default).1<x):=by
    rintro (k|k)
    .exact k (iP h1)
    .exact aL h2 k
   (repeat (refine bX ?_;repeat refine bZ ?_));refine rX (λho=>?_) (λh1 h2=>?_)
   .have e:=LV (x:=d) x0 hn (ho.imp aI aI);rw[← Eo h32 x0 hx hf (by rw[e];decide),e]
   .have e:=Rq (x:=d) x0 hn (by
     rintro (k|k)
     .exact aL h1 k
     .exact aL h2 k)
    exact⟨x+1,⟨ab,ab,xz x0 hf e⟩,ab,aP⟩
  have hx:=aL hx;rw[show x.toNat=(ay d).length by omega] at hf;rw[show d.2.1=fA d from rfl];intro b hb;refine⟨aA,aA,aA,aA,?_⟩;intro b1 hb1
  (repeat refine⟨(by cases b <;> cases b1 <;> simp),?_⟩);have hL:(bif b then bif b1 then true else decide (0<=jq d (fA d)) else false)=decide (oo d):=by
   rw[hb,hb1];unfold oo;by_cases k1:fA d=0 <;> by_cases k2:fB (fA d) <;> by_cases k3:0<=jq d (fA d) <;> simp[k1,k2,k3]
  rw[hL];refine aw (λh=>JO h32 hf (aI h)) (λhl=>?_);have hl:=aL hl;clear hL hb hb1;refine⟨?_,?_⟩
  .have bad:=λh=>P7 (x:=d) h32 hf hl h;refine zI (λh=>bad (.inl (aI h))) (λc1=>?_)
   (repeat (refine bX ?_;repeat refine bZ ?_));rw[kV];refine zI (λh=>bad (.inr (.inl (aI h)))) (λc2=>?_)
   (repeat (refine bX ?_;repeat refine bZ ?_));rw[uD];refine zI (λh=>bad (.inr (.inr (.inl (aI h))))) (λc3=>?_)
   (repeat (refine bX ?_;repeat refine bZ ?_));rw[Gc];refine zI (λh=>bad (.inr (.inr (.inr (.inl (aI h)))))) (λc4=>?_)
   (repeat (refine bX ?_;repeat refine bZ ?_));rw[uD];refine zI (λh=>bad (.inr (.inr (.inr (.inr (.inl (aI h))))))) (λc5=>?_)
   (repeat (refine bX ?_;repeat refine bZ ?_));rw[kV];refine zI (λh=>bad (.inr (.inr (.inr (.inr (.inr (.inl (aI h)))))))) (λc6=>?_);refine aw (λh=>bad (.inr (.inr (.inr (.inr (.inr (.inr ?_))))))) (λc7=>?_)
   .have:=aI h;omega
   refine⟨(),⟨h32,hf,hl,?_⟩,aP⟩;rintro (k|k|k|k|k|k|k)
   .exact aL c1 k
   .exact aL c2 k
   .exact aL c3 k
   .exact aL c4 k
   .exact aL c5 k
   .exact aL c6 k
   .have:=aL c7;omega
  rintro-⟨-,-,-,hb⟩;have e:=Iu h32 hf hl hb;rw[show IntKind.wrap IntKind.i64 (IntKind.wrap IntKind.i64 ((0:Int)+1)+1)=2 by decide,show IntKind.wrap IntKind.i64 ((0:Int)+1)=1 by decide,e];refine⟨ab,ab,aA,aw (λh=>?_) (λh=>?_)⟩
  .rw[am (show iW d≠0 from gH h)];rfl
  rw[af (show ¬ iW d≠0 from λk=>k (iP h))];refine⟨ab,aA,aw (λh=>?_) (λh=>?_)⟩
  .rw[am (show g7 (jT d)≠0 from gH h)];rfl
  rw[af (show ¬ g7 (jT d)≠0 from λk=>k (iP h))];refine⟨ab,aA,aw (λh=>?_) (λh=>?_)⟩
  .rfl
  .exact (show dL (aU d) (bo d)=0 from iP h).symm
theorem af4:aB 149 RY.spec:=aF Tryz.func149 (av (av (av (av (av (av (av aC U6) Sb) Bm) ar2) VU) N3) Yu) aQ8 af2
def Rz:Ct:=⟨[.agg bU],[.own 3 cI],λd=>[(ay d.1).length<=100000],λd=>((bo d.1,()),())⟩
def V2:bw Rz.ps->ce:=(λd=>{loops:=(bp 3 (λS=>{ι:=Int×ae,qn:=ft,μ:=λi=>((ay d.1).length-i.1).toNat,inv:=λi=>0<=i.1/\i.1<=(ay d.1).length/\i.2=(bo d.1).take i.1.toNat,keep:=[1],slots:=λi=>[(3,.own 524288 1),(4,.int .i64 i.1)],keepN:=[32],names:=λi=>[(524288,.live (.row 3 cI i.2))]}) cC)})
theorem ak7 :
 ∀(a:au),CT.wf bU a/\True->length (ay a)<=(100000:Nat)->(∃(b:Int) (c:ae),(0<=b/\b<=(gP a)/\c=take b.toNat (bo a))/\0=b/\a.1=a.1/\a.2.1=a.2.1/\a.2.2.1=a.2.2.1/\a.2.2.2.1=a.2.2.2.1/\a.2.2.2.2.1=a.2.2.2.2.1/\a.2.2.2.2.2.1=a.2.2.2.2.2.1/\a.2.2.2.2.2.2.1=a.2.2.2.2.2.2.1/\a.2.2.2.2.2.2.2.1=a.2.2.2.2.2.2.2.1/\a.2.2.2.2.2.2.2.2.1=a.2.2.2.2.2.2.2.2.1/\a.2.2.2.2.2.2.2.2.2.1=a.2.2.2.2.2.2.2.2.2.1/\a.2.2.2.2.2.2.2.2.2.2.1.1=a.2.2.2.2.2.2.2.2.2.2.1.1/\a.2.2.2.2.2.2.2.2.2.2.1.2=a.2.2.2.2.2.2.2.2.2.2.1.2/\a.2.2.2.2.2.2.2.2.2.2.2.1=a.2.2.2.2.2.2.2.2.2.2.2.1/\a.2.2.2.2.2.2.2.2.2.2.2.2.1=a.2.2.2.2.2.2.2.2.2.2.2.2.1/\a.2.2.2.2.2.2.2.2.2.2.2.2.2.1=a.2.2.2.2.2.2.2.2.2.2.2.2.2.1/\a.2.2.2.2.2.2.2.2.2.2.2.2.2.2=a.2.2.2.2.2.2.2.2.2.2.2.2.2.2/\c=([]:ae)/\True)/\ ∀(b:Int)(c:ae),0<=b/\b<=(gP a)/\c=take b.toNat (bo a)->ao (decide (b<(ac a.1))) (0<=b/\b<(ac
 a.1)/\(c.length+length [(pQ a b).2])*(8:Nat)<=(140737488355328:Nat)/\ ∃(d:Int) (e:ae),(0<=d/\d<=(gP a)/\e=take d.toNat (bo a))/\toNat ((gP a) -d)<toNat ((gP a) -b)/\aj (b+1)=d/\a.1=a.1/\a.2.1=a.2.1/\a.2.2.1=a.2.2.1/\a.2.2.2.1=a.2.2.2.1/\a.2.2.2.2.1=a.2.2.2.2.1/\a.2.2.2.2.2.1=a.2.2.2.2.2.1/\a.2.2.2.2.2.2.1=a.2.2.2.2.2.2.1/\a.2.2.2.2.2.2.2.1=a.2.2.2.2.2.2.2.1/\a.2.2.2.2.2.2.2.2.1=a.2.2.2.2.2.2.2.2.1/\a.2.2.2.2.2.2.2.2.2.1=a.2.2.2.2.2.2.2.2.2.1/\a.2.2.2.2.2.2.2.2.2.2.1.1=a.2.2.2.2.2.2.2.2.2.2.1.1/\a.2.2.2.2.2.2.2.2.2.2.1.2=a.2.2.2.2.2.2.2.2.2.2.1.2/\a.2.2.2.2.2.2.2.2.2.2.2.1=a.2.2.2.2.2.2.2.2.2.2.2.1/\a.2.2.2.2.2.2.2.2.2.2.2.2.1=a.2.2.2.2.2.2.2.2.2.2.2.2.1/\a.2.2.2.2.2.2.2.2.2.2.2.2.2.1=a.2.2.2.2.2.2.2.2.2.2.2.2.2.1/\a.2.2.2.2.2.2.2.2.2.2.2.2.2.2=a.2.2.2.2.2.2.2.2.2.2.2.2.2.2/\c++[(pQ a b).2]=e/\True) (c=bo a):=by
  delta gP pQ aj ac;rintro d-hl;have hlen:(bo d).length=(ay d).length:=by simp[bo]
  refine⟨⟨0,[],⟨ab,ab,rfl⟩,aP⟩,?_⟩;rintro j l ⟨j0,j1,rfl⟩;have hd:d.1=ay d:=rfl;rw[hd];refine bT (λhk=>?_) (λhk=>?_)
  .refine⟨j0,hk,by simp only[dA,dN,List.length_nil];omega,j+1,_,⟨ab,ab,rfl⟩,ab,?_⟩
   (repeat refine jp ?_);refine⟨?_,bv⟩;rw[rD j0 (by rw[hlen];exact hk)];unfold bo;rw[bJ,bJ,List.getElem?_map,cK ab];rfl
  .rw[fe ab]
theorem PM:aB 70 Rz.spec:=aF Tryz.func70 aC V2 ak7
def Sj:Ct:=⟨[.agg bU,.val cI],[.val cI],λd=>[],λd=>((cu d.1 d.2.1,()),())⟩
def Z3:bw Sj.ps->ce:=(λd=>{loops:=(bp 2 (λS=>{ι:=Int,μ:=λi=>((ay d.1).length-i).toNat,inv:=λi=>0<=i/\i<=(ay d.1).length∧∀ x∈(ay d.1).take i.toNat,ic d.2.1 x=false,keep:=[1,2],slots:=λi=>[(5,.int .i64 i)],keepN:=[48]}) cC)})
theorem S5 :
 ∀(a:au)(b:Int),CT.wf bU a/\aq b/\True->True->(∃(c:Int),(0<=c/\c<=(gP a)/\ ∀(d:Int×Int),d∈take c.toNat (ay a)->ic b d=false)/\b=b/\0=c/\(nz a))/\ ∀(c:Int),(0<=c/\c<=(gP a)/\ ∀(d:Int×Int),d∈take c.toNat (ay a)->ic b d=false)->ao (decide (c<(ac a.1))) (0<=c/\c<(ac a.1)/\ao (decide ((getD a.1 c.toNat default).2=b)) (c=cu a b) (∃(d:Int),(0<=d/\d<=(gP a)/\ ∀(e:Int×Int),e∈take d.toNat (ay a)->ic b e=false)/\toNat ((gP a) -d)<toNat ((gP a) -c)/\b=b/\aj (c+1)=d/\(nz a))) (-1=cu a b):=by
  delta nz gP aj ac;rintro d k ⟨⟨⟨hl,-⟩,-⟩,-⟩ -;have hd:d.1=ay d:=rfl;rw[hd] at hl ⊢;simp only[maxLen] at hl;refine⟨⟨0,⟨ab,ab,aA⟩,aP⟩,?_⟩;rintro j ⟨j0,j1,hj⟩;refine bT (λhk=>?_) (λhk=>?_)
  .refine⟨j0,hk,aw (λhm=>?_) (λhm=>?_)⟩
   .exact xx j0 hk hj hm
   .exact⟨j+1,⟨ab,ab,nN j0 hk hj hm⟩,ab,aP⟩
  .exact xQ hk hj
theorem aJ4:aB 28 Sj.spec:=aF Tryz.func28 aC Z3 S5
def P4:Ct:=⟨[.agg bU,.val cP],[.val .bool],λd=>[],λd=>((dC d.1 d.2.1,()),())⟩
def UK:bw P4.ps->ce:=(λd=>{loops:=(bp 2 (λS=>{ι:=Int,μ:=λi=>((ay d.1).length-i).toNat,inv:=λi=>0<=i/\i<=(ay d.1).length∧∀ x∈(ay d.1).take i.toNat,gZ d.2.1 x=false,keep:=[1,2],slots:=λi=>[(5,.int .i64 i)],keepN:=[48]}) cC)})
theorem Up :
 ∀(a:au)(b:Int),CT.wf bU a/\(0<=b/\b<=4294967295)/\True->True->(∃(c:Int),(0<=c/\c<=(gP a)/\ ∀(d:Int×Int),d∈take c.toNat (ay a)->gZ b d=false)/\b=b/\0=c/\(nz a))/\ ∀(c:Int),(0<=c/\c<=(gP a)/\ ∀(d:Int×Int),d∈take c.toNat (ay a)->gZ b d=false)->ao (decide (c<(ac a.1))) (0<=c/\c<(ac a.1)/\ao (decide ((getD a.1 c.toNat default).1=b)) (true=dC a b) (∃(d:Int),(0<=d/\d<=(gP a)/\ ∀(e:Int×Int),e∈take d.toNat (ay a)->gZ b e=false)/\toNat ((gP a) -d)<toNat ((gP a) -c)/\b=b/\aj (c+1)=d/\(nz a))) (∀(d:Bool),d= ! decide (a.2.1=0)->(ah d)/\(d->(ar d)/\(ar d)/\True)/\(ar d)/\(bif d then decide (a.2.1=b) else false)=dC a b):=by
  delta nz gP ah ar aj ac;rintro d a ⟨⟨⟨hl,-⟩,-⟩,-⟩ -;have hd:d.1=ay d:=rfl;rw[hd] at hl ⊢;simp only[maxLen] at hl;refine⟨⟨0,⟨ab,ab,aA⟩,aP⟩,?_⟩;rintro j ⟨j0,j1,hj⟩;refine bT (λhk=>?_) (λhk=>?_)
  .refine⟨j0,hk,aw (λhm=>?_) (λhm=>?_)⟩
   .have e:j=jq d a:=xx j0 hk hj hm;unfold dC;rw[← e,cM j0];rfl
   .exact⟨j+1,⟨ab,ab,nN j0 hk hj hm⟩,ab,aP⟩
  .have e : -1=jq d a:=xQ hk hj
   (repeat (refine bX ?_;repeat refine bZ ?_));unfold dC;rw[← e,show d.2.1=fA d from rfl];cases decide (fA d=0) <;> rfl
theorem ac1:aB 30 P4.spec:=aF Tryz.func30 aC UK Up
def tL(x:au)(i k:Nat):Bool:=decide (fB ((ay x).getD i default).1)&&decide (∀ q∈(ay x).take k,q.1≠((ay x).getD i default).1)
def tH(x:au)(i k:Nat):Bool:=decide (0<=((ay x).getD i default).2)&&decide (∀ q∈(ay x).take k,q.2≠((ay x).getD i default).2)
theorem ap5{x:au}{a:Int}(h:∃ q∈ay x,q.1=a):0<=jq x a:=by
 obtain⟨q,hq,rfl⟩:=h
 unfold jq gX
 have:(ay x).findIdx (gZ q.1)<(ay x).length:=List.findIdx_lt_length_of_exists ⟨q,hq,by unfold gZ;simp⟩
 rw[am this];omega
theorem P2{α:Type}{l:List α}{q:α}{P:α->Prop} [DecidablePred P]:decide (∀ x∈l++[q],P x)=(decide (∀ x∈l,P x)&&decide (P q)):=by
 rw[← Bool.decide_and]
 apply decide_eq_decide.2
 simp[or_imp,forall_and]
theorem ao2{x:au}{i:Nat}{k:Int}{q:Int×Int}(st:(ay x).take (k+1).toNat=(ay x).take k.toNat++[q]) :
  (bif tL x i k.toNat then !decide (q.1=((ay x).getD i default).1) else false)=tL x i (k+1).toNat:=by
 unfold tL
 rw[st,P2 (P:=λq:Int×Int=>q.1≠((ay x).getD i default).1),DT]
 cases decide (fB ((ay x).getD i default).1) <;> cases decide (∀ q∈(ay x).take k.toNat,q.1≠((ay x).getD i default).1) <;> rfl
theorem aB6{x:au}{i:Nat}{k:Int}{q:Int×Int}(st:(ay x).take (k+1).toNat=(ay x).take k.toNat++[q]) :
  (bif tH x i k.toNat then !decide (q.2=((ay x).getD i default).2) else false)=tH x i (k+1).toNat:=by
 unfold tH
 rw[st,P2 (P:=λq:Int×Int=>q.2≠((ay x).getD i default).2),DT]
 cases decide (0<=((ay x).getD i default).2) <;> cases decide (∀ q∈(ay x).take k.toNat,q.2≠((ay x).getD i default).2) <;> rfl
theorem Xk{x:au}{i:Int}(h0:0<=i)(h1:i<(ay x).length):tL x i.toNat i.toNat=decide (¬ (¬ fB ((ay x).getD i.toNat default).1∨jq x ((ay x).getD i.toNat default).1<i)):=by
 have k:=RA (q:=gZ ((ay x).getD i.toNat default).1) (l:=ay x) (i:=i.toNat) ab (by unfold gZ;exact cM rfl)
 rw[show ((i.toNat:Nat):Int)=i by omega] at k
 unfold tL jq
 rw[← Bool.decide_and]
 apply decide_eq_decide.2
 rw[k,not_or,Classical.not_not,not_exists]
 refine and_congr m5 (forall_congr' λq=>?_)
 rw[not_and]
 refine imp_congr m5 ?_
 unfold gZ
 rw[om]
theorem XD{x:au}{i:Int}(h0:0<=i)(h1:i<(ay x).length):tH x i.toNat i.toNat=decide (¬ (((ay x).getD i.toNat default).2<0∨cu x ((ay x).getD i.toNat default).2<i)):=by
 have k:=RA (q:=ic ((ay x).getD i.toNat default).2) (l:=ay x) (i:=i.toNat) ab (by unfold ic;exact cM rfl)
 rw[show ((i.toNat:Nat):Int)=i by omega] at k
 unfold tH cu
 rw[← Bool.decide_and]
 apply decide_eq_decide.2
 rw[k,not_or,not_exists,Int.not_lt]
 refine and_congr m5 (forall_congr' λq=>?_)
 rw[not_and]
 refine imp_congr m5 ?_
 unfold ic
 rw[om]
def N5:Ct:=⟨[.agg bU],[.val cI],λd=>[],λd=>((d8 d.1,()),())⟩
def at0:bw N5.ps->ce:=(λd=>{loops:=(bp 4 (λS=>{ι:=Int,μ:=λi=>((ay d.1).length-i).toNat,inv:=λi=>0<=i/\i<=(ay d.1).length/\first (gW d.1) i.toNat=0,keep:=[1],slots:=λi=>[(3,.int .i64 i)],keepN:=[32]}) (bp 8 (λS=>{ι:=Int×Bool×Bool,qn:=sf,μ:=λi=>(S.i 3-i.1).toNat,inv:=λi=>0<=i.1/\i.1<=S.i 3/\i.2.1=tL d.1 (S.i 3).toNat i.1.toNat/\i.2.2=tH d.1 (S.i 3).toNat i.1.toNat,keep:=[1,3],slots:=λi=>[(4,.bool i.2.1),(5,.bool i.2.2),(6,.int .i64 i.1)],keepN:=[32]}) (bp 17 (λS=>{ι:=Int,μ:=λi=>((ay d.1).length-i).toNat,inv:=λi=>0<=i/\i<=(ay d.1).length/\(fA d.1≠0→∀ q∈(ay d.1).take i.toNat,gZ (fA d.1) q=false),keep:=[1],slots:=λi=>[(7,.int .i64 i)],keepN:=[32]}) cC)))})
def Gy(a:au)(c:Int) :=
 c<=(gP a)/\(fA a≠(0:Int)-> ∀(d:Int×Int),d∈take c.toNat (ay a)->gZ (fA a) d=false)
theorem XN :
 ∀(a:au),CT.wf bU a/\True->True->ao (decide (32<(ac a.1))) (5=d8 a) ((∃(b:Int),(0<=b/\b<=(gP a)/\first (gW a) b.toNat=0)/\0=b/\(nz a))/\ ∀(b:Int),0<=b/\b<=(gP a)/\first (gW a) b.toNat=0->ao (decide (b<(ac a.1))) (0<=b/\b<(ac a.1)/\0<=b/\b<(ac a.1)/\(∃(c:Int) (d:Bool),∃(e:Bool),(0<=c/\c<=b/\d=tL a b.toNat c.toNat/\e=tH a b.toNat c.toNat)/\b=b/\decide (fB (pQ a b).1)=d/\decide (0<=(pQ a b).2)=e/\0=c/\(nz a))/\ ∀(c:Int)(d e:Bool),0<=c/\c<=b/\d=tL a b.toNat c.toNat/\e=tH a b.toNat c.toNat->ao (decide (c<b)) (∀(f:Bool),f=d->(ah f)/\(f->(ar f)/\(ar f)/\0<=c/\c<(ac a.1)/\True)/\(ah f)/\(ah f)/\(ah f)/\(f->(ar f)/\(ar f)/\0<=b/\b<(ac a.1)/\True)/\(ah f)/\(ah f)/\(f->(ar f)/\(ar f)/\True)/\(ar f)/\ ∀(g:Bool),g=e->(ah g)/\(g->(ar g)/\(ar g)/\0<=c/\c<(ac a.1)/\True)/\(ah g)/\(ah g)/\(ah g)/\(g->(ar g)/\(ar
 g)/\0<=b/\b<(ac a.1)/\True)/\(ah g)/\(ah g)/\(g->(ar g)/\(ar g)/\True)/\(ar g)/\ ∃(h:Int) (i:Bool),∃(j:Bool),(0<=h/\h<=b/\i=tL a b.toNat h.toNat/\j=tH a b.toNat h.toNat)/\toNat (b -h)<toNat (b -c)/\b=b/\(bif f then ! decide ((getD a.1 c.toNat default).1=(pQ a b).1) else false)=i/\(bif g then ! decide ((getD a.1 c.toNat default).2=(pQ a b).2) else false)=j/\aj (c+1)=h/\(nz a)) (ao (! d) (10=d8 a) (ao (! e) (11=d8 a) (∃(f:Int),(0<=f/\f<=(gP a)/\first (gW a) f.toNat=0)/\toNat ((gP a) -f)<toNat ((gP a) -b)/\aj (b+1)=f/\(nz a))))) ((∃(c:Int),(0<=c/\(Gy a c))/\0=c/\(nz a))/\ ∀(c:Int),0<=c/\(Gy a c)-> ∀(d:Bool),d=decide (c<(ac a.1))->(ah d)/\(ah d)/\(ar d)/\ao (bif d then ! decide (a.2.1=0) else false) (0<=c/\c<(ac a.1)/\ao (decide ((getD a.1 c.toNat default).1=a.2.1)) (10=d8 a) (∃(e:Int),(0<=e/\e<=(gP
 a)/\(fA a≠(0:Int)-> ∀(f:Int×Int),f∈take e.toNat (ay a)->gZ (fA a) f=false))/\toNat ((gP a) -e)<toNat ((gP a) -c)/\aj (c+1)=e/\(nz a))) (∀(e:Bool),e= ! decide (a.2.1=0)->(ah e)/\(ah e)/\(ah e)/\(ar e)/\ao (bif e then ! decide (fB a.2.1) else false) (10=d8 a) (∀(f:Bool),f=decide (a.2.2.1<0)->(ah (! f))/\(ah (! f))/\(aE f)/\ ∀(g:Bool),(g=bif f then true else decide (a.2.2.2.2.2.1<1))->(ah (! g))/\(ah (! g))/\(aE g)/\ ∀(h:Bool),(h=bif g then true else decide (4<a.2.2.2.2.2.1))->(ah (! h))/\(ah (! h))/\(ah (! h))/\ ∀(i:Bool),i=decide (a.2.2.2.2.2.1=3)->(ah (! h&&i))/\(ah (! h&&i))/\((! h)->(ar (! h))/\(i->(! h&&i))/\True)/\(aE h)/\ ∀(j:Bool),(j=bif h then true else bif i then decide (a.2.1=0) else false)->(ah (! j))/\(ah (! j))/\(ah (! j))/\ ∀(k:Bool),k= ! decide (a.2.2.2.2.2.2.1=0)->(ah (! j&&k))/\(ah (! j&&k))/\(ah (! j&&k))/\((!
 j)->(ar (! j))/\(k->(! j&&k))/\True)/\(aE j)/\ ∀(l:Bool),(l=bif j then true else bif k then ! decide (fB a.2.2.2.2.2.2.1) else false)->(ah (! l))/\(ah (! l))/\(ah (! l))/\ ∀(m:Bool),m=decide (a.2.2.2.2.2.1=4)->(ah (! l&&m))/\(ah (! l&&m))/\((! l)->(ar (! l))/\(m->(! l&&m))/\True)/\(aE l)/\ ∀(n:Bool),(n=bif l then true else bif m then decide (a.2.2.2.2.2.2.1=0) else false)->(ah (! n))/\(ah (! n))/\(aE n)/\ ∀(o:Bool),(o=bif n then true else decide (a.2.2.2.2.2.2.2.2.2.2.2.2.2.1<1))->(ah (! o))/\(ah (! o))/\(aE o)/\ ∀(p:Bool),(p=bif o then true else decide (255<a.2.2.2.2.2.2.2.2.2.2.2.2.2.1))->(ah (! p))/\(ah (! p))/\(ah (! p))/\(aE p)/\ao (bif p then true else decide ((ac a.1)=0)) (13=d8 a) (ao (! decide (iW a=0)) (iW a=d8 a) (ao (! decide (g7 a.2.2.2.2.2.2.2.2.2.2.1=0)) (g7 a.2.2.2.2.2.2.2.2.2.2.1=d8 a) (length (ay
 a)<=(100000:Nat)/\dL a.2.2.2.2.1 (bo a)=d8 a))))))):=by
  delta nz gP pQ Gy ah ar aE aj ac;rintro d ⟨⟨⟨hl,-⟩,-⟩,-⟩ -;have hd:d.1=ay d:=rfl;rw[hd] at hl ⊢;simp only[maxLen] at hl;refine aw (λh=>?_) (λh=>?_)
  .unfold d8;rw[am (by have:=aI h;omega)]
  have h32:(ay d).length<=32:=by have:=aL h;omega
  clear h;refine⟨⟨0,⟨ab,ab,rfl⟩,aP⟩,?_⟩;rintro x ⟨x0,x1,hf⟩;refine aw (λhx=>?_) (λhx=>?_)
  .have hx:=aI hx;refine⟨x0,hx,x0,hx,⟨0,_,_,⟨ab,x0,?_,?_⟩,aP⟩,?_⟩
   .simp[tL]
   .simp[tH]
   rintro k a b ⟨k0,k1,ha,hb⟩;refine bT (λhk=>?_) (λhk=>?_)
   .have st:=rD (l:=ay d) k0 ab;rintro b1 hb1
    (repeat refine⟨(by first|(simp;done)|exact λh=>⟨λ_=>h,λ_=>h,k0,ab,bv⟩|exact λh=>⟨λ_=>h,λ_=>h,x0,ab,bv⟩),?_⟩);rintro b2 hb2
    (repeat refine⟨(by first|(simp;done)|exact λh=>⟨λ_=>h,λ_=>h,k0,ab,bv⟩|exact λh=>⟨λ_=>h,λ_=>h,x0,ab,bv⟩),?_⟩);refine⟨k+1,_,_,⟨ab,ab,?_,?_⟩,ab,aP⟩
    .rw[hb1,ha,ao2 st]
    .rw[hb2,hb,aB6 st]
   .have hk:k=x:=by have:=hk;omega
    subst hk;have fa:a=decide (¬ (¬ fB ((ay d).getD k.toNat default).1∨jq d ((ay d).getD k.toNat default).1<k)):=by rw[ha,Xk x0 hx]
    have fb:b=decide (¬ (((ay d).getD k.toNat default).2<0∨cu d ((ay d).getD k.toNat default).2<k)):=by rw[hb,XD x0 hx]
    refine aw (λh=>?_) (λh=>?_)
    .have e:=KQ (x:=d) x0 (by rw[fa,DT] at h;exact Classical.not_not.1 (aI h));rw[← Eo h32 x0 hx hf (by rw[e];decide),e]
    have hn:=aI (fa.symm.trans (by simpa using h));refine aw (λh=>?_) (λh=>?_)
    .have e:=LV (x:=d) x0 hn (by rw[fb,DT] at h;exact Classical.not_not.1 (aI h));rw[← Eo h32 x0 hx hf (by rw[e];decide),e]
    have hm:=aI (fb.symm.trans (by simpa using h));exact⟨k+1,⟨ab,ab,xz x0 hf (Rq x0 hn hm)⟩,ab,aP⟩
  have hx:=aL hx;rw[show x.toNat=(ay d).length by omega] at hf;clear x1 x0;refine⟨⟨0,⟨ab,ab,aA⟩,aP⟩,?_⟩;rw[show d.2.1=fA d from rfl];rintro k ⟨k0,k1,hk⟩
  (repeat (refine bX ?_;repeat refine bZ ?_));rw[Vr];refine aw (λh=>?_) (λh=>?_)
  .obtain⟨h1,h2⟩:=aI h;refine⟨k0,h1,aw (λhm=>?_) (λhm=>?_)⟩
   .refine JO h32 hf ⟨h2,.inr (ap5 ?_)⟩;have:=aI hm;exact⟨_,bR k0 h1,this⟩
   .exact⟨k+1,⟨ab,ab,λh0=>nN k0 h1 (hk h0) hm⟩,ab,aP⟩
  have hend:fA d≠0→¬ 0<=jq d (fA d):=λh0 hp=>by
   have hkl:¬ k<(ay d).length:=λh1=>aL h ⟨h1,h0⟩;have hk:=hk h0;have e : -1=jq d (fA d):=xQ hkl hk;omega
  (repeat (refine bX ?_;repeat refine bZ ?_));rw[Gc];refine aw (λh=>?_) (λh=>?_)
  .obtain⟨h1,h2⟩:=aI h;exact JO h32 hf ⟨h1,.inl h2⟩
  have hL:¬ oo d:=by
   rintro⟨h1,h2⟩;rcases h2 with h2|h2
   .exact aL h ⟨h1,h2⟩
   .exact hend h1 h2
  have e:=Iu h32 hf hL;have gd:True:=trivial;intro b1 hb1
  (repeat refine⟨(by first|(simp;done)|(simp +contextual;done)),?_⟩);intro b2 hb2
  (repeat refine⟨(by first|(simp;done)|(simp +contextual;done)),?_⟩);intro b3 hb3
  (repeat refine⟨(by first|(simp;done)|(simp +contextual;done)),?_⟩);intro b4 hb4
  (repeat refine⟨(by first|(simp;done)|(simp +contextual;done)),?_⟩);intro b5 hb5
  (repeat refine⟨(by first|(simp;done)|(simp +contextual;done)),?_⟩);intro b6 hb6
  (repeat refine⟨(by first|(simp;done)|(simp +contextual;done)),?_⟩);intro b7 hb7
  (repeat refine⟨(by first|(simp;done)|(simp +contextual;done)),?_⟩);intro b8 hb8
  (repeat refine⟨(by first|(simp;done)|(simp +contextual;done)),?_⟩);intro b9 hb9
  (repeat refine⟨(by first|(simp;done)|(simp +contextual;done)),?_⟩);intro b10 hb10
  (repeat refine⟨(by first|(simp;done)|(simp +contextual;done)),?_⟩);intro b11 hb11
  (repeat refine⟨(by first|(simp;done)|(simp +contextual;done)),?_⟩);have hF:(bif b11 then true else decide (((ay d).length:Int)=0))=decide (mN d):=by
   rw[hb11,hb10,hb9,hb8,hb7,hb6,hb5,hb4,hb3,hb2,hb1];simp only[kV,uD,Gc];apply decide_eq_decide.2;unfold mN Gl fX oD iE fA;by_cases hu:fB d.2.2.2.2.2.2.1 <;> simp only[hu,not_true_eq_false,not_false_eq_true,and_false,iu,or_false,false_or,ne_eq] <;> omega
  rw[hF];refine aw (λh=>P7 h32 hf hL (aI h)) (λh=>?_);rw[e (aL h)];refine aw (λh=>?_) (λh=>?_)
  .rw[am (show iW d≠0 from gH h)]
  rw[af (show ¬ iW d≠0 from λk=>k (iP h))];refine aw (λh=>?_) (λh=>?_)
  .rw[am (show g7 (jT d)≠0 from gH h)];rfl
  rw[af (show ¬ g7 (jT d)≠0 from λk=>k (iP h))];exact⟨ab,rfl⟩
theorem aI3:aB 27 N5.spec:=aF Tryz.func27 (av (av (av (av (av aC ad3) av4) WC) Sd) PM) at0 XN
abbrev Ui:OT := .pair (.dat (.sl dh)) (.pair cI (.pair (.row 3 cI) (.pair wC cI)))
abbrev pO:OT := .pair bU (.pair Ui (.pair cI (.pair cI (.pair (.dat (.sl bN)) jP))))
abbrev wV:CT := .pair cI (.sl bN)
abbrev dQ:Type:=au×ct×Int×Int×ae×cH
abbrev oI:Type:=ct×(Int×ae)×Int
def kP(h:cH):Int:=h.2.2.2.2.2.1
def jo(h:cH):Int:=h.2.2.2.2.2.2
def qc(h:cH):Int:=h.2.1
def sV(h:cH):Int:=h.2.2.1
def BW(h:cH):Int:=h.2.2.2.1
def cj(x:au)(link:Int):Int:=max (cu x link) 0
def adr(x:au)(i:Int):Int:=if i<0∨(ay x).length<=i then 0 else ((ay x).getD i.toNat default).1
def fT(s:ct)(a:Int):Bool:=ia (bS s) a&&decide (0<(bf (bS s) a).2.1.length)
def lP(x:au)(s:ct)(r:Rt)(k:d6):Int:=(jk r.2.2 (rG x) k (jI s) r.2.1.length).1
def jg(x:au)(s:ct)(r:Rt)(k:d6):Int:=if r.2.1.length=1 then r.2.1.getD 0 default else r.2.1.getD (lP x s r k).toNat default
def Qh(s:ct)(b:Int):ct:=(s.1,s.2.1,s.2.2.1,s.2.2.2.1,b)
def gD(s:ct)(r:Rt):ct:=if r.2.1.length=1 then s else Qh s (IntKind.i64.wrap (jI s+1))
def B7(s:ct)(t:Int×Int):ct:=(s.1,s.2.1,s.2.2.1,t,s.2.2.2.2)
def qV(l:ae)(i:Int):ae:=if i<l.length then l.set i.toNat (IntKind.i64.wrap (l.getD i.toNat default+1)) else l
def M0(s:ct)(i:Int):ct:=(s.1,IntKind.i64.wrap (s.2.1+1),qV s.2.2.1 i,s.2.2.2)
def kI(x:au)(i link:Int):Int:=if fX x=2 then adr x (cu x link) else if fX x=3 then fA x else if fX x=4 then oD x else adr x i
def iR(w:dQ)(s:ct):dQ:=(w.1,s,w.2.2)
def vy(w:dQ)(h:cH):dQ:=(w.1,w.2.1,w.2.2.1,w.2.2.2.1,w.2.2.2.2.1,h)
def iK:Int×ae:=(0,[])
def mw(w:dQ):(Int×Int)×Bool:=kH (jT w.1) (tq w.2.1) w.2.2.2.1
def j9(w:dQ):ct:=M0 (B7 w.2.1 (mw w).1) (cj w.1 w.2.2.1)
def ku(w:dQ):Rt:=bf (bS w.2.1) (kP w.2.2.2.2.2)
def kg(B:Int->Int->ae)(w:dQ):Int:=jg w.1 (j9 w) (ku w) (bc (B (adr w.1 (cj w.1 w.2.2.1)) 0))
def iq(w:dQ):Int:=mJ w.1 (B7 w.2.1 (mw w).1) (cj w.1 w.2.2.1) w.2.2.2.1 (qc w.2.2.2.2.2) (kP w.2.2.2.2.2)
def kq(B:Int->Int->ae)(w:dQ)(own:Int):Int:=if own=0 then kI w.1 (cj w.1 w.2.2.1) (kg B w) else own
def dD(B:Int->Int->ae)(E:Int->Int)(w:dQ)(own:Int):oI :=
 if own=0/\j4 w.1=true then (w.2.1,iK,4)
 else if E 0≠0 then (w.2.1,iK,6)
 else if fT w.2.1 (kP w.2.2.2.2.2)=false then (w.2.1,iK,8)
 else if (mw w).2=false then (B7 w.2.1 (mw w).1,iK,5)
 else (gD (j9 w) (ku w),(kg B w,B (kq B w own) (iq w)),2)
def fW(w:dQ)(f i:Int):ae:=ji w.2.2.2.2.1 f i (iE w.1)
def kX(w:dQ)(i:Int):Int:=gR w.2.2.2.2.1 i (iE w.1)
def dW(w:dQ)(kind code f i:Int):ae:=jr w.2.2.2.2.1 f kind code i (iE w.1)
def ju(w:dQ)(kind code i:Int):Int:=fR w.2.2.2.2.1 kind code i (iE w.1)
def ig(w:dQ):oI :=
 if w.2.2.1 = -1∨kX w 0≠0 then (w.2.1,iK,1)
 else dD (fW w) (kX w) w (if BW w.2.2.2.2.2=17 then 0 else jo w.2.2.2.2.2)
def fH(w:dQ):oI :=
 if w.2.2.1 ≠ -1/\dI w.1=false/\sV w.2.2.2.2.2<2 then dD (dW w 11 0) (ju w 11 0) w 0
 else if fT w.2.1 (jo w.2.2.2.2.2)=false then (if w.2.2.1 = -1 then (w.2.1,iK,8) else dD (dW w 3 0) (ju w 3 0) w 0)
 else (gD w.2.1 (bf (bS w.2.1) (jo w.2.2.2.2.2)),(jg w.1 w.2.1 (bf (bS w.2.1) (jo w.2.2.2.2.2)) (bc w.2.2.2.2.1),if w.2.2.1 ≠ -1/\dI w.1=false then io w.2.2.2.2.1 else w.2.2.2.2.1),0)
def gg(w:dQ):oI :=
 if bY w.2.2.2.2.1≠0 then (w.2.1,iK,6)
 else if dC w.1 (jo (aY w.2.2.2.2.1).1)=true then ig (vy w (aY w.2.2.2.2.1).1)
 else if iG w.1=true/\w.2.2.1 ≠ -1 then (w.2.1,iK,6)
 else fH (vy w (aY w.2.2.2.2.1).1)
def fP(x:au)(s:ct)(link at':Int)(b:ae):oI:=gg (x,s,link,at',b,pC)
def pz(w:dQ):Prop:=cJ (bS w.2.1)/\okL (bS w.2.1)/\(w.2.2.2.2.1.length:Int)<=1000000
theorem R7{way seed:Int}{k:d6}{count n:Int}(h:1<=n):0<=(jk way seed k count n).1/\(jk way seed k count n).1<n:=by
 have h1:=xI seed k
 have h2:=xI seed (k.1,k.2.1,0,0,0)
 unfold jk
 split
 .exact⟨fZ _,by show (0:Int)<n;omega⟩
 next hn=>
  dsimp only;split
  .exact⟨Int.tmod_nonneg _ h1.1,Int.tmod_lt_of_pos _ ab⟩
  .split
   .exact⟨Int.tmod_nonneg _ h2.1,Int.tmod_lt_of_pos _ ab⟩
   .exact⟨Int.tmod_nonneg _ ab,Int.tmod_lt_of_pos _ ab⟩
theorem CJ{r:oI}{s:ct}{o:Int×ae}{y:Int}(w:dQ)(e:r=(s,o,y)):o=r.2.1/\y=r.2.2/\iR w s=iR w r.1:=by subst e;exact⟨rfl,rfl,rfl⟩
theorem xk{B:Int->Int->ae}{E:Int->Int}{w:dQ}{own:Int}(h:own=0/\j4 w.1=true):dD B E w own=(w.2.1,iK,4):=by unfold dD;rw[am h]
theorem yd{B:Int->Int->ae}{E:Int->Int}{w:dQ}{own:Int}(h:¬ (own=0/\j4 w.1=true))(h1:E 0≠0):dD B E w own=(w.2.1,iK,6):=by unfold dD;rw[af h,am h1]
theorem Ak{B:Int->Int->ae}{E:Int->Int}{w:dQ}{own:Int}(h:¬ (own=0/\j4 w.1=true))(h1:¬ E 0≠0)(h2:fT w.2.1 (kP w.2.2.2.2.2)=false):dD B E w own=(w.2.1,iK,8):=by
 unfold dD;rw[af h,af h1,am h2]
theorem Ao{B:Int->Int->ae}{E:Int->Int}{w:dQ}{own:Int}(h:¬ (own=0/\j4 w.1=true))(h1:¬ E 0≠0)(h2:¬ fT w.2.1 (kP w.2.2.2.2.2)=false)(h3:(mw w).2=false):dD B E w own=(B7 w.2.1 (mw w).1,iK,5):=by
 unfold dD;rw[af h,af h1,af h2,am h3]
theorem zN{B:Int->Int->ae}{E:Int->Int}{w:dQ}{own:Int}(h:¬ (own=0/\j4 w.1=true))(h1:¬ E 0≠0)(h2:¬ fT w.2.1 (kP w.2.2.2.2.2)=false)(h3:¬ (mw w).2=false) :
  dD B E w own=(gD (j9 w) (ku w),(kg B w,B (kq B w own) (iq w)),2):=by
 unfold dD;rw[af h,af h1,af h2,af h3]
theorem BD{s:ct}{a:Int}(h:¬ fT s a=false):(bf (bS s) a).2.1≠[]:=by
 intro e;apply h;unfold fT;rw[e];simp
theorem Hr(p:ra):((d7 p).length:Int)<=1500:=by
 unfold d7
 split
 next h=>
  unfold fv at h;split at h
  .cases h
  .split at h
   .cases h
   .rw[cA,r0];omega
 .simp
theorem NS(b:ae)(src kind code id ttl:Int):((jr b src kind code id ttl).length:Int)<=1500:=by
 unfold jr;split
 .exact Hr _
 .simp
theorem S6(b:ae)(src id ttl:Int):((ji b src id ttl).length:Int)<=1500:=by
 unfold ji;split
 .split
  .exact Hr _
  .split
   .exact NS ..
   .exact Hr _
 .simp
theorem Nk(w:dQ)(f i:Int):((fW w f i).length:Int)<=1500:=S6 ..
theorem H6(w:dQ)(k c f i:Int):((dW w k c f i).length:Int)<=1500:=NS ..
theorem D5(x:au)(k:Int):0<=cj x k:=by unfold cj;omega
theorem HW{l:ae}{i:Int}(h:i<l.length):qV l i=l.set i.toNat (IntKind.i64.wrap (l.getD i.toNat default+1)):=am h
theorem PG{l:ae}{i:Int}(h:¬ i<l.length):qV l i=l:=af h
def ai8:Ct:=⟨[.box 238 pO],[.val cI],λd=>[],λd=>((cj d.1.1 d.1.2.2.1,()),(d.1,()))⟩
def wv(a:au)(b:List aN)(c:Int)(d:ae)(e f g h i:Int)(j:ae)(k:cH) :=
 CT.wf bU a/\((b.length<=maxLen/\ ∀(l:aN),l∈b->((0<=l.1.1/\l.1.1<=4294967295)/\aq l.1.2)/\(l.2.1.length<=maxLen/\ ∀(m:Int),m∈l.2.1->aq m)/\aq l.2.2)/\aq c/\(d.length<=maxLen/\ ∀(l:Int),l∈d->aq l)/\(aq e/\aq f)/\aq g)/\aq h/\aq i/\(j.length<=maxLen/\ ∀(l:Int),l∈j->0<=l/\l<=255)/\CT.wf jP k
def py(a:au)(b:List aN)(c:Int)(d:ae)(e f g h i:Int)(j:ae)(k:cH) :=
 (a,(b,c,d,(e,f),g),h,i,j,k)=(a,(b,c,d,(e,f),g),h,i,j,k)
theorem VD :
 ∀(a:au)(b:List aN)(c:Int)(d:ae)(e f g h i:Int)(j:ae)(k:cH),(wv a b c d e f g h i j k)/\True->True->max (cu a h) (0:Int)=cj a h/\(py a b c d e f g h i j k):=by
  delta wv py
  intros
  exact⟨rfl,rfl⟩
theorem Ms:aB 219 ai8.spec:=aF Tryz.func219 (av aC Bm) aT VD
def YR:Ct:=⟨[.box 238 pO,.val cI],[.val cP],λd=>[],λd=>((adr d.1.1 d.2.1,()),(d.1,()))⟩
def yI(a:au)(b:List aN)(c:Int)(d:ae)(e f g h i:Int)(j:ae)(k:cH) :=
 CT.wf bU a/\((b.length<=maxLen/\ ∀(m:aN),m∈b->((0<=m.1.1/\m.1.1<=4294967295)/\aq m.1.2)/\(m.2.1.length<=maxLen/\ ∀(n:Int),n∈m.2.1->aq n)/\aq m.2.2)/\aq c/\(d.length<=maxLen/\ ∀(m:Int),m∈d->aq m)/\(aq e/\aq f)/\aq g)/\aq h/\aq i/\(j.length<=maxLen/\ ∀(m:Int),m∈j->0<=m/\m<=255)/\CT.wf jP k
theorem aa3 :
 ∀(a:au)(b:List aN)(c:Int)(d:ae)(e f g h i:Int)(j:ae)(k:cH)(l:Int),(yI a b c d e f g h i j k)/\aq l/\True->True-> ∀(m:Bool),m=decide (l<0)->(ah (! m))/\(ah (! m))/\(ah (! m))/\(ah (! m))/\(ah (! m))/\((! m)->(ar (! m))/\(ar (! m))/\True)/\(aE m)/\ao (bif m then true else decide ((ac a.1)<=l)) (0=adr a l/\(py a b c d e f g h i j k)) (0<=l/\l<(ac a.1)/\(getD a.1 l.toNat default).1=adr a l/\(py a b c d e f g h i j k)):=by
  delta yI py ah ar aE ac;rintro d x x1 x2 x3 x4 x5 x6 x7 x8 h i - -
  (repeat (refine bX ?_;repeat refine bZ ?_));refine rX (λho=>?_) (λh1 h2=>?_)
  .unfold adr;rw[am (by rcases ho with q|q <;> have:=aI q <;> first|exact .inl this|exact .inr this)];exact⟨rfl,rfl⟩
  .have h1:=aL h1;have h2:=aL h2;refine⟨ab,ab,?_,rfl⟩;unfold adr;rw[af (by rintro (q|q);exact h1 q;exact h2 q)];rfl
theorem F5:aB 220 YR.spec:=aF Tryz.func220 aC aT aa3
def aW7:Ct:=⟨[.box 238 pO,.agg dh,.val (.sl bN)],[.val cI],λd=>[d.2.1.2.1≠[],(d.2.2.1.length:Int)<=1000000],λd=>((jg d.1.1 d.1.2.1 d.2.1 (bc d.2.2.1),()),(iR d.1 (gD d.1.2.1 d.2.1),()))⟩
theorem aM7 :
 ∀(a:au)(b:List aN)(c:Int)(d:ae)(e f g h i:Int)(j:ae)(k:cH)(l m:Int)(n:ae)(o:Int)(p:ae),(CT.wf bU a/\((b.length<=maxLen/\ ∀(q:aN),q∈b->((0<=q.1.1/\q.1.1<=4294967295)/\aq q.1.2)/\(q.2.1.length<=maxLen/\ ∀(r:Int),r∈q.2.1->aq r)/\aq q.2.2)/\aq c/\(d.length<=maxLen/\ ∀(q:Int),q∈d->aq q)/\(aq e/\aq f)/\aq g)/\aq h/\aq i/\(j.length<=maxLen/\ ∀(q:Int),q∈j->0<=q/\q<=255)/\CT.wf jP k)/\(((0<=l/\l<=4294967295)/\aq m)/\(n.length<=maxLen/\ ∀(q:Int),q∈n->aq q)/\aq o)/\(p.length<=maxLen/\ ∀(q:Int),q∈p->0<=q/\q<=255)/\True->n≠([]:ae)/\(ac p)<=1000000->ao (decide ((ac n)=1)) ((0:Int)<=0/\0<(ac n)/\ai n (0:Int)=jg a (b,c,d,(e,f),g) ((l,m),n,o) (bc p)/\(a,(b,c,d,(e,f),g),h,i,j,k)=iR (a,(b,c,d,(e,f),g),h,i,j,k) (gD (b,c,d,(e,f),g) ((l,m),n,o))) ((ac p)<=1099511627776/\0<=(jk o a.2.2.2.2.2.2.2.2.2.2.2.2.2.2 (bc p) g
 (ac n)).1/\(jk o a.2.2.2.2.2.2.2.2.2.2.2.2.2.2 (bc p) g (ac n)).1<(ac n)/\n.getD (toNat (jk o a.2.2.2.2.2.2.2.2.2.2.2.2.2.2 (bc p) g (ac n)).1) default=jg a (b,c,d,(e,f),g) ((l,m),n,o) (bc p)/\(a,(b,c,d,(e,f),aj (g+1)),h,i,j,k)=iR (a,(b,c,d,(e,f),g),h,i,j,k) (gD (b,c,d,(e,f),g) ((l,m),n,o))):=by
  delta aj ai ac;rintro d x x1 x2 x3 x4 x5 x6 x7 x8 h r1 r2 nx bl b-⟨hn,hb⟩;have hpos:1<=(nx.length:Int):=by cases nx with
   | nil=>exact absurd rfl hn
   | cons a l=>simp;omega
  refine bT (λh1=>?_) (λh1=>?_)
  .have h1':nx.length=1:=ab;refine⟨ab,ab,?_,?_⟩
   .unfold jg;rw[am h1'];rfl
   .unfold gD;rw[am h1'];rfl
  .have h1':¬ nx.length=1:=ab;have hc:=R7 (way:=bl) (seed:=d.2.2.2.2.2.2.2.2.2.2.2.2.2.2) (k:=bc b) (count:=x5) hpos;refine⟨ab,hc.1,hc.2,?_,?_⟩
   .unfold jg;rw[af h1'];rfl
   .unfold gD;rw[af h1'];rfl
theorem H5:aB 203 aW7.spec:=aF Tryz.func203 (av (av aC aT6) Q8) aT aM7
def aL6:Ct:=⟨[.box 238 pO,.val cP],[.agg dh,.val .bool],λd=>[cJ (bS d.1.2.1),okL (bS d.1.2.1)],λd=>((bf (bS d.1.2.1) d.2.1,fT d.1.2.1 d.2.1,()),(d.1,()))⟩
theorem ac4 :
 ∀(a:au)(b:List aN)(c:Int)(d:ae)(e f g h i:Int)(j:ae)(k:cH)(l:Int),(yI a b c d e f g h i j k)/\(0<=l/\l<=4294967295)/\True->(cJ (bS (b,c,d,(e,f),g))/\((length (bS (b,c,d,(e,f),g))):Int)<=134217728/\ ∀(m:Rt),m∈bS (b,c,d,(e,f),g)->(ac m.2.1)<=1099511627776)->cJ b/\okL b/\ ∀(m:Bool),m=ia b l->(ah m)/\(ah m)/\(ah m)/\(ar m)/\bf b l=bf (bS (b,c,d,(e,f),g)) l/\(bif m then decide (0<((length (bf b l).2.1):Int)) else false)=fT (b,c,d,(e,f),g) l/\(py a b c d e f g h i j k):=by
  delta yI py ah ar ac;rintro d x x1 x2 x3 x4 x5 x6 x7 x8 h a-⟨h1,h2⟩;refine⟨h1,h2,?_⟩
  (repeat (refine bX ?_;repeat refine bZ ?_));refine⟨rfl,?_,rfl⟩;show (bif ia x a then decide (0<((bf x a).2.1.length:Int)) else false)=(ia x a&&decide (0<(bf x a).2.1.length))
  cases ia x a <;> simp
theorem Kk:aB 202 aL6.spec:=aF Tryz.func202 (av aC HF) aT ac4
def TQ:Ct:=⟨[.val cP,.val cI,.box 236 (.ref 238 pO),.box 3 cI,.box 3 cI],[.own 5 bN,.val cI],λd=>[(d.2.2.1.2.2.2.2.1.length:Int)<=1000000],λd=>((dW d.2.2.1 d.2.2.2.1 d.2.2.2.2.1 d.1 d.2.1,ju d.2.2.1 d.2.2.2.1 d.2.2.2.2.1 d.2.1,()),(d.2.2.1,d.2.2.2.1,d.2.2.2.2.1,()))⟩
theorem XW :
 ∀(a b:Int)(c:au)(d:List aN)(e:Int)(f:ae)(g h i j k:Int)(l:ae)(m:cH)(n o:Int),(0<=a/\a<=4294967295)/\aq b/\(CT.wf bU c/\((d.length<=maxLen/\ ∀(p:aN),p∈d->((0<=p.1.1/\p.1.1<=4294967295)/\aq p.1.2)/\(p.2.1.length<=maxLen/\ ∀(q:Int),q∈p.2.1->aq q)/\aq p.2.2)/\aq e/\(f.length<=maxLen/\ ∀(p:Int),p∈f->aq p)/\(aq g/\aq h)/\aq i)/\aq j/\aq k/\(l.length<=maxLen/\ ∀(p:Int),p∈l->0<=p/\p<=255)/\CT.wf jP m)/\aq n/\aq o/\True->(ac l)<=1000000->(ac l)<=1099511627776/\jr l a n o b c.2.2.2.2.2.2.2.2.2.2.2.2.2.1=dW (c,(d,e,f,(g,h),i),j,k,l,m) n o a b/\fR l n o b c.2.2.2.2.2.2.2.2.2.2.2.2.2.1=ju (c,(d,e,f,(g,h),i),j,k,l,m) n o b/\(c,(d,e,f,(g,h),i),j,k,l,m)=(c,(d,e,f,(g,h),i),j,k,l,m)/\n=n/\o=o:=by
  delta ac;rintro x x1 d y y1 y2 y3 y4 y5 y6 y7 b h k c-hb;exact⟨ab,rfl,rfl,rfl,rfl,rfl⟩
theorem WT:aB 224 TQ.spec:=aF Tryz.func224 (av aC KT) aT XW
def SN:Ct:=⟨[.box 238 pO,.val cI,.val cI],[.fn 224 3,.box 236 .ali,.box 3 cI,.box 3 cI],λd=>[],λd=>(((),(),d.2.1,d.2.2.1,()),(d.1,()))⟩
def Ck(n:aN) :=
 ((0<=n.1.1/\n.1.1<=4294967295)/\aq n.1.2)/\(n.2.1.length<=maxLen/\ ∀(o:Int),o∈n.2.1->aq o)/\aq n.2.2
def CU(a:au)(b:List aN)(c:Int)(d:ae)(e f g h i:Int)(j:ae)(k:cH) :=
 CT.wf bU a/\((b.length<=maxLen/\ ∀(n:aN),n∈b->(Ck n))/\aq c/\(d.length<=maxLen/\ ∀(n:Int),n∈d->aq n)/\(aq e/\aq f)/\aq g)/\aq h/\aq i/\(j.length<=maxLen/\ ∀(n:Int),n∈j->0<=n/\n<=255)/\CT.wf jP k
theorem aV3 :
 ∀(a:au)(b:List aN)(c:Int)(d:ae)(e f g h i:Int)(j:ae)(k:cH)(l m:Int),(CU a b c d e f g h i j k)/\aq l/\aq m/\True->True->()=()/\()=()/\l=l/\m=m/\(py a b c d e f g h i j k):=by
  delta CU Ck py
  intros
  exact⟨rfl,rfl,rfl,rfl,rfl⟩
theorem Sv:aB 201 SN.spec:=aF Tryz.func201 aC aT aV3
def aw2:Ct:=⟨[.val cP,.val cI,.box 236 (.ref 238 pO)],[.own 5 bN,.val cI],λd=>[(d.2.2.1.2.2.2.2.1.length:Int)<=1000000],λd=>((fW d.2.2.1 d.1 d.2.1,kX d.2.2.1 d.2.1,()),(d.2.2.1,()))⟩
theorem am2 :
 ∀(a b:Int)(c:au)(d:List aN)(e:Int)(f:ae)(g h i j k:Int)(l:ae)(m:cH),(0<=a/\a<=4294967295)/\aq b/\(CT.wf bU c/\((d.length<=maxLen/\ ∀(n:aN),n∈d->(Ck n))/\aq e/\(f.length<=maxLen/\ ∀(n:Int),n∈f->aq n)/\(aq g/\aq h)/\aq i)/\aq j/\aq k/\(l.length<=maxLen/\ ∀(n:Int),n∈l->0<=n/\n<=255)/\CT.wf jP m)/\True->(ac l)<=1000000->(ac l)<=1099511627776/\ji l a b c.2.2.2.2.2.2.2.2.2.2.2.2.2.1=fW (c,(d,e,f,(g,h),i),j,k,l,m) a b/\gR l b c.2.2.2.2.2.2.2.2.2.2.2.2.2.1=kX (c,(d,e,f,(g,h),i),j,k,l,m) b/\(c,(d,e,f,(g,h),i),j,k,l,m)=(c,(d,e,f,(g,h),i),j,k,l,m):=by
  delta Ck ac;rintro x x1 d y y1 y2 y3 y4 y5 y6 y7 b h-hb;exact⟨ab,rfl,rfl,rfl⟩
theorem OZ:aB 198 aw2.spec:=aF Tryz.func198 (av aC Ur) aT am2
def aA4:Ct:=⟨[.box 238 pO,.val cI,.val cI],[.val cP],λd=>[],λd=>((kI d.1.1 d.2.1 d.2.2.1,()),(d.1,()))⟩
theorem aH3 :
 ∀(a:au)(b:List aN)(c:Int)(d:ae)(e f g h i:Int)(j:ae)(k:cH)(l m:Int),(CU a b c d e f g h i j k)/\aq l/\aq m/\True->True->ao (decide (a.2.2.2.2.2.1=2)) (adr a (cu a m)=kI a l m/\(py a b c d e f g h i j k)) (ao (decide (a.2.2.2.2.2.1=3)) (a.2.1=kI a l m/\(py a b c d e f g h i j k)) (ao (decide (a.2.2.2.2.2.1=4)) (a.2.2.2.2.2.2.1=kI a l m/\(py a b c d e f g h i j k)) (adr a l=kI a l m/\(py a b c d e f g h i j k)))):=by
  delta CU Ck py;rintro d x x1 x2 x3 x4 x5 x6 x7 x8 h i l - -;unfold kI fX fA oD;refine aw (λh1=>?_) (λh1=>?_)
  .rw[am (aI h1)];exact⟨rfl,rfl⟩
  rw[af (aL h1)];refine aw (λh2=>?_) (λh2=>?_)
  .rw[am (aI h2)];exact⟨rfl,rfl⟩
  rw[af (aL h2)];refine aw (λh3=>?_) (λh3=>?_)
  .rw[am (aI h3)];exact⟨rfl,rfl⟩
  rw[af (aL h3)];exact⟨rfl,rfl⟩
theorem PJ:aB 223 aA4.spec:=aF Tryz.func223 (av (av aC Bm) F5) aT aH3
def O2:Ct:=⟨[.box 238 pO,.fn 198 1,.box 236 .ali,.val cP],[.agg wV,.val cI],λd=>[pz d.1],λd=>(((dD (fW d.1) (kX d.1) d.1 d.2.2.2.1).2.1,(dD (fW d.1) (kX d.1) d.1 d.2.2.2.1).2.2,()),(iR d.1 (dD (fW d.1) (kX d.1) d.1 d.2.2.2.1).1,(),()))⟩
def aO9:bw O2.ps->ce:=(λd=>{cuts:=(bp 17 (λS=>{ι:=Int×ae×(Int×Int),qn:=sf,inv:=λi=>dD (fW d.1) (kX d.1) d.1 d.2.2.2.1=(gD (j9 d.1) (ku d.1),(kg (fW d.1) d.1,(fW d.1) (kq (fW d.1) d.1 d.2.2.2.1) (iq d.1)),2)/\(ku d.1).2.1≠[]/\(bS d.1.2.1,i.1,i.2.1,i.2.2,jI d.1.2.1)=j9 d.1,keep:=[0,1,2,6,9,11],slots:=λi=>[(8,.int .i64 (cj d.1.1 d.1.2.2.1)),(13,.int .i64 (iq d.1))],keepN:=[112,192,560,1048577],names:=λi=>[(1048576,.live (.cells 238 (dU bU d.1.1++([.dsl dh (bS d.1.2.1),.int .i64 i.1,.own 524288 1]++(dU wC i.2.2++([.int .i64 (jI d.1.2.1),.int .i64 d.1.2.2.1,.int .i64 d.1.2.2.2.1,.dsl bN d.1.2.2.2.2.1]++dU jP d.1.2.2.2.2.2)))))),(524288,.live (.row 3 cI i.2.1))]}) cC)})
def mA(a:au)(b:List aN)(c:Int)(d:ae)(e f g h i:Int)(j:ae)(k:cH)(l:Int) :=
 dD (fW (a,(b,c,d,(e,f),g),h,i,j,k)) (kX (a,(b,c,d,(e,f),g),h,i,j,k)) (a,(b,c,d,(e,f),g),h,i,j,k) l
def dZ(b:List aN)(c:Int)(d:ae)(e f g:Int)(k:cH) :=
 bf (bS (b,c,d,(e,f),g)) k.2.2.2.2.2.1
def Iw(a:au)(b:List aN)(c:Int)(d:ae)(e f g h i:Int)(j:ae)(k:cH)(l:Int) :=
 (gD (j9 (a,(b,c,d,(e,f),g),h,i,j,k)) (ku (a,(b,c,d,(e,f),g),h,i,j,k)),(kg (fW (a,(b,c,d,(e,f),g),h,i,j,k)) (a,(b,c,d,(e,f),g),h,i,j,k),fW (a,(b,c,d,(e,f),g),h,i,j,k) (kq (fW (a,(b,c,d,(e,f),g),h,i,j,k)) (a,(b,c,d,(e,f),g),h,i,j,k) l) (iq (a,(b,c,d,(e,f),g),h,i,j,k))),(2:Int))
def ni(a:au)(e f i:Int) :=
 kH a.2.2.2.2.2.2.2.2.2.2.1 (e,f) i
def nG :=
 ((0:Int),([]:ae))
def tO(b:List aN)(c:Int)(d:ae)(e f g:Int)(j:ae) :=
 cJ (bS (b,c,d,(e,f),g))/\okL (bS (b,c,d,(e,f),g))/\(ac j)<=1000000
def Kp(a:au)(b:List aN)(c:Int)(d:ae)(e f g h i:Int)(j:ae)(k:cH)(l n:Int)(o:ae)(p:Int×Int) :=
 dD (fW (a,(b,c,d,(e,f),g),h,i,j,k)) (kX (a,(b,c,d,(e,f),g),h,i,j,k)) (a,(b,c,d,(e,f),g),h,i,j,k) l=(Iw a b c d e f g h i j k l)/\(ku (a,(b,c,d,(e,f),g),h,i,j,k)).2.1≠([]:ae)/\(bS (b,c,d,(e,f),g),n,o,p,jI (b,c,d,(e,f),g))=j9 (a,(b,c,d,(e,f),g),h,i,j,k)
theorem XP :
 ∀(a:au)(b:List aN)(c:Int)(d:ae)(e f g h i:Int)(j:ae)(k:cH)(l:Int),(yI a b c d e f g h i j k)/\True/\True/\(0<=l/\l<=4294967295)/\True->(tO b c d e f g j)-> ∀(m:Bool),m=decide (l=0)->(ah m)/\(ah m)/\(ah m)/\(ah m)/\(ar m)/\ao (bif m then a.2.2.2.2.2.2.2.2.2.2.2.1 else false) ((nG)=(mA a b c d e f g h i j k l).2.1/\4=(mA a b c d e f g h i j k l).2.2/\(a,(b,c,d,(e,f),g),h,i,j,k)=iR (a,(b,c,d,(e,f),g),h,i,j,k) (mA a b c d e f g h i j k l).1/\()=()) ((ac j)<=1000000/\ao (! decide (kX (a,(b,c,d,(e,f),g),h,i,j,k) (0:Int)=0)) ((nG)=(mA a b c d e f g h i j k l).2.1/\6=(mA a b c d e f g h i j k l).2.2/\(a,(b,c,d,(e,f),g),h,i,j,k)=iR (a,(b,c,d,(e,f),g),h,i,j,k) (mA a b c d e f g h i j k l).1/\()=()) (cJ (bS (b,c,d,(e,f),g))/\okL (bS (b,c,d,(e,f),g))/\ao (! fT (b,c,d,(e,f),g) k.2.2.2.2.2.1) ((nG)=(mA a b c d e f g
 h i j k l).2.1/\8=(mA a b c d e f g h i j k l).2.2/\(a,(b,c,d,(e,f),g),h,i,j,k)=iR (a,(b,c,d,(e,f),g),h,i,j,k) (mA a b c d e f g h i j k l).1/\()=()) (ao (! (ni a e f i).2) ((nG)=(mA a b c d e f g h i j k l).2.1/\5=(mA a b c d e f g h i j k l).2.2/\(a,(b,c,d,(ni a e f i).1,g),h,i,j,k)=iR (a,(b,c,d,(e,f),g),h,i,j,k) (mA a b c d e f g h i j k l).1/\()=()) (ao (decide (cj a h<(ac d))) (0<=cj a h/\cj a h<(ac d)/\0<=cj a h/\cj a h<(ac d)/\ ∃(n:Int) (o:ae),∃(p:Int×Int),(Kp a b c d e f g h i j k l n o p)/\l=l/\cj a h=cj a h/\mJ a (b,c,d,(ni a e f i).1,g) (cj a h) i k.2.1 k.2.2.2.2.2.1=iq (a,(b,c,d,(e,f),g),h,i,j,k)/\(0:Int)=0/\(dZ b c d e f g k).1.1=(dZ b c d e f g k).1.1/\(dZ b c d e f g k).1.2=(dZ b c d e f g k).1.2/\(dZ b c d e f g k).2.1=(dZ b c d e f g k).2.1/\(dZ b c d e f g k).2.2=(dZ b c d e f g k).2.2/\fW
 (a,(b,c,d,(e,f),g),h,i,j,k) (adr a (cj a h)) (0:Int)=fW (a,(b,c,d,(e,f),g),h,i,j,k) (adr a (cj a h)) (0:Int)/\a.1=a.1/\a.2.1=a.2.1/\a.2.2.1=a.2.2.1/\a.2.2.2.1=a.2.2.2.1/\a.2.2.2.2.1=a.2.2.2.2.1/\a.2.2.2.2.2.1=a.2.2.2.2.2.1/\a.2.2.2.2.2.2.1=a.2.2.2.2.2.2.1/\a.2.2.2.2.2.2.2.1=a.2.2.2.2.2.2.2.1/\a.2.2.2.2.2.2.2.2.1=a.2.2.2.2.2.2.2.2.1/\a.2.2.2.2.2.2.2.2.2.1=a.2.2.2.2.2.2.2.2.2.1/\a.2.2.2.2.2.2.2.2.2.2.1.1=a.2.2.2.2.2.2.2.2.2.2.1.1/\a.2.2.2.2.2.2.2.2.2.2.1.2=a.2.2.2.2.2.2.2.2.2.2.1.2/\a.2.2.2.2.2.2.2.2.2.2.2.1=a.2.2.2.2.2.2.2.2.2.2.2.1/\a.2.2.2.2.2.2.2.2.2.2.2.2.1=a.2.2.2.2.2.2.2.2.2.2.2.2.1/\a.2.2.2.2.2.2.2.2.2.2.2.2.2.1=a.2.2.2.2.2.2.2.2.2.2.2.2.2.1/\a.2.2.2.2.2.2.2.2.2.2.2.2.2.2=a.2.2.2.2.2.2.2.2.2.2.2.2.2.2/\b=bS (b,c,d,(e,f),g)/\aj (c+1)=n/\(ni a e f i).1.1=p.1/\(ni a e f i).1.2=p.2/\g=jI
 (b,c,d,(e,f),g)/\h=h/\i=i/\j=j/\k.1=k.1/\k.2.1=k.2.1/\k.2.2.1=k.2.2.1/\k.2.2.2.1=k.2.2.2.1/\k.2.2.2.2.1=k.2.2.2.2.1/\k.2.2.2.2.2.1=k.2.2.2.2.2.1/\k.2.2.2.2.2.2=k.2.2.2.2.2.2/\set d (toNat (cj a h)) (aj (ai d (cj a h)+1))=o/\True) (∃(n:Int) (o:ae),∃(p:Int×Int),(Kp a b c d e f g h i j k l n o p)/\l=l/\cj a h=cj a h/\mJ a (b,c,d,(ni a e f i).1,g) (cj a h) i k.2.1 k.2.2.2.2.2.1=iq (a,(b,c,d,(e,f),g),h,i,j,k)/\(0:Int)=0/\(dZ b c d e f g k).1.1=(dZ b c d e f g k).1.1/\(dZ b c d e f g k).1.2=(dZ b c d e f g k).1.2/\(dZ b c d e f g k).2.1=(dZ b c d e f g k).2.1/\(dZ b c d e f g k).2.2=(dZ b c d e f g k).2.2/\fW (a,(b,c,d,(e,f),g),h,i,j,k) (adr a (cj a h)) (0:Int)=fW (a,(b,c,d,(e,f),g),h,i,j,k) (adr a (cj a h))
 (0:Int)/\a.1=a.1/\a.2.1=a.2.1/\a.2.2.1=a.2.2.1/\a.2.2.2.1=a.2.2.2.1/\a.2.2.2.2.1=a.2.2.2.2.1/\a.2.2.2.2.2.1=a.2.2.2.2.2.1/\a.2.2.2.2.2.2.1=a.2.2.2.2.2.2.1/\a.2.2.2.2.2.2.2.1=a.2.2.2.2.2.2.2.1/\a.2.2.2.2.2.2.2.2.1=a.2.2.2.2.2.2.2.2.1/\a.2.2.2.2.2.2.2.2.2.1=a.2.2.2.2.2.2.2.2.2.1/\a.2.2.2.2.2.2.2.2.2.2.1.1=a.2.2.2.2.2.2.2.2.2.2.1.1/\a.2.2.2.2.2.2.2.2.2.2.1.2=a.2.2.2.2.2.2.2.2.2.2.1.2/\a.2.2.2.2.2.2.2.2.2.2.2.1=a.2.2.2.2.2.2.2.2.2.2.2.1/\a.2.2.2.2.2.2.2.2.2.2.2.2.1=a.2.2.2.2.2.2.2.2.2.2.2.2.1/\a.2.2.2.2.2.2.2.2.2.2.2.2.2.1=a.2.2.2.2.2.2.2.2.2.2.2.2.2.1/\a.2.2.2.2.2.2.2.2.2.2.2.2.2.2=a.2.2.2.2.2.2.2.2.2.2.2.2.2.2/\b=bS (b,c,d,(e,f),g)/\aj (c+1)=n/\(ni a e f i).1.1=p.1/\(ni a e f i).1.2=p.2/\g=jI
 (b,c,d,(e,f),g)/\h=h/\i=i/\j=j/\k.1=k.1/\k.2.1=k.2.1/\k.2.2.1=k.2.2.1/\k.2.2.2.1=k.2.2.2.1/\k.2.2.2.2.1=k.2.2.2.2.1/\k.2.2.2.2.2.1=k.2.2.2.2.2.1/\k.2.2.2.2.2.2=k.2.2.2.2.2.2/\d=o/\True)/\ ∀(n:Int)(o:ae)(p:Int×Int),dD (fW (a,(b,c,d,(e,f),g),h,i,j,k)) (kX (a,(b,c,d,(e,f),g),h,i,j,k)) (a,(b,c,d,(e,f),g),h,i,j,k) l=(Iw a b c d e f g h i j k l)/\(ku (a,(b,c,d,(e,f),g),h,i,j,k)).2.1≠([]:ae)/\(bS (b,c,d,(e,f),g),n,o,p,jI (b,c,d,(e,f),g))=j9 (a,(b,c,d,(e,f),g),h,i,j,k)->(dZ b c d e f g k).2.1≠([]:ae)/\((length (fW (a,(b,c,d,(e,f),g),h,i,j,k) (adr a (cj a h)) (0:Int))):Int)<=1000000/\ao (decide (l=0)) ((ac j)<=1000000/\(jg a (b,n,o,p,g) (dZ b c d e f g k) (bc (fW (a,(b,c,d,(e,f),g),h,i,j,k) (adr a (cj a h)) (0:Int))),fW (a,gD (b,n,o,p,g) (dZ b c d e f g k),h,i,j,k) (kI a (cj a h) (jg a (b,n,o,p,g) (dZ b c
 d e f g k) (bc (fW (a,(b,c,d,(e,f),g),h,i,j,k) (adr a (cj a h)) (0:Int))))) (iq (a,(b,c,d,(e,f),g),h,i,j,k)))=(mA a b c d e f g h i j k l).2.1/\2=(mA a b c d e f g h i j k l).2.2/\(a,gD (b,n,o,p,g) (dZ b c d e f g k),h,i,j,k)=iR (a,(b,c,d,(e,f),g),h,i,j,k) (mA a b c d e f g h i j k l).1/\()=()) ((ac j)<=1000000/\(jg a (b,n,o,p,g) (dZ b c d e f g k) (bc (fW (a,(b,c,d,(e,f),g),h,i,j,k) (adr a (cj a h)) (0:Int))),fW (a,gD (b,n,o,p,g) (dZ b c d e f g k),h,i,j,k) l (iq (a,(b,c,d,(e,f),g),h,i,j,k)))=(mA a b c d e f g h i j k l).2.1/\2=(mA a b c d e f g h i j k l).2.2/\(a,gD (b,n,o,p,g) (dZ b c d e f g k),h,i,j,k)=iR (a,(b,c,d,(e,f),g),h,i,j,k) (mA a b c d e f g h i j k l).1/\()=()))))):=by
  delta mA dZ yI Iw ni nG tO Kp ah ar aj ai ac;rintro d x x1 x2 x3 x4 x5 x6 x7 x8 h own-⟨hs,hl,hb⟩;obtain⟨w,hw⟩:∃ w:dQ,w=(d,(x,x1,x2,(x3,x4),x5),x6,x7,x8,h):=⟨_,rfl⟩
  have e0:d.2.2.2.2.2.2.2.2.2.2.2.1=j4 w.1:=by rw[hw];rfl
  have e2:fT (x,x1,x2,(x3,x4),x5) h.2.2.2.2.2.1=fT w.2.1 (kP w.2.2.2.2.2):=by rw[hw];rfl
  have e3:kH d.2.2.2.2.2.2.2.2.2.2.1 (x3,x4) x7=mw w:=by rw[hw];rfl
  rw[e0,e2,e3,← hw];have fin:=λ{s o y}=>CJ (r:=dD (fW w) (kX w) w own) (s:=s) (o:=o) (y:=y) w;intro b hb0
  (repeat refine⟨(by first|(simp;done)|(rw[hb0];simp;done)|(cases b <;> simp)),?_⟩);have hq:(bif b then j4 w.1 else false)=true↔own=0/\j4 w.1=true:=by rw[hb0];by_cases k:own=0 <;> simp[k]
  refine aw (λh0=>?_) (λh0=>?_)
  .obtain⟨f1,f2,f3⟩:=fin (xk (hq.1 h0));exact⟨f1,f2,by rw[← f3,hw];rfl,rfl⟩
  have h0:¬ (own=0/\j4 w.1=true):=λk=>by rw[hq.2 k] at h0;cases h0
  refine⟨hb,aw (λh1=>?_) (λh1=>?_)⟩
  .obtain⟨f1,f2,f3⟩:=fin (yd h0 (by simpa using h1));exact⟨f1,f2,by rw[← f3,hw];rfl,rfl⟩
  have h1:¬ (kX w) 0≠0:=by simpa using h1
  refine⟨hs,hl,aw (λh2=>?_) (λh2=>?_)⟩
  .obtain⟨f1,f2,f3⟩:=fin (Ak h0 h1 (by simpa using h2));exact⟨f1,f2,by rw[← f3,hw];rfl,rfl⟩
  have h2:¬ fT w.2.1 (kP w.2.2.2.2.2)=false:=by simpa using h2
  refine aw (λh3=>?_) (λh3=>⟨?_,?_⟩)
  .obtain⟨f1,f2,f3⟩:=fin (Ao h0 h1 h2 (by simpa using h3));exact⟨f1,f2,by rw[← f3,hw];rfl,rfl⟩
  .have h3:¬ (mw w).2=false:=by simpa using h3
   have eg:=zN (B:=fW w) h0 h1 h2 h3;have hne:(ku w).2.1≠[]:=BD h2;have hin:=D5 d x6;have qc:mJ d (x,x1,x2,(mw w).1,x5) (cj d x6) x7 h.2.1 h.2.2.2.2.2.1=iq w:=by rw[← e3,hw];rfl
   have hS:j9 w=(x,IntKind.i64.wrap (x1+1),qV x2 (cj d x6),(mw w).1,x5):=by rw[← e3,hw];rfl
   refine bT (λh4=>?_) (λh4=>?_)
   .refine⟨hin,h4,hin,h4,_,_,_,⟨eg,hne,?_⟩,rfl,rfl,qc,aP⟩;rw[hS,HW h4];rfl
   .refine⟨_,_,_,⟨eg,hne,?_⟩,rfl,rfl,qc,aP⟩;rw[hS,PG h4];rfl
  .rintro k l t ⟨eg,hne,hS⟩;have e4:bf (bS (x,x1,x2,(x3,x4),x5)) h.2.2.2.2.2.1=ku w:=by rw[hw];rfl
   have e5:(x,k,l,t,x5)=j9 w:=hS;have e6:jg d (j9 w) (ku w) (bc ((fW w) (adr d (cj d x6)) 0))=kg (fW w) w:=by rw[hw];rfl
   rw[e4,e5,e6];obtain⟨f1,f2,f3⟩:=fin eg;have hlen:=Nk w (adr d (cj d x6)) 0;refine⟨hne,ab,bT (λh4=>?_) (λh4=>?_)⟩
   .refine⟨hb,?_,f2,by rw[← f3,hw];rfl,rfl⟩;rw[← f1];unfold kq;rw[am h4,hw];rfl
   .refine⟨hb,?_,f2,by rw[← f3,hw];rfl,rfl⟩;rw[← f1];unfold kq;rw[af h4,hw];rfl
theorem aN9:aB 200 O2.spec:=aF Tryz.func200 (av (av (av (av (av (av (av (av aC Ms) F5) OZ) Kk) MU) RH) H5) PJ) aO9 XP
def P3:Ct:=⟨[.box 238 pO,.fn 224 3,.box 236 .ali,.box 3 cI,.box 3 cI,.val cP],[.agg wV,.val cI],λd=>[pz d.1],λd=>(((dD (dW d.1 d.2.2.2.1 d.2.2.2.2.1) (ju d.1 d.2.2.2.1 d.2.2.2.2.1) d.1 d.2.2.2.2.2.1).2.1,(dD (dW d.1 d.2.2.2.1 d.2.2.2.2.1) (ju d.1 d.2.2.2.1 d.2.2.2.2.1) d.1 d.2.2.2.2.2.1).2.2,()),(iR d.1 (dD (dW d.1 d.2.2.2.1 d.2.2.2.2.1) (ju d.1 d.2.2.2.1 d.2.2.2.2.1) d.1 d.2.2.2.2.2.1).1,(),d.2.2.2.1,d.2.2.2.2.1,()))⟩
def aP6:bw P3.ps->ce:=(λd=>{cuts:=(bp 17 (λS=>{ι:=Int×ae×(Int×Int),qn:=sf,inv:=λi=>dD (dW d.1 d.2.2.2.1 d.2.2.2.2.1) (ju d.1 d.2.2.2.1 d.2.2.2.2.1) d.1 d.2.2.2.2.2.1=(gD (j9 d.1) (ku d.1),(kg (dW d.1 d.2.2.2.1 d.2.2.2.2.1) d.1,(dW d.1 d.2.2.2.1 d.2.2.2.2.1) (kq (dW d.1 d.2.2.2.1 d.2.2.2.2.1) d.1 d.2.2.2.2.2.1) (iq d.1)),2)/\(ku d.1).2.1≠[]/\(bS d.1.2.1,i.1,i.2.1,i.2.2,jI d.1.2.1)=j9 d.1,keep:=[0,1,2,6,9,11],slots:=λi=>[(8,.int .i64 (cj d.1.1 d.1.2.2.1)),(13,.int .i64 (iq d.1))],keepN:=[112,192,560,1048577,1048578,1048579],names:=λi=>[(1048576,.live (.cells 238 (dU bU d.1.1++([.dsl dh (bS d.1.2.1),.int .i64 i.1,.own 524288 1]++(dU wC i.2.2++([.int .i64 (jI d.1.2.1),.int .i64 d.1.2.2.1,.int .i64 d.1.2.2.2.1,.dsl bN d.1.2.2.2.2.1]++dU jP d.1.2.2.2.2.2)))))),(524288,.live (.row 3 cI i.2.1))]}) cC)})
def mR(a:au)(b:List aN)(c:Int)(d:ae)(e f g h i:Int)(j:ae)(k:cH)(l m n:Int) :=
 dD (dW (a,(b,c,d,(e,f),g),h,i,j,k) l m) (ju (a,(b,c,d,(e,f),g),h,i,j,k) l m) (a,(b,c,d,(e,f),g),h,i,j,k) n
def Hl(a:au)(b:List aN)(c:Int)(d:ae)(e f g h i:Int)(j:ae)(k:cH)(l m n:Int) :=
 (gD (j9 (a,(b,c,d,(e,f),g),h,i,j,k)) (ku (a,(b,c,d,(e,f),g),h,i,j,k)),(kg (dW (a,(b,c,d,(e,f),g),h,i,j,k) l m) (a,(b,c,d,(e,f),g),h,i,j,k),dW (a,(b,c,d,(e,f),g),h,i,j,k) l m (kq (dW (a,(b,c,d,(e,f),g),h,i,j,k) l m) (a,(b,c,d,(e,f),g),h,i,j,k) n) (iq (a,(b,c,d,(e,f),g),h,i,j,k))),(2:Int))
def JZ(a:au)(b:List aN)(c:Int)(d:ae)(e f g h i:Int)(j:ae)(k:cH)(l m n p:Int)(q:ae)(r:Int×Int) :=
 dD (dW (a,(b,c,d,(e,f),g),h,i,j,k) l m) (ju (a,(b,c,d,(e,f),g),h,i,j,k) l m) (a,(b,c,d,(e,f),g),h,i,j,k) n=(Hl a b c d e f g h i j k l m n)/\(ku (a,(b,c,d,(e,f),g),h,i,j,k)).2.1≠([]:ae)/\(bS (b,c,d,(e,f),g),p,q,r,jI (b,c,d,(e,f),g))=j9 (a,(b,c,d,(e,f),g),h,i,j,k)
theorem ZM :
 ∀(a:au)(b:List aN)(c:Int)(d:ae)(e f g h i:Int)(j:ae)(k:cH)(l m n:Int),(CT.wf bU a/\((b.length<=maxLen/\ ∀(o:aN),o∈b->((0<=o.1.1/\o.1.1<=4294967295)/\aq o.1.2)/\(o.2.1.length<=maxLen/\ ∀(p:Int),p∈o.2.1->aq p)/\aq o.2.2)/\aq c/\(d.length<=maxLen/\ ∀(o:Int),o∈d->aq o)/\(aq e/\aq f)/\aq g)/\aq h/\aq i/\(j.length<=maxLen/\ ∀(o:Int),o∈j->0<=o/\o<=255)/\CT.wf jP k)/\True/\True/\aq l/\aq m/\(0<=n/\n<=4294967295)/\True->(tO b c d e f g j)-> ∀(o:Bool),o=decide (n=0)->(ah o)/\(ah o)/\(ah o)/\(ah o)/\(ar o)/\ao (bif o then a.2.2.2.2.2.2.2.2.2.2.2.1 else false) ((nG)=(mR a b c d e f g h i j k l m n).2.1/\4=(mR a b c d e f g h i j k l m n).2.2/\(a,(b,c,d,(e,f),g),h,i,j,k)=iR (a,(b,c,d,(e,f),g),h,i,j,k) (mR a b c d e f g h i j k l m n).1/\()=()/\l=l/\m=m) ((ac j)<=1000000/\ao (! decide (ju (a,(b,c,d,(e,f),g),h,i,j,k) l m
 (0:Int)=0)) ((nG)=(mR a b c d e f g h i j k l m n).2.1/\6=(mR a b c d e f g h i j k l m n).2.2/\(a,(b,c,d,(e,f),g),h,i,j,k)=iR (a,(b,c,d,(e,f),g),h,i,j,k) (mR a b c d e f g h i j k l m n).1/\()=()/\l=l/\m=m) (cJ (bS (b,c,d,(e,f),g))/\okL (bS (b,c,d,(e,f),g))/\ao (! fT (b,c,d,(e,f),g) k.2.2.2.2.2.1) ((nG)=(mR a b c d e f g h i j k l m n).2.1/\8=(mR a b c d e f g h i j k l m n).2.2/\(a,(b,c,d,(e,f),g),h,i,j,k)=iR (a,(b,c,d,(e,f),g),h,i,j,k) (mR a b c d e f g h i j k l m n).1/\()=()/\l=l/\m=m) (ao (! (ni a e f i).2) ((nG)=(mR a b c d e f g h i j k l m n).2.1/\5=(mR a b c d e f g h i j k l m n).2.2/\(a,(b,c,d,(ni a e f i).1,g),h,i,j,k)=iR (a,(b,c,d,(e,f),g),h,i,j,k) (mR a b c d e f g h i j k l m n).1/\()=()/\l=l/\m=m) (ao (decide (cj a h<(ac d))) (0<=cj a h/\cj a h<(ac d)/\0<=cj a h/\cj a h<(ac d)/\ ∃(p:Int) (q:List
 Int),∃(r:Int×Int),(JZ a b c d e f g h i j k l m n p q r)/\n=n/\cj a h=cj a h/\mJ a (b,c,d,(ni a e f i).1,g) (cj a h) i k.2.1 k.2.2.2.2.2.1=iq (a,(b,c,d,(e,f),g),h,i,j,k)/\(0:Int)=0/\(dZ b c d e f g k).1.1=(dZ b c d e f g k).1.1/\(dZ b c d e f g k).1.2=(dZ b c d e f g k).1.2/\(dZ b c d e f g k).2.1=(dZ b c d e f g k).2.1/\(dZ b c d e f g k).2.2=(dZ b c d e f g k).2.2/\dW (a,(b,c,d,(e,f),g),h,i,j,k) l m (adr a (cj a h)) (0:Int)=dW (a,(b,c,d,(e,f),g),h,i,j,k) l m (adr a (cj a h))
 (0:Int)/\l=l/\m=m/\a.1=a.1/\a.2.1=a.2.1/\a.2.2.1=a.2.2.1/\a.2.2.2.1=a.2.2.2.1/\a.2.2.2.2.1=a.2.2.2.2.1/\a.2.2.2.2.2.1=a.2.2.2.2.2.1/\a.2.2.2.2.2.2.1=a.2.2.2.2.2.2.1/\a.2.2.2.2.2.2.2.1=a.2.2.2.2.2.2.2.1/\a.2.2.2.2.2.2.2.2.1=a.2.2.2.2.2.2.2.2.1/\a.2.2.2.2.2.2.2.2.2.1=a.2.2.2.2.2.2.2.2.2.1/\a.2.2.2.2.2.2.2.2.2.2.1.1=a.2.2.2.2.2.2.2.2.2.2.1.1/\a.2.2.2.2.2.2.2.2.2.2.1.2=a.2.2.2.2.2.2.2.2.2.2.1.2/\a.2.2.2.2.2.2.2.2.2.2.2.1=a.2.2.2.2.2.2.2.2.2.2.2.1/\a.2.2.2.2.2.2.2.2.2.2.2.2.1=a.2.2.2.2.2.2.2.2.2.2.2.2.1/\a.2.2.2.2.2.2.2.2.2.2.2.2.2.1=a.2.2.2.2.2.2.2.2.2.2.2.2.2.1/\a.2.2.2.2.2.2.2.2.2.2.2.2.2.2=a.2.2.2.2.2.2.2.2.2.2.2.2.2.2/\b=bS (b,c,d,(e,f),g)/\aj (c+1)=p/\(ni a e f i).1.1=r.1/\(ni a e f i).1.2=r.2/\g=jI
 (b,c,d,(e,f),g)/\h=h/\i=i/\j=j/\k.1=k.1/\k.2.1=k.2.1/\k.2.2.1=k.2.2.1/\k.2.2.2.1=k.2.2.2.1/\k.2.2.2.2.1=k.2.2.2.2.1/\k.2.2.2.2.2.1=k.2.2.2.2.2.1/\k.2.2.2.2.2.2=k.2.2.2.2.2.2/\set d (toNat (cj a h)) (aj (ai d (cj a h)+1))=q/\True) (∃(p:Int) (q:ae),∃(r:Int×Int),(JZ a b c d e f g h i j k l m n p q r)/\n=n/\cj a h=cj a h/\mJ a (b,c,d,(ni a e f i).1,g) (cj a h) i k.2.1 k.2.2.2.2.2.1=iq (a,(b,c,d,(e,f),g),h,i,j,k)/\(0:Int)=0/\(dZ b c d e f g k).1.1=(dZ b c d e f g k).1.1/\(dZ b c d e f g k).1.2=(dZ b c d e f g k).1.2/\(dZ b c d e f g k).2.1=(dZ b c d e f g k).2.1/\(dZ b c d e f g k).2.2=(dZ b c d e f g k).2.2/\dW (a,(b,c,d,(e,f),g),h,i,j,k) l m (adr a (cj a h)) (0:Int)=dW (a,(b,c,d,(e,f),g),h,i,j,k) l m (adr a (cj a h))
 (0:Int)/\l=l/\m=m/\a.1=a.1/\a.2.1=a.2.1/\a.2.2.1=a.2.2.1/\a.2.2.2.1=a.2.2.2.1/\a.2.2.2.2.1=a.2.2.2.2.1/\a.2.2.2.2.2.1=a.2.2.2.2.2.1/\a.2.2.2.2.2.2.1=a.2.2.2.2.2.2.1/\a.2.2.2.2.2.2.2.1=a.2.2.2.2.2.2.2.1/\a.2.2.2.2.2.2.2.2.1=a.2.2.2.2.2.2.2.2.1/\a.2.2.2.2.2.2.2.2.2.1=a.2.2.2.2.2.2.2.2.2.1/\a.2.2.2.2.2.2.2.2.2.2.1.1=a.2.2.2.2.2.2.2.2.2.2.1.1/\a.2.2.2.2.2.2.2.2.2.2.1.2=a.2.2.2.2.2.2.2.2.2.2.1.2/\a.2.2.2.2.2.2.2.2.2.2.2.1=a.2.2.2.2.2.2.2.2.2.2.2.1/\a.2.2.2.2.2.2.2.2.2.2.2.2.1=a.2.2.2.2.2.2.2.2.2.2.2.2.1/\a.2.2.2.2.2.2.2.2.2.2.2.2.2.1=a.2.2.2.2.2.2.2.2.2.2.2.2.2.1/\a.2.2.2.2.2.2.2.2.2.2.2.2.2.2=a.2.2.2.2.2.2.2.2.2.2.2.2.2.2/\b=bS (b,c,d,(e,f),g)/\aj (c+1)=p/\(ni a e f i).1.1=r.1/\(ni a e f i).1.2=r.2/\g=jI
 (b,c,d,(e,f),g)/\h=h/\i=i/\j=j/\k.1=k.1/\k.2.1=k.2.1/\k.2.2.1=k.2.2.1/\k.2.2.2.1=k.2.2.2.1/\k.2.2.2.2.1=k.2.2.2.2.1/\k.2.2.2.2.2.1=k.2.2.2.2.2.1/\k.2.2.2.2.2.2=k.2.2.2.2.2.2/\d=q/\True)/\ ∀(p:Int)(q:ae)(r:Int×Int),dD (dW (a,(b,c,d,(e,f),g),h,i,j,k) l m) (ju (a,(b,c,d,(e,f),g),h,i,j,k) l m) (a,(b,c,d,(e,f),g),h,i,j,k) n=(Hl a b c d e f g h i j k l m n)/\(ku (a,(b,c,d,(e,f),g),h,i,j,k)).2.1≠([]:ae)/\(bS (b,c,d,(e,f),g),p,q,r,jI (b,c,d,(e,f),g))=j9 (a,(b,c,d,(e,f),g),h,i,j,k)->(dZ b c d e f g k).2.1≠([]:ae)/\((length (dW (a,(b,c,d,(e,f),g),h,i,j,k) l m (adr a (cj a h)) (0:Int))):Int)<=1000000/\ao (decide (n=0)) ((ac j)<=1000000/\(jg a (b,p,q,r,g) (dZ b c d e f g k) (bc (dW (a,(b,c,d,(e,f),g),h,i,j,k) l m (adr a (cj a h)) (0:Int))),dW (a,gD (b,p,q,r,g) (dZ b c d e f g k),h,i,j,k) l m (kI a (cj a h) (jg a
 (b,p,q,r,g) (dZ b c d e f g k) (bc (dW (a,(b,c,d,(e,f),g),h,i,j,k) l m (adr a (cj a h)) (0:Int))))) (iq (a,(b,c,d,(e,f),g),h,i,j,k)))=(mR a b c d e f g h i j k l m n).2.1/\2=(mR a b c d e f g h i j k l m n).2.2/\(a,gD (b,p,q,r,g) (dZ b c d e f g k),h,i,j,k)=iR (a,(b,c,d,(e,f),g),h,i,j,k) (mR a b c d e f g h i j k l m n).1/\()=()/\l=l/\m=m) ((ac j)<=1000000/\(jg a (b,p,q,r,g) (dZ b c d e f g k) (bc (dW (a,(b,c,d,(e,f),g),h,i,j,k) l m (adr a (cj a h)) (0:Int))),dW (a,gD (b,p,q,r,g) (dZ b c d e f g k),h,i,j,k) l m n (iq (a,(b,c,d,(e,f),g),h,i,j,k)))=(mR a b c d e f g h i j k l m n).2.1/\2=(mR a b c d e f g h i j k l m n).2.2/\(a,gD (b,p,q,r,g) (dZ b c d e f g k),h,i,j,k)=iR (a,(b,c,d,(e,f),g),h,i,j,k) (mR a b c d e f g h i j k l m n).1/\()=()/\l=l/\m=m))))):=by
  delta mR dZ Hl ni nG tO JZ ah ar aj ai ac;rintro d x x1 x2 x3 x4 x5 x6 x7 x8 h ki co own-⟨hs,hl,hb⟩;obtain⟨w,hw⟩:∃ w:dQ,w=(d,(x,x1,x2,(x3,x4),x5),x6,x7,x8,h):=⟨_,rfl⟩
  have e0:d.2.2.2.2.2.2.2.2.2.2.2.1=j4 w.1:=by rw[hw];rfl
  have e2:fT (x,x1,x2,(x3,x4),x5) h.2.2.2.2.2.1=fT w.2.1 (kP w.2.2.2.2.2):=by rw[hw];rfl
  have e3:kH d.2.2.2.2.2.2.2.2.2.2.1 (x3,x4) x7=mw w:=by rw[hw];rfl
  rw[e0,e2,e3,← hw];have fin:=λ{s o y}=>CJ (r:=dD (dW w ki co) (ju w ki co) w own) (s:=s) (o:=o) (y:=y) w;intro b hb0
  (repeat refine⟨(by first|(simp;done)|(rw[hb0];simp;done)|(cases b <;> simp)),?_⟩);have hq:(bif b then j4 w.1 else false)=true↔own=0/\j4 w.1=true:=by rw[hb0];by_cases k:own=0 <;> simp[k]
  refine aw (λh0=>?_) (λh0=>?_)
  .obtain⟨f1,f2,f3⟩:=fin (xk (hq.1 h0));exact⟨f1,f2,by rw[← f3,hw];rfl,rfl,rfl,rfl⟩
  have h0:¬ (own=0/\j4 w.1=true):=λk=>by rw[hq.2 k] at h0;cases h0
  refine⟨hb,aw (λh1=>?_) (λh1=>?_)⟩
  .obtain⟨f1,f2,f3⟩:=fin (yd h0 (by simpa using h1));exact⟨f1,f2,by rw[← f3,hw];rfl,rfl,rfl,rfl⟩
  have h1:¬ (ju w ki co) 0≠0:=by simpa using h1
  refine⟨hs,hl,aw (λh2=>?_) (λh2=>?_)⟩
  .obtain⟨f1,f2,f3⟩:=fin (Ak h0 h1 (by simpa using h2));exact⟨f1,f2,by rw[← f3,hw];rfl,rfl,rfl,rfl⟩
  have h2:¬ fT w.2.1 (kP w.2.2.2.2.2)=false:=by simpa using h2
  refine aw (λh3=>?_) (λh3=>⟨?_,?_⟩)
  .obtain⟨f1,f2,f3⟩:=fin (Ao h0 h1 h2 (by simpa using h3));exact⟨f1,f2,by rw[← f3,hw];rfl,rfl,rfl,rfl⟩
  .have h3:¬ (mw w).2=false:=by simpa using h3
   have eg:=zN (B:=dW w ki co) h0 h1 h2 h3;have hne:(ku w).2.1≠[]:=BD h2;have hin:=D5 d x6;have qc:mJ d (x,x1,x2,(mw w).1,x5) (cj d x6) x7 h.2.1 h.2.2.2.2.2.1=iq w:=by rw[← e3,hw];rfl
   have hS:j9 w=(x,IntKind.i64.wrap (x1+1),qV x2 (cj d x6),(mw w).1,x5):=by rw[← e3,hw];rfl
   refine bT (λh4=>?_) (λh4=>?_)
   .refine⟨hin,h4,hin,h4,_,_,_,⟨eg,hne,?_⟩,rfl,rfl,qc,aP⟩;rw[hS,HW h4];rfl
   .refine⟨_,_,_,⟨eg,hne,?_⟩,rfl,rfl,qc,aP⟩;rw[hS,PG h4];rfl
  .rintro k l t ⟨eg,hne,hS⟩;have e4:bf (bS (x,x1,x2,(x3,x4),x5)) h.2.2.2.2.2.1=ku w:=by rw[hw];rfl
   have e5:(x,k,l,t,x5)=j9 w:=hS;have e6:jg d (j9 w) (ku w) (bc ((dW w ki co) (adr d (cj d x6)) 0))=kg (dW w ki co) w:=by rw[hw];rfl
   rw[e4,e5,e6];obtain⟨f1,f2,f3⟩:=fin eg;have hlen:=H6 w ki co (adr d (cj d x6)) 0;refine⟨hne,ab,bT (λh4=>?_) (λh4=>?_)⟩
   .refine⟨hb,?_,f2,by rw[← f3,hw];rfl,rfl,rfl,rfl⟩;rw[← f1];unfold kq;rw[am h4,hw];rfl
   .refine⟨hb,?_,f2,by rw[← f3,hw];rfl,rfl,rfl,rfl⟩;rw[← f1];unfold kq;rw[af h4,hw];rfl
theorem aN6:aB 200 P3.spec:=aF Tryz.func200 (av (av (av (av (av (av (av (av aC Ms) F5) WT) Kk) MU) RH) H5) PJ) aP6 ZM
def X5:Ct:=⟨[.box 238 pO],[.agg wV,.val cI],λd=>[pz d.1],λd=>(((ig d.1).2.1,(ig d.1).2.2,()),(iR d.1 (ig d.1).1,()))⟩
def ET(a:au)(b:List aN)(c:Int)(d:ae)(e f g h i:Int)(j:ae)(k:cH) :=
 dD (fW (a,(b,c,d,(e,f),g),h,i,j,k)) (kX (a,(b,c,d,(e,f),g),h,i,j,k)) (a,(b,c,d,(e,f),g),h,i,j,k) k.2.2.2.2.2.2
def Fs(a:au)(b:List aN)(c:Int)(d:ae)(e f g h i:Int)(j:ae)(k:cH) :=
 dD (fW (a,(b,c,d,(e,f),g),h,i,j,k)) (kX (a,(b,c,d,(e,f),g),h,i,j,k)) (a,(b,c,d,(e,f),g),h,i,j,k) (0:Int)
theorem aL4 :
 ∀(a:au)(b:List aN)(c:Int)(d:ae)(e f g h i:Int)(j:ae)(k:cH),(wv a b c d e f g h i j k)/\True->(tO b c d e f g j)->(ac j)<=1000000/\ ∀(l:Bool),l=decide (h= -1)->(ah (! l))/\(aE l)/\ao (bif l then true else ! decide (kX (a,(b,c,d,(e,f),g),h,i,j,k) (0:Int)=0)) ((nG)=(ig (a,(b,c,d,(e,f),g),h,i,j,k)).2.1/\1=(ig (a,(b,c,d,(e,f),g),h,i,j,k)).2.2/\(a,(b,c,d,(e,f),g),h,i,j,k)=iR (a,(b,c,d,(e,f),g),h,i,j,k) (ig (a,(b,c,d,(e,f),g),h,i,j,k)).1) (ao (decide (k.2.2.2.1=17)) (pz (a,(b,c,d,(e,f),g),h,i,j,k)/\(Fs a b c d e f g h i j k).2.1=(ig (a,(b,c,d,(e,f),g),h,i,j,k)).2.1/\(Fs a b c d e f g h i j k).2.2=(ig (a,(b,c,d,(e,f),g),h,i,j,k)).2.2/\(a,(Fs a b c d e f g h i j k).1,h,i,j,k)=iR (a,(b,c,d,(e,f),g),h,i,j,k) (ig (a,(b,c,d,(e,f),g),h,i,j,k)).1) (pz (a,(b,c,d,(e,f),g),h,i,j,k)/\(ET a b c d e f g h i j k).2.1=(ig
 (a,(b,c,d,(e,f),g),h,i,j,k)).2.1/\(ET a b c d e f g h i j k).2.2=(ig (a,(b,c,d,(e,f),g),h,i,j,k)).2.2/\(a,(ET a b c d e f g h i j k).1,h,i,j,k)=iR (a,(b,c,d,(e,f),g),h,i,j,k) (ig (a,(b,c,d,(e,f),g),h,i,j,k)).1)):=by
  delta wv nG tO ET Fs ah aE ac;rintro d x x1 x2 x3 x4 x5 x6 x7 x8 h-⟨hs,hl,hb⟩;obtain⟨w,hw⟩:∃ w:dQ,w=(d,(x,x1,x2,(x3,x4),x5),x6,x7,x8,h):=⟨_,rfl⟩
  rw[← hw];have fin:=λ{s o y}=>CJ (r:=ig w) (s:=s) (o:=o) (y:=y) w;have e0:w.2.2.1=x6:=by rw[hw]
  have e1:h=w.2.2.2.2.2:=by rw[hw]
  have okw:pz w:=by rw[hw];exact⟨hs,hl,hb⟩
  refine⟨hb,?_⟩
  (repeat (refine bX ?_;repeat refine bZ ?_));refine rX (λho=>?_) (λh1 h2=>?_)
  .obtain⟨f1,f2,f3⟩:=fin (s:=w.2.1) (o:=iK) (y:=1) (by unfold ig;rw[am];rcases ho with q|q;left;rw[e0];exact aI q;right;simpa using q);exact⟨f1,f2,by rw[← f3,hw];rfl⟩
  have hn:¬ (w.2.2.1 = -1∨kX w 0≠0):=by
   rintro (q|q)
   .rw[e0] at q;exact aL h1 q
   .apply q;simpa using h2
  have er:ig w=dD (fW w) (kX w) w (if h.2.2.2.1=17 then 0 else h.2.2.2.2.2.2):=by unfold ig;rw[af hn,e1];rfl
  rw[er];refine bT (λh3=>?_) (λh3=>?_)
  .rw[am h3];exact⟨okw,rfl,rfl,by rw[hw];rfl⟩
  .rw[af h3];exact⟨okw,rfl,rfl,by rw[hw];rfl⟩
theorem TK:aB 186 X5.spec:=aF Tryz.func186 (av (av aC OZ) aN9) aT aL4
def av0:Ct:=⟨[.box 238 pO],[.agg wV,.val cI],λd=>[pz d.1],λd=>(((fH d.1).2.1,(fH d.1).2.2,()),(iR d.1 (fH d.1).1,()))⟩
def EN(a:au)(b:List aN)(c:Int)(d:ae)(e f g h i:Int)(j:ae)(k:cH) :=
 dD (dW (a,(b,c,d,(e,f),g),h,i,j,k) (11:Int) (0:Int)) (ju (a,(b,c,d,(e,f),g),h,i,j,k) (11:Int) (0:Int)) (a,(b,c,d,(e,f),g),h,i,j,k) (0:Int)
def Dg(a:au)(b:List aN)(c:Int)(d:ae)(e f g h i:Int)(j:ae)(k:cH) :=
 dD (dW (a,(b,c,d,(e,f),g),h,i,j,k) (3:Int) (0:Int)) (ju (a,(b,c,d,(e,f),g),h,i,j,k) (3:Int) (0:Int)) (a,(b,c,d,(e,f),g),h,i,j,k) (0:Int)
theorem ab1 :
 ∀(a:au)(b:List aN)(c:Int)(d:ae)(e f g h i:Int)(j:ae)(k:cH),(wv a b c d e f g h i j k)/\True->(tO b c d e f g j)-> ∀(l:Bool),l= ! decide (h= -1)->(ah l)/\(ah l)/\(ah l)/\(ah l)/\(ah l)/\(ar l)/\ ∀(m:Bool),(m=bif l then ! a.2.2.2.2.2.2.2.2.2.2.2.2.1 else false)->(ah m)/\(ah m)/\(ah m)/\(ah m)/\(ah m)/\(ar m)/\ao (bif m then decide (k.2.2.1<2) else false) (pz (a,(b,c,d,(e,f),g),h,i,j,k)/\(EN a b c d e f g h i j k).2.1=(fH (a,(b,c,d,(e,f),g),h,i,j,k)).2.1/\(EN a b c d e f g h i j k).2.2=(fH (a,(b,c,d,(e,f),g),h,i,j,k)).2.2/\(a,(EN a b c d e f g h i j k).1,h,i,j,k)=iR (a,(b,c,d,(e,f),g),h,i,j,k) (fH (a,(b,c,d,(e,f),g),h,i,j,k)).1) (cJ (bS (b,c,d,(e,f),g))/\okL (bS (b,c,d,(e,f),g))/\ ∀(n:Bool),n= ! fT (b,c,d,(e,f),g) k.2.2.2.2.2.2->(ar n)/\ao (bif n then decide (h= -1) else false) ((nG)=(fH
 (a,(b,c,d,(e,f),g),h,i,j,k)).2.1/\8=(fH (a,(b,c,d,(e,f),g),h,i,j,k)).2.2/\(a,(b,c,d,(e,f),g),h,i,j,k)=iR (a,(b,c,d,(e,f),g),h,i,j,k) (fH (a,(b,c,d,(e,f),g),h,i,j,k)).1) (ao (! fT (b,c,d,(e,f),g) k.2.2.2.2.2.2) (pz (a,(b,c,d,(e,f),g),h,i,j,k)/\(Dg a b c d e f g h i j k).2.1=(fH (a,(b,c,d,(e,f),g),h,i,j,k)).2.1/\(Dg a b c d e f g h i j k).2.2=(fH (a,(b,c,d,(e,f),g),h,i,j,k)).2.2/\(a,(Dg a b c d e f g h i j k).1,h,i,j,k)=iR (a,(b,c,d,(e,f),g),h,i,j,k) (fH (a,(b,c,d,(e,f),g),h,i,j,k)).1) ((bf (bS (b,c,d,(e,f),g)) k.2.2.2.2.2.2).2.1≠([]:ae)/\(ac j)<=1000000/\j=j/\j=j/\(ac j)<=1099511627776/\ ∀(o:Bool),o= ! decide (h= -1)->(ah o)/\(ah o)/\(ah o)/\(ah o)/\(ah o)/\(ar o)/\ao (bif o then ! a.2.2.2.2.2.2.2.2.2.2.2.2.1 else false) ((ac j)<=1099511627776/\(jg a (b,c,d,(e,f),g) (bf (bS (b,c,d,(e,f),g)) k.2.2.2.2.2.2) (bc j),io j)=(fH
 (a,(b,c,d,(e,f),g),h,i,j,k)).2.1/\0=(fH (a,(b,c,d,(e,f),g),h,i,j,k)).2.2/\(a,gD (b,c,d,(e,f),g) (bf (bS (b,c,d,(e,f),g)) k.2.2.2.2.2.2),h,i,j,k)=iR (a,(b,c,d,(e,f),g),h,i,j,k) (fH (a,(b,c,d,(e,f),g),h,i,j,k)).1) ((jg a (b,c,d,(e,f),g) (bf (bS (b,c,d,(e,f),g)) k.2.2.2.2.2.2) (bc j),j)=(fH (a,(b,c,d,(e,f),g),h,i,j,k)).2.1/\0=(fH (a,(b,c,d,(e,f),g),h,i,j,k)).2.2/\(a,gD (b,c,d,(e,f),g) (bf (bS (b,c,d,(e,f),g)) k.2.2.2.2.2.2),h,i,j,k)=iR (a,(b,c,d,(e,f),g),h,i,j,k) (fH (a,(b,c,d,(e,f),g),h,i,j,k)).1)))):=by
  delta wv nG tO EN Dg ah ar ac;rintro d x x1 x2 x3 x4 x5 x6 x7 x8 h-⟨hs,hl,hb⟩;obtain⟨w,hw⟩:∃ w:dQ,w=(d,(x,x1,x2,(x3,x4),x5),x6,x7,x8,h):=⟨_,rfl⟩
  have e0:d.2.2.2.2.2.2.2.2.2.2.2.2.1=dI w.1:=by rw[hw];rfl
  have e2:fT (x,x1,x2,(x3,x4),x5) h.2.2.2.2.2.2=fT w.2.1 (jo w.2.2.2.2.2):=by rw[hw];rfl
  have e3:x6=w.2.2.1:=by rw[hw]
  have e4:h.2.2.1=sV w.2.2.2.2.2:=by rw[hw];rfl
  have e5:bf (bS (x,x1,x2,(x3,x4),x5)) h.2.2.2.2.2.2=bf (bS w.2.1) (jo w.2.2.2.2.2):=by rw[hw];rfl
  have okw:pz w:=by rw[hw];exact⟨hs,hl,hb⟩
  have fin:=λ{s o y}=>CJ (r:=fH w) (s:=s) (o:=o) (y:=y) w;rw[← hw,e0,e2,e4,e5];intro b hb0
  (repeat refine⟨(by first|(simp;done)|(rw[hb0];simp;done)|(cases b <;> simp)),?_⟩);intro b1 hb1
  (repeat refine⟨(by first|(simp;done)|(rw[hb1];simp;done)|(cases b1 <;> simp)|(cases b <;> cases b1 <;> simp)),?_⟩);have h1b:b1=true↔w.2.2.1 ≠ -1/\dI w.1=false:=by rw[hb1,hb0,e3];by_cases k:w.2.2.1 = -1 <;> cases dI w.1 <;> simp[k]
  have hq:(bif b1 then decide (sV w.2.2.2.2.2<2) else false)=true↔w.2.2.1 ≠ -1/\dI w.1=false/\sV w.2.2.2.2.2<2:=by
   rw[← and_assoc,← h1b];cases b1 <;> simp
  refine aw (λk1=>?_) (λk1=>?_)
  .have e:fH w=dD (dW w 11 0) (ju w 11 0) w 0:=by unfold fH;rw[am (hq.1 k1)]
   rw[e];exact⟨okw,rfl,rfl,by rw[hw];rfl⟩
  have k1:¬ (w.2.2.1 ≠ -1/\dI w.1=false/\sV w.2.2.2.2.2<2):=λk=>by rw[hq.2 k] at k1;cases k1
  refine⟨hs,hl,?_⟩;intro c hc
  (repeat refine⟨(by first|(simp;done)|(rw[hc];simp;done)|(cases c <;> simp)),?_⟩);refine aw (λk2=>?_) (λk2=>?_)
  .have q:fT w.2.1 (jo w.2.2.2.2.2)=false/\w.2.2.1 = -1:=by
    rw[hc,e3] at k2;cases hh:fT w.2.1 (jo w.2.2.2.2.2) with
    | true=>rw[hh] at k2;simp at k2
    | false=>rw[hh] at k2;exact⟨rfl,by simpa using k2⟩
   obtain⟨f1,f2,f3⟩:=fin (s:=w.2.1) (o:=iK) (y:=8) (by unfold fH;rw[af k1,am q.1,am q.2]);exact⟨f1,f2,by rw[← f3,hw];rfl⟩
  refine aw (λk3=>?_) (λk3=>?_)
  .have k3:fT w.2.1 (jo w.2.2.2.2.2)=false:=by simpa using k3
   have q:¬ w.2.2.1 = -1:=λq=>by rw[hc,k3,e3,q] at k2;simp at k2
   have e:fH w=dD (dW w 3 0) (ju w 3 0) w 0:=by unfold fH;rw[af k1,am k3,af q]
   rw[e];exact⟨okw,rfl,rfl,by rw[hw];rfl⟩
  have k3:¬ fT w.2.1 (jo w.2.2.2.2.2)=false:=by simpa using k3
  refine⟨BD k3,hb,?_⟩;clear h1b hq
  (repeat refine⟨(by first|(with_reducible rfl)|trivial|omega),?_⟩);intro b' hb0'
  (repeat refine⟨(by first|(simp;done)|(rw[hb0'];simp;done)|(cases b' <;> simp)),?_⟩);have hq:(bif b' then !dI w.1 else false)=true↔w.2.2.1 ≠ -1/\dI w.1=false:=by rw[hb0',e3];by_cases k:w.2.2.1 = -1 <;> cases dI w.1 <;> simp[k]
  have e:fH w=(gD w.2.1 (bf (bS w.2.1) (jo w.2.2.2.2.2)),(jg w.1 w.2.1 (bf (bS w.2.1) (jo w.2.2.2.2.2)) (bc w.2.2.2.2.1),if w.2.2.1 ≠ -1/\dI w.1=false then io w.2.2.2.2.1 else w.2.2.2.2.1),0):=by unfold fH;rw[af k1,af k3]
  obtain⟨f1,f2,f3⟩:=fin e;refine aw (λk4=>?_) (λk4=>?_)
  .refine⟨ab,?_,f2,by rw[← f3,hw];rfl⟩;rw[← f1,am (hq.1 k4),hw]
  .refine⟨?_,f2,by rw[← f3,hw];rfl⟩;rw[← f1,af (λk=>by rw[hq.2 k] at k4;cases k4),hw]
theorem U4:aB 187 av0.spec:=aF Tryz.func187 (av (av (av (av (av (av aC Sv) aN6) Kk) H5) Yo) r4) aT ab1
def al3:Ct:=⟨[.box 238 pO],[.agg wV,.val cI],λd=>[pz d.1],λd=>(((gg d.1).2.1,(gg d.1).2.2,()),((d.1.1,(gg d.1).1,d.1.2.2.1,d.1.2.2.2.1,d.1.2.2.2.2.1,(aY d.1.2.2.2.2.1).1),()))⟩
theorem aG7 :
 ∀(a:au)(b:List aN)(c:Int)(d:ae)(e f g h i:Int)(j:ae)(k:cH),(wv a b c d e f g h i j k)/\True->(tO b c d e f g j)->(ac j)<=1099511627776/\ao (! decide (bY j=0)) ((nG)=(gg (a,(b,c,d,(e,f),g),h,i,j,k)).2.1/\6=(gg (a,(b,c,d,(e,f),g),h,i,j,k)).2.2/\(a,(b,c,d,(e,f),g),h,i,j,(aY j).1)=(a,(gg (a,(b,c,d,(e,f),g),h,i,j,k)).1,h,i,j,(aY j).1)) (ao (dC a (aY j).1.2.2.2.2.2.2) (pz (a,(b,c,d,(e,f),g),h,i,j,(aY j).1)/\(ig (a,(b,c,d,(e,f),g),h,i,j,(aY j).1)).2.1=(gg (a,(b,c,d,(e,f),g),h,i,j,k)).2.1/\(ig (a,(b,c,d,(e,f),g),h,i,j,(aY j).1)).2.2=(gg (a,(b,c,d,(e,f),g),h,i,j,k)).2.2/\(a,(ig (a,(b,c,d,(e,f),g),h,i,j,(aY j).1)).1,h,i,j,(aY j).1)=(a,(gg (a,(b,c,d,(e,f),g),h,i,j,k)).1,h,i,j,(aY j).1)) (∀(l:Bool),l=a.2.2.2.1->(ah l)/\(ah l)/\(ah l)/\(ah l)/\(ar l)/\ao (bif l then ! decide (h= -1) else false)
 ((nG)=(gg (a,(b,c,d,(e,f),g),h,i,j,k)).2.1/\6=(gg (a,(b,c,d,(e,f),g),h,i,j,k)).2.2/\(a,(b,c,d,(e,f),g),h,i,j,(aY j).1)=(a,(gg (a,(b,c,d,(e,f),g),h,i,j,k)).1,h,i,j,(aY j).1)) (pz (a,(b,c,d,(e,f),g),h,i,j,(aY j).1)/\(fH (a,(b,c,d,(e,f),g),h,i,j,(aY j).1)).2.1=(gg (a,(b,c,d,(e,f),g),h,i,j,k)).2.1/\(fH (a,(b,c,d,(e,f),g),h,i,j,(aY j).1)).2.2=(gg (a,(b,c,d,(e,f),g),h,i,j,k)).2.2/\(a,(fH (a,(b,c,d,(e,f),g),h,i,j,(aY j).1)).1,h,i,j,(aY j).1)=(a,(gg (a,(b,c,d,(e,f),g),h,i,j,k)).1,h,i,j,(aY j).1)))):=by
  delta wv nG tO ah ar ac;rintro d x x1 x2 x3 x4 x5 x6 x7 x8 h-⟨hs,hl,hb⟩;refine⟨ab,aw (λh1=>?_) (λh1=>?_)⟩
  .have e:gg (d,(x,x1,x2,(x3,x4),x5),x6,x7,x8,h)=((x,x1,x2,(x3,x4),x5),iK,6):=by unfold gg;rw[am (by simpa using h1)]
   rw[e];exact⟨rfl,rfl,rfl⟩
  have h1:¬ bY x8≠0:=by simpa using h1
  refine aw (λh2=>?_) (λh2=>?_)
  .have e:gg (d,(x,x1,x2,(x3,x4),x5),x6,x7,x8,h)=ig (d,(x,x1,x2,(x3,x4),x5),x6,x7,x8,(aY x8).1):=by unfold gg;rw[af h1];exact am h2
   rw[e];exact⟨⟨hs,hl,hb⟩,rfl,rfl,rfl⟩
  have h2:¬ dC d (jo (aY x8).1)=true:=by show ¬ dC d (aY x8).1.2.2.2.2.2.2=true;rw[h2];simp
  intro b hb0
  (repeat refine⟨(by first|(simp;done)|(rw[hb0];simp;done)|(cases b <;> simp)),?_⟩);have hq:(bif b then !decide (x6 = -1) else false)=true↔iG d=true/\x6 ≠ -1:=by rw[hb0];show (bif d.2.2.2.1 then _ else _)=true↔d.2.2.2.1=true/\_;cases d.2.2.2.1 <;> simp
  refine aw (λh3=>?_) (λh3=>?_)
  .have e:gg (d,(x,x1,x2,(x3,x4),x5),x6,x7,x8,h)=((x,x1,x2,(x3,x4),x5),iK,6):=by unfold gg;rw[af h1,af h2];exact am (hq.1 h3)
   rw[e];exact⟨rfl,rfl,rfl⟩
  .have e:gg (d,(x,x1,x2,(x3,x4),x5),x6,x7,x8,h)=fH (d,(x,x1,x2,(x3,x4),x5),x6,x7,x8,(aY x8).1):=by unfold gg;rw[af h1,af h2];exact af (λk=>by rw[hq.2 k] at h3;cases h3)
   rw[e];exact⟨⟨hs,hl,hb⟩,rfl,rfl,rfl⟩
theorem aj7:aB 158 al3.spec:=aF Tryz.func158 (av (av (av (av aC Bd) HA) TK) U4) aT aG7
def au6:Ct:=⟨[.val (.sl dh)],[.own 96 dh],λd=>[(d.1.length:Int)<=134217728],λd=>((d.1,()),())⟩
theorem aW6 :
 ∀(a:List aN),(a.length<=maxLen/\ ∀(b:aN),b∈a->((0<=b.1.1/\b.1.1<=4294967295)/\aq b.1.2)/\(b.2.1.length<=maxLen/\ ∀(c:Int),c∈b.2.1->aq c)/\aq b.2.2)/\True->(ac a)<=134217728-> ∀(b:Bool),(b=true->a.length=(0:Nat))->ao b (([]:List aN)=a) (((0:Nat)+a.length)*(48:Nat)<=(140737488355328:Nat)/\a=a):=by
  delta ac;rintro x ⟨⟨hl,-⟩,-⟩ h b hb;refine aw (λh1=>?_) (λh1=>⟨ab,aA⟩);have:=hb h1;exact (oV this).symm
theorem RT:aB 118 au6.spec:=aF Tryz.func118 aC aT aW6
abbrev fU:CT := .pair cI (.pair cI (.pair cI (.pair cI (.pair cI cI))))
abbrev fh:CT := .pair cI (.pair cI (.pair .bool dh))
abbrev ib:CT := .pair (.sl bU) (.pair (.sl fU) (.sl fh))
abbrev aK:Type:=Int×Int×Int×Int×Int×Int
abbrev aV:Type:=Int×Int×Bool×Rt
abbrev aQ:Type:=List au×List aK×List aV
abbrev aX:Type:=ae×Int
abbrev pj:Type:=Int×Int
def lA(l:aK):Int:=l.1
def lB(l:aK):Int:=l.2.1
def gQ(l:aK):Int:=l.2.2.1
def fO(l:aK):Int:=l.2.2.2.1
def oF(l:aK):Int:=l.2.2.2.2.1
def wD(l:aK):Int:=l.2.2.2.2.2
theorem nt{α:Type} [Inhabited α] {l:List α} {i j:Nat} {a:α} (h:i≠j):(l.set i a).getD j default=l.getD j default:=by
 rw[bJ,bJ,List.getElem?_set_ne h]
def BP(c:aX):Int:=c.1.getD c.2.toNat default
def nu(c:aX)(n:Int):Int×aX:=if (c.1.length:Int)<=c.2∨n<1 then (0,c) else ((BP c).tmod n,(c.1,c.2+1))
def ax(c:aX)(n:Int):Int×aX :=
 if (c.1.length:Int)<=c.2∨n<1 then (0,c)
 else if 256<n then ((256*BP c+(nu (c.1,c.2+1) 256).1).tmod n,(nu (c.1,c.2+1) 256).2)
 else ((BP c).tmod n,(c.1,c.2+1))
structure cT (c:aX):Prop where
 at':aS c
 b:∀ x∈c.1,0<=x/\x<=255
theorem cT.code{c:aX}(h:cT c)(hb:¬ (c.1.length:Int)<=c.2):0<=BP c/\BP c<=255:=h.b _ (bR h.at'.1 ab)
theorem Nt{c:aX}(h:cT c)(n:Int):cT (nu c n).2/\0<=(nu c n).1/\((nu c n).1<n∨(nu c n).1=0):=by
 unfold nu
 split
 .exact⟨h,aA,.inr rfl⟩
 next hb=>have hc:=h.code ab;have ha:=h.at';exact⟨⟨⟨by have:=ha.1;show 0<=c.2+1;omega,by show c.2+1<=(c.1.length:Int);omega⟩,h.b⟩,r5 hc.1,.inl (rY hc.1 ab)⟩
theorem dq{c:aX}(h:cT c)(n:Int):cT (ax c n).2/\0<=(ax c n).1/\((ax c n).1<n∨(ax c n).1=0):=by
 unfold ax
 split
 .exact⟨h,aA,.inr rfl⟩
 next hb=>
  have hc:=h.code ab;have ha:=h.at';have h1:cT (c.1,c.2+1):=⟨⟨by have:=ha.1;show 0<=c.2+1;omega,by show c.2+1<=(c.1.length:Int);omega⟩,h.b⟩
  split
  .have k:=Nt h1 256;exact⟨k.1,r5 ab,.inl (rY ab ab)⟩
  .exact⟨h1,r5 hc.1,.inl (rY hc.1 ab)⟩
theorem fu{c:aX}(h:cT c){n:Int}(hn:0<n):0<=(ax c n).1/\(ax c n).1<n:=by
 have:=dq h n;omega
def sk(i:Int)(host:Bool)(f sd:Int):au:=([],0,1+i/3,host,[],1,0,0,0,0,(0,0),false,false,f,sd)
abbrev bu:Type:=aQ×aX
def kx(s:bu)(host:Bool):bu :=
 ((s.1.1++[sk s.1.1.length host (([64,255,128]:ae).getD (ax s.2 3).1.toNat default) (ax (ax s.2 3).2 256).1],s.1.2),(ax (ax s.2 3).2 256).2)
def kA(ns:List au)(x:Int)(p:pj):List au:=ns.set x.toNat ((ns.getD x.toNat default).1++[p],(ns.getD x.toNat default).2)
def gv(l:Int):Int:=167837696+4*l
def js(s:bu)(a b:Int):bu :=
 ((kA (kA s.1.1 a (gv s.1.2.1.length+1,s.1.2.1.length)) b (gv s.1.2.1.length+2,s.1.2.1.length),
   s.1.2.1++[(a,b,1+(ax s.2 20).1,0,0,(ax (ax s.2 20).2 256).1)],s.1.2.2),(ax (ax s.2 20).2 256).2)
def lh(k:Int):ae->ae
 | []=>[k]
 | x::r=>if k<x then k::x::r else x::lh k r
theorem L3{k:Int}:∀{l:ae},(∀ x∈l,¬ k<x)->lh k l=l++[k]
 | [],_=>rfl
 | x::r,h=>by rw[lh,af (h x fY),L3 λy hy=>h y (fM _ hy)];rfl
theorem RW{k:Int}{m:ae}:∀{l:ae},(∃ x∈l,k<x)->lh k (l++m)=lh k l++m
 | [],h=>by obtain⟨x,hx,-⟩:=h;cases hx
 | y::r,h=>by
  rw[mF,lh,lh];by_cases hy:k<y
  .rw[am hy,am hy];rfl
  .rw[af hy,af hy,RW (l:=r)];rfl;obtain⟨x,hx,hk⟩:=h;rcases dK.1 hx with rfl|hx
   .exact absurd hk hy
   .exact⟨x,hx,hk⟩
theorem Nq{k x:Int}:∀{l:ae},(∀ y∈l,¬ k<y)->k<x->lh k (l++[x])=l++[k]++[x]
 | [],_,h=>by rw[si,lh,am h];rfl
 | y::r,h,hk=>by rw[mF,lh,af (h y fY),Nq (λz hz=>h z (fM _ hz)) hk];rfl
theorem Ka(k:Int):∀ l:ae,(lh k l).length=l.length+1
 | []=>rfl
 | x::r=>by rw[lh];split <;> simp[Ka k r]
def rL(l:List Rt)(p:d9):Nat:=l.findIdx λr=>decide (r.1=p)
def zm(x:au)(l:List Rt):au:=(x.1,x.2.1,x.2.2.1,x.2.2.2.1,l,x.2.2.2.2.2)
def wb(l:List Rt)(p:d9)(k way:Int):List Rt :=
 if rL l p<l.length then
  if k∈(l.getD (rL l p) default).2.1 then l else f6 l (p,lh k (l.getD (rL l p) default).2.1,(l.getD (rL l p) default).2.2)
 else f6 l (p,[k],way)
def sO(ns:List au)(n:Int)(p:d9)(k way:Int):List au:=ns.set n.toNat (zm (ns.getD n.toNat default) (wb (aU (ns.getD n.toNat default)) p k way))
def rI(d:ae)(l:aK):ae :=
 (d.set (lA l).toNat (min (d.getD (lA l).toNat default) (d.getD (lB l).toNat default+1))).set (lB l).toNat (min (d.getD (lB l).toNat default) (d.getD (lA l).toNat default+1))
def eU(nn:Nat)(ls:List aK)(to:Int):ae:=(range nn).foldl (λd _=>ls.foldl rI d) ((replicate nn (1000:Int)).set to.toNat 0)
def sc(d:ae)(to:Int)(p:d9)(plain:Bool)(k way:Int)(ns:List au)(a b:Int):List au :=
 if d.getD a.toNat default≠d.getD b.toNat default+1∨(b≠to/\iG (ns.getD b.toNat default)=true) then ns
 else if plain=true/\m7 (aU (ns.getD a.toNat default)) p=true then ns else sO ns a p k way
def stepK(ls:List aK)(d:ae)(to:Int)(p:d9)(plain:Bool)(way:Int)(ns:List au)(k:Nat):List au :=
 sc d to p plain k way (sc d to p plain k way ns (lA (ls.getD k default)) (lB (ls.getD k default))) (lB (ls.getD k default)) (lA (ls.getD k default))
def stepP(ls:List aK)(d:ae)(to:Int)(plain:Bool)(way:Int)(ns:List au)(q:pj):List au :=
 (range ls.length).foldl (stepK ls d to (q.1,32) plain way) ns
def oB(c:aX):Int×aX:=if 1+(ax c 3).1=3 then (if 0<(ax (ax c 3).2 3).1 then 1 else 3,(ax (ax c 3).2 3).2) else (1+(ax c 3).1,(ax c 3).2)
def stepT(ls:List aK)(plain:Bool)(s:List au×aX)(to:Nat):List au×aX :=
 ((ay (s.1.getD to default)).foldl (stepP ls (eU s.1.length ls to) to plain (oB s.2).1) s.1,(oB s.2).2)
def A7(s:bu)(plain:Bool):bu :=
 let r:=(range s.1.1.length).foldl (stepT s.1.2.1 plain) (s.1.1,s.2)
 ((r.1,s.1.2),r.2)
def aN7(x:au):au:=(x.1,x.2.1,x.2.2.1,x.2.2.2.1,x.2.2.2.2.1,x.2.2.2.2.2.1,x.2.2.2.2.2.2.1,x.2.2.2.2.2.2.2.1,x.2.2.2.2.2.2.2.2.1,x.2.2.2.2.2.2.2.2.2.1,x.2.2.2.2.2.2.2.2.2.2.1,true,x.2.2.2.2.2.2.2.2.2.2.2.2)
def TZ(x:au)(b:Int×Int):au:=(x.1,x.2.1,x.2.2.1,x.2.2.2.1,x.2.2.2.2.1,x.2.2.2.2.2.1,x.2.2.2.2.2.2.1,x.2.2.2.2.2.2.2.1,x.2.2.2.2.2.2.2.2.1,x.2.2.2.2.2.2.2.2.2.1,b,x.2.2.2.2.2.2.2.2.2.2.2)
def Ff(x:au)(b:Bool):au:=(x.1,x.2.1,x.2.2.1,x.2.2.2.1,x.2.2.2.2.1,x.2.2.2.2.2.1,x.2.2.2.2.2.2.1,x.2.2.2.2.2.2.2.1,x.2.2.2.2.2.2.2.2.1,x.2.2.2.2.2.2.2.2.2.1,x.2.2.2.2.2.2.2.2.2.2.1,x.2.2.2.2.2.2.2.2.2.2.2.1,b,x.2.2.2.2.2.2.2.2.2.2.2.2.2)
def aE4(x:au)(s:Int):au:=(x.1,x.2.1,x.2.2.1,x.2.2.2.1,x.2.2.2.2.1,s,x.2.2.2.2.2.2)
def Z0(x:au)(a s:Int):au:=(x.1,a,x.2.2.1,x.2.2.2.1,x.2.2.2.2.1,s,x.2.2.2.2.2.2)
def ar7(x:au)(a s:Int):au:=(x.1,x.2.1,x.2.2.1,x.2.2.2.1,x.2.2.2.2.1,s,a,x.2.2.2.2.2.2.2)
def Wj(x:au)(i b s:Int):au:=(x.1,x.2.1,x.2.2.1,x.2.2.2.1,x.2.2.2.2.1,x.2.2.2.2.2.1,x.2.2.2.2.2.2.1,i,b,s,x.2.2.2.2.2.2.2.2.2.2)
def iw(x:au)(i:Int)(c:aX):au×aX :=
 let a:=ax c 10
 if a.1=1 then (aN7 x,a.2)
 else if a.1=2 then (TZ x (1+(ax a.2 3).1,1+(ax (ax a.2 3).2 200).1),(ax (ax a.2 3).2 200).2)
 else if a.1=3 then (Ff x (!iG x&&decide (i%2=1)),a.2)
 else if a.1=4 then (aE4 x 2,a.2)
 else if a.1=5 then (Z0 x (167903232+i) 3,a.2)
 else if a.1=6 then (ar7 x (167837696+(ax a.2 40).1) 4,(ax a.2 40).2)
 else (x,a.2)
def xO(x:au)(i:Int)(c:aX):au×aX :=
 let y:=iw x i c
 (Wj y.1 (ax y.2 6).1 (ax (ax y.2 6).2 65536).1 (ax (ax (ax y.2 6).2 65536).2 1000).1,(ax (ax (ax y.2 6).2 65536).2 1000).2)
def xP(s:List au×aX)(i:Nat):List au×aX:=(s.1.set i (xO (s.1.getD i default) i s.2).1,(xO (s.1.getD i default) i s.2).2)
def odLink(l:aK)(c:aX):aK×aX :=
 let a:=ax c 6
 if a.1=1 then ((l.1,l.2.1,l.2.2.1,(ax a.2 10).1,l.2.2.2.2),(ax a.2 10).2)
 else if a.1=2 then ((l.1,l.2.1,l.2.2.1,l.2.2.2.1,([65536,20000,3]:ae).getD (ax a.2 3).1.toNat default,l.2.2.2.2.2),(ax a.2 3).2)
 else (l,a.2)
def sy(ns:List au)(l:aK):List au :=
 if dI (ns.getD (lA l).toNat default)=true/\dI (ns.getD (lB l).toNat default)=true then ns.set (lB l).toNat (Ff (ns.getD (lB l).toNat default) false) else ns
def uk(s:(List au×List aK)×aX)(i:Nat):(List au×List aK)×aX :=
 let r:=odLink (s.1.2.getD i default) s.2
 ((sy s.1.1 r.1,s.1.2.set i r.1),r.2)
def pU(ns:List au)(s:List aV×Int×aX):List aV×Int×aX :=
 let a:=ax s.2.2 60
 let at':=s.2.1+a.1
 let w:=ax a.2 ns.length
 let x:=ns.getD w.1.toNat default
 if (aU x).length=0 then (s.1,at',w.2)
 else
  let r:=ax w.2 (aU x).length
  let p:=ax r.2 (ay x).length
  let z:=ax p.2 4
  let rt:=(aU x).getD r.1.toNat default
  (s.1++[(at',w.1,false,(rt.1,if z.1=3 then [] else [((ay x).getD p.1.toNat default).2],rt.2.2))],at',z.2)
def o6(s:bu):bu :=
 let n:=(range s.1.1.length).foldl xP (s.1.1,s.2)
 let l:=(range s.1.2.1.length).foldl uk ((n.1,s.1.2.1),n.2)
 let k:=ax l.2 4
 let h:=(range k.1.toNat).foldl (λs _=>pU l.1.1 s) ([],0,k.2)
 ((l.1.1,l.1.2,h.1),h.2.2)
def rH(s:bu)(k:Nat):bu:=js (kx s false) k (k+1)
def tw(n:Int)(s:bu):bu :=
 let a:=ax s.2 n
 let b:=ax a.2 n
 if a.1=b.1 then (s.1,b.2) else js (s.1,b.2) (1+a.1) (1+b.1)
def nZ(c:aX):Int×bu :=
 let a:=kx (([],[],[]),c) true
 let m:=ax a.2 5
 let s:=(range (1+m.1).toNat).foldl rH (a.1,m.2)
 (1+m.1,js (kx s true) (1+m.1) (1+m.1+1))
def zt(plain:Bool)(n:Int)(s:bu):bu :=
 let k:=ax s.2 4
 let s1:=if 1<n/\plain=false then (range k.1.toNat).foldl (λs _=>tw n s) (s.1,k.2) else (s.1,k.2)
 if plain=true/\2<n then
  if (ax s1.2 2).1=1 then js (s1.1,(ax (ax s1.2 2).2 (n-1)).2) (1+(ax (ax s1.2 2).2 (n-1)).1) n else (s1.1,(ax s1.2 2).2)
 else s1
def BV(plain:Bool)(c:aX):bu :=
 let s:=A7 (zt plain (nZ c).1 (nZ c).2) plain
 if plain then s else o6 s
def jj(plain:Bool)(c:aX):aQ:=(BV plain c).1
def yk(plain:Bool)(c:aX):aX:=(BV plain c).2
def cG(x:au):ae:=mg x++(if fA x=0 then [] else [fA x])
def aq3:Ct:=⟨[.val cI,.val cI,.val cI],[.val .bool],λ_=>[],λd=>((decide (d.2.1<=d.1/\d.1<=d.2.2.1),()),())⟩
theorem ac3 :
 ∀(a b c:Int),aq a/\aq b/\aq c/\True->True-> ∀(d:Bool),d=decide (b<=a)->(d->(ar d)/\(ar d)/\True)/\(ar d)/\(bif d then decide (a<=c) else false)=decide (b<=a/\a<=c):=by
  delta ar;rintro a b c - -
  (repeat (refine bX ?_;repeat refine bZ ?_));by_cases h1:b<=a <;> by_cases h2:a<=c <;> simp[h1,h2]
theorem Df:aB 117 aq3.spec:=aF Tryz.func117 aC aT ac3
def O8:Ct:=⟨[.agg bU],[.own 35 cP],λd=>[(ay d.1).length<=100000],λd=>((cG d.1,()),())⟩
def az1:bw O8.ps->ce:=(λd=>{loops:=(bp 3 (λS=>{ι:=Int×ae,qn:=ft,μ:=λi=>((ay d.1).length-i.1).toNat,inv:=λi=>0<=i.1/\i.1<=(ay d.1).length/\i.2=(mg d.1).take i.1.toNat,keep:=[1,7,8],slots:=λi=>[(3,.own 524288 1),(9,.int .i64 i.1)],keepN:=[32],names:=λi=>[(524288,.live (.row 35 cP i.2))]}) cC)})
def FP(a:au)(b:Int)(c:ae) :=
 a.1=a.1/\(ac a.1)=(ac a.1)/\0=b/\a.1=a.1/\a.2.1=a.2.1/\a.2.2.1=a.2.2.1/\a.2.2.2.1=a.2.2.2.1/\a.2.2.2.2.1=a.2.2.2.2.1/\a.2.2.2.2.2.1=a.2.2.2.2.2.1/\a.2.2.2.2.2.2.1=a.2.2.2.2.2.2.1/\a.2.2.2.2.2.2.2.1=a.2.2.2.2.2.2.2.1/\a.2.2.2.2.2.2.2.2.1=a.2.2.2.2.2.2.2.2.1/\a.2.2.2.2.2.2.2.2.2.1=a.2.2.2.2.2.2.2.2.2.1/\a.2.2.2.2.2.2.2.2.2.2.1.1=a.2.2.2.2.2.2.2.2.2.2.1.1/\a.2.2.2.2.2.2.2.2.2.2.1.2=a.2.2.2.2.2.2.2.2.2.2.1.2/\a.2.2.2.2.2.2.2.2.2.2.2.1=a.2.2.2.2.2.2.2.2.2.2.2.1/\a.2.2.2.2.2.2.2.2.2.2.2.2.1=a.2.2.2.2.2.2.2.2.2.2.2.2.1/\a.2.2.2.2.2.2.2.2.2.2.2.2.2.1=a.2.2.2.2.2.2.2.2.2.2.2.2.2.1/\a.2.2.2.2.2.2.2.2.2.2.2.2.2.2=a.2.2.2.2.2.2.2.2.2.2.2.2.2.2/\c=([]:ae)/\True
def rg(a:au) :=
 ((length (ay a)):Int)
theorem XQ :
 ∀(a:au),CT.wf bU a/\True->length (ay a)<=(100000:Nat)->(∃(b:Int) (c:ae),(0<=b/\b<=(rg a)/\c=take b.toNat (mg a))/\(FP a b c))/\ ∀(b:Int)(c:ae),0<=b/\b<=(rg a)/\c=take b.toNat (mg a)->ao (decide (b<(ac a.1))) (0<=b/\b<(ac a.1)/\(c.length+length [(getD a.1 b.toNat default).1])*(4:Nat)<=(140737488355328:Nat)/\ ∃(d:Int) (e:ae),(0<=d/\d<=(rg a)/\e=take d.toNat (mg a))/\toNat ((rg a) -d)<toNat ((rg a) -b)/\a.1=a.1/\(ac a.1)=(ac a.1)/\aj
 (b+1)=d/\a.1=a.1/\a.2.1=a.2.1/\a.2.2.1=a.2.2.1/\a.2.2.2.1=a.2.2.2.1/\a.2.2.2.2.1=a.2.2.2.2.1/\a.2.2.2.2.2.1=a.2.2.2.2.2.1/\a.2.2.2.2.2.2.1=a.2.2.2.2.2.2.1/\a.2.2.2.2.2.2.2.1=a.2.2.2.2.2.2.2.1/\a.2.2.2.2.2.2.2.2.1=a.2.2.2.2.2.2.2.2.1/\a.2.2.2.2.2.2.2.2.2.1=a.2.2.2.2.2.2.2.2.2.1/\a.2.2.2.2.2.2.2.2.2.2.1.1=a.2.2.2.2.2.2.2.2.2.2.1.1/\a.2.2.2.2.2.2.2.2.2.2.1.2=a.2.2.2.2.2.2.2.2.2.2.1.2/\a.2.2.2.2.2.2.2.2.2.2.2.1=a.2.2.2.2.2.2.2.2.2.2.2.1/\a.2.2.2.2.2.2.2.2.2.2.2.2.1=a.2.2.2.2.2.2.2.2.2.2.2.2.1/\a.2.2.2.2.2.2.2.2.2.2.2.2.2.1=a.2.2.2.2.2.2.2.2.2.2.2.2.2.1/\a.2.2.2.2.2.2.2.2.2.2.2.2.2.2=a.2.2.2.2.2.2.2.2.2.2.2.2.2.2/\c++[(getD a.1 b.toNat default).1]=e/\True) (ao (! decide (a.2.1=0)) ((c.length+length [a.2.1])*(4:Nat)<=(140737488355328:Nat)/\c++[a.2.1]=cG a) (c=cG a)):=by
  delta FP rg aj ac;rintro d-hl;have hlen:(mg d).length=(ay d).length:=by simp[mg]
  have hd:d.1=ay d:=rfl;have hz:d.2.1=fA d:=rfl;rw[hd,hz];refine⟨⟨0,[],⟨ab,ab,rfl⟩,aP⟩,?_⟩;rintro j l ⟨j0,j1,rfl⟩;refine bT (λhk=>?_) (λhk=>?_)
  .refine⟨j0,hk,by simp only[dA,dN,List.length_nil];omega,j+1,_,⟨ab,ab,rfl⟩,ab,?_⟩
   (repeat refine jp ?_);refine⟨?_,bv⟩;rw[rD j0 (by rw[hlen];exact hk)];unfold mg;rw[bJ,bJ,List.getElem?_map,cK ab];rfl
  .rw[fe ab];unfold cG;refine aw (λh=>?_) (λh=>?_)
   .rw[af (gH h)];exact⟨by simp only[dN,List.length_nil];omega,rfl⟩
   .rw[am (iP h),jx]
theorem ZN:aB 151 O8.spec:=aF Tryz.func151 aC az1 XQ
def nw(i:Int)(l:ae)(m:List (Int×Int)):List (Int×Int):=l.foldl (λm a=>kK a i m) m
def gm(ns:List au)(k:Nat):List (Int×Int):=(range k).foldl (λm (i:Nat)=>nw (i:Int) (cG (ns.getD i default)) m) []
def L9(ns:List au):Bool:=(range ns.length).any λ(i:Nat)=>(cG (ns.getD i default)).any λa=>gk a (gm ns i)
def ot(n:aQ):Int:=if L9 n.1 then 10 else 0
theorem NU{a b v:Int}:∀{m:List (Int×Int)},gk a (kK b v m)=(decide (a=b)||gk a m)
 | []=>by simp only[kK,gk];cases decide (a=b) <;> rfl
 | p::m=>by
  simp only[kK];by_cases hb:b=p.1
  .rw[cM hb,cond_true,gk,gk,← hb];cases decide (a=b) <;> rfl
  .rw[dP hb,oR,gk,gk,NU];cases decide (a=p.1) <;> cases decide (a=b) <;> rfl
theorem Mi{a b v:Int}:∀{m:List (Int×Int)},lS a (kK b v m)=if a=b then v else lS a m
 | []=>by
  simp only[kK,lS];by_cases h:a=b
  .rw[cM h,am h];rfl
  .rw[dP h,af h];rfl
 | p::m=>by
  simp only[kK];by_cases hb:b=p.1
  .rw[cM hb,cond_true,lS,lS,← hb];by_cases h:a=b
   .rw[cM h,am h];rfl
   .rw[dP h,af h];rfl
  .rw[dP hb,oR,lS,lS,Mi];by_cases h:a=p.1
   .have hab:¬ a=b:=λe=>hb (e.symm.trans h);simp only[af hab]
   .rw[dP h];rfl
theorem aR9(i a:Int)(l:ae)(m:List (Int×Int)):nw i (l++[a]) m=kK a i (nw i l m):=by
 unfold nw;rw[iD];rfl
theorem CS{i a:Int}{m:List (Int×Int)}:∀{l:ae},gk a (nw i l m)=(decide (a∈l)||gk a m)/\lS a (nw i l m)=if a∈l then i else lS a m:=by
 intro l
 induction l generalizing m with
 | nil=>simp[nw]
 | cons b l ih =>
  have k:=ih (m:=kK b i m);unfold nw at k ⊢;rw[List.foldl_cons,k.1,k.2,NU,Mi];by_cases h1:a=b <;> by_cases h2:a∈l <;> simp[h1,h2]
theorem RE(ns:List au):∀(k:Nat)(a:Int),gk a (gm ns k)=true->lS a (gm ns k)<k
 | 0,a,h=>by cases h
 | k+1,a,h=>by
  have e:gm ns (k+1)=nw k (cG (ns.getD k default)) (gm ns k):=by unfold gm;rw[nj,iD];rfl
  rw[e] at h ⊢;have q:=CS (i:=(k:Int)) (a:=a) (m:=gm ns k) (l:=cG (ns.getD k default));rw[q.1] at h;rw[q.2];split
  .omega
  next hn=>rw[dP hn,Bool.false_or] at h;have:=RE ns k a h;omega
def Mk:Ct:=⟨[.agg ib],[.val cI],λd=>[∀ x∈d.1.1,(ay x).length<=100000],λd=>((ot d.1,()),())⟩
def af6:bw Mk.ps->ce:=(λd=>{loops:=(bp 3 (λS=>{ι:=Int,μ:=λi=>(d.1.1.length-i).toNat,inv:=λi=>0<=i/\i<=d.1.1.length∧∀ k:Nat,(k:Int)<i→∀ a∈cG (d.1.1.getD k default),gk a (gm d.1.1 k)=false,keep:=[1,12,13],slots:=λi=>[(14,.int .i64 i),(3,.mapp 524288)],keepN:=[32],names:=λi=>[(524288,.live (.mp .u32 .i64 (gm d.1.1 i.toNat)))]}) (bp 6 (λS=>{ι:=Int,μ:=λi=>((cG (d.1.1.getD (S.i 14).toNat default)).length-i).toNat,inv:=λi=>0<=i/\i<=(cG (d.1.1.getD (S.i 14).toNat default)).length∧∀ a∈(cG (d.1.1.getD (S.i 14).toNat default)).take i.toNat,gk a (gm d.1.1 (S.i 14).toNat)=false,keep:=[1,4,12,13,14,20,21],slots:=λi=>[(22,.int .i64 i),(3,.mapp 524288)],keepN:=[32,336],names:=λi=>[(524288,.live (.mp .u32 .i64 (nw (S.i 14) ((cG (d.1.1.getD (S.i 14).toNat default)).take i.toNat) (gm d.1.1 (S.i 14).toNat))))]}) cC))})
def sX(a:List au)(b:List aK)(c:List aV) :=
 (a.length<=maxLen/\ ∀(d:au),d∈a->CT.wf bU d)/\(b.length<=maxLen/\ ∀(d:aK),d∈b->CT.wf fU d)/\c.length<=maxLen/\ ∀(d:aV),d∈c->CT.wf fh d
def qt(a:List au)(d:Int) :=
 ((length (cG (ai a d))):Int)
def EE(a:List au)(d e:Int) :=
 nw d (take e.toNat (cG (ai a d))) (gm a d.toNat)
def HZ(a:List au)(d:Int) :=
 0<=d/\d<=(ac a)/\ ∀(e:Nat),(↑e:Int)<d-> ∀(f:Int),f∈cG (a.getD e default)->gk f (gm a e)=false
theorem SE :
 ∀(a:List au)(b:List aK)(c:List aV),(sX a b c)/\True->(∀(d:au),d∈a->length (ay d)<=(100000:Nat))->(∃(d:Int),(HZ a d)/\a=a/\(ac a)=(ac a)/\0=d/\a=a/\b=b/\c=c/\([]:List (Int×Int))=gm a d.toNat/\True)/\ ∀(d:Int),(HZ a d)->ao (decide (d<(ac a))) (0<=d/\d<(ac a)/\length (ay (ai a d))<=(100000:Nat)/\(∃(e:Int),(0<=e/\e<=(qt a d)/\ ∀(f:Int),f∈take e.toNat (cG (ai a d))->gk f (gm a d.toNat)=false)/\d=d/\a=a/\(ac a)=(ac a)/\d=d/\(qt a d)=(qt a d)/\0=e/\a=a/\b=b/\c=c/\cG (ai a d)=cG (ai a d)/\gm a d.toNat=nw d (take e.toNat (cG (ai a d))) (gm a d.toNat)/\True)/\ ∀(e:Int),(0<=e/\e<=(qt a d)/\ ∀(f:Int),f∈take e.toNat (cG (ai a d))->gk f (gm a d.toNat)=false)->ao (decide (e<(qt a d))) (0<=e/\e<(qt a d)/\ ∀(f:Bool),f=gk (getD (cG (ai a d)) e.toNat default) (EE a d e)->(f->(ar f)/\(ar
 f)/\True)/\(ar f)/\ao (bif f then ! decide (lS (getD (cG (ai a d)) e.toNat default) (EE a d e)=d) else false) (10=ot (a,b,c)) (∃(g:Int),(0<=g/\g<=(qt a d)/\ ∀(h:Int),h∈take g.toNat (cG (ai a d))->gk h (gm a d.toNat)=false)/\toNat ((qt a d) -g)<toNat ((qt a d) -e)/\d=d/\a=a/\(ac a)=(ac a)/\d=d/\(qt a d)=(qt a d)/\aj (e+1)=g/\a=a/\b=b/\c=c/\cG (ai a d)=cG (ai a d)/\kK (getD (cG (ai a d)) e.toNat default) d (EE a d e)=nw d (take g.toNat (cG (ai a d))) (gm a d.toNat)/\True)) (∃(f:Int),(0<=f/\f<=(ac a)/\ ∀(g:Nat),(↑g:Int)<f-> ∀(h:Int),h∈cG (a.getD g default)->gk h (gm a g)=false)/\toNat ((ac a) -f)<toNat ((ac a) -d)/\a=a/\(ac a)=(ac a)/\aj (d+1)=f/\a=a/\b=b/\c=c/\nw d (take e.toNat (cG (ai a d))) (gm a d.toNat)=gm a f.toNat/\True)) (0=ot (a,b,c)):=by
  delta sX qt EE HZ ar aj ai ac;rintro ns ls hs ⟨⟨⟨hnl,-⟩,-⟩,-⟩ hp;simp only[maxLen] at hnl;have hlen:∀ x∈ns,(cG x).length<=100001:=λx hx=>by
   have:=hp x hx;unfold cG mg;rw[cA,mq];split <;> simp <;> omega
  refine⟨⟨0,⟨ab,ab,λk hk=>ab⟩,aP⟩,?_⟩;rintro i ⟨i0,i1,hI⟩;refine aw (λhi=>?_) (λhi=>?_)
  rotate_left
  .have hi:=aL hi;unfold ot;rw[af];intro h;obtain⟨k,hk,h2⟩:=List.any_eq_true.1 h;obtain⟨a,ha,h3⟩:=List.any_eq_true.1 h2;have hk:k<ns.length:=List.mem_range.1 hk;rw[hI k ab a ha] at h3;cases h3
  have hi:=aI hi;have hm:=bR i0 hi;have hl:=hlen _ hm;refine⟨i0,hi,hp _ hm,⟨0,⟨ab,ab,aA⟩,aP⟩,?_⟩;rintro j ⟨j0,j1,hJ⟩;have ei:((i.toNat:Nat):Int)=i:=ab;refine aw (λhj=>?_) (λhj=>?_)
  rotate_left
  .have hj:=aL hj;rw[fe ab] at hJ ⊢;refine⟨i+1,⟨ab,ab,λk hk a ha=>?_⟩,ab,?_⟩
   .by_cases e:(k:Int)<i
    .exact hI k e a ha
    .have:k=i.toNat:=ab;subst this;exact hJ a ha
   .have e:nw i (cG (ns.getD i.toNat default)) (gm ns i.toNat)=gm ns (i+1).toNat:=by
     rw[show (i+1).toNat=i.toNat+1 by omega];unfold gm;rw[nj,iD,List.foldl_cons,List.foldl_nil,ei]
    rw[e];exact aP
  have hj:=aI hj;have ha:=bR j0 hj;have st:=rD j0 hj;refine⟨j0,hj,?_⟩;have q:=CS (i:=i) (a:=(cG (ns.getD i.toNat default)).getD j.toNat default) (m:=gm ns i.toNat) (l:=(cG (ns.getD i.toNat default)).take j.toNat);generalize (cG (ns.getD i.toNat default)).getD j.toNat default=a at ha st q ⊢;have lt:=RE ns i.toNat a;rw[ei] at lt;intro b hb
  (repeat refine⟨aA,?_⟩);refine u5 (λx1 x2=>?_) (λhno=>?_)
  .have x2:=gH x2;rw[hb,q.1] at x1;rw[q.2] at x2;have hn:a ∉ (cG (ns.getD i.toNat default)).take j.toNat:=λh=>by rw[am h] at x2;exact x2 rfl
   rw[dP hn,Bool.false_or] at x1;unfold ot;rw[am];exact List.any_eq_true.2 ⟨i.toNat,List.mem_range.2 (show i.toNat<ns.length by omega),List.any_eq_true.2 ⟨a,ha,x1⟩⟩
  .have hz:gk a (gm ns i.toNat)=false:=by
    by_cases hn:a∈(cG (ns.getD i.toNat default)).take j.toNat
    .exact hJ a hn
    .rw[dP hn,Bool.false_or] at q;rw[af hn] at q;rcases hno with h|h
     .rw[hb,q.1] at h;exact h
     .have h:=iP h;rw[q.2] at h;cases hq:gk a (gm ns i.toNat) with
      | false=>rfl
      | true=>have:=lt hq;omega
   refine⟨j+1,⟨ab,ab,λy hy=>?_⟩,ab,?_⟩
   .rw[st] at hy;rcases dB.1 hy with hy|hy
    .exact hJ y hy
    .rw[iI.1 hy];exact hz
   .rw[st,aR9];exact aP
theorem ag8:aB 89 Mk.spec:=aF Tryz.func89 (av aC ZN) af6 SE
def fD(ls:List aK)(k x:Int):Int:=if k<0∨(ls.length:Int)<=k then -1 else if x=lA (ls.getD k.toNat default) then lB (ls.getD k.toNat default) else if x=lB (ls.getD k.toNat default) then lA (ls.getD k.toNat default) else -1
def nP(n:aQ):Int:=if n.1.length<1∨64<n.1.length∨128<n.2.1.length∨64<n.2.2.length then 5 else 0
def VP:Ct:=⟨[.agg ib],[.val cI],λ_=>[],λd=>((nP d.1,()),())⟩
theorem UA :
 ∀(a:List au)(b:List aK)(c:List aV),(sX a b c)/\True->True-> ∀(d:Bool),d=decide ((ac a)<1)->(ah (! d))/\(ah (! d))/\(ah (! d))/\(aE d)/\ ∀(e:Bool),(e=bif d then true else decide (64<(ac a)))->(ah (! e))/\(ah (! e))/\(ah (! e))/\(aE e)/\ ∀(f:Bool),(f=bif e then true else decide (128<(ac b)))->(ah (! f))/\(ah (! f))/\(ah (! f))/\(aE f)/\ao (bif f then true else decide (64<(ac c))) (5=nP (a,b,c)) (0=nP (a,b,c)):=by
  delta sX ah aE ac;rintro ns ls hs - -
  (repeat (refine bX ?_;repeat refine bZ ?_));unfold nP;refine aw (λh=>?_) (λh=>?_)
  .simp[dE] at h;rw[am (by dsimp only;omega)]
  .simp[dE] at h;rw[af (by dsimp only;omega)]
theorem Xr:aB 85 VP.spec:=aF Tryz.func85 aC aT UA
def OH:Ct:=⟨[.agg bU],[.own 3 cI],λd=>[(ay d.1).length<=100000],λd=>((bo d.1,()),())⟩
def ag4:bw OH.ps->ce:=(λd=>{loops:=(bp 3 (λS=>{ι:=Int×ae,qn:=ft,μ:=λi=>((ay d.1).length-i.1).toNat,inv:=λi=>0<=i.1/\i.1<=(ay d.1).length/\i.2=(bo d.1).take i.1.toNat,keep:=[1,7,8],slots:=λi=>[(3,.own 524288 1),(9,.int .i64 i.1)],keepN:=[32],names:=λi=>[(524288,.live (.row 3 cI i.2))]}) cC)})
theorem W9 :
 ∀(a:au),CT.wf bU a/\True->length (ay a)<=(100000:Nat)->(∃(b:Int) (c:ae),(0<=b/\b<=(rg a)/\c=take b.toNat (bo a))/\(FP a b c))/\ ∀(b:Int)(c:ae),0<=b/\b<=(rg a)/\c=take b.toNat (bo a)->ao (decide (b<(ac a.1))) (0<=b/\b<(ac a.1)/\(c.length+length [(getD a.1 b.toNat default).2])*(8:Nat)<=(140737488355328:Nat)/\ ∃(d:Int) (e:ae),(0<=d/\d<=(rg a)/\e=take d.toNat (bo a))/\toNat ((rg a) -d)<toNat ((rg a) -b)/\a.1=a.1/\(ac a.1)=(ac a.1)/\aj
 (b+1)=d/\a.1=a.1/\a.2.1=a.2.1/\a.2.2.1=a.2.2.1/\a.2.2.2.1=a.2.2.2.1/\a.2.2.2.2.1=a.2.2.2.2.1/\a.2.2.2.2.2.1=a.2.2.2.2.2.1/\a.2.2.2.2.2.2.1=a.2.2.2.2.2.2.1/\a.2.2.2.2.2.2.2.1=a.2.2.2.2.2.2.2.1/\a.2.2.2.2.2.2.2.2.1=a.2.2.2.2.2.2.2.2.1/\a.2.2.2.2.2.2.2.2.2.1=a.2.2.2.2.2.2.2.2.2.1/\a.2.2.2.2.2.2.2.2.2.2.1.1=a.2.2.2.2.2.2.2.2.2.2.1.1/\a.2.2.2.2.2.2.2.2.2.2.1.2=a.2.2.2.2.2.2.2.2.2.2.1.2/\a.2.2.2.2.2.2.2.2.2.2.2.1=a.2.2.2.2.2.2.2.2.2.2.2.1/\a.2.2.2.2.2.2.2.2.2.2.2.2.1=a.2.2.2.2.2.2.2.2.2.2.2.2.1/\a.2.2.2.2.2.2.2.2.2.2.2.2.2.1=a.2.2.2.2.2.2.2.2.2.2.2.2.2.1/\a.2.2.2.2.2.2.2.2.2.2.2.2.2.2=a.2.2.2.2.2.2.2.2.2.2.2.2.2.2/\c++[(getD a.1 b.toNat default).2]=e/\True) (c=bo a):=by
  delta FP rg aj ac;rintro d-hl;have hlen:(bo d).length=(ay d).length:=by simp[bo]
  refine⟨⟨0,[],⟨ab,ab,rfl⟩,aP⟩,?_⟩;rintro j l ⟨j0,j1,rfl⟩;have hd:d.1=ay d:=rfl;rw[hd];refine bT (λhk=>?_) (λhk=>?_)
  .refine⟨j0,hk,by simp only[dA,dN,List.length_nil];omega,j+1,_,⟨ab,ab,rfl⟩,ab,?_⟩
   (repeat refine jp ?_);refine⟨?_,bv⟩;rw[rD j0 (by rw[hlen];exact hk)];unfold bo;rw[bJ,bJ,List.getElem?_map,cK ab];rfl
  .rw[fe ab]
theorem Q1:aB 150 OH.spec:=aF Tryz.func150 aC ag4 W9
def aR3:Ct:=⟨[.agg ib,.val cI,.val cI],[.val cI],λ_=>[],λd=>((fD d.1.2.1 d.2.1 d.2.2.1,()),())⟩
theorem Vd :
 ∀(a:List au)(b:List aK)(c:List aV)(d e:Int),((a.length<=maxLen/\ ∀(f:au),f∈a->CT.wf bU f)/\(b.length<=maxLen/\ ∀(f:aK),f∈b->CT.wf fU f)/\c.length<=maxLen/\ ∀(f:aV),f∈c->CT.wf fh f)/\aq d/\aq e/\True->True->ao (! decide (0<=d/\d<=aj ((ac b) -1))) (-1=fD b d e) (0<=d/\d<(ac b)/\ao (decide (e=(ai b d).1)) ((ai b d).2.1=fD b d e) (ao (decide (e=(ai b d).2.1)) ((ai b d).1=fD b d e) (-1=fD b d e))):=by
  delta aj ai ac;rintro ns ls hs k x ⟨⟨-,⟨hl,-⟩,-⟩,-⟩ -;simp only[maxLen] at hl;rw[aG (n:=(ls.length:Int)-1) ab ab];unfold fD lA lB;refine aw (λh=>?_) (λh=>?_)
  .have h:=gH h;rw[am ab]
  have h:=iP h;rw[af ab];refine⟨h.1,ab,aw (λh1=>?_) (λh1=>?_)⟩
  .rw[am (aI h1)]
  rw[af (aL h1)];refine bT (λh2=>?_) (λh2=>?_)
  .rw[am h2]
  .rw[af h2]
theorem O3:aB 53 aR3.spec:=aF Tryz.func53 (av aC Df) aT Vd
def iS(ns:List au)(l:aK):Bool:=dI (ns.getD (lA l).toNat default)&&dI (ns.getD (lB l).toNat default)
def n9(n:aQ):Int:=if n.2.1.any (iS n.1) then 13 else 0
def BO(n:aQ):Prop:=∀ l∈n.2.1,0<=lA l/\lA l<n.1.length/\0<=lB l/\lB l<n.1.length
def Ra:Ct:=⟨[.agg ib],[.val cI],λd=>[BO d.1],λd=>((n9 d.1,()),())⟩
def Vv:bw Ra.ps->ce:=(λd=>{loops:=(bp 2 (λS=>{ι:=Int,μ:=λi=>(d.1.2.1.length-i).toNat,inv:=λi=>0<=i/\i<=d.1.2.1.length∧∀ x∈d.1.2.1.take i.toNat,iS d.1.1 x=false,keep:=[1,6,7],slots:=λi=>[(8,.int .i64 i)],keepN:=[32]}) cC)})
theorem aK1 :
 ∀(a:List au)(b:List aK)(c:List aV),(sX a b c)/\True->(∀(d:aK),d∈b->0<=lA d/\lA d<(ac a)/\0<=lB d/\lB d<(ac a))->(∃(d:Int),(0<=d/\d<=(ac b)/\ ∀(e:Int×Int×Int×Int×Int×Int),e∈take d.toNat b->iS a e=false)/\b=b/\(ac b)=(ac b)/\0=d/\a=a/\b=b/\c=c/\True)/\ ∀(d:Int),(0<=d/\d<=(ac b)/\ ∀(e:Int×Int×Int×Int×Int×Int),e∈take d.toNat b->iS a e=false)->ao (decide (d<(ac b))) (0<=d/\d<(ac b)/\0<=(ai b d).1/\(ai b d).1<(ac a)/\ ∀(e:Bool),e=(a.getD (toNat (ai b d).1) default).2.2.2.2.2.2.2.2.2.2.2.2.1->(ah e)/\(ah e)/\(e->(ar e)/\(ar e)/\0<=(ai b d).2.1/\(ai b d).2.1<(ac a)/\True)/\(ah e)/\(ah e)/\(ar e)/\ao (bif e then (a.getD (toNat (ai b d).2.1) default).2.2.2.2.2.2.2.2.2.2.2.2.1 else false) (13=n9 (a,b,c)) (∃(f:Int),(0<=f/\f<=(ac b)/\ ∀(g:Int×Int×Int×Int×Int×Int),g∈take f.toNat b->iS a g=false)/\toNat ((ac b)
 -f)<toNat ((ac b) -d)/\b=b/\(ac b)=(ac b)/\aj (d+1)=f/\a=a/\b=b/\c=c/\True)) (0=n9 (a,b,c)):=by
  delta sX ah ar aj ai ac;rintro ns ls hs ⟨⟨-,⟨hl,-⟩,-⟩,-⟩ he;simp only[maxLen] at hl;refine⟨⟨0,⟨ab,ab,aA⟩,aP⟩,?_⟩;rintro i ⟨i0,i1,hI⟩;refine aw (λhi=>?_) (λhi=>?_)
  rotate_left
  .have hi:=aL hi;rw[fe ab] at hI;unfold n9;rw[af];intro h;obtain⟨l,h1,h2⟩:=List.any_eq_true.1 h;rw[hI l h1] at h2;cases h2
  have hi:=aI hi;have hm:=bR i0 hi;have e:=he _ hm;refine⟨i0,hi,e.1,e.2.1,?_⟩;intro b hb
  (repeat first|refine⟨λh=>⟨λ_=>h,λ_=>h,e.2.2.1,e.2.2.2,bv⟩,?_⟩|refine⟨λh=>⟨λ_=>h,e.2.2.1,e.2.2.2,bv⟩,?_⟩|refine⟨aA,?_⟩);refine u5 (λx1 x2=>?_) (λhno=>?_)
  .unfold n9;rw[am];refine List.any_eq_true.2 ⟨_,hm,?_⟩;unfold iS;rw[dM];exact⟨hb.symm.trans x1,x2⟩
  .refine⟨i+1,⟨ab,ab,nN i0 hi hI ?_⟩,ab,aP⟩;unfold iS;rw[Bool.and_eq_false_iff];rcases hno with h|h
   .exact .inl (hb.symm.trans h)
   .exact .inr h
theorem aF8:aB 90 Ra.spec:=aF Tryz.func90 aC Vv aK1
def m4(n:aQ)(k:Nat):Bool:=decide (cu (n.1.getD (lA (n.2.1.getD k default)).toNat default) k<0)||decide (cu (n.1.getD (lB (n.2.1.getD k default)).toNat default) k<0)
def nI(n:aQ):Int:=if (range n.2.1.length).any (m4 n) then 11 else 0
def KH:Ct:=⟨[.agg ib],[.val cI],λd=>[BO d.1],λd=>((nI d.1,()),())⟩
def ae7:bw KH.ps->ce:=(λd=>{loops:=(bp 2 (λS=>{ι:=Int,μ:=λi=>(d.1.2.1.length-i).toNat,inv:=λi=>0<=i/\i<=d.1.2.1.length∧∀ k:Nat,(k:Int)<i->m4 d.1 k=false,keep:=[1,6,7],slots:=λi=>[(8,.int .i64 i)],keepN:=[32]}) cC)})
theorem UE :
 ∀(a:List au)(b:List aK)(c:List aV),(sX a b c)/\True->(∀(d:aK),d∈b->0<=lA d/\lA d<(ac a)/\0<=lB d/\lB d<(ac a))->(∃(d:Int),(0<=d/\d<=(ac b)/\ ∀(e:Nat),(↑e:Int)<d->m4 (a,b,c) e=false)/\b=b/\(ac b)=(ac b)/\0=d/\a=a/\b=b/\c=c/\True)/\ ∀(d:Int),(0<=d/\d<=(ac b)/\ ∀(e:Nat),(↑e:Int)<d->m4 (a,b,c) e=false)->ao (decide (d<(ac b))) (0<=d/\d<(ac b)/\0<=(ai b d).1/\(ai b d).1<(ac a)/\ ∀(e:Bool),e=decide (cu (a.getD (toNat (ai b d).1) default) d<0)->(ah (! e))/\(ah (! e))/\((! e)->(ar (! e))/\(ar (! e))/\0<=(ai b d).2.1/\(ai b d).2.1<(ac a)/\True)/\(ah (! e))/\((! e)->(ar (! e))/\(ar (! e))/\True)/\(ah (! e))/\(aE e)/\ao (bif e then true else decide (cu (a.getD (toNat (ai b d).2.1) default) d<0)) (11=nI (a,b,c)) (∃(f:Int),(0<=f/\f<=(ac b)/\ ∀(g:Nat),(↑g:Int)<f->m4 (a,b,c) g=false)/\toNat ((ac b) -f)<toNat ((ac b)
 -d)/\b=b/\(ac b)=(ac b)/\aj (d+1)=f/\a=a/\b=b/\c=c/\True)) (0=nI (a,b,c)):=by
  delta sX ah ar aE aj ai ac;rintro ns ls hs ⟨⟨-,⟨hl,-⟩,-⟩,-⟩ he;simp only[maxLen] at hl;refine⟨⟨0,⟨ab,ab,λk hk=>ab⟩,aP⟩,?_⟩;rintro i ⟨i0,i1,hI⟩;refine aw (λhi=>?_) (λhi=>?_)
  rotate_left
  .have hi:=aL hi;unfold nI;rw[af];intro h;obtain⟨k,h1,h2⟩:=List.any_eq_true.1 h;have h1:k<ls.length:=List.mem_range.1 h1;rw[hI k ab] at h2;cases h2
  have hi:=aI hi;have hm:=bR i0 hi;have e:=he _ hm;have ei:((i.toNat:Nat):Int)=i:=ab;refine⟨i0,hi,e.1,e.2.1,?_⟩;intro b hb
  (repeat first|refine⟨λh=>⟨λ_=>h,λ_=>h,e.2.2.1,e.2.2.2,bv⟩,?_⟩|refine⟨λh=>⟨λ_=>h,e.2.2.1,e.2.2.2,bv⟩,?_⟩|refine⟨aA,?_⟩);refine rX (λho=>?_) (λx1 x2=>?_)
  .unfold nI;rw[am];refine List.any_eq_true.2 ⟨i.toNat,List.mem_range.2 (show i.toNat<ls.length by omega),?_⟩;unfold m4;rw[px,ei];rcases ho with h|h
   .exact .inl (hb.symm.trans h)
   .exact .inr h
  .refine⟨i+1,⟨ab,ab,λk hk=>?_⟩,ab,aP⟩;by_cases e2:(k:Int)<i
   .exact hI k e2
   .have:k=i.toNat:=ab;subst this;unfold m4;rw[Bool.or_eq_false_iff,ei];exact⟨hb.symm.trans x1,x2⟩
theorem WS:aB 88 KH.spec:=aF Tryz.func88 (av aC Bm) ae7 UE
def gY(nn:Nat)(l:aK):Prop:=0<=lA l/\lA l<nn/\0<=lB l/\lB l<nn/\lA l≠lB l/\1<=gQ l/\gQ l<=1073741824/\0<=fO l/\fO l<=1073741824/\0<=oF l/\oF l<=65536
instance (nn:Nat) (l:aK):Decidable (gY nn l):=by unfold gY;infer_instance
def mo(n:aQ):Int:=if n.2.1.all (λl=>decide (gY n.1.length l)) then 0 else 11
def K1:Ct:=⟨[.agg ib],[.val cI],λd=>[],λd=>((mo d.1,()),())⟩
def ap6:bw K1.ps->ce:=(λd=>{loops:=(bp 3 (λS=>{ι:=Int,μ:=λi=>(d.1.2.1.length-i).toNat,inv:=λi=>0<=i/\i<=d.1.2.1.length∧∀ x∈d.1.2.1.take i.toNat,gY d.1.1.length x,keep:=[1,3,11,12],slots:=λi=>[(13,.int .i64 i)],keepN:=[32]}) cC)})
theorem YT :
 ∀(a:List au)(b:List aK)(c:List aV),(sX a b c)/\True->True->(∃(d:Int),(0<=d/\d<=(ac b)/\ ∀(e:Int×Int×Int×Int×Int×Int),e∈take d.toNat b->gY a.length e)/\aj ((ac a) -1)=aj ((ac a) -1)/\b=b/\(ac b)=(ac b)/\0=d/\a=a/\b=b/\c=c/\True)/\ ∀(d:Int),(0<=d/\d<=(ac b)/\ ∀(e:Int×Int×Int×Int×Int×Int),e∈take d.toNat b->gY a.length e)->ao (decide (d<(ac b))) (0<=d/\d<(ac b)/\ ∀(e:Bool),e= ! decide (0<=(ai b d).1/\(ai b d).1<=aj ((ac a) -1))->(ah (! e))/\((! e)->(ar (! e))/\(ar (! e))/\True)/\(ah (! e))/\(aE e)/\ ∀(f:Bool),(f=bif e then true else ! decide (0<=(ai b d).2.1/\(ai b d).2.1<=aj ((ac a) -1)))->(ah (! f))/\(ah (! f))/\((! f)->(ar (! f))/\(ar (! f))/\True)/\(aE f)/\ ∀(g:Bool),(g=bif f then true else decide ((ai b d).1=(ai b d).2.1))->(ah (! g))/\(ah (! g))/\(ah (! g))/\(aE g)/\ ∀(h:Bool),(h=bif g then true else ! decide (1<=(ai b
 d).2.2.1/\(ai b d).2.2.1<=1073741824))->(ah (! h))/\(ah (! h))/\(ah (! h))/\(aE h)/\ ∀(i:Bool),(i=bif h then true else ! decide (0<=(ai b d).2.2.2.1/\(ai b d).2.2.2.1<=1073741824))->(ah (! i))/\(ah (! i))/\(ah (! i))/\(aE i)/\ao (bif i then true else ! decide (0<=(ai b d).2.2.2.2.1/\(ai b d).2.2.2.2.1<=65536)) (11=mo (a,b,c)) (∃(j:Int),(0<=j/\j<=(ac b)/\ ∀(k:Int×Int×Int×Int×Int×Int),k∈take j.toNat b->gY a.length k)/\toNat ((ac b) -j)<toNat ((ac b) -d)/\aj ((ac a) -1)=aj ((ac a) -1)/\b=b/\(ac b)=(ac b)/\aj (d+1)=j/\a=a/\b=b/\c=c/\True)) (0=mo (a,b,c)):=by
  delta sX ah ar aE aj ai ac;rintro ns ls hs ⟨⟨⟨hnl,-⟩,⟨hl,-⟩,-⟩,-⟩ -;simp only[maxLen] at hl hnl;rw[aG (n:=(ns.length:Int)-1) ab ab];refine⟨⟨0,⟨ab,ab,aA⟩,aP⟩,?_⟩;rintro i ⟨i0,i1,hI⟩;refine aw (λhi=>?_) (λhi=>?_)
  rotate_left
  .have hi:=aL hi;rw[fe ab] at hI;unfold mo;rw[am];exact List.all_eq_true.2 λl hl=>cM (hI l hl)
  have hi:=aI hi;have hm:=bR i0 hi;refine⟨i0,hi,?_⟩;have key:gY ns.length (ls.getD i.toNat default)↔((0<=(ls.getD i.toNat default).1/\(ls.getD i.toNat default).1<=(ns.length:Int)-1)/\(0<=(ls.getD i.toNat default).2.1/\(ls.getD i.toNat default).2.1<=(ns.length:Int)-1)∧¬ (ls.getD i.toNat default).1=(ls.getD i.toNat default).2.1/\(1<=(ls.getD i.toNat default).2.2.1/\(ls.getD i.toNat default).2.2.1<=1073741824)/\(0<=(ls.getD i.toNat default).2.2.2.1/\(ls.getD i.toNat default).2.2.2.1<=1073741824)/\(0<=(ls.getD i.toNat default).2.2.2.2.1/\(ls.getD i.toNat default).2.2.2.2.1<=65536)):=by
   unfold gY lA lB gQ fO oF;omega
  have eO:=λh=>nN i0 hi hI (P:=gY ns.length) h;generalize ls.getD i.toNat default=l at hm key eO ⊢;generalize hA:decide (0<=l.1/\l.1<=(ns.length:Int)-1)=bA;generalize hB:decide (0<=l.2.1/\l.2.1<=(ns.length:Int)-1)=bB;generalize hC:decide (l.1=l.2.1)=bC;generalize hD:decide (1<=l.2.2.1/\l.2.2.1<=1073741824)=bD;generalize hE:decide (0<=l.2.2.2.1/\l.2.2.2.1<=1073741824)=bE;generalize hF:decide (0<=l.2.2.2.2.1/\l.2.2.2.2.1<=65536)=bF;have key2:gY ns.length l↔(bA=true/\bB=true/\bC=false/\bD=true/\bE=true/\bF=true):=by
   rw[key,← hA,← hB,← hC,← hD,← hE,← hF];simp only[mh,pn]
  have bad:¬ gY ns.length l->(11:Int)=mo (ns,ls,hs):=λh=>by
   unfold mo;rw[af];intro k;exact h (aI (List.all_eq_true.1 k l hm))
  intro b1 hb1
  (repeat refine⟨aA,?_⟩);intro b2 hb2
  (repeat refine⟨aA,?_⟩);intro b3 hb3
  (repeat refine⟨aA,?_⟩);intro b4 hb4
  (repeat refine⟨aA,?_⟩);intro b5 hb5
  (repeat refine⟨aA,?_⟩);have tot:(bif b5 then true else !bF) = !(bA&&bB && !bC&&bD&&bE&&bF):=by
   rw[hb5,hb4,hb3,hb2,hb1];cases bA <;> cases bB <;> cases bC <;> cases bD <;> cases bE <;> cases bF <;> rfl
  rw[tot];refine aw (λh=>bad λk=>?_) (λh=>?_)
  .obtain⟨a1,a2,a3,a4,a5,a6⟩:=key2.1 k;rw[a1,a2,a3,a4,a5,a6] at h;cases h
  .have h2:gY ns.length l:=key2.2 (by
    clear tot hb1 hb2 hb3 hb4 hb5 key2 hA hB hC hD hE hF;revert h;cases bA <;> cases bB <;> cases bC <;> cases bD <;> cases bE <;> cases bF <;> decide)
   exact⟨i+1,⟨ab,ab,eO h2⟩,ab,aP⟩
theorem aP1:aB 86 K1.spec:=aF Tryz.func86 (av aC Df) ap6 YT
theorem Qg{links:ae}:∀{l:List Rt}{q:Option d9},chk links q l=0->cJ l/\(∀ p,q=some p→∀ r∈l,bI p r.1)∧∀ r∈l,jS r.1=true/\lf r links
 | [],q,_=>⟨List.Pairwise.nil,λ_ _ r hr=>(by cases hr),λr hr=>(by cases hr)⟩
 | r::l,q,h=>by
  rw[chk] at h;split at h
  .cases h
  rename_i h1;split at h
  .cases h
  rename_i h2;split at h
  .cases h
  rename_i h3;obtain⟨i1,i2,i3⟩:=Qg h;have hv:jS r.1=true:=by cases hh:jS r.1 <;> simp_all
  have hp:∀ p,q=some p->bI p r.1:=λp hp=>by
   subst hp;rw[Option.any_some] at h2;have:¬ (0<=gB p r.1):=by simpa using h2
   exact BM.1 ab
  refine⟨List.pairwise_cons.2 ⟨i2 _ rfl,i1⟩,λp e z hz=>?_,λz hz=>?_⟩
  .rcases dK.1 hz with rfl|hz
   .exact hp p e
   .exact Cu (hp p e) (i2 _ rfl z hz)
  .rcases dK.1 hz with rfl|hz
   .exact⟨hv,fj h3⟩
   .exact i3 z hz
theorem B8{l:List Rt}{links:ae}(h:dL l links=0):cJ l/\l.length<=64∧∀ r∈l,jS r.1=true/\lf r links:=by
 unfold dL at h
 split at h
 .cases h
 next hl=>have k:=Qg h;exact⟨k.1,ab,k.2.2⟩
theorem xR{l:List Rt}{links:ae}(h:dL l links=0):cJ l/\okL l:=by
 obtain⟨h1,h2,h3⟩:=B8 h
 exact⟨h1,ab,λr hr=>by have:=(h3 r hr).2.1.1;omega⟩
def fc(c:aV):Int:=c.1
def bL(c:aV):Int:=c.2.1
def qj(c:aV):Bool:=c.2.2.1
def dO(c:aV):Rt:=c.2.2.2
def mD(a b:Int):Int:=if a≠0 then a else b
theorem qp{a b:Int}(h:mD a b=0):a=0/\b=0:=by
 unfold mD at h
 split at h
 next k=>exact absurd h k
 next k=>exact⟨ab,h⟩
def mQ(n:aQ)(i:Nat)(k:Int):Bool:=decide ((n.2.1.length:Int)<=k) || !(decide (lA (n.2.1.getD k.toNat default)=i)||decide (lB (n.2.1.getD k.toNat default)=i))
def lp(n:aQ)(i:Nat):Int :=
 if d8 (n.1.getD i default)≠0 then d8 (n.1.getD i default)
 else if (bo (n.1.getD i default)).any (mQ n i) then 11 else 0
def lz(n:aQ):Int:=first (lp n) n.1.length
def f7(l:List Rt)(c:aV):List Rt:=if qj c=true then jt l (dO c).1 else f6 l (dO c)
def dH(n:aQ):Nat->List (List Rt)
 | 0=>n.1.map aU
 | i+1=>(dH n i).set (bL (n.2.2.getD i default)).toNat (f7 ((dH n i).getD (bL (n.2.2.getD i default)).toNat default) (n.2.2.getD i default))
def mY(n:aQ)(i:Nat)(c p:aV)(l:List Rt):Int :=
 if fc c<0∨1125899906842624<fc c then 1
 else if 0<i/\fc c<fc p then 6
 else if bL c<0∨(n.1.length:Int)<=bL c then 8
 else if qj c=true/\m7 l (dO c).1=false then 8
 else dL (f7 l c) (bo (n.1.getD (bL c).toNat default))
def gU(n:aQ)(i:Nat):Int:=mY n i (n.2.2.getD i default) (n.2.2.getD (i-1) default) ((dH n i).getD (bL (n.2.2.getD i default)).toNat default)
def lN(n:aQ):Int:=first (gU n) n.2.2.length
def eh(n:aQ):Int:=mD (nP n) (mD (mo n) (mD (lz n) (mD (nI n) (mD (ot n) (mD (n9 n) (lN n))))))
theorem GF{n:aQ}(h:mo n=0):BO n:=λl hl=>by
 unfold mo at h
 split at h
 next k=>have k:=aI (List.all_eq_true.1 k l hl);exact⟨k.1,k.2.1,k.2.2.1,k.2.2.2.1⟩
 .cases h
theorem n6{α:Type} [Inhabited α] {xs:List α} {i:Nat} (h:i<xs.length):xs.getD i default∈xs:=by
 have:=bR (xs:=xs) (i:=(i:Nat)) ab ab
 simpa using this
theorem Ow{x:au}(h:first (gW x) (ay x).length=0):∀ k∈bo x,0<=k:=λk hk=>by
 obtain⟨q,hq,rfl⟩:=List.mem_map.1 hk
 obtain⟨i,hi,e⟩:=List.mem_iff_getElem.1 hq
 have k1:=vw h i hi
 unfold gW at k1
 rw[bJ,cK hi,f9,e] at k1
 split at k1
 .cases k1
 split at k1
 .cases k1
 rename_i h2
 show 0<=q.2
 omega
structure NV (x:au):Prop where
 len:(ay x).length<=32
 pos:0<(ay x).length
 bad:first (gW x) (ay x).length=0
 loop:¬ oo x
 form:¬ mN x
 tab:dL (aU x) (bo x)=0
theorem Ih{x:au}(h:d8 x=0):NV x:=by
 unfold d8 at h
 split at h
 .cases h
 rename_i h1
 split at h
 next k=>exact absurd h k
 rename_i h2
 split at h
 .cases h
 rename_i h3
 split at h
 .cases h
 rename_i h4
 split at h
 next k=>exact absurd h k
 split at h
 next k=>exact absurd h k
 refine⟨ab,?_,ab,h3,h4,h⟩
 unfold mN at h4
 omega
theorem B4{n:aQ}(h:lz n=0){i:Nat}(hi:i<n.1.length):NV (n.1.getD i default):=by
 have k:=vw h i hi
 unfold lp at k
 split at k
 next e=>exact absurd k e
 next e=>exact Ih ab
theorem No{n:aQ}(h:lz n=0):∀ x∈n.1,NV x:=λx hx=>by
 obtain⟨i,hi,e⟩:=List.mem_iff_getElem.1 hx
 have:=B4 h hi
 rw[bJ,cK hi,e] at this;exact this
structure TB (n:aQ) (t:List (List Rt)):Prop where
 len:t.length=n.1.length
 r:∀ i:Nat,i<n.1.length->cJ (t.getD i default)/\okL (t.getD i default)
theorem y9{α β:Type} [Inhabited α] [Inhabited β] {f:α->β} {l:List α} {i:Nat} (h:i<l.length):(l.map f).getD i default=f (l.getD i default):=by
 rw[bJ,bJ,List.getElem?_map,cK h];rfl
theorem qD(n:aQ):∀ i:Nat,(dH n i).length=n.1.length
 | 0=>by simp[dH]
 | i+1=>by rw[dH,gC,qD n i]
theorem Hs{n:aQ}(hb:lz n=0):∀{i:Nat},first (gU n) i=0->TB n (dH n i)
 | 0,_=>⟨qD n 0,λi hi=>by
  rw[dH,y9 hi];exact xR (B4 hb hi).tab⟩
 | i+1,h=>by
  have h0:first (gU n) i=0:=by
   by_cases e:first (gU n) i=0
   .exact e
   .rw[first,am e] at h;exact h
  have k:=Hs hb h0;have hz:gU n i=0:=vw h i ab;refine⟨qD n _,λj hj=>?_⟩;rw[dH];unfold gU mY at hz;generalize n.2.2.getD i default=c at hz ⊢;split at hz
  .cases hz
  split at hz
  .cases hz
  split at hz
  .cases hz
  rename_i hw;split at hz
  .cases hz
  by_cases e:(bL c).toNat=j
  .subst e;rw[kv (by rw[k.len];exact hj)];exact xR hz
  .rw[nt e];exact k.r j hj
structure okNet (n:aQ):Prop where
 t:∀ x∈n.1,cJ (aU x)/\(aU x).length<=1000∧∀ r∈aU x,(r.2.1.length:Int)<=1099511627776
 c:n.2.2.length<=1000
 s:∀ c∈n.2.2,((dO c).2.1.length:Int)<=1099511627776
def Cd(who at':Int)(l:List Rt)(c:aV):List Rt:=if bL c=who/\fc c<=at' then f7 l c else l
def qW(n:aQ)(who at':Int)(k:Int):List Rt:=(n.2.2.take k.toNat).foldl (Cd who at') (aU (n.1.getD who.toNat default))
def d5(n:aQ)(who at':Int):List Rt:=if who<0∨(n.1.length:Int)<=who then [] else qW n who at' n.2.2.length
structure xF (m:Nat) (l:List Rt):Prop where
 s:cJ l
 n:l.length<=m
 x:∀ r∈l,(r.2.1.length:Int)<=1099511627776
theorem xF.okL{m:Nat}{l:List Rt}(h:xF m l)(hm:m<=100000):okL l:=⟨by have:=h.n;omega,h.x⟩
theorem xF.ch{m:Nat}{l:List Rt}(h:xF m l){c:aV}(hc:((dO c).2.1.length:Int)<=1099511627776):xF (m+1) (f7 l c):=by
 unfold f7
 split
 .refine⟨List.Pairwise.filter _ h.s,?_,λr hr=>h.x r (List.mem_filter.1 hr).1⟩;have:=PY l (dO c).1;have:=h.n;omega
 .refine⟨Ib h.s,?_,λr hr=>?_⟩
  .have:=KR l (dO c);have:=h.n;omega
  .rcases K0.1 hr with rfl|⟨hr,-⟩
   .exact hc
   .exact h.x r hr
theorem RD{n:aQ}{who at' k:Int}(k0:0<=k)(k1:k<n.2.2.length):qW n who at' (k+1)=Cd who at' (qW n who at' k) (n.2.2.getD k.toNat default):=by
 unfold qW
 rw[rD k0 k1,iD];rfl
theorem KC{n:aQ}(h:okNet n){who at':Int}(w0:0<=who)(w1:who<n.1.length):∀ k:Nat,k<=n.2.2.length->xF (1000+k) (qW n who at' k)
 | 0,_=>by
  have:=h.t _ (bR w0 w1);exact⟨this.1,this.2.1,this.2.2⟩
 | k+1,hk=>by
  have i:=KC h (at':=at') w0 w1 k ab;rw[show ((k+1:Nat):Int)=(k:Int)+1 by omega,RD ab ab];unfold Cd;split
  .have:=i.ch (c:=n.2.2.getD (k:Int).toNat default) (h.s _ (bR ab ab));exact this
  .exact⟨i.s,by have:=i.n;omega,i.x⟩
theorem Mt{n:aQ}(h:okNet n)(who at':Int):xF 2000 (d5 n who at'):=by
 unfold d5
 split
 .exact⟨List.Pairwise.nil,aA,λr hr=>by cases hr⟩
 .have:=KC h (who:=who) (at':=at') ab ab n.2.2.length (ir _);have hc:=h.c;exact⟨this.s,by have:=this.n;omega,this.x⟩
def BI(ns:List au)(a:Int):Nat:=ns.findIdx λx=>dC x a
def sJ(n:aQ)(a:Int):Bool:=decide (BI n.1 a<n.1.length)
def uz(n:aQ)(a:Int):Int:=if BI n.1 a<n.1.length then (BI n.1 a:Int) else 0
theorem NN{x:au}{a:Int}:0<=jq x a↔a∈mg x:=by
 unfold jq gX
 constructor
 .intro h;split at h
  next k=>have:=List.findIdx_getElem (w:=k);exact List.mem_map.2 ⟨_,List.getElem_mem k,aI this⟩
  .omega
 .intro h;obtain⟨q,hq,rfl⟩:=List.mem_map.1 h;have:(ay x).findIdx (gZ q.1)<(ay x).length:=List.findIdx_lt_length_of_exists ⟨q,hq,by unfold gZ;simp⟩;rw[am this];omega
theorem Ml{x:au}{a:Int}:dC x a=true↔a∈cG x:=by
 unfold dC cG
 rw[px,dM,om,NN,dB]
 refine or_congr m5 ?_
 by_cases h:fA x=0
 .rw[am h];simp[h]
 .rw[af h];simp[h];exact eq_comm
def nK(x:au):ct:=(aU x,0,replicate (ay x).length 0,Co (jT x) 0,0)
def zO(b t:Int×Int):Prop:=(0<=t.2/\t.2<=1125899906842624)/\(b=(0,0)->t.1=0)/\(b≠(0,0)->0<=t.1/\t.1<=b.1*b.2)
structure iT (x:au) (s:ct) (K:Int):Prop where
 srt:cJ (bS s)
 okl:okL (bS s)
 rt:∀ r∈bS s,lf r (bo x)
 ps:(lI s).length=(ay x).length
 tk:zO (jT x) (tq s)
 cn:0<=pL s/\pL s<=K
 cp:∀ y∈lI s,0<=y/\y<=K
def i7(x:au)(s:ct)(link at':Int)(b:ae):dQ:=(x,s,link,at',b,(aY b).1)
def kB(kind:Int)(w:dQ)(f i:Int):ae:=if kind=2 then dW w 11 0 f i else if kind=3 then dW w 3 0 f i else fW w f i
def kE(kind:Int)(w:dQ)(i:Int):Int:=if kind=2 then ju w 11 0 i else if kind=3 then ju w 3 0 i else kX w i
def pi(kind:Int)(w:dQ):Int:=if kind=0 then jo w.2.2.2.2.2 else 0
def tK(w:dQ)(kind:Int):oI:=dD (kB kind w) (kE kind w) w (pi kind w)
theorem Fk{b:Int×Int}(h:g7 b=0):b=(0,0)∨(1<=b.1/\b.1<=65536/\1<=b.2/\b.2<=1073741824/\b.2<=b.1*b.2/\b.1*b.2<=70368744177664):=by
 unfold g7 at h
 split at h
 next hh=>
  rcases hh with hh|⟨h1,h2,h3,h4⟩
  .exact .inl hh
  .refine .inr ⟨h1,h2,h3,h4,?_,?_⟩
   .have:=Int.mul_le_mul_of_nonneg_right (a:=1) (b:=b.1) (c:=b.2) h1 ab;omega
   .have:=Int.mul_le_mul (a:=b.1) (b:=b.2) (c:=65536) (d:=1073741824) h2 h4 ab ab;omega
 .cases h
theorem YX{b:Int×Int}(h:g7 b=0)(x:Int):Co b x=(b.1*b.2,x):=by
 rcases Fk h with rfl|hh
 .rfl
 .unfold Co w;rw[aG ab ab]
theorem Vj{b t:Int×Int}{x:Int}(h:g7 b=0)(hb:b≠(0,0))(ht:zO b t)(hx:0<=x/\x<=1125899906842624) :
  kH b t x=if min (t.1+(max x t.2-t.2)) (b.1*b.2)<b.2 then ((min (t.1+(max x t.2-t.2)) (b.1*b.2),max x t.2),false) else ((min (t.1+(max x t.2-t.2)) (b.1*b.2)-b.2,max x t.2),true):=by
 obtain⟨h1,-,h3⟩:=ht
 have h3:=h3 hb
 have hc:=(Fk h).resolve_left hb
 have e:ta b t (max x t.2)=min (t.1+(max x t.2-t.2)) (b.1*b.2):=by
  unfold ta w;rw[aG (n:=max x t.2-t.2) ab ab,aG ab ab,aG ab ab]
 unfold kH w
 rw[af hb,e]
 split
 .rfl
 .rw[aG ab ab]
theorem aP9{b t:Int×Int}{x:Int}(h:g7 b=0)(ht:zO b t)(hx:0<=x/\x<=1125899906842624):zO b (kH b t x).1/\(kH b t x).1.2=max x t.2:=by
 have h1:=ht.1
 by_cases hb:b=(0,0)
 .subst hb;rw[show kH (0,0) t x=((0,max x t.2),true) by simp[kH]];exact⟨⟨⟨by show 0<=max x t.2;omega,by show max x t.2<=_;omega⟩,λ_=>rfl,λk=>absurd rfl k⟩,rfl⟩
 .have hc:=(Fk h).resolve_left hb;have h3:=ht.2.2 hb;rw[Vj h hb ht hx];split
  .exact⟨⟨⟨by show 0<=max x t.2;omega,by show max x t.2<=_;omega⟩,λk=>absurd k hb,λ_=>⟨by show 0<=min _ _;omega,by show min _ _<=_;omega⟩⟩,rfl⟩
  .exact⟨⟨⟨by show 0<=max x t.2;omega,by show max x t.2<=_;omega⟩,λk=>absurd k hb,λ_=>⟨by show 0<=min _ _-_;omega,by show min _ _-_<=_;omega⟩⟩,rfl⟩
structure n8 (x:au):Prop where
 n1:1<=(ay x).length
 n32:(ay x).length<=32
 id:iW x=0
 bk:g7 (jT x)=0
 rt:dL (aU x) (bo x)=0
 loop:¬ oo x
 ports:∀ i,i<(ay x).length->gW x i=0
 form:¬ mN x
theorem KU{x:au}(h:d8 x=0):n8 x:=by
 unfold d8 at h
 split at h
 .cases h
 rename_i a1
 split at h
 next k=>exact absurd h k
 rename_i a2
 split at h
 .cases h
 rename_i a3
 split at h
 .cases h
 rename_i a4
 split at h
 next k=>exact absurd h k
 rename_i a5
 split at h
 next k=>exact absurd h k
 rename_i a6
 refine⟨?_,ab,by simpa using a5,by simpa using a6,h,a3,vw (by simpa using a2),a4⟩
 by_cases k:(ay x).length=0
 .exact absurd (.inr (.inr (.inr (.inr (.inr (.inr k)))))) a4
 .omega
theorem at8{a:Int}(h:fB a):a≠0:=by
 rintro rfl
 revert h
 unfold fB
 decide
theorem tR{q:Int×Int->Bool}{l:List (Int×Int)}(h:0<=gX q l):gX q l<l.length/\q (l.getD (gX q l).toNat default)=true:=by
 unfold gX at h ⊢
 split at h
 next hlt=>rw[am hlt];refine⟨ab,?_⟩;rw[Int.toNat_natCast,bJ,cK hlt,f9];exact List.findIdx_getElem (w:=hlt)
 .omega
theorem Oc{q:Int×Int->Bool}{l:List (Int×Int)}{y:Int×Int}(hy:y∈l)(hq:q y=true):0<=gX q l:=by
 have hlt:l.findIdx q<l.length:=List.findIdx_lt_length_of_exists ⟨y,hy,hq⟩
 unfold gX;rw[am hlt];omega
theorem Lg{x:au}{i:Nat}(h:gW x i=0):fB ((ay x).getD i default).1∧¬ ((ay x).getD i default).2<0:=by
 unfold gW at h
 split at h
 .cases h
 next k=>
  split at h
  .cases h
  next k2=>exact⟨o8.1 λq=>k (.inl q),λq=>k2 (.inl q)⟩
theorem U2{x:au}(h:n8 x){a:Int}(ha:dC x a=true):a≠0:=by
 rintro rfl
 unfold dC at ha
 simp only[px,mh,dM,rP,pn] at ha
 rcases ha with ha|⟨h1,h2⟩
 .have ha:0<=gX (gZ 0) (ay x):=ha;obtain⟨k1,k2⟩:=tR (q:=gZ 0) (l:=ay x) ha;have:=(Lg (h.ports (gX (gZ 0) (ay x)).toNat ab)).1;have e:((ay x).getD (gX (gZ 0) (ay x)).toNat default).1=0:=aI k2;rw[e] at this;exact at8 this rfl
 .exact h1 h2
theorem aO1{x:au}(h:n8 x)(k:Int):cj x k<(ay x).length:=by
 have:=h.n1
 unfold cj
 by_cases hk:0<=cu x k
 .have:=(tR hk).1;have e:cu x k=gX (ic k) (ay x):=rfl;omega
 .omega
theorem Pp{x:au}{i:Int}(h0:0<=i)(h1:i<(ay x).length):adr x i=((ay x).getD i.toNat default).1:=by
 unfold adr;rw[af ab]
theorem aT1{l:List Rt}{a:Int}(h:ia l a=true):bf l a∈l:=by
 have key:∀(l:List Rt)(b:Option Rt)(r:Rt),l.foldl (tC a) b=some r->r∈l∨b=some r:=by
  intro l
  induction l with
  | nil=>intro b r e;exact .inr e
  | cons y l ih =>
   intro b r e;rcases ih _ _ e with h1|h1
   .exact .inl (fM _ h1)
   .unfold tC at h1;split at h1
    .split at h1
     .cases h1;exact .inl fY
     .split at h1
      .cases h1;exact .inl fY
      .exact .inr h1
    .exact .inr h1
 unfold ia at h
 unfold bf
 cases hl:lZ l a with
 | none=>rw[hl] at h;cases h
 | some r =>
  rcases key l none r hl with k|k
  .exact k
  .cases k
theorem Jz{s:ct}{a:Int}(h:¬ fT s a=false):bf (bS s) a∈bS s:=by
 refine aT1 ?_
 unfold fT at h
 cases hb:ia (bS s) a with
 | true=>rfl
 | false=>rw[hb] at h;simp at h
theorem QR{x:au}{s:ct}{r:Rt}{k:d6}(h:r.2.1≠[]):jg x s r k∈r.2.1:=by
 have hpos:1<=(r.2.1.length:Int):=by cases hh:r.2.1 with
  | nil=>exact absurd hh h
  | cons a l=>simp;omega
 unfold jg
 split
 .exact bR (i:=0) ab ab
 .have hc:=R7 (way:=r.2.2) (seed:=rG x) (k:=k) (count:=jI s) hpos;exact bR hc.1 hc.2
theorem PC{r:Rt}{links:ae}(h:lf r links):∀ y∈r.2.1,y∈links:=by
 intro y hy
 obtain⟨i,hi,rfl⟩:=List.mem_iff_getElem.1 hy
 have:=(h.1.2 i hi).2
 rwa [bJ,cK hi,f9] at this
theorem JJ{x:au}{k:Int}(h:k∈bo x):0<=cu x k:=by
 obtain⟨y,hy,rfl⟩:=List.mem_map.1 h
 exact Oc hy (by simp[ic])
theorem UR{x:au}{s:ct}{K:Int}(hs:iT x s K){a:Int}(hw:¬ fT s a=false)(s':ct)(k:d6):0<=cu x (jg x s' (bf (bS s) a) k) :=
 JJ (PC (hs.rt _ (Jz hw)) _ (QR (BD hw)))
theorem as2{l:ae}{K i:Int}(h:∀ y∈l,0<=y/\y<=K)(hK:0<=K/\K<=2199023255552)(h0:0<=i):(qV l i).length=l.length∧∀ y∈qV l i,0<=y/\y<=K+1:=by
 unfold qV
 split
 next hi=>
  refine⟨gC,λy hy=>?_⟩;rcases AW hy with hy|rfl
  .have:=h y hy;omega
  .have:=h _ (bR h0 hi);rw[aG ab ab];omega
 .exact⟨rfl,λy hy=>by have:=h y hy;omega⟩
theorem iT.more{x:au}{s:ct}{K K':Int}(h:iT x s K)(hk:K<=K'):iT x s K' :=
 ⟨h.srt,h.okl,h.rt,h.ps,h.tk,by have:=h.cn;omega,λy hy=>by have:=h.cp y hy;omega⟩
theorem iT.tok{x:au}{s:ct}{K:Int}(h:iT x s K){t:Int×Int}(ht:zO (jT x) t):iT x (B7 s t) K:=⟨h.srt,h.okl,h.rt,h.ps,ht,h.cn,h.cp⟩
theorem iT.bal{x:au}{s:ct}{K:Int}(h:iT x s K)(b:Int):iT x (Qh s b) K:=⟨h.srt,h.okl,h.rt,h.ps,h.tk,h.cn,h.cp⟩
theorem iT.pick{x:au}{s:ct}{K:Int}(h:iT x s K)(r:Rt):iT x (gD s r) K:=by
 unfold gD;split
 .exact h
 .exact h.bal _
theorem iT.sent{x:au}{s:ct}{K i:Int}(h:iT x s K)(hK:0<=K/\K<=2199023255552)(h0:0<=i):iT x (M0 s i) (K+1):=by
 obtain⟨b1,b2⟩:=as2 h.cp hK h0
 refine⟨h.srt,h.okl,h.rt,b1.trans h.ps,h.tk,?_,b2⟩
 have:=h.cn
 show 0<=IntKind.i64.wrap (pL s+1)/\IntKind.i64.wrap (pL s+1)<=K+1
 rw[aG ab ab];omega
theorem Kf{B:Int->Int->ae}{E:Int->Int}{w:dQ}{own:Int}{K:Int}(hx:n8 w.1)(hs:iT w.1 w.2.1 K)(hK:0<=K/\K<=2199023255552)(ha:0<=w.2.2.2.1/\w.2.2.2.1<=1125899906842624) :
  iT w.1 (dD B E w own).1 (K+1):=by
 have ht:=aP9 hx.bk hs.tk ha
 unfold dD
 split
 .exact hs.more ab
 split
 .exact hs.more ab
 split
 .exact hs.more ab
 split
 .exact (hs.tok ht.1).more ab
 .exact ((hs.tok ht.1).sent hK (D5 _ _)).pick _
theorem Wo{x:au}{s:ct}{link at':Int}{b:ae}{K:Int}(hx:n8 x)(hs:iT x s K)(hK:0<=K/\K<=2199023255552)(ha:0<=at'∧at'<=1125899906842624):iT x (fP x s link at' b).1 (K+1):=by
 have m:iT x s (K+1):=hs.more ab
 unfold fP gg
 split
 .exact m
 split
 .unfold ig;split
  .exact m
  .exact Kf (w:=vy (x,s,link,at',b,pC) (aY b).1) hx hs hK ha
 split
 .exact m
 .unfold fH;split
  .exact Kf (w:=vy (x,s,link,at',b,pC) (aY b).1) hx hs hK ha
  split
  .split
   .exact m
   .exact Kf (w:=vy (x,s,link,at',b,pC) (aY b).1) hx hs hK ha
  .exact m.pick _
theorem OS{x:au}(hx:n8 x):iT x (nK x) 0:=by
 obtain⟨h1,h2⟩:=xR hx.rt
 obtain⟨-,-,h3⟩:=B8 hx.rt
 refine⟨h1,h2,λr hr=>(h3 r hr).2,uh,?_,⟨fZ _,fZ _⟩,λy hy=>by rw[List.eq_of_mem_replicate hy];exact⟨fZ _,fZ _⟩⟩
 show zO (jT x) (Co (jT x) 0)
 rw[YX hx.bk]
 refine⟨⟨aA,aA⟩,λk=>by rw[k];rfl,λk=>?_⟩
 have:=(Fk hx.bk).resolve_left k
 exact⟨by show 0<=_*_;omega,fZ _⟩
def Ma:Ct:=⟨[.val (.sl dh)],[.own 96 dh],λd=>[okL d.1],λd=>((d.1,()),())⟩
def YP:bw Ma.ps->ce:=(λd=>{loops:=(bp 3 (λS=>{ι:=Int,μ:=λi=>(d.1.length-i).toNat,inv:=λi=>0<=i/\i<=d.1.length,keep:=[3,8,9],slots:=λi=>[(10,.int .i64 i)],keepN:=[128]}) cC)})
theorem aq7 :
 ∀(a:List aN),(a.length<=maxLen/\ ∀(b:aN),b∈a->((0<=b.1.1/\b.1.1<=4294967295)/\aq b.1.2)/\(b.2.1.length<=maxLen/\ ∀(c:Int),c∈b.2.1->aq c)/\aq b.2.2)/\True->((ac a)<=134217728/\ ∀(b:Rt),b∈a->(ac b.2.1)<=1099511627776)->(ac a)<=134217728/\(∃(b:Int),(0<=b/\b<=(ac a))/\(ac a)=(ac a)/\0=b/\a=a/\True)/\ ∀(b:Int),0<=b/\b<=(ac a)->ao (decide (b<(ac a))) (0<=b/\b<(ac a)/\((length (ai a b).2.1):Int)<=1099511627776/\0<=b/\b<(ac a)/\ ∃(c:Int),(0<=c/\c<=(ac a))/\toNat ((ac a) -c)<toNat ((ac a) -b)/\(ac a)=(ac a)/\aj (b+1)=c/\set a b.toNat (ai a b)=a/\True) (a=a):=by
  delta aj ai ac;rintro l ⟨⟨hl,-⟩,-⟩⟨h1,h2⟩;simp only[maxLen] at hl;refine⟨h1,⟨0,⟨ab,ab⟩,aP⟩,?_⟩;rintro j ⟨j0,j1⟩;refine bT (λhj=>?_) (λhj=>?_)
  .refine⟨j0,hj,h2 _ (bR j0 hj),j0,hj,j+1,⟨ab,ab⟩,ab,?_⟩
   (repeat refine jp ?_);exact⟨r7 j0 hj,bv⟩
  .rfl
theorem Oi:aB 99 Ma.spec:=aF Tryz.func99 (av (av aC RT) yh) YP aq7
def SL:Ct:=⟨[.agg bU],[.agg qh],λd=>[okL (aU d.1),((ay d.1).length:Int)<=1000000],λd=>((nK d.1,()),())⟩
theorem aU8 :
 ∀(a:au),CT.wf bU a/\True->okL (aU a)/\((length (ay a)):Int)<=1000000->0<=(ac a.1)/\(ac a.1)<=(ac a.1)/\(↑(8:Nat):Int)*(ac a.1)<=281474976710656/\okL a.2.2.2.2.1/\(a.2.2.2.2.1,(0:Int),replicate (toNat (ac a.1)) (0:Int),(w (a.2.2.2.2.2.2.2.2.2.2.1.1*a.2.2.2.2.2.2.2.2.2.2.1.2),(0:Int)),(0:Int))=nK a:=by
  delta ac;rintro d-⟨h,hl⟩;have hl:(d.1.length:Int)<=1000000:=hl;exact⟨ab,ab,ab,h,rfl⟩
theorem aR4:aB 41 SL.spec:=aF Tryz.func41 (av (av aC Y7) Oi) aT aU8
def UF:Ct:=⟨[.agg bU,.agg qh,.val cI,.val cI,.val (.sl bN)],[.agg qh,.agg wV,.val cI],λd=>[cJ (bS d.2.1),okL (bS d.2.1),((lI d.2.1).length:Int)<=1000000,(d.2.2.2.2.1.length:Int)<=1000000],λd=>(((fP d.1 d.2.1 d.2.2.1 d.2.2.2.1 d.2.2.2.2.1).1,(fP d.1 d.2.1 d.2.2.1 d.2.2.2.1 d.2.2.2.2.1).2.1,(fP d.1 d.2.1 d.2.2.1 d.2.2.2.1 d.2.2.2.2.1).2.2,()),())⟩
def Cz(a:au)(b:List aN)(c:Int)(d:ae)(e f g h i:Int)(j:ae) :=
 (a,(b,c,d,(e,f),g),h,i,j,(0:Int),(0:Int),(0:Int),(0:Int),false,(0:Int),(0:Int))
theorem X7 :
 ∀(a:au)(b:List aN)(c:Int)(d:ae)(e f g h i:Int)(j:ae),CT.wf bU a/\((b.length<=maxLen/\ ∀(k:aN),k∈b->((0<=k.1.1/\k.1.1<=4294967295)/\aq k.1.2)/\(k.2.1.length<=maxLen/\ ∀(l:Int),l∈k.2.1->aq l)/\aq k.2.2)/\aq c/\(d.length<=maxLen/\ ∀(k:Int),k∈d->aq k)/\(aq e/\aq f)/\aq g)/\aq h/\aq i/\(j.length<=maxLen/\ ∀(k:Int),k∈j->0<=k/\k<=255)/\True->cJ (bS (b,c,d,(e,f),g))/\okL (bS (b,c,d,(e,f),g))/\((length (lI (b,c,d,(e,f),g))):Int)<=1000000/\(ac j)<=1000000->(ac d)<=1099511627776/\okL b/\pz (Cz a b c d e f g h i j)/\(gg (Cz a b c d e f g h i j)).1=(fP a (b,c,d,(e,f),g) h i j).1/\(gg (Cz a b c d e f g h i j)).2.1=(fP a (b,c,d,(e,f),g) h i j).2.1/\(gg (Cz a b c d e f g h i j)).2.2=(fP a (b,c,d,(e,f),g) h i j).2.2:=by
  delta Cz ac;rintro d x x1 x2 x3 x4 x5 x6 x7 x8-⟨hs,hl,hp,hb⟩;have e2:lI (x,x1,x2,(x3,x4),x5)=x2:=rfl;rw[e2] at hp;exact⟨ab,hl,⟨hs,hl,hb⟩,rfl,rfl,rfl⟩
theorem aS4:aB 109 UF.spec:=aF Tryz.func109 (av (av (av aC yh) Oi) aj7) aT X7
theorem zS(s:ct)(r:Rt):gD s r=(s.1,s.2.1,s.2.2.1,s.2.2.2.1,jI (gD s r)):=by unfold gD;split <;> rfl
theorem Yc(k:Int)(w:dQ)(f i:Int):((kB k w f i).length:Int)<=1500:=by
 unfold kB;split
 .exact H6 ..
 .split
  .exact H6 ..
  .exact Nk ..
theorem TU(w:dQ):tK w 0=dD (fW w) (kX w) w (jo w.2.2.2.2.2):=rfl
theorem af1(w:dQ):tK w 1=dD (fW w) (kX w) w 0:=rfl
theorem aX2(w:dQ):tK w 2=dD (dW w 11 0) (ju w 11 0) w 0:=rfl
theorem Xx(w:dQ):tK w 3=dD (dW w 3 0) (ju w 3 0) w 0:=rfl
end Go.RS
