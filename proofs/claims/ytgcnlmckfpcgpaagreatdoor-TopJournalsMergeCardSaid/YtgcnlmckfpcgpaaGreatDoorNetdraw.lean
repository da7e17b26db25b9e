/- Topo: networks: their errors and their parts. -/
import Derived.Test.YtgcnlmckfpcgpaaGreatDoorSch
import Derived.Test.YtgcnlmckfpcgpaaGreatDoorNetd
set_option maxRecDepth 100000
set_option linter.all false
open Int (toNat)
open List (length take getD set replicate range)
open Bool renaming false->bZ6,false_or->cq3,true->bZ3
open Decidable renaming decide->bZ2
open Go renaming maxLen->cb2
open Go.IntKind renaming i64->bZ4,u32->bZ7,wrap->bZ5
open Inhabited renaming default->Sk
open Int renaming sub_zero->cC2,tmod->cd8,toNat->it
open List renaming all_eq_true->ci6,any_eq_true->cc5,append->ct8,brecOn->ct7,exists_cons_of_ne_nil->cp3,foldl->cb9,foldl_cons->ce5,foldl_nil->ci8,getD->Om,getD_cons_succ->cm4,getElem?_map->ce9,length->be,length_nil->cb8,length_pos_of_mem->ch8,mem_filter->ce8,mem_iff_getElem->cb5,mem_map->cc1,mem_range->cd3,pairwise_cons->ca4,pairwise_singleton->ck5,set_set->cr3
open List.Pairwise renaming filter->cm2,map->cC1,nil->ce6
open Nat renaming mul_le_mul->cA4,sub_self->cp7
namespace Go.RS
open Go.SX Go.Proofs
def f7(x:au):ad:=wV x++(if kL x=0 then [] else [kL x])
def ae2:Ct:=⟨[.val cI,.val cI,.val cI],[.val .bool],λ_=>[],λd=>((bZ2 (d.2.1<=d.1/\d.1<=d.2.2.1),()),())⟩
theorem aq5:
 ∀(a b c:Int),bG a b (aq c) True->True-> ∀(d:Bool),d=bZ2 (b<=a)->(d->dA d)/\(d->d)/\br d (bZ2 (a<=c))=bZ2 (b<=a/\a<=c):= by
  delta aq aK aJ bG br ai dA
  rintro a b c - -
  (repeat (refine cL ?_;repeat refine cK ?_))
  by_cases h1:b<=a <;> by_cases h2:a<=c <;> simp[h1,h2]
theorem MD:aC 168 ae2.spec:=aF Tryz.func168 aD aU aq5
def VR:Ct:=⟨[.agg eh],[.own 52 dw],λd=>[be (aS d.1)<=100000],λd=>((f7 d.1,()),())⟩
def bp9:bw VR.ps->bL:=(λd=>{loops:=(bu 3 (λS=>{ι:=Int×ad,qn:=fH,μ:=λi=>it (be (aS d.1)-i.1),inv:=λi=>0<=i.1/\i.1<=be (aS d.1)/\i.2=(wV d.1).take (it i.1),keep:=[1,7,8],slots:=λi=>[(3,.own 524288 1),(9,.int .i64 i.1)],keepN:=[32],names:=λi=>[(524288,.live (.row 52 dw i.2))]}) cC)})
def Ll(a:Int)(b:au)(c:ad):=am a (a<=ac (aS b)) (c=take (it a) (wV b))
theorem bh0:
 ∀(a:au),ai (CT.wf eh a)->qO (aS a)->(∃(b:Int) (c:ad),Ll b a c/\a.1=a.1/\bn (ac a.1) (ac a.1) 0 b (a.1=a.1) (lp a.2.1 a.2.2.1 a.2.2.2.1 (a.2.2.2.2.1=a.2.2.2.2.1) (aZ a.2.2.2.2.2.1 a.2.2.2.2.2.2.1 a.2.2.2.2.2.2.2.1 a.2.2.2.2.2.2.2.2.1 (a.2.2.2.2.2.2.2.2.2.1=a.2.2.2.2.2.2.2.2.2.1) (lp a.2.2.2.2.2.2.2.2.2.2.1.1 a.2.2.2.2.2.2.2.2.2.2.1.2 a.2.2.2.2.2.2.2.2.2.2.2.1 (a.2.2.2.2.2.2.2.2.2.2.2.2.1=a.2.2.2.2.2.2.2.2.2.2.2.2.1) (bp a.2.2.2.2.2.2.2.2.2.2.2.2.2.1 a.2.2.2.2.2.2.2.2.2.2.2.2.2.2 (c=[]) True)))))/\ ∀(b:Int)(c:ad),Ll b a c->ar (ax b (ac a.1)) (bJ b (ac a.1) (bP ((be c+be (bz (ae a.1 b).1))*4)) (∃(d:Int) (e:ad),Ll d a e/\Cu a d b a.1 (a.1=a.1) (lp a.2.1 a.2.2.1 a.2.2.2.1 (a.2.2.2.2.1=a.2.2.2.2.1) (aZ a.2.2.2.2.2.1 a.2.2.2.2.2.2.1 a.2.2.2.2.2.2.2.1 a.2.2.2.2.2.2.2.2.1
 (a.2.2.2.2.2.2.2.2.2.1=a.2.2.2.2.2.2.2.2.2.1) (lp a.2.2.2.2.2.2.2.2.2.2.1.1 a.2.2.2.2.2.2.2.2.2.2.1.2 a.2.2.2.2.2.2.2.2.2.2.2.1 (a.2.2.2.2.2.2.2.2.2.2.2.2.1=a.2.2.2.2.2.2.2.2.2.2.2.2.1) (bp a.2.2.2.2.2.2.2.2.2.2.2.2.2.1 a.2.2.2.2.2.2.2.2.2.2.2.2.2.2 (c++bz (ae a.1 b).1=e) True)))))) (ar ( !aV a.2.1) (bP ((be c+be (bz a.2.1))*4)/\c++bz a.2.1=f7 a) (c=f7 a)):= by
  delta ae ac ao aZ bN bp bj am bP aV bz ai bf lp cN bJ ax bn qO Cu Ll
  rintro d-hl
  have hlen:be (wV d)=be (aS d):=by simp[wV]
  have hd:d.1=aS d:=rfl
  have hz:d.2.1=kL d:=rfl
  rw[hd,hz]
  refine⟨⟨0,[],⟨ab,ab,rfl⟩,aI⟩,?_⟩
  rintro j l ⟨j0,j1,rfl⟩
  refine ci (λhk=>?_) (λhk=>?_)
  .refine⟨j0,hk,by simp only[eM,cX,cb8];omega,j+1,_,⟨ab,ab,rfl⟩,ab,?_⟩
   (repeat refine ik ?_)
   refine⟨?_,aP⟩
   rw[JO j0 (by rw[hlen];exact hk)]
   unfold wV
   rw[cq,cq,ce9,cG ab]
   rfl
  .rw[gN ab]
   unfold f7
   refine aw (λh=>?_) (λh=>?_)
   .rw[ah (jC h)]
    exact⟨by simp only[cX,cb8];omega,rfl⟩
   .rw[aj (jx h),iX]
theorem bU4:aC 172 VR.spec:=aF Tryz.func172 aD bp9 bh0
def tH(i:Int)(l:ad)(m:bX8):List bg8:=l.foldl (λm a=>my a i m) m
def j8(ns:List au)(k:Nat):List bg8:=(range k).foldl (λm (i:Nat)=>tH (i:Int) (f7 (Om ns i Sk)) m) []
def YW(ns:List au):Bool:=(range (be ns)).any λ(i:Nat)=>(f7 (Om ns i Sk)).any λa=>iM a (j8 ns i)
def xT(n:Net):Int:=if YW n.1 then 10 else 0
theorem WP{a b v:Int}:∀{m:bX8},iM a (my b v m)=(bZ2 (a=b)||iM a m)
 | []=>by simp only[my,iM];cases bZ2 (a=b) <;> rfl
 | p::m=>by
  simp only[my];by_cases hb:b=p.1
  .rw[ft hb,cond_true,iM,iM,← hb];cases bZ2 (a=b) <;> rfl
  .rw[eT hb,sy,iM,iM,WP];cases bZ2 (a=p.1) <;> cases bZ2 (a=b) <;> rfl
theorem VP{a b v:Int}:∀{m:bX8},nK a (my b v m)=if a=b then v else nK a m
 | []=>by
  simp only[my,nK];by_cases h:a=b
  .rw[ft h,aj h];rfl
  .rw[eT h,ah h];rfl
 | p::m=>by
  simp only[my];by_cases hb:b=p.1
  .rw[ft hb,cond_true,nK,nK,← hb];by_cases h:a=b
   .rw[ft h,aj h];rfl
   .rw[eT h,ah h];rfl
  .rw[eT hb,sy,nK,nK,VP];by_cases h:a=p.1
   .have hab:¬ a=b:=λe=>hb (e.symm.trans h);simp only[ah hab]
   .rw[eT h];rfl
theorem bE5(i a:Int)(l:ad)(m:bX8):tH i (l++[a]) m=my a i (tH i l m):=by
 unfold tH;rw[lT];rfl
theorem Qi{i a:Int}{m:bX8}:∀{l:ad},iM a (tH i l m)=(bZ2 (a∈l)||iM a m)/\nK a (tH i l m)=if a∈l then i else nK a m:=by
 intro l
 induction l generalizing m with
 | nil=>simp[tH]
 | cons b l ih =>
  have k:=ih (m:=my b i m);unfold tH at k ⊢;rw[ce5,k.1,k.2,WP,VP];by_cases h1:a=b <;> by_cases h2:a∈l <;> simp[h1,h2]
theorem VC(ns:List au):∀(k:Nat)(a:Int),iM a (j8 ns k)=bZ3->nK a (j8 ns k)<k
 | 0,a,h=>by cases h
 | k+1,a,h=>by
  have e:j8 ns (k+1)=tH k (f7 (Om ns k Sk)) (j8 ns k):=by unfold j8;rw[mZ,lT];rfl
  rw[e] at h ⊢;have q:=Qi (i:=(k:Int)) (a:=a) (m:=j8 ns k) (l:=f7 (Om ns k Sk));rw[q.1] at h;rw[q.2];split
  .omega
  next hn=>rw[eT hn,cq3] at h;have:=VC ns k a h;omega
def S6:Ct:=⟨[.agg l7],[.val cI],λd=>[∀ x∈d.1.1,be (aS x)<=100000],λd=>((xT d.1,()),())⟩
def aR9:bw S6.ps->bL:=(λd=>{loops:=(bu 3 (λS=>{ι:=Int,μ:=λi=>it (be d.1.1-i),inv:=λi=>0<=i/\i<=be d.1.1∧∀ k:Nat,(k:Int)<i→∀ a∈f7 (Om d.1.1 k Sk),iM a (j8 d.1.1 k)=bZ6,keep:=[1,12,13],slots:=λi=>[(14,.int .i64 i),(3,.mapp 524288)],keepN:=[32],names:=λi=>[(524288,.live (.mp .u32 .i64 (j8 d.1.1 (it i))))]}) (bu 6 (λS=>{ι:=Int,μ:=λi=>it (be (f7 (Om d.1.1 (it (S.i 14)) Sk))-i),inv:=λi=>0<=i/\i<=be (f7 (Om d.1.1 (it (S.i 14)) Sk))∧∀ a∈(f7 (Om d.1.1 (it (S.i 14)) Sk)).take (it i),iM a (j8 d.1.1 (it (S.i 14)))=bZ6,keep:=[1,4,12,13,14,20,21],slots:=λi=>[(22,.int .i64 i),(3,.mapp 524288)],keepN:=[32,336],names:=λi=>[(524288,.live (.mp .u32 .i64 (tH (S.i 14) ((f7 (Om d.1.1 (it (S.i 14)) Sk)).take (it i)) (j8 d.1.1 (it (S.i 14))))))]}) cC))})
def mP(a:List au):=be a<=cb2/\ ∀(b:au),b∈a->kx b.1/\aO b.2.1/\aq b.2.2.1/\True/\c9 b.2.2.2.2.1/\aq b.2.2.2.2.2.1/\aO b.2.2.2.2.2.2.1/\bG b.2.2.2.2.2.2.2.1 b.2.2.2.2.2.2.2.2.1 (aq b.2.2.2.2.2.2.2.2.2.1) ((aq b.2.2.2.2.2.2.2.2.2.2.1.1/\aq b.2.2.2.2.2.2.2.2.2.2.1.2)/\True/\True/\aq b.2.2.2.2.2.2.2.2.2.2.2.2.2.1/\aq b.2.2.2.2.2.2.2.2.2.2.2.2.2.2)
def jH(a:List bo):=be a<=cb2/\ ∀(b:bo),b∈a->bG b.1 b.2.1 (aq b.2.2.1) (aq b.2.2.2.1/\aq b.2.2.2.2.1/\aq b.2.2.2.2.2)
def mw(a:List cH):=be a<=cb2/\ ∀(b:cH),b∈a->bG b.1 b.2.1 True (dB b.2.2.2.1.1 b.2.2.2.1.2 b.2.2.2.2.1 b.2.2.2.2.2)
def gA(a:List au)(b:List bo)(c:List cH):=mP a/\jH b/\mw c
def dX(a:List au)(b:List bo)(c d:Prop):=a=a/\b=b/\c/\d
def Bt(a b:Int)(c:List au):=tH a (take (it b) (f7 (ae c a))) (j8 c (it a))
def I6(a:Int)(b:List au)(c:Int):=am a (a<=ac (f7 (ae b c))) (∀(d:Int),d∈take (it a) (f7 (ae b c))->iM d (j8 b (it c))=bZ6)
def HT(a:Int)(b:List au):=am a (a<=ac b) (∀(c:Nat),(c:Int)<a-> ∀(d:Int),d∈f7 (iK b c)->iM d (j8 b c)=bZ6)
def DD(a:List au)(b c:Int)(d:List bo)(e f:Prop):=bj (ac a) b c/\a=a/\ac a=ac a/\bf c b/\dX a d e f
theorem a82:
 ∀(a:List au)(b:List bo)(c:List cH),ai (gA a b c)->(∀(d:au),d∈a->qO (aS d))->(∃(d:Int),HT d a/\a=a/\ac a=ac a/\0=d/\dX a b (c=c) (ai ([]=j8 a (it d))))/\ ∀(d:Int),HT d a->ar (ax d (ac a)) (bJ d (ac a) (qO (aS (ae a d))) ((∃(e:Int),I6 e a d/\d=d/\a=a/\bN (ac a) d (ac (f7 (ae a d))) (0=e) (dX a b (c=c) (f7 (ae a d)=f7 (ae a d)/\ai (j8 a (it d)=Bt d e a))))/\ ∀(e:Int),I6 e a d->ar (ax e (ac (f7 (ae a d)))) (am e (e<ac (f7 (ae a d))) (∀(f:Bool),f=iM (ae (f7 (ae a d)) e) (Bt d e a)->(f->dA f)/\(f->f)/\ar (br f (cP (nK (ae (f7 (ae a d)) e) (Bt d e a)) d)) (10=xT (a,b,c)) (∃(g:Int),I6 g a d/\bj (ac (f7 (ae a d))) g e/\d=d/\a=a/\bN (ac a) d (ac (f7 (ae a d))) (bf e g) (dX a b (c=c) (f7 (ae a d)=f7 (ae a d)/\ai (my (ae (f7 (ae a
 d)) e) d (Bt d e a)=Bt d g a)))))) (∃(f:Int),HT f a/\DD a f d b (c=c) (ai (Bt d e a=j8 a (it f)))))) (0=xT (a,b,c)):= by
  delta ae iK ac ao aq aK bN bp aJ gA mP c9 dB aO cS jH bG bj br am ai dX Bt I6 bf HT dA kx cN cP bJ mw ax bn DD qO
  rintro ns ls hs ⟨⟨⟨hnl,-⟩,-⟩,-⟩ hp
  simp only[cb2] at hnl
  have hlen:∀ x∈ns,be (f7 x)<=100001:=λx hx=>by
   have:=hp x hx
   unfold f7 wV
   rw[bM,kW]
   split <;> simp <;> omega
  refine⟨⟨0,⟨ab,ab,λk hk=>ab⟩,aI⟩,?_⟩
  rintro i ⟨i0,i1,hI⟩
  refine aw (λhi=>?_) (λhi=>?_)
  rotate_left
  .have hi:=bg hi
   unfold xT
   rw[ah]
   intro h
   have ⟨k,hk,h2⟩:=cc5.1 h
   have ⟨a,ha,h3⟩:=cc5.1 h2
   have hk:k<be ns:=cd3.1 hk
   rw[hI k ab a ha] at h3
   cases h3
  have hi:=aX hi
  have hm:=dm i0 hi
  have hl:=hlen _ hm
  refine⟨i0,hi,hp _ hm,⟨0,⟨ab,ab,az⟩,aI⟩,?_⟩
  rintro j ⟨j0,j1,hJ⟩
  have ei:((it i:Nat):Int)=i:=ab
  refine aw (λhj=>?_) (λhj=>?_)
  rotate_left
  .have hj:=bg hj
   rw[gN ab] at hJ ⊢
   refine⟨i+1,⟨ab,ab,λk hk a ha=>?_⟩,ab,?_⟩
   .by_cases e:(k:Int)<i
    .exact hI k e a ha
    .have:k=it i:=ab
     subst this
     exact hJ a ha
   .have e:tH i (f7 (Om ns (it i) Sk)) (j8 ns (it i))=j8 ns (it (i+1)):=by
     rw[show it (i+1)=it i+1 by omega]
     unfold j8
     rw[mZ,lT,ce5,ci8,ei]
    rw[e]
    exact aI
  have hj:=aX hj
  have ha:=dm j0 hj
  have st:=JO j0 hj
  refine⟨j0,hj,?_⟩
  have q:=Qi (i:=i) (a:=Om (f7 (Om ns (it i) Sk)) (it j) Sk) (m:=j8 ns (it i)) (l:=(f7 (Om ns (it i) Sk)).take (it j))
  generalize Om (f7 (Om ns (it i) Sk)) (it j) Sk=a at ha st q ⊢
  have lt:=VC ns (it i) a
  rw[ei] at lt
  intro b hb
  (repeat refine⟨az,?_⟩)
  refine AM (λx1 x2=>?_) (λhno=>?_)
  .have x2:=jC x2
   rw[hb,q.1] at x1
   rw[q.2] at x2
   have hn:a ∉ (f7 (Om ns (it i) Sk)).take (it j):=λh=>by rw[aj h] at x2;exact x2 rfl
   rw[eT hn,cq3] at x1
   unfold xT
   rw[aj]
   exact cc5.2 ⟨it i,cd3.2 (show it i<be ns by omega),cc5.2 ⟨a,ha,x1⟩⟩
  .have hz:iM a (j8 ns (it i))=false:=by
    by_cases hn:a∈(f7 (Om ns (it i) Sk)).take (it j)
    .exact hJ a hn
    .rw[eT hn,cq3] at q
     rw[ah hn] at q
     obtain h|h:=hno
     .rw[hb,q.1] at h;exact h
     .have h:=jx h
      rw[q.2] at h
      cases hq:iM a (j8 ns (it i)) with
      | false=>rfl
      | true=>have:=lt hq;omega
   refine⟨j+1,⟨ab,ab,λy hy=>?_⟩,ab,?_⟩
   .rw[st] at hy
    obtain hy|hy:=dI.1 hy
    .exact hJ y hy
    .rw[kY.1 hy];exact hz
   .rw[st,bE5]
    exact aI
theorem aY3:aC 102 S6.spec:=aF Tryz.func102 (ap aD bU4) aR9 a82
def ku(ls:List ck)(k x:Int):Int:=if k<0∨(be ls:Int)<=k then -1 else if x=lA (Om ls (it k) Sk) then lB (Om ls (it k) Sk) else if x=lB (Om ls (it k) Sk) then lA (Om ls (it k) Sk) else -1
def uv(n:Net):Int:=if be n.1<1∨64<be n.1∨128<be n.2.1∨64<be n.2.2 then 5 else 0
def bt8:Ct:=⟨[.agg l7],[.val cI],λ_=>[],λd=>((uv d.1,()),())⟩
def HO(a b c d:Bool)(e f:Prop):=∀(g:Bool),g=a->cV g (bR g) (bv g/\ ∀(h:Bool),h=bq g b->cV h (bR h) (bv h/\qS (bq h c) d e f))
theorem bB2:
 ∀(a:List au)(b:List bo)(c:List cH),dW (gA a b c) (HO (ax (ac a) 1) (ax 64 (ac a)) (ax 128 (ac b)) (ax 64 (ac c)) (5=uv (a,b,c)) (0=uv (a,b,c))):= by
  delta ac aq aK bR aJ gA mP c9 dB aO cS jH bG bq cV bv ai qS kx dW mw ax HO
  rintro ns ls hs - -
  (repeat (refine cL ?_;repeat refine cK ?_))
  unfold uv
  refine aw (λh=>?_) (λh=>?_)
  .simp[ic] at h
   rw[aj (by dsimp only;omega)]
  .simp[ic] at h
   rw[ah (by dsimp only;omega)]
theorem br0:aC 98 bt8.spec:=aF Tryz.func98 aD aU bB2
def Ty:Ct:=⟨[.agg eh],[.own 3 cI],λd=>[be (aS d.1)<=100000],λd=>((de d.1,()),())⟩
def aZ2:bw Ty.ps->bL:=(λd=>{loops:=(bu 3 (λS=>{ι:=Int×ad,qn:=fH,μ:=λi=>it (be (aS d.1)-i.1),inv:=λi=>0<=i.1/\i.1<=be (aS d.1)/\i.2=(de d.1).take (it i.1),keep:=[1,7,8],slots:=λi=>[(3,.own 524288 1),(9,.int .i64 i.1)],keepN:=[32],names:=λi=>[(524288,.live (.row 3 cI i.2))]}) cC)})
theorem ak6:
 Lx:= by
 delta ae ac ao aZ bN bp bj Lx am bP bz ai bf lp cN bJ xk ax bn qO Cu Gh
 rintro d-hl
 have hlen:be (de d)=be (aS d):=by simp[de]
 refine⟨⟨0,[],⟨ab,ab,rfl⟩,aI⟩,?_⟩
 rintro j l ⟨j0,j1,rfl⟩
 have hd:d.1=aS d:=rfl
 rw[hd]
 refine ci (λhk=>?_) (λhk=>?_)
 .refine⟨j0,hk,by simp only[eM,cX,cb8];omega,j+1,_,⟨ab,ab,rfl⟩,ab,?_⟩
  (repeat refine ik ?_)
  refine⟨?_,aP⟩
  rw[JO j0 (by rw[hlen];exact hk)]
  unfold de
  rw[cq,cq,ce9,cG ab]
  rfl
 .rw[gN ab]
theorem Xb:aC 170 Ty.spec:=aF Tryz.func170 aD aZ2 ak6
def bI4:Ct:=⟨[.agg l7,.val cI,.val cI],[.val cI],λ_=>[],λd=>((ku d.1.2.1 d.2.1 d.2.2.1,()),())⟩
theorem ae7:
 ∀(a:List au)(b:List bo)(c:List cH)(d e:Int),gA a b c/\dV d e->True->ar ( !bZ2 (0<=d/\d<=ao (ac b -1))) ((-1)=ku b d e) (am d (d<ac b) (ar (bZ2 (e=(ae b d).1)) ((ae b d).2.1=ku b d e) (ar (bZ2 (e=(ae b d).2.1)) ((ae b d).1=ku b d e) ((-1)=ku b d e)))):= by
  delta ae ac ao aq aK gA mP c9 dB aO cS jH bG am ai dV kx mw
  rintro ns ls hs k x ⟨⟨-,⟨hl,-⟩,-⟩,-⟩ -
  simp only[cb2] at hl
  rw[aG (n:=(be ls:Int)-1) ab ab]
  unfold ku lA lB
  refine aw (λh=>?_) (λh=>?_)
  .have h:=jC h
   rw[aj ab]
  have h:=jx h
  rw[ah ab]
  refine⟨h.1,ab,aw (λh1=>?_) (λh1=>?_)⟩
  .rw[aj (aX h1)]
  rw[ah (bg h1)]
  refine ci (λh2=>?_) (λh2=>?_)
  .rw[aj h2]
  .rw[ah h2]
theorem aI8:aC 184 bI4.spec:=aF Tryz.func184 (ap aD MD) aU ae7
def nV(ns:List au)(l:ck):Bool:=gB (Om ns (it (lA l)) Sk)&&gB (Om ns (it (lB l)) Sk)
def wj(n:Net):Int:=if n.2.1.any (nV n.1) then 13 else 0
def FY(n:Net):Prop:=∀ l∈n.2.1,0<=lA l/\lA l<be n.1/\0<=lB l/\lB l<be n.1
def Uw:Ct:=⟨[.agg l7],[.val cI],λd=>[FY d.1],λd=>((wj d.1,()),())⟩
def bA9:bw Uw.ps->bL:=(λd=>{loops:=(bu 2 (λS=>{ι:=Int,μ:=λi=>it (be d.1.2.1-i),inv:=λi=>0<=i/\i<=be d.1.2.1∧∀ x∈d.1.2.1.take (it i),nV d.1.1 x=bZ6,keep:=[1,6,7],slots:=λi=>[(8,.int .i64 i)],keepN:=[32]}) cC)})
def jZ(a:List bo)(b:List cH):=a=a/\ai (b=b)
def Hx(a:Int)(b:List bo)(c:List au):=am a (a<=ac b) (∀(d:bo),d∈take (it a) b->nV c d=bZ6)
theorem bm2:
 ∀(a:List au)(b:List bo)(c:List cH),ai (gA a b c)->(∀(d:ck),d∈b->bJ (lA d) (ac a) (0<=lB d) (lB d<ac a))->(∃(d:Int),Hx d b a/\b=b/\bn (ac b) (ac b) 0 d (a=a) (jZ b c))/\ ∀(d:Int),Hx d b a->sm d (ac b) (d<ac b) (am (ae b d).1 ((ae b d).1<ac a) (∀(e:Bool),e=(ae a (ae b d).1).2.2.2.2.2.2.2.2.2.2.2.2.1->cj e e (aJ e) (e->iP e e (ae b d).2.1 ((ae b d).2.1<ac a)) (uc e e (br e (ae a (ae b d).2.1).2.2.2.2.2.2.2.2.2.2.2.2.1) (13=wj (a,b,c)) (∃(f:Int),Hx f b a/\bj (ac b) f d/\b=b/\ac b=ac b/\bf d f/\a=a/\jZ b c)))) (wj (a,b,c)):= by
  delta ae ac ao aq aK aJ gA mP c9 dB aO cS jH bG cj bj br am ai iP bf kx cN bJ jZ uc mw Hx sm ax bn
  rintro ns ls hs ⟨⟨-,⟨hl,-⟩,-⟩,-⟩ he
  simp only[cb2] at hl
  refine⟨⟨0,⟨ab,ab,az⟩,aI⟩,?_⟩
  rintro i ⟨i0,i1,hI⟩
  refine aw (λhi=>?_) (λhi=>?_)
  rotate_left
  .have hi:=bg hi
   rw[gN ab] at hI
   unfold wj
   rw[ah]
   intro h
   have ⟨l,h1,h2⟩:=cc5.1 h
   rw[hI l h1] at h2;cases h2
  have hi:=aX hi
  have hm:=dm i0 hi
  have e:=he _ hm
  refine⟨i0,hi,e.1,e.2.1,?_⟩
  intro b hb
  (repeat first|refine⟨λh=>⟨λ_=>h,λ_=>h,e.2.2.1,e.2.2.2,aP⟩,?_⟩|refine⟨λh=>⟨λ_=>h,e.2.2.1,e.2.2.2,aP⟩,?_⟩|refine⟨az,?_⟩)
  refine AM (λx1 x2=>?_) (λhno=>?_)
  .unfold wj
   rw[aj]
   refine cc5.2 ⟨_,hm,?_⟩
   unfold nV
   rw[fx]
   exact⟨hb.symm.trans x1,x2⟩
  .refine⟨i+1,⟨ab,ab,yG i0 hi hI ?_⟩,ab,aI⟩
   unfold nV
   rw[Bool.and_eq_false_iff]
   obtain h|h:=hno
   .exact .inl (hb.symm.trans h)
   .exact .inr h
theorem bQ3:aC 103 Uw.spec:=aF Tryz.func103 aD bA9 bm2
def xg(n:Net)(k:Nat):Bool:=bZ2 (fS (Om n.1 (it (lA (Om n.2.1 k Sk))) Sk) k<0)||decide (fS (Om n.1 (it (lB (Om n.2.1 k Sk))) Sk) k<0)
def t5(n:Net):Int:=if (range (be n.2.1)).any (xg n) then 11 else 0
def Re:Ct:=⟨[.agg l7],[.val cI],λd=>[FY d.1],λd=>((t5 d.1,()),())⟩
def aK8:bw Re.ps->bL:=(λd=>{loops:=(bu 2 (λS=>{ι:=Int,μ:=λi=>it (be d.1.2.1-i),inv:=λi=>0<=i/\i<=be d.1.2.1∧∀ k:Nat,(k:Int)<i->xg d.1 k=bZ6,keep:=[1,6,7],slots:=λi=>[(8,.int .i64 i)],keepN:=[32]}) cC)})
def HJ(a b:Int)(c:List au×List ck×List cH):=am a (a<=b) (∀(d:Nat),(d:Int)<a->xg c d=bZ6)
theorem ac8:
 ∀(a:List au)(b:List bo)(c:List cH),ai (gA a b c)->(∀(d:ck),d∈b->bJ (lA d) (ac a) (0<=lB d) (lB d<ac a))->(∃(d:Int),HJ d (ac b) (a,b,c)/\b=b/\bn (ac b) (ac b) 0 d (a=a) (jZ b c))/\ ∀(d:Int),HJ d (ac b) (a,b,c)->sm d (ac b) (d<ac b) (am (ae b d).1 ((ae b d).1<ac a) (∀(e:Bool),e=dH (fS (ae a (ae b d).1) d)->cV e ( !e->iP ( !e) ( !e) (ae b d).2.1 ((ae b d).2.1<ac a)) (bR e/\gq e/\jE e (bq e (dH (fS (ae a (ae b d).2.1) d))) (11=t5 (a,b,c)) (∃(f:Int),HJ f (ac b) (a,b,c)/\bj (ac b) f d/\b=b/\ac b=ac b/\bf d f/\a=a/\jZ b c)))) (t5 (a,b,c)):= by
  delta ae ac ao aq aK bR aJ gA mP c9 dB aO cS jH bG bq bj cV am bv gq ai iP jE bf dA kx cN bJ jZ dH mw sm ax HJ bn
  rintro ns ls hs ⟨⟨-,⟨hl,-⟩,-⟩,-⟩ he
  simp only[cb2] at hl
  refine⟨⟨0,⟨ab,ab,λk hk=>ab⟩,aI⟩,?_⟩
  rintro i ⟨i0,i1,hI⟩
  refine aw (λhi=>?_) (λhi=>?_)
  rotate_left
  .have hi:=bg hi
   unfold t5
   rw[ah]
   intro h
   have ⟨k,h1,h2⟩:=cc5.1 h
   have h1:k<be ls:=cd3.1 h1
   rw[hI k ab] at h2;cases h2
  have hi:=aX hi
  have hm:=dm i0 hi
  have e:=he _ hm
  have ei:((it i:Nat):Int)=i:=ab
  refine⟨i0,hi,e.1,e.2.1,?_⟩
  intro b hb
  (repeat first|refine⟨λh=>⟨λ_=>h,λ_=>h,e.2.2.1,e.2.2.2,aP⟩,?_⟩|refine⟨λh=>⟨λ_=>h,e.2.2.1,e.2.2.2,aP⟩,?_⟩|refine⟨az,?_⟩)
  refine uH (λho=>?_) (λx1 x2=>?_)
  .unfold t5
   rw[aj]
   refine cc5.2 ⟨it i,cd3.2 (show it i<be ls by omega),?_⟩
   unfold xg
   rw[sS,ei]
   obtain h|h:=ho
   .exact .inl (hb.symm.trans h)
   .exact .inr h
  .refine⟨i+1,⟨ab,ab,λk hk=>?_⟩,ab,aI⟩
   by_cases e2:(k:Int)<i
   .exact hI k e2
   .have:k=it i:=ab
    subst this
    unfold xg
    rw[Bool.or_eq_false_iff,ei]
    exact⟨hb.symm.trans x1,x2⟩
theorem ax6:aC 101 Re.spec:=aF Tryz.func101 (ap aD KW) aK8 ac8
def oM(nn:Nat)(l:ck):Prop:=0<=lA l/\lA l<nn/\0<=lB l/\lB l<nn/\lA l≠lB l/\1<=qI l/\qI l<=1073741824/\0<=mI l/\mI l<=1073741824/\0<=vN l/\vN l<=65536
instance (nn:Nat) (l:ck):Decidable (oM nn l):=by unfold oM;infer_instance
def rq(n:Net):Int:=if n.2.1.all (λl=>bZ2 (oM (be n.1) l)) then 0 else 11
def Ug:Ct:=⟨[.agg l7],[.val cI],λd=>[],λd=>((rq d.1,()),())⟩
def bm4:bw Ug.ps->bL:=(λd=>{loops:=(bu 3 (λS=>{ι:=Int,μ:=λi=>it (be d.1.2.1-i),inv:=λi=>0<=i/\i<=be d.1.2.1∧∀ x∈d.1.2.1.take (it i),oM (be d.1.1) x,keep:=[1,3,11,12],slots:=λi=>[(13,.int .i64 i)],keepN:=[32]}) cC)})
def HY(a:Int)(b:List bo)(c:List au):=am a (a<=ac b) (∀(d:bo),d∈take (it a) b->oM (be c) d)
theorem aP9:
 ∀(a:List au)(b:List bo)(c:List cH),dW (gA a b c) ((∃(d:Int),HY d b a/\kK (ac a -1)/\b=b/\bn (ac b) (ac b) 0 d (a=a) (jZ b c))/\ ∀(d:Int),HY d b a->sm d (ac b) (d<ac b) (∀(e:Bool),e=( !bZ2 (0<=(ae b d).1/\(ae b d).1<=ao (ac a -1)))->bR e/\gq e/\bR e/\bv e/\ ∀(f:Bool),zH f e ( !bZ2 (0<=(ae b d).2.1/\(ae b d).2.1<=ao (ac a -1))) (bv f) (HO (bq f (bZ2 ((ae b d).1=(ae b d).2.1))) ( !bZ2 (1<=(ae b d).2.2.1/\(ae b d).2.2.1<=1073741824)) ( !bZ2 (0<=(ae b d).2.2.2.1/\(ae b d).2.2.2.1<=1073741824)) ( !bZ2 (0<=(ae b d).2.2.2.2.1/\(ae b d).2.2.2.2.1<=65536)) (11=rq (a,b,c)) (∃(g:Int),HY g b a/\bj (ac b) g d/\kK (ac a -1)/\b=b/\ac b=ac b/\bf d g/\a=a/\jZ b c))) (rq (a,b,c))):= by
  delta ae ac ao aq aK bR aJ gA mP c9 dB aO cS jH bG bq bj cV am bv gq ai qS bf dA kK kx cN jZ HY dW mw sm ax bn HO zH
  rintro ns ls hs ⟨⟨⟨hnl,-⟩,⟨hl,-⟩,-⟩,-⟩ -
  simp only[cb2] at hl hnl
  rw[aG (n:=(be ns:Int)-1) ab ab]
  refine⟨⟨0,⟨ab,ab,az⟩,aI⟩,?_⟩
  rintro i ⟨i0,i1,hI⟩
  refine aw (λhi=>?_) (λhi=>?_)
  rotate_left
  .have hi:=bg hi
   rw[gN ab] at hI
   unfold rq
   rw[aj]
   exact ci6.2 λl hl=>ft (hI l hl)
  have hi:=aX hi
  have hm:=dm i0 hi
  refine⟨i0,hi,?_⟩
  have key:oM (be ns) (Om ls (it i) Sk)↔((0<=(Om ls (it i) Sk).1/\(Om ls (it i) Sk).1<=(be ns:Int)-1)/\(0<=(Om ls (it i) Sk).2.1/\(Om ls (it i) Sk).2.1<=(be ns:Int)-1)∧¬ (Om ls (it i) Sk).1=(Om ls (it i) Sk).2.1/\(1<=(Om ls (it i) Sk).2.2.1/\(Om ls (it i) Sk).2.2.1<=1073741824)/\(0<=(Om ls (it i) Sk).2.2.2.1/\(Om ls (it i) Sk).2.2.2.1<=1073741824)/\(0<=(Om ls (it i) Sk).2.2.2.2.1/\(Om ls (it i) Sk).2.2.2.2.1<=65536)):=by
   unfold oM lA lB qI mI vN
   omega
  have eU:=λh=>yG i0 hi hI (P:=oM (be ns)) h
  generalize Om ls (it i) Sk=l at hm key eU ⊢
  generalize hA:bZ2 (0<=l.1/\l.1<=(be ns:Int)-1)=bA
  generalize hB:bZ2 (0<=l.2.1/\l.2.1<=(be ns:Int)-1)=bB
  generalize hC:bZ2 (l.1=l.2.1)=bC
  generalize hD:bZ2 (1<=l.2.2.1/\l.2.2.1<=1073741824)=bD
  generalize hE:bZ2 (0<=l.2.2.2.1/\l.2.2.2.1<=1073741824)=bE
  generalize hF:bZ2 (0<=l.2.2.2.2.1/\l.2.2.2.2.1<=65536)=bF
  have key2:oM (be ns) l↔(bA=bZ3/\bB=bZ3/\bC=bZ6/\bD=bZ3/\bE=bZ3/\bF=bZ3):=by
   rw[key,← hA,← hB,← hC,← hD,← hE,← hF]
   simp only[rF,sr]
  have bad:¬ oM (be ns) l->(11:Int)=rq (ns,ls,hs):=λh=>by
   unfold rq
   rw[ah]
   intro k
   exact h (aX (ci6.1 k l hm))
  intro b1 hb1
  (repeat refine⟨az,?_⟩)
  intro b2 hb2
  (repeat refine⟨az,?_⟩)
  intro b3 hb3
  (repeat refine⟨az,?_⟩)
  intro b4 hb4
  (repeat refine⟨az,?_⟩)
  intro b5 hb5
  (repeat refine⟨az,?_⟩)
  have tot:(bif b5 then bZ3 else !bF) = !(bA&&bB && !bC&&bD&&bE&&bF):=by
   rw[hb5,hb4,hb3,hb2,hb1]
   cases bA <;> cases bB <;> cases bC <;> cases bD <;> cases bE <;> cases bF <;> rfl
  rw[tot]
  refine aw (λh=>bad λk=>?_) (λh=>?_)
  .have ⟨a1,a2,a3,a4,a5,a6⟩:=key2.1 k
   rw[a1,a2,a3,a4,a5,a6] at h;cases h
  .have h2:=key2.2 (by
    clear tot hb1 hb2 hb3 hb4 hb5 key2 hA hB hC hD hE hF
    revert h
    cases bA <;> cases bB <;> cases bC <;> cases bD <;> cases bE <;> cases bF <;> decide)
   exact⟨i+1,⟨ab,ab,eU h2⟩,ab,aI⟩
theorem Zy:aC 99 Ug.spec:=aF Tryz.func99 (ap aD MD) bm4 aP9
theorem Uo{links:ad}:∀{l:List Rt}{q:Option fB},chk links q l=0->dU l/\(∀ p,q=some p→∀ r∈l,cO p r.1)∧∀ r∈l,nH r.1=bZ3/\pm r links
 | [],q,_=>⟨ce6,λ_ _ r hr=>(by cases hr),λr hr=>(by cases hr)⟩
 | r::l,q,h=>by
  rw[chk] at h;split at h
  .cases h
  rename_i h1;split at h
  .cases h
  rename_i h2;split at h
  .cases h
  rename_i h3;obtain⟨i1,i2,i3⟩:=Uo h;have hv:nH r.1=true:=by cases hh:nH r.1 <;> simp_all
  have hp:∀ p,q=some p->cO p r.1:=λp hp=>by
   subst hp;rw[Option.any_some] at h2;have:¬ (0<=ja p r.1):=by simpa using h2
   exact EW.1 ab
  refine⟨ca4.2 ⟨i2 _ rfl,i1⟩,λp e z hz=>?_,λz hz=>?_⟩
  .obtain rfl|hz:=dO.1 hz
   .exact hp p e
   .exact GA (hp p e) (i2 _ rfl z hz)
  .obtain rfl|hz:=dO.1 hz
   .exact⟨hv,jn h3⟩
   .exact i3 z hz
theorem GG{l:List Rt}{links:ad}(h:jq l links=0):dU l/\be l<=64∧∀ r∈l,nH r.1=bZ3/\pm r links:=by
 unfold jq at h
 split at h
 .cases h
 next hl=>have k:=Uo h;exact⟨k.1,ab,k.2.2⟩
theorem BE{l:List Rt}{links:ad}(h:jq l links=0):dU l/\okL l:=by
 have ⟨h1,h2,h3⟩:=GG h
 exact⟨h1,ab,λr hr=>by have:=(h3 r hr).2.1.1;omega⟩
def jU(c:cH):Int:=c.1
def c8(c:cH):Int:=c.2.1
def xX(c:cH):Bool:=c.2.2.1
def gK(c:cH):Rt:=c.2.2.2
def tN(a b:Int):Int:=if a≠0 then a else b
theorem ut{a b:Int}(h:tN a b=0):a=0/\b=0:=by
 unfold tN at h
 split at h
 next k=>exact absurd h k
 next k=>exact⟨ab,h⟩
def wT(n:Net)(i:Nat)(k:Int):Bool:=bZ2 ((be n.2.1:Int)<=k) || !(bZ2 (lA (Om n.2.1 (it k) Sk)=i)||decide (lB (Om n.2.1 (it k) Sk)=i))
def sc(n:Net)(i:Nat):Int :=
 if ix (Om n.1 i Sk)≠0 then ix (Om n.1 i Sk)
 else if (de (Om n.1 i Sk)).any (wT n i) then 11 else 0
def rA(n:Net):Int:=first (sc n) (be n.1)
def jI(l:List Rt)(c:cH):List Rt:=if xX c=bZ3 then lG l (gK c).1 else ie l (gK c)
def gc(n:Net):Nat->List (List Rt)
 | 0=>n.1.map bW
 | i+1=>(gc n i).set (it (c8 (Om n.2.2 i Sk))) (jI (Om (gc n i) (it (c8 (Om n.2.2 i Sk))) Sk) (Om n.2.2 i Sk))
def sX(n:Net)(i:Nat)(c p:cH)(l:List Rt):Int :=
 if jU c<0∨1125899906842624<jU c then 1
 else if 0<i/\jU c<jU p then 6
 else if c8 c<0∨(be n.1:Int)<=c8 c then 8
 else if xX c=bZ3/\sa l (gK c).1=bZ6 then 8
 else jq (jI l c) (de (Om n.1 (it (c8 c)) Sk))
def nZ(n:Net)(i:Nat):Int:=sX n i (Om n.2.2 i Sk) (Om n.2.2 (i-1) Sk) (Om (gc n i) (it (c8 (Om n.2.2 i Sk))) Sk)
def tK(n:Net):Int:=first (nZ n) (be n.2.2)
def iR(n:Net):Int:=tN (uv n) (tN (rq n) (tN (rA n) (tN (t5 n) (tN (xT n) (tN (wj n) (tK n))))))
theorem Wf{n:Net}(h:rq n=0):FY n:=λl hl=>by
 unfold rq at h
 split at h
 next k=>have k:=aX (ci6.1 k l hl);exact⟨k.1,k.2.1,k.2.2.1,k.2.2.2.1⟩
 .cases h
theorem rP{α:Type} [Inhabited α] {xs:List α} {i:Nat} (h:i<be xs):Om xs i Sk∈xs:=by
 have:=dm (xs:=xs) (i:=(i:Nat)) ab ab
 simpa using this
theorem aQ3{x:au}(h:first (lu x) (be (aS x))=0):∀ k∈de x,0<=k:=λk hk=>by
 obtain⟨q,hq,rfl⟩:=cc1.1 hk
 have ⟨i,hi,e⟩:=cb5.1 hq
 have k1:=zi h i hi
 unfold lu at k1
 rw[cq,cG hi,iA,e] at k1
 split at k1
 .cases k1
 split at k1
 .cases k1
 rename_i h2
 show 0<=q.2
 omega
structure NV (x:au):Prop where
 len:be (aS x)<=32
 pos:0<be (aS x)
 bad:first (lu x) (be (aS x))=0
 loop:¬ tR x
 form:¬ rD x
 tab:jq (bW x) (de x)=0
theorem RG{x:au}(h:ix x=0):NV x:=by
 unfold ix at h
 split at h
 .cases h
 rename_i h1
 split at h
 next k=>exact absurd h k
 rename_i h2
 split at h
 .cases h
 rename_i h3
 split at h
 .cases h
 rename_i h4
 split at h
 next k=>exact absurd h k
 split at h
 next k=>exact absurd h k
 refine⟨ab,?_,ab,h3,h4,h⟩
 unfold rD at h4
 omega
theorem Lu{n:Net}(h:rA n=0){i:Nat}(hi:i<be n.1):NV (Om n.1 i Sk):=by
 have k:=zi h i hi
 unfold sc at k
 split at k
 next e=>exact absurd k e
 next e=>exact RG ab
theorem bB3{n:Net}(h:rA n=0):∀ x∈n.1,NV x:=λx hx=>by
 have ⟨i,hi,e⟩:=cb5.1 hx
 have:=Lu h hi
 rw[cq,cG hi,e] at this;exact this
structure TB (n:Net) (t:List (List Rt)):Prop where
 len:be t=be n.1
 r:∀ i:Nat,i<be n.1->dU (Om t i Sk)/\okL (Om t i Sk)
theorem G8{α β:Type} [Inhabited α] [Inhabited β] {f:α->β} {l:List α} {i:Nat} (h:i<be l):Om (l.map f) i Sk=f (Om l i Sk):=by
 rw[cq,cq,ce9,cG h];rfl
theorem vh(n:Net):∀ i,be (gc n i)=be n.1
 | 0=>by simp[gc]
 | i+1=>by rw[gc,gd,vh n i]
theorem UL{n:Net}(hb:rA n=0):∀{i:Nat},first (nZ n) i=0->TB n (gc n i)
 | 0,_=>⟨vh n 0,λi hi=>by
  rw[gc,G8 hi];exact BE (Lu hb hi).tab⟩
 | i+1,h=>by
  have h0:first (nZ n) i=0:=by
   by_cases e:first (nZ n) i=0
   .exact e
   .rw[first,aj e] at h;exact h
  have k:=UL hb h0;have hz:=zi h i ab;refine⟨vh n _,λj hj=>?_⟩;rw[gc];unfold nZ sX at hz;generalize Om n.2.2 i Sk=c at hz ⊢;split at hz
  .cases hz
  split at hz
  .cases hz
  split at hz
  .cases hz
  rename_i hw;split at hz
  .cases hz
  by_cases e:it (c8 c)=j
  .subst e;rw[lH (by rw[k.len];exact hj)];exact BE hz
  .rw[pZ e];exact k.r j hj
def L3(who at':Int)(l:List Rt)(c:cH):List Rt:=if c8 c=who/\jU c<=at' then jI l c else l
def U2(n:Net)(who at':Int)(k:Int):List Rt:=(n.2.2.take (it k)).foldl (L3 who at') (bW (Om n.1 (it who) Sk))
def NO(n:Net)(who at':Int):List Rt:=if who<0∨(be n.1:Int)<=who then [] else U2 n who at' (be n.2.2)
structure Gv (m:Nat) (l:List Rt):Prop where
 s:dU l
 n:be l<=m
 x:∀ r∈l,(be r.2.1:Int)<=1099511627776
theorem Gv.okL{m:Nat}{l:List Rt}(h:Gv m l)(hm:m<=100000):okL l:=⟨by have:=h.n;omega,h.x⟩
theorem Gv.ch{m:Nat}{l:List Rt}(h:Gv m l){c:cH}(hc:((gK c).2.1.length:Int)<=1099511627776):Gv (m+1) (jI l c):=by
 unfold jI
 split
 .refine⟨cm2 _ h.s,?_,λr hr=>h.x r (ce8.1 hr).1⟩;have:=Ts l (gK c).1;have:=h.n;omega
 .refine⟨OZ h.s,?_,λr hr=>?_⟩
  .have:=Wj l (gK c);have:=h.n;omega
  .obtain rfl|⟨hr,-⟩:=Zb.1 hr
   .exact hc
   .exact h.x r hr
def bX7(s t:Int)(c:cH):Bool:=bZ2 (s<jU c/\jU c<=t)
theorem ae1{x:au}{a:Int}:0<=pi x a↔a∈wV x:=by
 unfold pi j4
 constructor
 .intro h;split at h
  next k=>have:=List.findIdx_getElem (w:=k);exact cc1.2 ⟨_,List.getElem_mem k,aX this⟩
  .omega
 .intro h;obtain⟨q,hq,rfl⟩:=cc1.1 h;have:(aS x).findIdx (pc q.1)<be (aS x):=List.findIdx_lt_length_of_exists ⟨q,hq,by unfold pc;simp⟩;rw[aj this];omega
theorem Mw{α:Type} [DecidableEq α]:∀{l m:List α},l.Nodup->(∀ x∈l,x∈m)->be l<=be m
 | [],m,_,_=>az
 | x::l,m,h,hs=>by
  have hx:=hs x eV;have hn:=List.nodup_cons.1 h;have:=Mw (l:=l) (m:=m.erase x) hn.2 λy hy=>(List.mem_erase_of_ne (λe:y=x=>hn.1 (e▸hy))).2 (hs y (fu _ hy));rw[List.length_erase_of_mem hx] at this;have hp:=ch8 hx;rw[cX];omega
theorem Et{α β:Type}(I:β->Prop)(f:β->α->β):∀{l:List α}{b:β},I b->(∀ x∈l,∀ b,I b->I (f b x))->I (l.foldl f b)
 | [],b,h,_=>h
 | x::l,b,h,hf=>Et I f (l:=l) (hf x eV b h) λy hy=>hf y (fu _ hy)
theorem LC{k x:Int}:∀{l:ad},x∈m8 k l->x=k∨x∈l
 | [],h=>by simp[m8] at h;exact .inl h
 | y::r,h=>by
  rw[m8] at h;split at h
  .obtain e|h:=dO.1 h
   .exact .inl e
   .exact .inr h
  .obtain e|h:=dO.1 h
   .exact .inr (e▸eV)
   .obtain e|h:=LC h
    .exact .inl e
    .exact .inr (fu _ h)
theorem Yb{k:Int}:∀{l:ad},l.Pairwise (· < ·)->k ∉ l->(m8 k l).Pairwise (· < ·)
 | [],_,_=>by rw[m8];exact ck5 _ _
 | y::r,h,hk=>by
  have h:=ca4.1 h;rw[m8];split
  .rename_i hy;refine ca4.2 ⟨λz hz=>?_,ca4.2 h⟩;obtain rfl|hz:=dO.1 hz
   .exact hy
   .exact Int.lt_trans hy (h.1 z hz)
  .rename_i hy;have:k≠y:=λe=>hk (e▸eV);refine ca4.2 ⟨λz hz=>?_,Yb h.2 λe=>hk (fu _ e)⟩;obtain rfl|hz:=LC hz
   .omega
   .exact h.1 z hz
theorem ag0(k:Int)(l:ad):m8 k l≠[]:=by
 intro e
 have:=QG k l
 rw[e] at this;simp at this
theorem VE{l:List Rt}{r x:Rt}(h:x∈ie l r):x=r∨x∈l:=by
 unfold ie at h
 obtain h|h:=dI.1 h
 .exact .inr (ce8.1 h).1
 .obtain e|h:=dO.1 h
  .exact .inl e
  .exact .inr (ce8.1 h).1
def lnk(ls:List ck)(i k:Int):Prop:=0<=k/\k<be ls/\(lA (Om ls (it k) Sk)=i∨lB (Om ls (it k) Sk)=i)
structure Mr (ls:List ck) (aa:ad) (i:Int) (r:Rt):Prop where
 len:r.1.2=32
 mem:r.1.1∈aa
 ne:r.2.1≠[]
 pw:r.2.1.Pairwise (· < ·)
 ln:∀ k∈r.2.1,lnk ls i k
 w0:1<=r.2.2
 w1:r.2.2<=3
def qq(ls:List ck)(aa:ad)(i:Int)(t:List Rt):Prop:=dU t∧∀ r∈t,Mr ls aa i r
theorem L4{ls:List ck}{aa:ad}{i:Int}{t:List Rt}(h:qq ls aa i t):be t<=be aa:=by
 have hn:(t.map λr=>r.1.1).Nodup:=by
  refine cC1 (R:=λa b:Rt=>a.1.1≠b.1.1) _ (λa b h=>h) (h.1.imp_of_mem λ{a b} ha hb k=>?_);have e1:=(h.2 a ha).len;have e2:=(h.2 b hb).len;unfold cO at k;omega
 have:=Mw hn (m:=aa) λx hx=>by
  obtain⟨r,hr,rfl⟩:=cc1.1 hx;exact (h.2 r hr).mem
 simpa using this
theorem M0{ls:List ck}{aa:ad}{i:Int}{r:Rt}(h:Mr ls aa i r):be r.2.1<=be ls:=by
 have hn:r.2.1.Nodup:=h.pw.imp λk=>ab
 have:=Mw hn (m:=(range (be ls)).map λ(n:Nat)=>(n:Int)) λx hx=>by
  have ⟨k0,k1,_⟩:=h.ln x hx;exact cc1.2 ⟨it x,cd3.2 ab,ab⟩
 simpa using this
theorem br7{ls:List ck}{aa:ad}{i:Int}{t:List Rt}(h:qq ls aa i t){p:fB}{k way:Int}(hp:p.2=32)(ha:p.1∈aa)(hk:lnk ls i k)(h0:1<=way)(h1:way<=3) :
  qq ls aa i (zg t p k way):=by
 have put:∀ r,Mr ls aa i r->qq ls aa i (ie t r):=λr hr =>
  ⟨OZ h.1,λx hx=>by
   obtain rfl|hx:=VE hx
   .exact hr
   .exact h.2 x hx⟩
 unfold zg
 split
 next hf=>
  have hx:Om t (wD t p) Sk∈t:=by
   have:=dm (xs:=t) (i:=(wD t p:Nat)) ab ab;simpa using this
  have hx:=h.2 _ hx;split
  .exact h
  .rename_i hn;exact put _ ⟨hp,ha,ag0 _ _,Yb hx.pw hn,λy hy=>by
    obtain rfl|hy:=LC hy
    .exact hk
    .exact hx.ln y hy,hx.w0,hx.w1⟩
 .exact put _ ⟨hp,ha,az,ck5 _ _,λy hy=>by rw[kY.1 hy];exact hk,h0,h1⟩
structure RI (ls:List ck) (aa:ad) (ns0 ns:List au):Prop where
 n:be ns=be ns0
 e:∀ i:Nat,i<be ns0->Cz (Om ns i Sk) []=Cz (Om ns0 i Sk) []
 t:∀ i:Nat,i<be ns0->qq ls aa i (bW (Om ns i Sk))
theorem RI.ports {ls aa ns0 ns} (h:RI ls aa ns0 ns) {i:Nat} (hi:i<be ns0):aS (Om ns i Sk)=aS (Om ns0 i Sk):=by
 have:=dP aS (h.e i hi);exact this
theorem RI.host {ls aa ns0 ns} (h:RI ls aa ns0 ns) {i:Nat} (hi:i<be ns0):qf (Om ns i Sk)=qf (Om ns0 i Sk):=by
 have:=dP qf (h.e i hi);exact this
theorem RI.route {ls aa ns0 ns} (h:RI ls aa ns0 ns) {a:Int} {p:fB} {k way:Int} (a0:0<=a) (a1:a<be ns0) (hp:p.2=32) (ha:p.1∈aa) (hk:lnk ls a k) (h0:1<=way) (h1:way<=3) :
  RI ls aa ns0 (vm ns a p k way):=by
 have hl:it a<be ns:=by have:=h.n;omega
 unfold vm
 refine⟨by rw[gd];exact h.n,λi hi=>?_,λi hi=>?_⟩
 .by_cases e:it a=i
  .subst e;rw[lH hl];exact h.e _ hi
  .rw[pZ e];exact h.e _ hi
 .by_cases e:it a=i
  .subst e;rw[lH hl];have:=br7 (h.t _ hi) (p:=p) (k:=k) (way:=way) hp ha (by rwa [show ((it a:Nat):Int)=a by omega]) h0 h1;exact this
  .rw[pZ e];exact h.t _ hi
theorem RI.step {ls aa ns0 ns} (h:RI ls aa ns0 ns) {d:ad} {to:Int} {p:fB} {plain:Bool} {k way a b:Int} (a0:0<=a) (a1:a<be ns0) (hp:p.2=32) (ha:p.1∈aa) (hk:lnk ls a k) (h0:1<=way) (h1:way<=3) :
  RI ls aa ns0 (vZ d to p plain k way ns a b):=by
 unfold vZ
 split
 .exact h
 .split
  .exact h
  .exact h.route a0 a1 hp ha hk h0 h1
def jV(n:Nat)(ls:List ck):Prop:=∀ l∈ls,0<=l.1/\l.1<n/\0<=l.2.1/\l.2.1<n
theorem jV.at'{n:Nat}{ls:List ck}(hg:jV n ls){k:Nat}(hk:k<be ls):(0<=lA (Om ls k Sk)/\lA (Om ls k Sk)<n)/\0<=lB (Om ls k Sk)/\lB (Om ls k Sk)<n:=by
 have hx:Om ls k Sk∈ls:=by
  have:=dm (xs:=ls) (i:=(k:Nat)) ab ab;simpa using this
 have ⟨q1,q2,q3,q4⟩:=hg _ hx
 exact⟨⟨q1,q2⟩,q3,q4⟩
theorem Xd{ls:List ck}{k:Nat}(hk:k<be ls):lnk ls (lA (Om ls k Sk)) k:=⟨by omega,by omega,.inl (by simp)⟩
theorem R7{ls:List ck}{k:Nat}(hk:k<be ls):lnk ls (lB (Om ls k Sk)) k:=⟨by omega,by omega,.inr (by simp)⟩
theorem RI.stepK {ls aa ns0 ns} (h:RI ls aa ns0 ns) (hg:jV (be ns0) ls) {d:ad} {to:Int} {p:fB} {plain:Bool} {way:Int} {k:Nat} (hk:k<be ls) (hp:p.2=32) (ha:p.1∈aa) (h0:1<=way) (h1:way<=3) :
  RI ls aa ns0 (stepK ls d to p plain way ns k):=by
 have hh:=hg.at' hk
 unfold Go.RS.stepK
 exact (h.step hh.1.1 hh.1.2 hp ha (Xd hk) h0 h1).step hh.2.1 hh.2.2 hp ha (R7 hk) h0 h1
theorem RI.stepKs {ls aa ns0 ns} (h:RI ls aa ns0 ns) (hg:jV (be ns0) ls) {d:ad} {to:Int} {p:fB} {plain:Bool} {way:Int} (hp:p.2=32) (ha:p.1∈aa) (h0:1<=way) (h1:way<=3) {n:Nat} (hn:n<=be ls) :
  RI ls aa ns0 ((range n).foldl (Go.RS.stepK ls d to p plain way) ns) :=
 Et _ _ h λk hk b hb=>hb.stepK hg (by have:=cd3.1 hk;omega) hp ha h0 h1
theorem RI.stepP {ls aa ns0 ns} (h:RI ls aa ns0 ns) (hg:jV (be ns0) ls) {d:ad} {to:Int} {plain:Bool} {way:Int} {q:sK} (ha:q.1∈aa) (h0:1<=way) (h1:way<=3) :
  RI ls aa ns0 (stepP ls d to plain way ns q) :=
 h.stepKs (p:=(q.1,32)) hg rfl ha h0 h1 (dq _)
def kg(ns:List au):ad:=ns.flatMap λx=>(aS x).map (·.1)
theorem W7{ns:List au}{i:Nat}(hi:i<be ns){q:sK}(hq:q∈aS (Om ns i Sk)):q.1∈kg ns:=by
 have hx:Om ns i Sk∈ns:=by
  have:=dm (xs:=ns) (i:=(i:Nat)) ab ab;simpa using this
 exact List.mem_flatMap.2 ⟨_,hx,cc1.2 ⟨q,hq,rfl⟩⟩
theorem RI.stepPs {ls ns0 ns} (h:RI ls (kg ns0) ns0 ns) (hg:jV (be ns0) ls) {d:ad} {to:Int} {plain:Bool} {way:Int} (h0:1<=way) (h1:way<=3) {l:List sK} (hl:∀ q∈l,q.1∈kg ns0) :
  RI ls (kg ns0) ns0 (l.foldl (Go.RS.stepP ls d to plain way) ns) :=
 Et _ _ h λq hq b hb=>hb.stepP hg (hl q hq) h0 h1
theorem UJ{c:bh}(h:aY c):aY (ru c).2/\1<=(ru c).1/\(ru c).1<=3:=by
 have k:=d7 h 3
 have k2:=d7 k.1 3
 have:=fZ h (n:=3) ab
 unfold ru
 split
 .refine⟨k2.1,?_⟩;dsimp only;split <;> omega
 .exact⟨k.1,by dsimp only;omega,by dsimp only;omega⟩
theorem RI.stepT {ls ns0} {s:List au×bh} (h:RI ls (kg ns0) ns0 s.1/\aY s.2) (hg:jV (be ns0) ls) {plain:Bool} {to:Nat} (ht:to<be ns0) :
  RI ls (kg ns0) ns0 (stepT ls plain s to).1/\aY (stepT ls plain s to).2:=by
 have w:=UJ h.2
 unfold Go.RS.stepT
 refine⟨h.1.stepPs hg w.2.1 w.2.2 λq hq=>?_,w.1⟩
 rw[h.1.ports ht] at hq
 exact W7 ht hq
theorem RI.stepTs {ls ns0} {s:List au×bh} (h:RI ls (kg ns0) ns0 s.1/\aY s.2) (hg:jV (be ns0) ls) {plain:Bool} {n:Nat} (hn:n<=be ns0) :
  RI ls (kg ns0) ns0 ((range n).foldl (Go.RS.stepT ls plain) s).1/\aY ((range n).foldl (Go.RS.stepT ls plain) s).2 :=
 Et (λs:List au×bh=>RI ls (kg ns0) ns0 s.1/\aY s.2) _ h λk hk b hb=>RI.stepT hb hg (by have:=cd3.1 hk;omega)
theorem RI.start{ls:List ck}{ns0:List au}(h:∀ x∈ns0,bW x=[]):RI ls (kg ns0) ns0 ns0:=by
 refine⟨rfl,λ_ _=>rfl,λi hi=>?_⟩
 have hx:Om ns0 i Sk∈ns0:=by
  have:=dm (xs:=ns0) (i:=(i:Nat)) ab ab;simpa using this
 rw[h _ hx]
 exact⟨ce6,λr hr=>by cases hr⟩
def tT(i:Int)(k:Nat)(l:ck):List sK:=(if lA l=i then [(ib k+1,(k:Int))] else [])++(if lB l=i then [(ib k+2,(k:Int))] else [])
def portsF(i:Int):Nat->List ck->List sK
 | _,[]=>[]
 | k,l::r=>tT i k l++portsF i (k+1) r
theorem Yj(i:Int)(l:ck):∀(k:Nat)(ls:List ck),portsF i k (ls++[l])=portsF i k ls++tT i (k+be ls) l
 | k,[]=>by simp[portsF]
 | k,x::r=>by
  rw[kO,portsF,Yj i l (k+1) r,portsF,fV,cX,show k+1+be r=k+(be r+1) by omega]
theorem ai0(i:Int)(k:Nat)(l:ck):be (tT i k l)<=2:=by
 unfold tT
 split <;> split <;> simp
theorem Fc(i:Int):∀(k:Nat)(ls:List ck),be (portsF i k ls)<=2*be ls
 | k,[]=>by simp[portsF]
 | k,x::r=>by
  have:=Fc i (k+1) r;have:=ai0 i k x;rw[portsF,bM,cX];omega
theorem Vq{i:Int}:∀{k:Nat}{ls:List ck},(∀ x∈ls,lA x≠i/\lB x≠i)->portsF i k ls=[]
 | k,[],_=>rfl
 | k,x::r,h=>by
  have hx:=h x eV;rw[portsF,Vq λy hy=>h y (fu _ hy),tT,ah hx.1,ah hx.2];rfl
theorem ER{i:Int}{q:sK}:∀{k:Nat}{ls:List ck},q∈portsF i k ls↔∃ j,j<be ls/\((lA (Om ls j Sk)=i/\q=(ib (k+j:Nat)+1,((k+j:Nat):Int)))∨(lB (Om ls j Sk)=i/\q=(ib (k+j:Nat)+2,((k+j:Nat):Int))))
 | k,[]=>by simp[portsF]
 | k,x::r=>by
  rw[portsF,dI,ER (k:=k+1) (ls:=r)];constructor
  .rintro (h|⟨j,hj,h⟩)
   .refine⟨0,az,?_⟩;unfold tT at h;obtain h|h:=dI.1 h
    .split at h
     next e=>exact .inl ⟨e,by simpa using h⟩
     .cases h
    .split at h
     next e=>exact .inr ⟨e,by simpa using h⟩
     .cases h
   .refine⟨j+1,by rw[cX];omega,?_⟩;rw[cm4,show k+(j+1)=k+1+j by omega];exact h
  .rintro⟨j,hj,h⟩;cases j with
   | zero =>
    refine .inl ?_;rw[List.getD_cons_zero] at h;unfold tT;obtain⟨e,h⟩|⟨e,h⟩:=h
    .rw[aj e];exact dI.2 (.inl (by simpa using h))
    .rw[aj e];exact dI.2 (.inr (by simpa using h))
   | succ j =>
    refine .inr ⟨j,by rw[cX] at hj;omega,?_⟩;rw[cm4,show k+(j+1)=k+1+j by omega] at h;exact h
theorem Vj{α:Type} [Inhabited α] {l m:List α} {i:Nat} (h:i<be l):Om (l++m) i Sk=Om l i default:=by
 rw[cq,mC h,cq]
theorem UN{α:Type} [Inhabited α] {l:List α} {x:α}:Om (l++[x]) (be l) Sk=x:=by
 rw[cq];simp
theorem Kf{ns:List au}{x:Int}{p:sK}(x0:0<=x){i:Nat}(hi:i<be ns) :
  Om (mz ns x p) i Sk=((Om ns i Sk).1++(if x=i then [p] else []),(Om ns i Sk).2):=by
 unfold mz
 by_cases e:x=i
 .have:it x=i:=ab;rw[this,lH hi,aj e]
 .have:it x≠i:=ab;rw[pZ this,ah e,iX]
theorem Ok(ns:List au)(x:Int)(p:sK):be (mz ns x p)=be ns:=by unfold mz;exact gd
structure GI (s:bU) (nn nl:Nat):Prop where
 n:be s.1.1=nn
 l:be s.1.2.1=nl
 h:s.1.2.2=[]
 c:aY s.2
 g:∀ x∈s.1.2.1,(0<=lA x/\lA x<nn)/\(0<=lB x/\lB x<nn)/\lA x≠lB x/\(1<=qI x/\qI x<=20)/\mI x=0/\vN x=0/\0<=Am x/\Am x<=255
 p:∀ i:Nat,i<nn->aS (Om s.1.1 i Sk)=portsF i 0 s.1.2.1
 d:∀ i:Nat,i<nn→∃ host f sd,(Om s.1.1 i Sk).2=(wU i host f sd).2/\(f=64∨f=255∨f=128)/\0<=sd/\sd<=255
theorem GI.node{s:bU}{nn nl:Nat}(h:GI s nn nl)(host:Bool):GI (mS s host) (nn+1) nl:=by
 have k3:=fZ h.c (n:=3) ab
 have c3:=(d7 h.c 3).1
 have k4:=fZ c3 (n:=256) ab
 have c4:=(d7 c3 256).1
 refine⟨by simp only[mS,bM,cX,cb8,h.n],h.l,h.h,c4,λx hx=>?_,λi hi=>?_,λi hi=>?_⟩
 .have:=h.g x hx;omega
 .by_cases e:i<nn
  .rw[show (mS s host).1.1.getD i Sk=Om s.1.1 i Sk from Vj (by rw[h.n];exact e)];exact h.p i e
  .have e:i=be s.1.1:=by rw[h.n];omega
   subst e;rw[show (mS s host).1.1.getD (be s.1.1) Sk=wU (be s.1.1) host _ _ from UN];refine (Vq λx hx=>?_).symm;have:=h.g x hx;have:=h.n;omega
 .by_cases e:i<nn
  .rw[show (mS s host).1.1.getD i Sk=Om s.1.1 i Sk from Vj (by rw[h.n];exact e)];exact h.d i e
  .have e:i=be s.1.1:=by rw[h.n];omega
   subst e;rw[show (mS s host).1.1.getD (be s.1.1) Sk=wU (be s.1.1) host _ _ from UN];refine⟨host,_,_,rfl,?_,k4.1,ab⟩;obtain e|e|e:=(show (ay s.2 3).1=0∨(ay s.2 3).1=1∨(ay s.2 3).1=2 by omega) <;> rw[e] <;> simp
theorem GI.link{s:bU}{nn nl:Nat}(h:GI s nn nl){a b:Int}(a0:0<=a)(a1:a<nn)(b0:0<=b)(b1:b<nn)(ne:a≠b):GI (kM s a b) nn (nl+1):=by
 have k3:=fZ h.c (n:=20) ab
 have c3:=(d7 h.c 20).1
 have k4:=fZ c3 (n:=256) ab
 have c4:=(d7 c3 256).1
 refine⟨by simp only[kM,Ok,h.n],by simp only[kM,bM,cX,cb8,h.l],h.h,c4,λx hx=>?_,λi hi=>?_,λi hi=>?_⟩
 .obtain hx|hx:=dI.1 hx
  .exact h.g x hx
  .rw[kY.1 hx];refine⟨⟨a0,a1⟩,⟨b0,b1⟩,ne,?_,rfl,rfl,k4.1,?_⟩
   .show 1<=1+(ay s.2 20).1/\1+(ay s.2 20).1<=20;omega
   .show (ay (ay s.2 20).2 256).1<=255;omega
 .have hp:=h.p i hi;unfold kM;dsimp only;rw[Kf b0 (by rw[Ok,h.n];exact hi),Kf a0 (by rw[h.n];exact hi),Yj,← hp,gJ];simp only[aS,tT,lA,lB,fV];rfl
 .unfold kM;dsimp only;rw[Kf b0 (by rw[Ok,h.n];exact hi),Kf a0 (by rw[h.n];exact hi)];exact h.d i hi
theorem GI.codes{s:bU}{nn nl:Nat}(h:GI s nn nl){c:bh}(hc:aY c):GI (s.1,c) nn nl:=⟨h.n,h.l,h.h,hc,h.g,h.p,h.d⟩
theorem GI.start{c:bh}(hc:aY c):GI (([],[],[]),c) 0 0 :=
 ⟨rfl,rfl,rfl,hc,λx hx=>(by cases hx),λi hi=>ab,λi hi=>ab⟩
theorem GI.routes{s:bU}{nn nl:Nat}(h:GI s nn nl):∀ x∈s.1.1,bW x=[]:=λx hx=>by
 have ⟨i,hi,e⟩:=cb5.1 hx
 obtain⟨host,f,sd,hd,-⟩:=h.d i (by rw[← h.n];exact hi)
 have:Om s.1.1 i Sk=x:=by rw[cq,cG hi,e];rfl
 rw[this] at hd
 show x.2.2.2.2.1=[]
 rw[hd];rfl
theorem GI.plen{s:bU}{nn nl:Nat}(h:GI s nn nl):∀ x∈s.1.1,be x.1<=2*nl:=λx hx=>by
 have ⟨i,hi,e⟩:=cb5.1 hx
 have hp:=h.p i (by rw[← h.n];exact hi)
 have:Om s.1.1 i Sk=x:=by rw[cq,cG hi,e];rfl
 rw[this] at hp
 have:=Fc i 0 s.1.2.1
 rw[← hp,h.l] at this;exact this
theorem Ly:∀{ns:List au}{m:Nat},(∀ x∈ns,be x.1<=m)->be (kg ns)<=be ns*m
 | [],m,_=>by simp[kg]
 | x::r,m,h=>by
  have k:=Ly (ns:=r) (m:=m) λy hy=>h y (fu _ hy);have hx:=h x eV;unfold kg at k ⊢;rw[List.flatMap_cons,bM,kW,cX,Nat.succ_mul];show be (aS x)+_<=_;have:be (aS x)<=m:=hx;omega
theorem GI.ends{s:bU}{nn nl:Nat}(h:GI s nn nl):jV (be s.1.1) s.1.2.1:=λx hx=>by
 have:=h.g x hx
 rw[h.n]
 exact⟨this.1.1,this.1.2,this.2.1.1,this.2.1.2⟩
theorem GI.chain{s:bU}(h:GI s 1 0):∀ k,GI ((range k).foldl vG s) (k+1) k
 | 0=>h
 | k+1=>by
  rw[mZ,lT];exact ((GI.chain h k).node bZ6).link ab ab ab ab ab
def cM(c:bh):Int:=1+(ay (mS (([],[],[]),c) bZ3).2 5).1
def An(c:bh):bU:=((mS (([],[],[]),c) bZ3).1,(ay (mS (([],[],[]),c) bZ3).2 5).2)
theorem TE{c:bh}(h:aY c):GI (An c) 1 0:=((GI.start h).node bZ3).codes (d7 ((GI.start h).node bZ3).c 5).1
theorem Av{c:bh}(h:aY c):1<=cM c/\cM c<=5:=by
 have:=fZ ((GI.start h).node bZ3).c (n:=5) ab
 unfold cM;omega
theorem QZ(c:bh):qG c=(cM c,kM (mS ((range (it (cM c))).foldl vG (An c)) bZ3) (cM c) (cM c+1)):=rfl
theorem HI{c:bh}(h:aY c):GI (qG c).2 (it (cM c)+2) (it (cM c)+1):=by
 have:=Av h
 rw[QZ]
 exact (((TE h).chain _).node bZ3).link ab ab ab ab ab
theorem GI.short{s:bU}{nn nl:Nat}(h:GI s nn nl){n:Int}(n1:1<=n)(hn:n+2<=nn):∃ m,nl<=m/\m<=nl+1/\GI (xE n s) nn m:=by
 have ka:=fZ h.c (n:=n) ab
 have ca:=(d7 h.c n).1
 have kb:=fZ ca (n:=n) ab
 have cb:=(d7 ca n).1
 unfold xE
 dsimp only
 split
 .exact⟨nl,ab,ab,h.codes cb⟩
 next e=>exact⟨nl+1,ab,ab,(h.codes cb).link ab ab ab ab ab⟩
theorem GI.shorts{s:bU}{nn nl:Nat}(h:GI s nn nl){n:Int}(n1:1<=n)(hn:n+2<=nn):∀ k:Nat,∃ m,nl<=m/\m<=nl+k/\GI ((range k).foldl (λs _=>xE n s) s) nn m
 | 0=>⟨nl,ab,ab,h⟩
 | k+1=>by
  obtain⟨m,m0,m1,hm⟩:=GI.shorts h n1 hn k;have ⟨m',q0,q1,hq⟩:=hm.short n1 hn;refine⟨m',ab,ab,?_⟩;rw[mZ,lT];exact hq
def uK(plain:Bool)(n:Int)(s:bU)(k:Nat):bU:=if 1<n/\plain=bZ6 then (range k).foldl (λs _=>xE n s) (s.1,(ay s.2 4).2) else (s.1,(ay s.2 4).2)
theorem Xy{s:bU}{nn nl:Nat}(h:GI s nn nl){plain:Bool}{n:Int}(n1:1<=n)(hn:n+2<=nn)(k:Nat):∃ m,nl<=m/\m<=nl+k/\GI (uK plain n s k) nn m:=by
 have hc:=h.codes (d7 h.c 4).1
 unfold uK
 split
 .exact hc.shorts n1 hn k
 .exact⟨nl,ab,ab,hc⟩
theorem OF(plain:Bool)(n:Int)(s:bU):DF plain n s=(let s1:=uK plain n s (ay s.2 4).1.toNat
  if plain=bZ3/\2<n then
   if (ay s1.2 2).1=1 then kM (s1.1,(ay (ay s1.2 2).2 (n-1)).2) (1+(ay (ay s1.2 2).2 (n-1)).1) n else (s1.1,(ay s1.2 2).2)
  else s1):=rfl
theorem bJ1{s:bU}{nn nl:Nat}(h:GI s nn nl){plain:Bool}{n:Int}(n1:1<=n)(hn:n+2<=nn):∃ m,nl<=m/\m<=nl+4/\GI (DF plain n s) nn m:=by
 have k4:=fZ h.c (n:=4) ab
 have ⟨m,m0,m1,hm⟩:=Xy h (plain:=plain) n1 hn (ay s.2 4).1.toNat
 rw[OF]
 dsimp only
 generalize uK plain n s (ay s.2 4).1.toNat=t at hm ⊢
 have c2:=(d7 hm.c 2).1
 have c3:=(d7 c2 (n-1)).1
 split
 next e=>
  split
  .have k5:=fZ c2 (n:=n-1) ab;exact⟨m+1,ab,ab,(hm.codes c3).link ab ab ab ab ab⟩
  .exact⟨m,ab,ab,hm.codes c2⟩
 .exact⟨m,ab,ab,hm⟩
theorem If{c:bh}(h:aY c)(plain:Bool):∃ m,2<=m/\m<=10/\GI (DF plain (qG c).1 (qG c).2) (it (cM c)+2) m:=by
 have hn:=Av h
 have ⟨m,m0,m1,hm⟩:=bJ1 (HI h) (plain:=plain) (n:=cM c) hn.1 ab
 exact⟨m,ab,ab,hm⟩
abbrev C3:OT := .pair (.pair (.row 130 eh) (.pair (.row 141 rG) (.row 155 nD))) (.ref 83 jw)
def sL(s:bU):List ck:=s.1.2.1
def uf(s:bU):Prop:=f6 s.2/\(be s.1.1:Int)<=1000/\(be s.1.2.1:Int)<=1000/\(be s.1.2.2:Int)<=1000∧∀ x∈s.1.1,(be x.1:Int)<=1000
def inN(ns:List au)(a:Int):Prop:=0<=a/\a<be ns
def bM3:Ct:=⟨[.box 83 jw,.val cI],[.val cI],λd=>[f6 d.1,d.2.1<=256],λd=>(((o8 d.1 d.2.1).1,()),((o8 d.1 d.2.1).2,()))⟩
theorem ar4:
 ∀(a:ad)(b c:Int),(aQ a/\aq b)/\ai (aq c)->f6 (a,b)/\c<=256->t9 (bZ2 (ac a<=b)) (ax c 1) (0=(o8 (a,b) c).1/\(a,b)=(o8 (a,b) c).2) (am b (b<ac a) (ar (ax 256 c) False (c≠0/\cd8 (ao (ae a b)) c=(o8 (a,b) c).1/\(a,ao (b+1))=(o8 (a,b) c).2))):= by
  delta ae ac ao aq aK aQ bR aJ bq am bv ai jE t9 ax
  rintro l p n ⟨⟨⟨hl,hw⟩,h0,h1⟩,⟨h2,h3⟩,-⟩⟨⟨a,f⟩,hn⟩
  simp only[cb2] at hl a f
  (repeat (refine cL ?_;repeat refine cK ?_))
  refine uH (λc=>?_) (λd e=>?_)
  .have c:(be l:Int)<=p∨n<1:=by simpa using c
   rw[o8,aj c];exact⟨rfl,rfl⟩
  .have d:=bg d
   have e:=bg e
   have c:¬ ((be l:Int)<=p∨n<1):=ab
   have ⟨hm0,hm1⟩:=hw _ (dm a ab)
   refine⟨a,ab,aw (λk=>?_) (λ_=>⟨ab,?_⟩)⟩
   .grind
   .rw[o8,ah c,aG ab ab,aG ab ab];exact⟨rfl,rfl⟩
theorem T5:aC 7 bM3.spec:=aF Tryz.func7 aD aU ar4
def a94:Ct:=⟨[.box 83 jw,.val cI],[.val cI],λd=>[f6 d.1],λd=>(((ay d.1 d.2.1).1,()),((ay d.1 d.2.1).2,()))⟩
def CJ(a:ad)(b c:Int):=cd8 (ao (ao (256*ao (ae a b))+(o8 (a,ao (b+1)) 256).1)) c
theorem aM8:
 ∀(a:ad)(b c:Int),(aQ a/\aq b)/\ai (aq c)->0<=b/\b<=ac a->t9 (bZ2 (ac a<=b)) (ax c 1) (0=(ay (a,b) c).1/\(a,b)=(ay (a,b) c).2) (am b (b<ac a) (ar (ax 256 c) (f6 (a,ao (b+1))/\(256:Int)<=(256:Int)/\c≠0/\CJ a b c=(ay (a,b) c).1/\(o8 (a,ao (b+1)) 256).2=(ay (a,b) c).2) (c≠0/\cd8 (ao (ae a b)) c=(ay (a,b) c).1/\(a,ao (b+1))=(ay (a,b) c).2))):= by
  delta ae ac ao aq aK aQ bR aJ bq am bv ai jE CJ t9 ax
  rintro l p n ⟨⟨⟨hl,h⟩,h0,h1⟩,⟨h2,h3⟩,-⟩⟨a,g⟩
  simp only[cb2] at hl a g
  (repeat (refine cL ?_;repeat refine cK ?_))
  refine uH (λc=>?_) (λd e=>?_)
  .have c:(be l:Int)<=p∨n<1:=by simpa using c
   rw[ay,aj c];exact⟨rfl,rfl⟩
  .have d:=bg d
   have e:=bg e
   have c:¬ ((be l:Int)<=p∨n<1):=ab
   have ⟨hm0,hm1⟩:=h _ (dm a ab)
   rw[aG ab ab,aG (n:=Om l (it p) Sk) ab ab]
   refine⟨a,ab,aw (λk=>?_) (λk=>⟨ab,?_⟩)⟩
   .have k:=aX k
    have f:aY (l,p+1):=⟨⟨by show 0<=p+1;omega,by show p+1<=be l;omega⟩,h⟩
    have hr:=Pq f 256
    refine⟨f.at',ab,ab,?_⟩
    rw[ay,ah c,aj k,aG (n:=256*_) ab ab,aG ab ab]
    exact⟨rfl,rfl⟩
   .rw[ay,ah c,ah (bg k)];exact⟨rfl,rfl⟩
theorem DZ:aC 7 a94.spec:=aF Tryz.func7 (ap aD T5) aU aM8
def aL6:Ct:=⟨[.box 86 C3,.val .bool],[.val cI],λd=>[uf d.1],λd=>(((be d.1.1.1:Int),()),(mS d.1 d.2.1,()))⟩
def uQ(a:List au)(b:List bo)(c:List cH)(d:ad)(e:Int):=((be a<=cb2/\ ∀(f:au),f∈a->CT.wf eh f)/\jH b/\be c<=cb2/\ ∀(f:cH),f∈c->CT.wf nD f)/\aQ d/\aq e
def N9(a:ad)(b:Int):=ay (ay (a,b) 3).2 256
def Mo:=(64:Int)::(255:Int)::bz 128
def Mm(a:List au)(b:Bool)(c:ad)(d:Int):=[(([]:List bg8),(0:Int),ao (1+ao (Int.tdiv (ac a) 3)),b,([]:List cz),(1:Int),(0:Int),(0:Int),(0:Int),(0:Int),((0:Int),(0:Int)),bZ6,bZ6,ae Mo (ay (c,d) 3).1,(N9 c d).1)]
theorem ZH:
 ∀(a:List au)(b:List bo)(c:List cH)(d:ad)(e:Int)(f:Bool),uQ a b c d e/\ai True->(f6 (d,e)/\ac a<=1000/\ac b<=1000/\ac c<=1000/\ ∀(g:au),g∈a->ac g.1<=1000)->f6 (d,e)/\bJ (ay (d,e) 3).1 (ac Mo) (f6 (ay (d,e) 3).2) ((3:Int)≠(0:Int)/\bP ((be a+be (Mm a f d e))*152)/\ac a=ac a/\((a++Mm a f d e,b,c),(N9 d e).2)=mS ((a,b,c),d,e) f):= by
  delta ae ac ao aq aK aQ jH bG am bP uQ bz ai bJ Mm N9 Mo
  rintro ns ls hs l p b ⟨⟨-,⟨hl,hw⟩,-⟩,-,-⟩⟨c,h1,h2,h3,h4⟩
  have a:aY (l,p):=⟨c,hw⟩
  have r1:=d7 a 3
  have r2:=fZ a (n:=3) ab
  have e:Int.tdiv (be ns:Int) 3=(be ns:Int)/3:=z9 ab
  refine⟨c,r2.1,by simpa using r2.2,r1.1.at',ab,by simp;omega,rfl,?_⟩
  rw[e,aG (n:=(be ns:Int)/3) ab ab,aG ab ab]
  rfl
theorem an0:aC 18 aL6.spec:=aF Tryz.func18 (ap aD DZ) aU ZH
def tw(ns:List au)(a b l k:Int):List au:=if k=0 then ns else if k=1 then mz ns a (ib l+1,l) else mz (mz ns a (ib l+1,l)) b (ib l+2,l)
def Uc:Ct:=⟨[.box 86 C3,.val cI,.val cI],[.val cI],λd=>[uf d.1,inN d.1.1.1 d.2.1,inN d.1.1.1 d.2.2.1],λd=>(((be d.1.1.2.1:Int),()),(kM d.1 d.2.1 d.2.2.1,()))⟩
def bT1:bw Uc.ps->bL:=(λd=>{loops:=(bu 5 (λS=>{ι:=Int×(List au),qn:=fH,μ:=λi=>it (2-i.1),inv:=λi=>0<=i.1/\i.1<=2/\i.2=tw d.1.1.1 d.2.1 d.2.2.1 (be d.1.1.2.1) i.1,keep:=[0,1,2,6,7,8],slots:=λi=>[(9,.int .i64 i.1)],keepN:=[1048577,2097154],names:=λi=>[(1048576,.live (.cells 86 [.own 524288 16,.own 524289 6,.own 2097154 7,.ptr 1048577 0])),(524288,.live (.row 130 eh i.2)),(524289,.live (.row 141 rG (sL (kM d.1 d.2.1 d.2.2.1))))]}) cC)})
def Bv(a:List bo):=bZ5 bZ7 (ao (167837696+ao (4*ac a)))
def zy(a:ad)(b:Int):=ay (ay (a,b) 20).2 256
def wF(a:Int×bh):=ao (1+a.1)
theorem aQ7:
 ∀(a:List au)(b:List bo)(c:List cH)(d:ad)(e f g:Int),uQ a b c d e/\dV f g->uf ((a,b,c),d,e)/\inN a f/\0<=g/\g<ac a->f6 (d,e)/\f6 (ay (d,e) 20).2/\bP ((be b+be [(f,g,wF (ay (d,e) 20),(0:Int),(0:Int),(zy d e).1)])*48)/\(∃(h:Int) (i:List au),am h (h<=2) (i=tw a f g (ac b) h)/\aZ f g 0 (ac b) (Bv b=Bv b) (0=h/\gv (zy d e).2.1 (zy d e).2.2 (c=c) (a=i/\ai (b++[(f,g,wF (ay (d,e) 20),0,0,(zy d e).1)]=sL (kM ((a,b,c),d,e) f g)))))/\ ∀(h:Int)(i:List au),am h (h<=2) (i=tw a f g (ac b) h)->fh h 2 (h<ac (f::bz g)) (bJ (ae (f::bz g) h) (ac i) (bP (be (ae i (ae (f::bz g) h)).1*16)) (bP ((be (ae i (ae (f::bz g) h)).1+be [(bZ5 bZ7 (bZ5 bZ7 (Bv b+1)+bZ5 bZ7 h),ac b)])*16)/\am (ae (f::bz g) h)
 (ae (f::bz g) h<ac i) (∃(j:Int) (k:List au),am j (j<=2) (k=tw a f g (ac b) j)/\bj 2 j h/\aZ f g 0 (ac b) (Bv b=Bv b) (bf h j/\gv (zy d e).2.1 (zy d e).2.2 (c=c) (set i (it (ae (f::bz g) h)) ((ae i (ae (f::bz g) h)).1++[(bZ5 bZ7 (bZ5 bZ7 (Bv b+1)+bZ5 bZ7 h),ac b)],(ae i (ae (f::bz g) h)).2)=k/\ai (sL (kM ((a,b,c),d,e) f g)=sL (kM ((a,b,c),d,e) f g))))))) (ac b=ac b) (((i,sL (kM ((a,b,c),d,e) f g),c),(zy d e).2)=kM ((a,b,c),d,e) f g):= by
  delta ae ac ao aq aK aZ bN aQ bp jH bG bj am bP uQ fh bz ai gv bf dV Bv cN bJ zy ax bn wF
  rintro ns ls hs l p a b ⟨⟨-,⟨hl,hw⟩,-⟩,⟨ha1,ha2⟩,⟨hb1,hb2⟩,-⟩⟨⟨o,h1,h2,h3,q⟩,⟨e,d⟩,b0,f⟩
  simp only at h1 h2 h3 q d
  have g:aY (l,p):=⟨o,hw⟩
  have r1:=d7 g 20
  have e1:bZ4.wrap (1+(ay (l,p) 20).1)=1+(ay (l,p) 20).1:=aG ab ab
  rw[e1,aG (n:=4*(be ls:Int)) ab ab,aG ab ab,ug ab ab,ug ab ab]
  refine⟨o,r1.1.at',by simp only[eI];omega,⟨0,ns,⟨ab,ab,by rw[tw,aj rfl]⟩,?_⟩,?_⟩
  ·(repeat refine uI ?_)
   exact⟨rfl,aP⟩
  rintro k ms ⟨k0,k2,rfl⟩
  have hlen:∀ m,be (tw ns a b (be ls) m)=be ns:=λm=>by
   unfold tw mz;split
   .rfl
   .split <;> simp
  refine ci (λhk=>?_) (λhk=>?_)
  .rw[hlen]
   have h:k=0∨k=1:=ab
   have hports:∀ x:Int,0<=x->x<be ns->((Om ns (it x) Sk).1.length:Int)<=1000:=λx x0 x1=>q _ (dm x0 x1)
   obtain rfl|rfl:=h
   .have i:tw ns a b (be ls) 0=ns:=by rw[tw,aj rfl]
    rw[i]
    have:=hports a e d
    have j:Om ([a,b]:ad) (it 0) Sk=a:=rfl
    rw[j]
    refine⟨ab,az,e,d,ab,by simp only[eI];omega,e,d,1,_,⟨ab,ab,rfl⟩,ab,?_⟩
    (repeat refine uI ?_)
    refine⟨aG ab ab,?_⟩
    (repeat refine uI ?_)
    refine⟨?_,?_⟩
    .rw[tw,ah ab,aj rfl]
     have:bZ7.wrap (167837696+4*(be ls:Int)+1+bZ7.wrap 0)=ib (be ls)+1:=by
      rw[ug (n:=0) ab ab,ug ab ab];unfold ib;omega
     rw[this];rfl
    .exact⟨rfl,aP⟩
   .have i:tw ns a b (be ls) 1=mz ns a (ib (be ls)+1,be ls):=by rw[tw,ah ab,aj rfl]
    rw[i]
    have j:Om ([a,b]:ad) (it 1) Sk=b:=rfl
    rw[j]
    have hpb:((Om (mz ns a (ib (be ls)+1,be ls)) (it b) Sk).1.length:Int)<=1001:=by
     unfold mz
     by_cases c:it a=it b
     .rw[c,lH ab]
      grind
     .rw[pZ c]
      have:=hports b b0 f;omega
    refine⟨ab,az,b0,f,ab,by simp only[eI];omega,b0,f,2,_,⟨ab,ab,rfl⟩,ab,?_⟩
    (repeat refine uI ?_)
    refine⟨aG ab ab,?_⟩
    (repeat refine uI ?_)
    refine⟨?_,?_⟩
    .rw[tw,ah ab,ah ab]
     have:bZ7.wrap (167837696+4*(be ls:Int)+1+bZ7.wrap 1)=ib (be ls)+2:=by
      rw[ug (n:=1) ab ab,ug ab ab];unfold ib;omega
     rw[this];rfl
    .exact⟨rfl,aP⟩
  .have:k=2:=ab
   subst this
   refine⟨rfl,?_⟩
   rfl
theorem bL3:aC 19 Uc.spec:=aF Tryz.func19 (ap aD DZ) bT1 aQ7
def Vv(k:Int)(done:ad)(f:Bool)(l:ad):Prop:=(f=bZ6/\l=done∧∀ x∈done,¬ k<x)∨(f=bZ3/\l=m8 k done∧∃ x∈done,k<x)
def Sc:Ct:=⟨[.box 86 C3,.val cI,.agg pU,.val cI,.val cI],[],λd=>[inN d.1.1.1 d.2.1,dU (bW (Om d.1.1.1 (it d.2.1) Sk)),okL (bW (Om d.1.1.1 (it d.2.1) Sk)),∀ r∈bW (Om d.1.1.1 (it d.2.1) Sk),(be r.2.1:Int)<=1000],λd=>((),(((vm d.1.1.1 d.2.1 d.2.2.1 d.2.2.2.1 d.2.2.2.2.1,d.1.1.2),d.1.2),()))⟩
def a37:bw Sc.ps->bL:=(λd=>{loops:=(bu 3 (λS=>{ι:=Int,μ:=λi=>it (be (bW (Om d.1.1.1 (it d.2.1) Sk))-i),inv:=λi=>0<=i/\i<=be (bW (Om d.1.1.1 (it d.2.1) Sk))∧∀ r∈(bW (Om d.1.1.1 (it d.2.1) Sk)).take (it i),bZ2 (r.1=d.2.2.1)=bZ6,keep:=[0,1,3,4,7,8,9,10],slots:=λi=>[(11,.int .i64 i)],keepN:=[1048576,1048577,2097152,2097153,2097154,128]}) (bu 7 (λS=>{ι:=Int,μ:=λi=>it ((Om (bW (Om d.1.1.1 (it d.2.1) Sk)) (it (S.i 11)) Sk).2.1.length-i),inv:=λi=>0<=i/\i<=(Om (bW (Om d.1.1.1 (it d.2.1) Sk)) (it (S.i 11)) Sk).2.1.length∧∀ x∈(Om (bW (Om d.1.1.1 (it d.2.1) Sk)) (it (S.i 11)) Sk).2.1.take (it i),x≠d.2.2.2.1,keep:=[0,1,3,4,7,8,9,10,11],slots:=λi=>[(12,.int .i64 i)],keepN:=[1048576,1048577,2097152,2097153,2097154,128]}) (bu 13 (λS=>{ι:=Int×Bool×ad,qn:=oB,μ:=λi=>it ((Om (bW (Om d.1.1.1 (it d.2.1) Sk)) (it (S.i 11)) Sk).2.1.length-i.1),inv:=λi=>0<=i.1/\i.1<=(Om (bW (Om d.1.1.1 (it d.2.1) Sk)) (it (S.i 11)) Sk).2.1.length/\Vv d.2.2.2.1 ((Om (bW (Om d.1.1.1 (it d.2.1) Sk)) (it (S.i 11)) Sk).2.1.take (it i.1)) i.2.1 i.2.2,keep:=[0,1,3,4,7,8,9,10,11,13],slots:=λi=>[(14,.bool i.2.1),(15,.int .i64 i.1)],keepN:=[1048576,1048577,2097152,2097153,2097154,128],names:=λi=>[(224,.live (.cells 153 [.int .u32 d.2.2.1.1,.int .i64 d.2.2.1.2,.own 524288 1,.int .i64 (Om (bW (Om d.1.1.1 (it d.2.1) Sk)) (it (S.i 11)) Sk).2.2])),(524288,.live (.row 3 cI i.2.2))]}) cC)))})
def lz(a:List au)(b:Int):=(ae a b).2.2.2.2.1
def tJ(a:Int):=it a=it a
def uJ(a:List au)(b c:Int):=(ae (bW (ae a b)) c).2.1
def HG(a:Int)(b:List au)(c d e:Int):=am a (a<=ac (bW (ae b c))) (∀(f:cz),f∈take (it a) (bW (ae b c))->bZ2 (f.1=(d,e))=bZ6)
def Ir(a:List au)(b:Int)(c:bg8)(d:bh):=((ae a b).1,(ae a b).2.1,(ae a b).2.2.1,(ae a b).2.2.2.1,ie (lz a b) (c,d),(ae a b).2.2.2.2.2)
def EG(a:Int)(b:List au)(c d e:Int)(f:Bool)(g:ad):=am a (a<=ac (uJ b c d)) (Vv e (take (it a) (uJ b c d)) f g)
def tq(a:List au)(b c:Int):=(ae (lz a b) c).2.1
def AZ(a:List au)(b c:Int):=(ae (bW (ae a b)) c).2.2
theorem aT7:
 ∀(a:List au)(b:List bo)(c:List cH)(d:ad)(e f g h i j:Int),uQ a b c d e/\aq f/\(aO g/\aq h)/\dV i j->(inN a f/\dU (bW (ae a f))/\okL (bW (ae a f))/\ ∀(k:cz),k∈bW (ae a f)->ac k.2.1<=1000)->bJ f (ac a) (∃(k:Int),HG k a f g h/\bN f i j (tJ f) (0=k/\d=d/\e=e/\dX a b (c=c) (m5 g h))) (∀(k:Int),HG k a f g h->fh k (ac (lz a f)) (k<ac (lz a f)) (ar (bZ2 ((ae (lz a f) k).1.1=g)&&(bZ2 ((ae (lz a f) k).1.2=h)&&bZ3)) ((∃(l:Int),zI l (uJ a f k) (take (it l) (uJ a f k)) i/\bN f i j (tJ f) (bn k k 0 l (d=d) (e=e/\dX a b (c=c) (m5 g h))))/\ ∀(l:Int),zI l (uJ a f k) (take (it l) (uJ a f k)) i->am k (k<ac (lz a f)) (ar (ax l (ac (tq a f k))) (am k (k<ac (lz a f)) (am l (l<ac (tq a f k)) (ar (bZ2 (ae (tq a f k) l=i))
 (((a,b,c),d,e)=((vm a f (g,h) i j,b,c),d,e)) (∃(m:Int),zI m (uJ a f k) (take (it m) (uJ a f k)) i/\bj (ac (uJ a f k)) m l/\bN f i j (tJ f) (k=k/\bf l m/\d=d/\e=e/\dX a b (c=c) (m5 g h)))))) (bJ k (ac (lz a f)) (∃(m:Int) (n:Bool) (o:ad),EG m a f k i n o/\bN f i j (tJ f) (k=k/\bZ6=n/\0=m/\d=d/\e=e/\dX a b (c=c) (aZ g h g h ((ae (lz a f) k).2.2=AZ a f k) (ai (o=[]))))) (∀(m:Int)(n:Bool)(o:ad),EG m a f k i n o->am k (k<ac (lz a f)) (ar (ax m (ac (tq a f k))) (∀(p:Bool),p=( !n)->fq p p (aJ p) (p->iP p p k (k<ac (lz a f))) (cj p p (aJ p) (p->iP p p m (m<ac (tq a f k))) (cj p p (dA p) (p->p) (ar (br p (ax i (ae (tq a f k) m))) (xk o (bz i)/\am k (k<ac (lz a f)) (bJ m (ac (tq a f k)) (xk (o++bz i) (bz (ae (tq a f k) m))) (∃(q:Int)
 (r:Bool) (s:ad),EG q a f k i r s/\bj (ac (uJ a f k)) q m/\bN f i j (tJ f) (k=k/\bZ3=r/\bf m q/\d=d/\e=e/\dX a b (c=c) (aZ g h g h (AZ a f k=AZ a f k) (ai (o++bz i++bz (ae (tq a f k) m)=s))))))) (am k (k<ac (lz a f)) (bJ m (ac (tq a f k)) (xk o (bz (ae (tq a f k) m))) (∃(q:Int) (r:Bool) (s:ad),EG q a f k i r s/\bj (ac (uJ a f k)) q m/\bN f i j (tJ f) (k=k/\n=r/\bf m q/\d=d/\e=e/\dX a b (c=c) (aZ g h g h (AZ a f k=AZ a f k) (ai (o++bz (ae (tq a f k) m)=s))))))))))) (ar ( !n) (xk o (bz i)/\dU (lz a f)/\okL (lz a f)/\aT (o++bz i)/\((set a (it f) (Ir a f (g,h) (o++bz i,AZ a f k)),b,c),d,e)=((vm a f (g,h) i j,b,c),d,e)) (dU (lz a f)/\okL (lz a f)/\aT o/\((set a (it f) (Ir a f (g,h) (o,AZ a f k)),b,c),d,e)=((vm a f (g,h) i
 j,b,c),d,e)))))))) (∃(l:Int),HG l a f g h/\bj (ac (bW (ae a f))) l k/\bN f i j (tJ f) (bf k l/\d=d/\e=e/\dX a b (c=c) (m5 g h)))) (dU (lz a f)) (okL (lz a f)/\aT (bz i)/\((set a (it f) (Ir a f (g,h) (bz i,j)),b,c),d,e)=((vm a f (g,h) i j,b,c),d,e))):= by
  delta ae ac ao aq aK aZ bN aQ bp aJ aO jH bG aT cj bj br am bP uQ fh bz fq ai lz dX iP tJ uJ bf m5 HG dV dA Ir cN zI bJ EG xk tq ax bn AZ
  rintro ns ls hs cl cp n a pl k way-⟨⟨n0,n1⟩,hsr,hol,hnx⟩
  have eR:(Om ns (it n) Sk).2.2.2.2.1=bW (Om ns (it n) Sk):=rfl
  simp only[eR]
  have fin:∀ l',zg (bW (Om ns (it n) Sk)) (a,pl) k way=l'→((ns.set (it n) ((Om ns (it n) Sk).1,(Om ns (it n) Sk).2.1,(Om ns (it n) Sk).2.2.1,(Om ns (it n) Sk).2.2.2.1,l',(Om ns (it n) Sk).2.2.2.2.2),ls,hs),cl,cp)=((vm ns n (a,pl) k way,ls,hs),cl,cp):=by
   rintro _ rfl;rfl
  have same:zg (bW (Om ns (it n) Sk)) (a,pl) k way=bW (Om ns (it n) Sk)->((ns,ls,hs),cl,cp)=((vm ns n (a,pl) k way,ls,hs),cl,cp):=λh=>by
   have h2:=fin _ h
   rw[← h2]
   have e:((Om ns (it n) Sk).1,(Om ns (it n) Sk).2.1,(Om ns (it n) Sk).2.2.1,(Om ns (it n) Sk).2.2.2.1,bW (Om ns (it n) Sk),(Om ns (it n) Sk).2.2.2.2.2)=Om ns (it n) default:=rfl
   simp_all
  generalize bW (Om ns (it n) Sk)=R at *
  have hlR:=hol.1
  refine⟨n0,n1,⟨0,⟨ab,ab,az⟩,aI⟩,?_⟩
  rintro i ⟨i0,i1,hi⟩
  refine aw (λhk=>?_) (λhk=>?_)
  rotate_left
  .have hk:=bg hk
   rw[gN ab] at hi
   refine⟨hsr,hol,az,fin _ ?_⟩
   have e:wD R (a,pl)=be R:=List.findIdx_eq_length_of_false hi
   rw[zg,e,ah (Nat.lt_irrefl _)]
  have hk:=aX hk
  refine⟨i0,hk,aw (λhm=>?_) (λhm=>?_)⟩
  rotate_left
  .have hf:bZ2 ((Om R (it i) Sk).1=(a,pl))=false:=by
    grind
   exact⟨i+1,⟨ab,ab,yG i0 hk hi hf⟩,ab,aI⟩
  have hm:bZ2 ((Om R (it i) Sk).1=(a,pl))=true:=by
   grind
  have hfi:i=if wD R (a,pl)<be R then (wD R (a,pl):Int) else -1:=Fx i0 hk hi hm
  have hfl:=jn λq=>by rw[ah q] at hfi;omega
  rw[aj hfl] at hfi
  have hfe:wD R (a,pl)=it i:=ab
  have hrl:=hnx _ (dm i0 hk)
  have eL:zg R (a,pl) k way=if k∈(Om R (it i) Sk).2.1 then R else ie R ((a,pl),m8 k (Om R (it i) Sk).2.1,(Om R (it i) Sk).2.2):=by
   rw[zg,aj hfl,hfe]
  generalize hZ:Om R (it i) Sk=Z at *
  refine⟨⟨0,⟨ab,ab,az⟩,aI⟩,?_⟩
  rintro j ⟨j0,j1,hj⟩
  refine⟨i0,hk,aw (λhjk=>?_) (λhjk=>?_)⟩
  .have hjk:=aX hjk
   refine⟨i0,hk,j0,hjk,aw (λhe=>same ?_) (λhe=>?_)⟩
   .have he:=aX he
    rw[eL,aj (he▸dm j0 hjk)]
   .exact⟨j+1,⟨ab,ab,yG (P:=λx=>x≠k) j0 hjk hj (bg he)⟩,ab,aI⟩
  have hjk:=bg hjk
  rw[gN ab] at hj
  have hnk:¬ k∈Z.2.1:=λq=>hj k q rfl
  rw[ah hnk] at eL
  refine⟨i0,hk,⟨0,bZ6,[],⟨ab,ab,.inl ⟨rfl,az,az⟩⟩,aI⟩,?_⟩
  rintro m f l ⟨m0,m1,hins⟩
  have hll:(be l:Int)<=1001:=by
   obtain⟨-,rfl,-⟩|⟨-,rfl,-⟩:=hins
   .grind
   .rw[QG,eM];omega
  refine⟨i0,hk,aw (λhmk=>?_) (λhmk=>?_)⟩
  .have hmk:=aX hmk
   (repeat (intro (b_:Bool) (hb_:b_=_);(repeat refine⟨(by first|(simp +contextual;done)|(rw[hb_];simp +contextual;done)|(rw[hb_];simp;omega)|(rw[hb_];simp;intros;omega)|(rw[hb_];simp +contextual;intros;omega)|(intros;simp_all;done)|(intros;simp_all;omega)),?_⟩)));(repeat (subst hb_))
   refine AM (λh1 h2=>?_) (λh1=>?_)
   .have h1:f=false:=by simpa using h1
    have h2:=aX h2
    subst h1
    obtain⟨-,rfl,hin⟩|⟨q,-⟩:=hins
    .refine⟨by simp only[eI];omega,i0,hk,m0,hmk,by simp only[bM,eI];omega,m+1,bZ3,_,⟨ab,ab,.inr ⟨rfl,rfl,Om Z.2.1 (it m) Sk,?_,h2⟩⟩,ab,?_⟩
     .rw[qZ m0 hmk];exact jv _ az
     ·(repeat refine ik ?_)
      refine⟨?_,aP⟩
      rw[qZ m0 hmk,SI hin h2]
    .cases q
   .refine⟨i0,hk,m0,hmk,by simp only[eI];omega,m+1,f,l++[Om Z.2.1 (it m) Sk],⟨ab,ab,?_⟩,ab,aI⟩
    rw[qZ m0 hmk]
    obtain⟨rfl,rfl,hin⟩|⟨rfl,rfl,hin⟩:=hins
    .refine .inl ⟨rfl,rfl,λx hx=>?_⟩
     obtain hx|hx:=dI.1 hx
     .exact hin x hx
     .rw[kY.1 hx]
      grind
    .have ⟨x,hx,hx2⟩:=hin
     exact .inr ⟨rfl,(Ve ⟨x,hx,hx2⟩).symm,x,ip _ hx,hx2⟩
  have hmk:=bg hmk
  rw[gN ab] at hins
  refine aw (λhf=>?_) (λhf=>?_)
  .have hf:f=false:=by simpa using hf
   obtain⟨-,rfl,hin⟩|⟨q,-⟩:=hins
   .refine⟨by simp only[eI];omega,hsr,hol,by simp only[bM,eI];omega,fin _ ?_⟩
    rw[eL,YG hin]
   .rw[hf] at q;cases q
  .have hf:f=true:=by simpa using hf
   obtain⟨q,-⟩|⟨-,rfl,hin⟩:=hins
   .rw[hf] at q;cases q
   .exact⟨hsr,hol,ab,fin _ eL⟩
theorem bU6:aC 49 Sc.spec:=aF Tryz.func49 (ap aD ap3) a37 aT7
def aN3(n:Nat)(to:Int):ad:=(replicate n (1000:Int)).set (it to) 0
def xJ(n:Nat)(ls:List ck)(to:Int)(k:Nat):ad:=(range k).foldl (λd _=>ls.foldl yi d) (aN3 n to)
theorem aT9{n:Nat}{i:Int}(h0:0<=i)(h1:i<n):(replicate (it i) (1000:Int)++replicate (n-it i) 0).set (it i) 1000=replicate (it (i+1)) 1000++replicate (n-it (i+1)) 0:=by
 have e:it (i+1)=it i+1:=ab
 have e2:n-it i=(n-(it i+1))+1:=ab
 rw[e,e2,List.set_append_right _ _ az,vU,cp7,List.replicate_succ,List.set_cons_zero,List.replicate_succ',fV]
 rfl
def vO(n:Nat)(d:ad):Prop:=be d=n∧∀ x∈d,0<=x/\x<=1000
theorem L9{n:Nat}{d:ad}{i:Nat}{v:Int}(h:vO n d)(h0:0<=v)(h1:v<=1000):vO n (d.set i v):=by
 refine⟨by rw[gd];exact h.1,λx a=>?_⟩
 obtain a|rfl:=Ae a
 .exact h.2 x a
 .exact⟨h0,h1⟩
theorem UV{n:Nat}{d:ad}(h:vO n d){i:Int}(h0:0<=i)(h1:i<n):0<=Om d (it i) Sk/\Om d (it i) Sk<=1000:=h.2 _ (dm h0 (by rw[h.1];exact h1))
theorem av5{n:Nat}{d:ad}{l:ck}(h:vO n d)(a:0<=l.1/\l.1<n/\0<=l.2.1/\l.2.1<n):vO n (yi d l):=by
 have ha:=UV h a.1 a.2.1
 have hb:=UV h a.2.2.1 a.2.2.2
 unfold yi lA lB
 exact L9 (L9 h ab ab) ab ab
theorem PP{n:Nat}:∀{ls:List ck}{d:ad},jV n ls->vO n d->vO n (ls.foldl yi d)
 | [],d,_,h=>h
 | l::ls,d,a,h=>PP (ls:=ls) (λx hx=>a x (fu _ hx)) (av5 h (a l eV))
theorem bl7{n:Nat}{ls:List ck}{d:ad}(hg:jV n ls)(h:vO n d)(j:Nat):vO n ((ls.take j).foldl yi d) :=
 PP (λx hx=>hg x (rX hx)) h
theorem Py(n:Nat)(ls:List ck)(to:Int)(a:jV n ls):∀ k,vO n (xJ n ls to k)
 | 0=>L9 ⟨vU,λx hx=>by rw[(List.mem_replicate.1 hx).2];omega⟩ ab ab
 | k+1=>by
  have:=PP a (Py n ls to a k);unfold xJ at this ⊢;rw[mZ,lT];exact this
def UU:Ct:=⟨[.box 86 C3,.val cI],[.own 3 cI],λd=>[(be d.1.1.1:Int)<=1000,(be d.1.1.2.1:Int)<=1000,inN d.1.1.1 d.2.1,jV (be d.1.1.1) d.1.1.2.1],λd=>((lM (be d.1.1.1) d.1.1.2.1 d.2.1,()),(d.1,()))⟩
def at4:bw UU.ps->bL:=(λd=>{loops:=(bu 3 (λS=>{ι:=Int×ad,qn:=fH,μ:=λi=>it (be d.1.1.1-i.1),inv:=λi=>0<=i.1/\i.1<=be d.1.1.1/\i.2=replicate (it i.1) 1000++replicate (be d.1.1.1-it i.1) 0,keep:=[0,1],slots:=λi=>[(6,.int .i64 i.1),(5,.own 524288 1)],keepN:=[1048576,1048577,2097152,2097153,2097154],names:=λi=>[(524288,.live (.row 3 cI i.2))]}) (bu 8 (λS=>{ι:=Int×ad,qn:=fH,μ:=λi=>it (be d.1.1.1-i.1),inv:=λi=>0<=i.1/\i.1<=be d.1.1.1/\i.2=xJ (be d.1.1.1) d.1.1.2.1 d.2.1 (it i.1),keep:=[0,1],slots:=λi=>[(7,.int .i64 i.1),(5,.own 524288 1)],keepN:=[1048576,1048577,2097152,2097153,2097154],names:=λi=>[(524288,.live (.row 3 cI i.2))]}) (bu 11 (λS=>{ι:=Int×ad,qn:=fH,μ:=λi=>it (be d.1.1.2.1-i.1),inv:=λi=>0<=i.1/\i.1<=be d.1.1.2.1/\i.2=(d.1.1.2.1.take (it i.1)).foldl yi (xJ (be d.1.1.1) d.1.1.2.1 d.2.1 (it (S.i 7))),keep:=[0,1,7],slots:=λi=>[(8,.int .i64 i.1),(5,.own 524288 1)],keepN:=[1048576,1048577,2097152,2097153,2097154],names:=λi=>[(524288,.live (.row 3 cI i.2))]}) cC)))})
def Kb(a:Int)(b:List au)(c:ad):=am a (a<=ac b) (c=replicate (it a) 1000++replicate (be b -it a) 0)
def KG(a:Int)(b:List bo)(c:ad)(d:List au)(e f:Int):=am a (a<=ac b) (c=cb9 yi (xJ (be d) b e (it f)) (take (it a) b))
def MR(a:ad)(b:List bo)(c:Int):=set a (it (ae b c).1) (min (ae a (ae b c).1) (ao (ae a (ae b c).2.1+1)))
theorem bP8:
 ∀(a:List au)(b:List bo)(c:List cH)(d:ad)(e f:Int),uQ a b c d e/\ai (aq f)->(ac a<=1000/\ac b<=1000/\inN a f/\ ∀(g:ck),g∈b->bJ g.1 (ac a) (0<=g.2.1) (g.2.1<ac a))->bt (ac a) (ac a) (uT ((↑((8:Nat)):Int)*ac a)) ((∃(g:Int) (h:ad),Kb g a h/\bn f f 0 g (d=d) (e=e/\dX a b (c=c) (ai (replicate (it (ac a)) 0=h))))/\ ∀(g:Int)(h:ad),Kb g a h->ar (ax g (ac h)) (am g (g<ac h) (∃(i:Int) (j:ad),Kb i a j/\bj (ac a) i g/\f=f/\bf g i/\d=d/\e=e/\dX a b (c=c) (ai (set h (it g) 1000=j)))) (bJ f (ac h) (∃(i:Int) (j:ad),am i (i<=ac a) (j=xJ (be a) b f (it i))/\bn f f 0 i (d=d) (e=e/\dX a b (c=c) (ai (set h (it f) 0=j)))) (∀(i:Int)(j:ad),am i (i<=ac a) (j=xJ (be a) b f (it i))->ar (ax i (ac j)) ((∃(k:Int) (l:ad),KG k b l a f i/\bp f i
 (0=k) (d=d/\e=e/\dX a b (c=c) (ai (j=l))))/\ ∀(k:Int)(l:ad),KG k b l a f i->ar (ax k (ac b)) (am k (k<ac b) (am (ae b k).1 ((ae b k).1<ac l) (am (ae b k).2.1 ((ae b k).2.1<ac l) (am (ae b k).2.1 ((ae b k).2.1<ac l) (am (ae b k).1 ((ae b k).1<ac l) (am (ae b k).1 ((ae b k).1<ac l) (am (ae b k).2.1 ((ae b k).2.1<ac (MR l b k)) (∃(m:Int) (n:ad),KG m b n a f i/\bj (ac b) m k/\bp f i (bf k m) (d=d/\e=e/\dX a b (c=c) (ai (set (MR l b k) (it (ae b k).2.1) (min (ae l (ae b k).2.1) (ao (ae l (ae b k).1+1)))=n))))))))))) (∃(m:Int) (n:ad),am m (m<=ac a) (n=xJ (be a) b f (it m))/\bj (ac a) m i/\f=f/\bf i m/\d=d/\e=e/\dX a b (c=c) (ai (l=n)))) (j=lM (be a) b f/\((a,b,c),d,e)=((a,b,c),d,e))))):= by
  delta ae ac ao aq aK aQ bp jH bG bj am uQ bt ai dX bf cN bJ Kb KG ax bn MR uT
  rintro ns ls hs l p to-⟨h1,h2,⟨t0,t1⟩,q⟩
  refine⟨ab,ab,ab,⟨0,_,⟨ab,ab,rfl⟩,?_⟩,?_⟩
  .simp_all
  rintro i d ⟨s,i1,rfl⟩
  have g:be (replicate (it i) (1000:Int)++replicate (be ns-it i) 0)=be ns:=by
   simp_all
  rw[g]
  refine aw (λc=>?_) (λc=>?_)
  .have c:=aX c
   refine⟨s,c,i+1,_,⟨ab,ab,rfl⟩,ab,?_⟩
   (repeat refine uI ?_)
   refine⟨aG ab ab,?_⟩
   (repeat refine uI ?_)
   refine⟨?_,aP⟩
   exact aT9 s c
  have c:=bg c
  have e:it i=be ns:=ab
  rw[e,cp7,List.replicate_zero,iX]
  refine⟨t0,t1,⟨0,_,⟨ab,ab,rfl⟩,?_⟩,?_⟩
  ·(repeat refine uI ?_)
   exact⟨rfl,aP⟩
  rintro k d ⟨k0,k1,rfl⟩
  have t:=Py (be ns) ls to q
  rw[(t (it k)).1]
  refine aw (λa=>?_) (λa=>?_)
  rotate_left
  .have a:=bg a
   have e:it k=be ns:=ab
   rw[e];exact⟨rfl,rfl⟩
  have a:=aX a
  refine⟨⟨0,_,⟨ab,ab,rfl⟩,?_⟩,?_⟩
  .simp_all
  rintro j d ⟨r,j1,rfl⟩
  have f:=bl7 q (t (it k)) (it j)
  refine aw (λb=>?_) (λb=>?_)
  rotate_left
  .have b:=bg b
   refine⟨k+1,_,⟨ab,ab,rfl⟩,ab,?_⟩
   (repeat refine uI ?_)
   refine⟨aG ab ab,?_⟩
   (repeat refine uI ?_)
   refine⟨?_,aP⟩
   rw[gN ab,show it (k+1)=it k+1 by omega]
   unfold xJ
   rw[mZ,lT];rfl
  have b:=aX b
  have ⟨h,m,n,o⟩:=q _ (dm r b)
  generalize hX:cb9 yi (xJ (be ns) ls to (it k)) (ls.take (it j))=X at f
  have xa:=f.2 _ (dm h (by rw[f.1];exact m))
  have xb:=f.2 _ (dm n (by rw[f.1];exact o))
  simp only[gd]
  rw[f.1]
  refine⟨r,b,h,m,n,o,n,o,h,m,h,m,n,o,j+1,_,⟨ab,ab,rfl⟩,ab,?_⟩
  (repeat refine ik ?_)
  refine⟨?_,aP⟩
  rw[aG ab ab,aG ab ab,qZ r b,lT,hX]
  rfl
theorem bu7:aC 47 UU.spec:=aF Tryz.func47 aD at4 bP8
def bH4:Ct:=⟨[.val (.sl fm),.agg pU],[.val .bool],λd=>[okL d.1],λd=>((sa d.1 d.2.1,()),())⟩
theorem aH7:
 ∀(a:List cz)(b c:Int),c9 a/\ai (aO b/\aq c)->vE a->okL a/\sa a (b,c)=sa a (b,c):= by
  delta ac aq aK c9 dB aO cS aT ai vE
  rintro l a n-h
  exact⟨h,rfl⟩
theorem br9:aC 48 bH4.spec:=aF Tryz.func48 (ap aD aj1) aU aH7
def a09:Ct:=⟨[.box 83 jw],[.val dw],λd=>[f6 d.1],λd=>((bZ7.wrap (167837696+(ay d.1 40).1),()),((ay d.1 40).2,()))⟩
theorem aU2:
 ∀(a:ad)(b:Int),ai (aQ a/\aq b)->0<=b/\b<=ac a->f6 (a,b)/\bZ5 bZ7 (ao (167837696+(ay (a,b) 40).1))=bZ5 bZ7 (167837696+(ay (a,b) 40).1)/\(ay (a,b) 40).2=(ay (a,b) 40).2:= by
  delta ac ao aq aK aQ ai
  rintro l p ⟨⟨⟨hl,hw⟩,-⟩,-⟩ b
  have a:aY (l,p):=⟨b,hw⟩
  have r2:=fZ a (n:=40) ab
  refine⟨b,?_,rfl⟩
  rw[aG ab ab]
theorem bk5:aC 50 a09.spec:=aF Tryz.func50 (ap aD DZ) aU aU2
def rY(d:ad)(to:Int)(p:fB)(plain:Bool)(k way:Int)(ns:List au)(l:ck)(e:Int):List au :=
 if e=0 then ns else if e=1 then vZ d to p plain k way ns (lA l) (lB l) else vZ d to p plain k way (vZ d to p plain k way ns (lA l) (lB l)) (lB l) (lA l)
structure preR (s:bU):Prop where
 c:f6 s.2
 n:(be s.1.1:Int)<=1000
 l:(be s.1.2.1:Int)<=1000
 g:jV (be s.1.1) s.1.2.1
 r:∀ x∈s.1.1,bW x=[]
 a:(be (kg s.1.1):Int)<=100000
theorem au8{ns:List au}{i:Nat}(hi:i<be ns):be (aS (Om ns i Sk))<=be (kg ns):=by
 have hx:Om ns i Sk∈ns:=by
  simp_all
 unfold kg
 have ⟨u,v,e⟩:=List.append_of_mem hx
 grind
theorem RI.pre{ls:List ck}{ns0 ns:List au}(h:RI ls (kg ns0) ns0 ns)(ha:(be (kg ns0):Int)<=100000)(hl:(be ls:Int)<=1000){u:Int}(u0:0<=u)(u1:u<be ns0) :
  inN ns u/\dU (bW (Om ns (it u) Sk))/\okL (bW (Om ns (it u) Sk))∧∀ r∈bW (Om ns (it u) Sk),(be r.2.1:Int)<=1000:=by
 have t:=h.t (it u) ab
 have tl:=L4 t
 have b:∀ r∈bW (Om ns (it u) Sk),(be r.2.1:Int)<=1000:=λr a=>by have:=M0 (t.2 r a);omega
 refine⟨⟨u0,by rw[h.n];exact u1⟩,t.1,⟨ab,λr a=>?_⟩,b⟩
 have:=b r a;omega
def V2:Ct:=⟨[.box 86 C3,.val .bool],[],λd=>[preR d.1],λd=>((),(E5 d.1 d.2.1,()))⟩
def aW4:bw V2.ps->bL:=(λd=>{loops:=(bu 1 (λS=>{ι:=Int×(List au)×bh,qn:=oB,μ:=λi=>it (be d.1.1.1-i.1),inv:=λi=>0<=i.1/\i.1<=be d.1.1.1/\(i.2.1,i.2.2)=(range (it i.1)).foldl (stepT d.1.1.2.1 d.2.1) (d.1.1.1,d.1.2),keep:=[0,1],slots:=λi=>[(4,.int .i64 i.1)],names:=λi=>[(1048576,.live (.cells 86 [.own 524288 16,.own 524289 6,.own 524290 7,.ptr 1048577 0])),(524288,.live (.row 130 eh i.2.1)),(524289,.live (.row 141 rG d.1.1.2.1)),(524290,.live (.row 155 nD d.1.1.2.2)),(1048577,.live (.cells 83 (cF jw i.2.2)))]}) (bu 9 (λS=>{ι:=Int×(List au),qn:=fH,μ:=λi=>it (be (S.l xq 7)-i.1),inv:=λi=>0<=i.1/\i.1<=be (S.l xq 7)/\i.2=((S.l xq 7).take (it i.1)).foldl (stepP d.1.1.2.1 (lM (be d.1.1.1) d.1.1.2.1 (S.i 4)) (S.i 4) d.2.1 (S.i 6)) (S.r eh 449),keep:=[0,1,4,5,6,7],slots:=λi=>[(8,.int .i64 i.1)],keepN:=[448,1048577],names:=λi=>[(1048576,.live (.cells 86 [.own 524288 16,.own 524289 6,.own 524290 7,.ptr 1048577 0])),(524288,.live (.row 130 eh i.2)),(524289,.live (.row 141 rG d.1.1.2.1)),(524290,.live (.row 155 nD d.1.1.2.2))]}) (bu 13 (λS=>{ι:=Int×(List au),qn:=fH,μ:=λi=>it (be d.1.1.2.1-i.1),inv:=λi=>0<=i.1/\i.1<=be d.1.1.2.1/\i.2=(range (it i.1)).foldl (stepK d.1.1.2.1 (lM (be d.1.1.1) d.1.1.2.1 (S.i 4)) (S.i 4) (S.c pU 160) d.2.1 (S.i 6)) (S.r eh 524288),keep:=[0,1,4,5,6,7,8,9],slots:=λi=>[(10,.int .i64 i.1)],keepN:=[160,448,1048577],names:=λi=>[(1048576,.live (.cells 86 [.own 524288 16,.own 524289 6,.own 524290 7,.ptr 1048577 0])),(524288,.live (.row 130 eh i.2)),(524289,.live (.row 141 rG d.1.1.2.1)),(524290,.live (.row 155 nD d.1.1.2.2))]}) (bu 18 (λS=>{ι:=Int×(List au),qn:=fH,μ:=λi=>it (2-i.1),inv:=λi=>0<=i.1/\i.1<=2/\i.2=rY (lM (be d.1.1.1) d.1.1.2.1 (S.i 4)) (S.i 4) (S.c pU 160) d.2.1 (S.i 10) (S.i 6) (S.r eh 524288) (S.c rG 192) i.1,keep:=[0,1,4,5,6,7,8,9,10,11,12],slots:=λi=>[(13,.int .i64 i.1)],keepN:=[160,192,448,1504,1048577],names:=λi=>[(1048576,.live (.cells 86 [.own 524288 16,.own 524289 6,.own 524290 7,.ptr 1048577 0])),(524288,.live (.row 130 eh i.2)),(524289,.live (.row 141 rG d.1.1.2.1)),(524290,.live (.row 155 nD d.1.1.2.2))]}) cC)))),cuts:=(bu 7 (λS=>{ι:=Int×bh,qn:=fH,inv:=λi=>(i.1,i.2)=ru ((range (it (S.i 4))).foldl (stepT d.1.1.2.1 d.2.1) (d.1.1.1,d.1.2)).2,keep:=[0,1,4,5],slots:=λi=>[(6,.int .i64 i.1)],keepN:=[448,1048576,449,450,451],names:=λi=>[(1048577,.live (.cells 83 (cF jw i.2)))]}) cC)})
def ud(a:List bo)(b:Int):=[((ae a b).1,(ae a b).2.1),((ae a b).2.1,(ae a b).1)]
def xr(a:List au)(b:List bo)(c:Int):=lM (be a) b c=lM (be a) b c
def EQ(a:List bo)(b:Int)(c:List au)(d:Int)(e:ad)(f g:Prop):=bN (ae a b).2.2.2.1 (ae a b).2.2.2.2.1 (ae a b).2.2.2.2.2 (xr c a d) (ud a b=ud a b/\e=e/\f/\g)
def pN(a:List au)(b c:Int):=(ae (ae a b).1 c).1
def yK(a:List au)(b:Int):=(ae a b).1=(ae a b).1
def qM(a:Int×bh)(b:ad)(c d:Int):=a.2.1=b/\ai (c=d)
def wy(a:Bool)(b c d e:Prop):=cj a a (aJ b) (b->c) (cj a b c d e)
def uA(a:Int):=range (it a)
def Fk(a:List bo)(b:Int):=(ae a b).2.2.1=(ae a b).2.2.1
def tB(a:List bo)(b c:Int):=(ae (ud a b) c).1
theorem a80:
 ∀(a:List au)(b:List bo)(c:List cH)(d:ad)(e:Int)(f:Bool),uQ a b c d e/\ai True->preR ((a,b,c),d,e)->(∃(g:Int) (h:List au) (i:bh),am g (g<=ac a) ((h,i)=cb9 (stepT b f) (a,d,e) (uA g))/\f=f/\0=g/\a=h/\b=b/\c=c/\d=i.1/\ai (e=i.2))/\ ∀(g:Int)(h:List au)(i:bh),am g (g<=ac a) ((h,i)=cb9 (stepT b f) (a,d,e) (uA g))->ar (ax g (ac h)) (ac h<=1000/\ac b<=1000/\inN h g/\jV (be h) b/\f6 i/\(∀(j:Bool),j=bZ2 (wF (ay i 3)=3)->cj j j (aJ j) (j->aJ j) (pg j j (f6 (ay i 3).2) ((j->j)/\ar (br j (ax 0 (ay (ay i 3).2 3).1)) (∃(k:Int) (l:bh),(k,l)=ru (cb9 (stepT b f) (a,d,e) (uA g)).2/\f=f/\bn g g 1 k (xr h b g) (h=h/\b=b/\c=c/\qM (ay (ay i 3).2 3) l.1 (ay (ay i 3).2 3).2.2 l.2)) (∃(k:Int) (l:bh),(k,l)=ru (cb9 (stepT b f) (a,d,e) (uA g)).2/\f=f/\bn g
 g (wF (ay i 3)) k (xr h b g) (h=h/\b=b/\c=c/\qM (ay (ay i 3).2 3) l.1 (ay (ay i 3).2 3).2.2 l.2))) (j->bZ6) (ar (br j bZ6) (∃(k:Int) (l:bh),(k,l)=ru (cb9 (stepT b f) (a,d,e) (uA g)).2/\f=f/\bn g g 1 k (xr h b g) (h=h/\b=b/\c=c/\qM (ay i 3) l.1 (ay i 3).2.2 l.2)) (∃(k:Int) (l:bh),(k,l)=ru (cb9 (stepT b f) (a,d,e) (uA g)).2/\f=f/\bn g g (wF (ay i 3)) k (xr h b g) (h=h/\b=b/\c=c/\qM (ay i 3) l.1 (ay i 3).2.2 l.2)))))/\ ∀(j:Int)(k:bh),(j,k)=ru (cb9 (stepT b f) (a,d,e) (uA g)).2->bJ g (ac h) (∃(l:Int) (m:List au),am l (l<=ac (ae h g).1) (m=cb9 (stepP b (lM (be a) b g) g f j) h (take (it l) (ae h g).1))/\f=f/\bp g j (yK h g) (0=l/\xr h b g/\gv k.1 k.2 (h=m) (jZ b c))) (∀(l:Int)(m:List au),am l (l<=ac (ae h g).1) (m=cb9 (stepP b
 (lM (be a) b g) g f j) h (take (it l) (ae h g).1))->ar (ax l (ac (ae h g).1)) (bJ l (ac (ae h g).1) (∃(n:Int) (o:List au),am n (n<=ac b) (o=cb9 (stepK b (lM (be a) b g) g (pN h g l,32) f j) m (uA n))/\f=f/\bp g j (yK h g) (l=l/\0=n/\bp (pN h g l) 32 (xr h b g) (gv k.1 k.2 (m=o) (jZ b c)))) (∀(n:Int)(o:List au),am n (n<=ac b) (o=cb9 (stepK b (lM (be a) b g) g (pN h g l,32) f j) m (uA n))->ar (ax n (ac b)) (bJ n (ac b) (∃(p:Int) (q:List au),am p (p<=2) (q=rY (lM (be a) b g) g (pN h g l,32) f n j o (ae b n) p)/\f=f/\bp g j (yK h g) (bp l n (0=p) (aZ (pN h g l) 32 (ae b n).1 (ae b n).2.1 (Fk b n) (EQ b n h g k.1 (k.2=k.2) (o=q/\jZ b c))))) (∀(p:Int)(q:List au),am p (p<=2) (q=rY (lM (be a) b g) g (pN h g l,32) f n j o (ae b n) p)->ar (ax p
 2) (am p (p<ac (ud b n)) (am (tB b n p) (tB b n p<ac (lM (be h) b g)) (am (ae (ud b n) p).2 ((ae (ud b n) p).2<ac (lM (be h) b g)) (∀(r:Bool),r=cP (ae (lM (be h) b g) (tB b n p)) (ao (ae (lM (be h) b g) (ae (ud b n) p).2+1))->bR r/\gq r/\bR r/\ ∀(s:Bool),s=cP (ae (ud b n) p).2 g->wy ( !r&&s) ( !r&&s) (aJ ( !r&&s)) ( !r&&s->iP ( !r&&s) ( !r&&s) (ae (ud b n) p).2 ((ae (ud b n) p).2<ac q)) (cj ( !r&&s) ( !r&&s) (aJ ( !r&&s)) (wL r s) (bv r/\ar (bq r (br s (ae q (ae (ud b n) p).2).2.2.2.1)) (∃(t:Int) (u:List au),am t (t<=2) (u=rY (lM (be a) b g) g (pN h g l,32) f n j o (ae b n) t)/\bj 2 t p/\f=f/\bp g j (yK h g) (bp l n (bf p t) (aZ (pN h g l) 32 (ae b n).1 (ae b n).2.1 (Fk b n) (EQ b n h g k.1 (k.2=k.2) (q=u/\jZ b c))))) (∀(t:Bool),t=f->wy t t
 (aJ t) (t->iP t t (tB b n p) (tB b n p<ac q)) (fq t t ((t->t)/\(t->t)/\ai (okL (ae q (tB b n p)).2.2.2.2.1)) (t->t) (ar (br t (sa (ae q (tB b n p)).2.2.2.2.1 (pN h g l,32))) (∃(u:Int) (v:List au),am u (u<=2) (v=rY (lM (be a) b g) g (pN h g l,32) f n j o (ae b n) u)/\bj 2 u p/\f=f/\bp g j (yK h g) (bp l n (bf p u) (aZ (pN h g l) 32 (ae b n).1 (ae b n).2.1 (Fk b n) (EQ b n h g k.1 (k.2=k.2) (q=v/\jZ b c))))) (inN q (tB b n p)/\dU (bW (ae q (tB b n p)))/\okL (bW (ae q (tB b n p)))/\(∀(u:cz),u∈bW (ae q (tB b n p))->ac u.2.1<=1000)/\ ∃(u:Int) (v:List au),am u (u<=2) (v=rY (lM (be a) b g) g (pN h g l,32) f n j o (ae b n) u)/\bj 2 u p/\f=f/\bp g j (yK h g) (bp l n (bf p u) (aZ (pN h g l) 32 (ae b n).1 (ae b n).2.1 (Fk b n) (EQ b n h g k.1
 (k.2=k.2) (vm q (tB b n p) (pN h g l,32) n j=v/\jZ b c)))))))))))))) (∃(r:Int) (s:List au),am r (r<=ac b) (s=cb9 (stepK b (lM (be a) b g) g (pN h g l,32) f j) m (uA r))/\bj (ac b) r n/\f=f/\bp g j (yK h g) (l=l/\bf n r/\bp (pN h g l) 32 (xr h b g) (gv k.1 k.2 (q=s) (jZ b c)))))) (∃(p:Int) (q:List au),am p (p<=ac (ae h g).1) (q=cb9 (stepP b (lM (be a) b g) g f j) h (take (it p) (ae h g).1))/\bj (ac (ae h g).1) p l/\f=f/\bp g j (yK h g) (bf l p/\xr h b g/\gv k.1 k.2 (o=q) (jZ b c))))) (∃(n:Int) (o:List au) (p:bh),am n (n<=ac a) ((o,p)=cb9 (stepT b f) (a,d,e) (uA n))/\bj (ac a) n g/\f=f/\bf g n/\m=o/\b=b/\c=c/\k.1=p.1/\ai (k.2=p.2)))) (((h,b,c),i)=E5 ((a,b,c),d,e) f):= by
  delta ae ac ao aq aK aZ bN aQ bR bp aJ jH bG cj bq ud bj br am bv gq uQ EQ fq xr ai gv iP bf dA pg pN cN cP bJ wL jZ yK qM wy uA ax Fk bn wF tB
  rintro ns0 ls hs l p plain ⟨⟨-,⟨hl,hw⟩,-⟩,-⟩⟨hc,h1,h2,hg,hr,ha⟩
  dsimp only at hc h1 h2 hg hr ha
  have hB:aY (l,p):=⟨hc,hw⟩
  have base:∀ n,n<=be ns0->RI ls (kg ns0) ns0 ((range n).foldl (stepT ls plain) (ns0,(l,p))).1/\aY ((range n).foldl (stepT ls plain) (ns0,(l,p))).2:=λn hn=>RI.stepTs (ns0:=ns0) (s:=(ns0,(l,p))) ⟨RI.start hr,hB⟩ hg hn
  refine⟨⟨0,ns0,(l,p),⟨ab,ab,rfl⟩,aI⟩,?_⟩
  rintro to ns cs ⟨t0,t1,hF⟩
  have ⟨R,hcs⟩:=base (it to) ab
  have e1:=(dP Prod.fst hF).symm
  have e2:=(dP Prod.snd hF).symm
  dsimp only at e1 e2
  rw[e1] at R
  rw[e2] at hcs ⊢
  have hn:=R.n
  simp only[hn]
  refine aw (λht=>?_) (λht=>?_)
  rotate_left
  .have ht:=bg ht
   have e:it to=be ns0:=ab
   rw[e] at e1 e2
   unfold E5
   dsimp only
   rw[e1,e2]
  have ht:=aX ht
  have v3:=fZ hcs (n:=3) ab
  have k1:=(d7 hcs 3).1
  have k2:=(d7 k1 3).1
  refine⟨h1,h2,⟨t0,by rw[hn];exact ht⟩,hg,hcs.at',?_,?_⟩
  .rw[aG (n:=1+_) ab ab]
   (repeat (refine cL ?_;repeat refine cK ?_))
   refine aw (λkb=>?_) (λkb=>?_)
   .simp only[kb,cond_true]
    have kb:=aX kb
    refine⟨λh=>h,k1.at',λh=>h,ci (λkc=>?_) (λkc=>?_)⟩
    .refine⟨1,_,?_,aI⟩
     rw[ru,aj kb,aj kc]
    .refine⟨_,_,?_,aI⟩
     rw[ru,aj kb,ah kc,kb]
   .simp only[kb,sy]
    have kb:=bg kb
    refine⟨aP,λh=>h,?_⟩
    rw[iu]
    refine⟨_,_,?_,aI⟩
    rw[ru,ah kb]
  rintro way cs' hW
  have hw3:=UJ hcs
  rw[← hW] at hw3
  have ⟨hcs',w0,w1⟩:=hw3
  dsimp only at hcs' w0 w1
  have hD:vO (be ns0) (lM (be ns0) ls to):=Py (be ns0) ls to hg _
  generalize eD:lM (be ns0) ls to=D at hD ⊢
  have hP:∀ q∈(Om ns (it to) Sk).1,q.1∈kg ns0:=λq hq=>by
   have:aS (Om ns (it to) Sk)=aS (Om ns0 (it to) Sk):=R.ports ab
   refine W7 (i:=it to) ab (q:=q) ?_
   rw[← this];exact hq
  have hPl:((Om ns (it to) Sk).1.length:Int)<=100000:=by
   have:aS (Om ns (it to) Sk)=aS (Om ns0 (it to) Sk):=R.ports ab
   have e:(Om ns (it to) Sk).1=aS (Om ns0 (it to) Sk):=this
   rw[e]
   have:=au8 (ns:=ns0) (i:=it to) ab
   omega
  generalize eP:(Om ns (it to) Sk).1=P at hP hPl ⊢
  refine⟨t0,ht,⟨0,ns,⟨ab,ab,rfl⟩,aI⟩,?_⟩
  rintro i ns1 ⟨i0,i1,hn1⟩
  have R1:RI ls (kg ns0) ns0 ns1:=by
   rw[hn1];exact R.stepPs hg w0 w1 λq hq=>hP q (rX hq)
  refine aw (λhi=>?_) (λhi=>?_)
  rotate_left
  .have hi:=bg hi
   refine⟨to+1,ns1,cs',⟨ab,ab,?_⟩,ab,aI⟩
   rw[show it (to+1)=it to+1 by omega,mZ,lT,← hF,ce5,ci8,stepT]
   dsimp only
   rw[← hW,hn,show ((it to:Nat):Int)=to by omega,eD,hn1,gN ab,← eP]
   rfl
  have hi:=aX hi
  have hq:=hP _ (dm i0 hi)
  generalize eq:(Om P (it i) Sk).1=q at hq ⊢
  refine⟨i0,hi,⟨0,ns1,⟨ab,ab,rfl⟩,aI⟩,?_⟩
  rintro k ns2 ⟨k0,kl,hn2⟩
  have R2:RI ls (kg ns0) ns0 ns2:=by
   rw[hn2];exact R1.stepKs (p:=(q,32)) hg rfl hq w0 w1 ab
  refine aw (λhk=>?_) (λhk=>?_)
  rotate_left
  .have hk:=bg hk
   refine⟨i+1,ns2,⟨ab,ab,?_⟩,ab,aI⟩
   rw[qZ i0 hi,lT,← hn1,ce5,ci8,stepP,hn2,eq,show it k=be ls by omega]
  have hk:=aX hk
  have hh:=hg.at' (k:=it k) ab
  have la:=Xd (ls:=ls) (k:=it k) ab
  have lb:=R7 (ls:=ls) (k:=it k) ab
  rw[show ((it k:Nat):Int)=k by omega] at la lb
  refine⟨k0,hk,⟨0,ns2,⟨ab,ab,rfl⟩,aI⟩,?_⟩
  rintro e ns3 ⟨e0,el,hn3⟩
  refine aw (λhe=>?_) (λhe=>?_)
  rotate_left
  .have he:=bg he
   have he:e=2:=ab
   subst he
   refine⟨k+1,ns3,⟨ab,ab,?_⟩,ab,aI⟩
   rw[show it (k+1)=it k+1 by omega,mZ,lT,← hn2,ce5,ci8,stepK,hn3,rY,ah ab,ah ab,show ((it k:Nat):Int)=k by omega]
  have he:=aX he
  obtain⟨u,v,hL,hS,hu,hv,hk',R3⟩:∃ u v,Om ([((Om ls (it k) Sk).1,(Om ls (it k) Sk).2.1),((Om ls (it k) Sk).2.1,(Om ls (it k) Sk).1)]:List bg8) (it e) Sk=(u,v) ∧
    rY D to (q,32) plain k way ns2 (Om ls (it k) Sk) (e+1)=vZ D to (q,32) plain k way ns3 u v/\(0<=u/\u<be ns0)/\(0<=v/\v<be ns0)/\lnk ls u k/\RI ls (kg ns0) ns0 ns3:=by
   obtain rfl|rfl:=(show e=0∨e=1 by omega)
   .refine⟨_,_,rfl,?_,hh.1,hh.2,la,?_⟩
    .rw[hn3,rY,rY,ah ab,aj ab,aj rfl];rfl
    .rw[hn3,rY,aj rfl];exact R2
   .refine⟨_,_,rfl,?_,hh.2,hh.1,lb,?_⟩
    .rw[hn3,rY,rY,ah ab,ah ab,ah ab,aj rfl];rfl
    .rw[hn3,rY,ah ab,aj rfl]
     exact R2.step (p:=(q,32)) hh.1.1 hh.1.2 rfl hq la w0 w1
  have hn3':=R3.n
  simp only[hL,hn3',hD.1]
  have dv:=hD.2 _ (dm hv.1 (by rw[hD.1];exact hv.2))
  rw[aG (n:=Om D (it v) Sk+1) ab ab]
  have pr:=R3.pre ha h2 hu.1 hu.2
  refine⟨e0,by simp only[cX,cb8];omega,hu.1,hu.2,hv.1,hv.2,?_⟩
  intro b hb
  refine⟨az,az,az,?_⟩
  intro b1 hb1
  refine⟨az,az,az,az,az,λh=>⟨λ_=>h,λ_=>h,hv.1,hv.2,aP⟩,az,az,λh=>⟨λ_=>h,λh1=>by simp only[h,h1];rfl,aP⟩,λh=>by rw[h];rfl,?_⟩
  refine uH (λho=>?_) (λho1 ho2=>?_)
  .refine⟨e+1,ns3,⟨ab,ab,?_⟩,ab,aI⟩
   rw[hS,vZ,aj]
   obtain ho|ho:=ho
   .rw[hb] at ho;exact .inl (jC ho)
   .obtain _|_:=b1
    .cases ho
    .exact .inr ⟨jC hb1.symm,ho⟩
  have hN:¬ (Om D (it u) Sk≠Om D (it v) Sk+1∨(v≠to/\qf (Om ns3 (it v) Sk)=bZ3)):=by
   rw[hb] at ho1
   rintro (h|⟨h,h'⟩)
   .exact h (jx ho1)
   .rw[hb1,eT h] at ho2
    rw[show qf (Om ns3 (it v) Sk)=(Om ns3 (it v) Sk).2.2.2.1 from rfl] at h'
    rw[h'] at ho2;cases ho2
  intro b2 hb2
  subst hb2
  refine⟨az,az,az,az,az,λh=>⟨λ_=>h,λ_=>h,hu.1,hu.2,aP⟩,az,az,λh=>⟨λ_=>h,λ_=>h,pr.2.2.1,aP⟩,λh=>h,?_⟩
  refine AM (λha1 ha2=>?_) (λhna=>?_)
  .refine⟨e+1,ns3,⟨ab,ab,?_⟩,ab,aI⟩
   rw[hS,vZ,ah hN,aj ⟨ha1,ha2⟩]
  .refine⟨pr.1,pr.2.1,pr.2.2.1,pr.2.2.2,e+1,_,⟨ab,ab,?_⟩,ab,aI⟩
   rw[hS,vZ,ah hN,ah]
   rintro⟨x1,x2⟩
   obtain h|h:=hna
   .rw[h] at x1;cases x1
   .rw[show bW (Om ns3 (it u) Sk)=(Om ns3 (it u) Sk).2.2.2.2.1 from rfl,h] at x2;cases x2
theorem aN5:aC 20 V2.spec:=aF Tryz.func20 (ap (ap (ap (ap aD bu7) DZ) br9) bU6) aW4 a80
structure preO (s:bU):Prop where
 c:f6 s.2
 n0:0<be s.1.1
 n:(be s.1.1:Int)<=1000
 l:(be s.1.2.1:Int)<=1000
 g:jV (be s.1.1) s.1.2.1
 h:s.1.2.2=[]
 a:(be (kg s.1.1):Int)<=100000
 p:∀ x∈s.1.1,bW x≠[]->0<be (aS x)/\be (aS x)<=1000/\be (bW x)<=100000
def oN(s:bU)(i:Int):List au×bh:=(range (it i)).foldl BO (s.1.1,s.2)
def oL(s:bU)(i:Int):(List au×List ck)×bh:=(range (it i)).foldl xz (((oN s (be s.1.1)).1,s.1.2.1),(oN s (be s.1.1)).2)
def oC(s:bU)(i:Nat):List cH×Int×bh:=(range i).foldl (λc _=>tV (oL s (be s.1.2.1)).1.1 c) ([],0,(ay (oL s (be s.1.2.1)).2 4).2)
def oK(s:bU):Int:=(ay (oL s (be s.1.2.1)).2 4).1
structure AG (ns0 ns:List au):Prop where
 n:be ns=be ns0
 e:∀ i:Nat,i<be ns0->aS (Om ns i Sk)=aS (Om ns0 i Sk)/\bW (Om ns i Sk)=bW (Om ns0 i Sk)
theorem AG.set{ns0 ns:List au}(h:AG ns0 ns){i:Nat}(hi:i<be ns0){x:au}(b:aS x=aS (Om ns i Sk)/\bW x=bW (Om ns i Sk)):AG ns0 (ns.set i x):=by
 refine⟨by rw[gd];exact h.n,λj a=>?_⟩
 by_cases e:i=j
 .subst e;rw[lH (by rw[h.n];exact hi)];exact⟨b.1.trans (h.e _ a).1,b.2.trans (h.e _ a).2⟩
 .rw[pZ e];exact h.e _ a
theorem aJ0(x:au)(i:Int)(c:bh):aS (ji x i c).1=aS x/\bW (ji x i c).1=bW x:=by
 unfold ji
 dsimp only
 repeat' split
 all_goals exact⟨rfl,rfl⟩
theorem Qd{x:au}{i:Int}{c:bh}(h:aY c):aY (ji x i c).2:=by
 unfold ji
 dsimp only
 repeat' split
 all_goals first|exact (d7 h _).1|exact (d7 (d7 h _).1 _).1|exact (d7 (d7 (d7 h _).1 _).1 _).1
theorem bW2(x:au)(i:Int)(c:bh):aS (BQ x i c).1=aS x/\bW (BQ x i c).1=bW x:=aJ0 x i c
theorem aL2{x:au}{i:Int}{c:bh}(h:aY c):aY (BQ x i c).2:=by
 have k:=Qd (x:=x) (i:=i) h
 exact (d7 (d7 (d7 k _).1 _).1 _).1
theorem N1(s:bU)(h:aY s.2){i:Int}(hi:i<=be s.1.1):AG s.1.1 (oN s i).1/\aY (oN s i).2:=by
 refine Et (λc:List au×bh=>AG s.1.1 c.1/\aY c.2) _ ⟨⟨rfl,λ_ _=>⟨rfl,rfl⟩⟩,h⟩ λk a c b=>?_
 have a:=cd3.1 a
 exact⟨b.1.set ab (bW2 _ _ _),aL2 b.2⟩
theorem VM(s:bU){i:Int}(h0:0<=i):oN s (i+1)=BO (oN s i) (it i):=by
 unfold oN
 rw[show it (i+1)=it i+1 by omega,mZ,lT];rfl
theorem Yu(l:ck)(c:bh):lA (odLink l c).1=lA l/\lB (odLink l c).1=lB l:=by
 unfold odLink
 dsimp only
 repeat' split
 all_goals exact⟨rfl,rfl⟩
theorem Z7{l:ck}{c:bh}(h:aY c):aY (odLink l c).2:=by
 unfold odLink
 dsimp only
 repeat' split
 all_goals first|exact (d7 h _).1|exact (d7 (d7 h _).1 _).1
theorem jV.set{n:Nat}{ls:List ck}(h:jV n ls){x:ck}(hx:0<=x.1/\x.1<n/\0<=x.2.1/\x.2.1<n)(i:Nat):jV n (ls.set i x):=λy a=>by
 obtain a|rfl:=Ae a
 .exact h y a
 .exact hx
theorem jV.odLink{n:Nat}{ls:List ck}(h:jV n ls){i:Nat}(hi:i<be ls)(c:bh):jV n (ls.set i (odLink (Om ls i Sk) c).1):=by
 have k:=Yu (Om ls i Sk) c
 have g:=h.at' hi
 refine h.set ?_ i
 show 0<=lA _/\lA _<_/\0<=lB _/\lB _<_
 simp_all
theorem bd1{ns0 ns:List au}(h:AG ns0 ns){l:ck}(hl:0<=lB l/\lB l<be ns0):AG ns0 (vF ns l):=by
 unfold vF
 split
 .exact h.set ab ⟨rfl,rfl⟩
 .exact h
theorem BV(s:bU)(h:aY s.2)(hg:jV (be s.1.1) s.1.2.1){i:Int}(hi:i<=be s.1.2.1) :
  AG s.1.1 (oL s i).1.1/\aY (oL s i).2/\jV (be s.1.1) (oL s i).1.2/\(oL s i).1.2.length=be s.1.2.1:=by
 have b:=N1 s h (i:=be s.1.1) ab
 refine Et (λc:(List au×List ck)×bh=>AG s.1.1 c.1.1/\aY c.2/\jV (be s.1.1) c.1.2/\be c.1.2=be s.1.2.1) _ ⟨b.1,b.2,hg,rfl⟩ λk d c hc=>?_
 have d:=cd3.1 d
 have ⟨c1,c2,f,c4⟩:=hc
 have a:k<be c.1.2:=ab
 have g:=f.at' a
 have e:=Yu (Om c.1.2 k Sk) c.2
 refine⟨bd1 c1 ?_,Z7 c2,f.odLink a _,by simp only[xz,gd];exact c4⟩
 rw[e.2];exact g.2
theorem RH(s:bU){i:Int}(h0:0<=i):oL s (i+1)=xz (oL s i) (it i):=by
 unfold oL
 rw[show it (i+1)=it i+1 by omega,mZ,lT];rfl
theorem Ms(s:bU)(i:Nat):oC s (i+1)=tV (oL s (be s.1.2.1)).1.1 (oC s i):=by
 unfold oC
 rw[mZ,lT];rfl
theorem aA9{ns:List au}{s:List cH×Int×bh}(h:aY s.2.2):aY (tV ns s).2.2/\s.2.1<=(tV ns s).2.1/\(tV ns s).2.1<=s.2.1+60/\(tV ns s).1.length<=be s.1+1:=by
 have a:=fZ h (n:=60) ab
 have k1:=(d7 h 60).1
 have k2:=(d7 k1 (be ns)).1
 unfold tV
 dsimp only
 split
 .grind
 .exact⟨(d7 (d7 (d7 k2 _).1 _).1 _).1,by dsimp only;omega,by simp;omega⟩
theorem O7(s:bU)(h:aY s.2)(a:jV (be s.1.1) s.1.2.1):∀ i:Nat,aY (oC s i).2.2/\0<=(oC s i).2.1/\(oC s i).2.1<=60*i/\(oC s i).1.length<=i
 | 0=>⟨(d7 (BV s h a (io _)).2.1 4).1,io _,io _,dq _⟩
 | i+1=>by
  have k:=O7 s h a i;have m:=aA9 (ns:=(oL s (be s.1.2.1)).1.1) k.1;rw[Ms];grind
def YO:Ct:=⟨[.box 86 C3],[],λd=>[preO d.1],λd=>((),(rZ d.1,()))⟩
def a47:bw YO.ps->bL:=(λd=>{loops:=(bu 2 (λS=>{ι:=Int×(List au)×bh,qn:=oB,μ:=λi=>it (be d.1.1.1-i.1),inv:=λi=>0<=i.1/\i.1<=be d.1.1.1/\(i.2.1,i.2.2)=oN d.1 i.1,keep:=[0,2],slots:=λi=>[(3,.int .i64 i.1)],keepN:=[1048576,2097153,2097154],names:=λi=>[(2097152,.live (.row 130 eh i.2.1)),(1048577,.live (.cells 83 (cF jw i.2.2)))]}) (bu 20 (λS=>{ι:=Int×(List au)×(List ck)×bh,qn:=Q2,μ:=λi=>it (be d.1.1.2.1-i.1),inv:=λi=>0<=i.1/\i.1<=be d.1.1.2.1/\((i.2.1,i.2.2.1),i.2.2.2)=oL d.1 i.1,keep:=[0,2],slots:=λi=>[(5,.int .i64 i.1)],keepN:=[1048576,2097154],names:=λi=>[(2097152,.live (.row 130 eh i.2.1)),(2097153,.live (.row 141 rG i.2.2.1)),(1048577,.live (.cells 83 (cF jw i.2.2.2)))]}) (bu 32 (λS=>{ι:=Int×Int×(List cH)×bh,qn:=Q2,μ:=λi=>it i.1,inv:=λi=>0<=i.1/\i.1<=oK d.1/\(i.2.2.1,i.2.1,i.2.2.2)=oC d.1 (it (oK d.1-i.1)),keep:=[0,2],slots:=λi=>[(8,.int .i64 i.1),(7,.int .i64 i.2.1)],keepN:=[2097152,2097153],names:=λi=>[(1048576,.live (.cells 86 [.own 2097152 16,.own 2097153 6,.own 524288 7,.ptr 1048577 0])),(524288,.live (.row 155 nD i.2.2.1)),(1048577,.live (.cells 83 (cF jw i.2.2.2)))]}) cC))),cuts:=(bu 18 (λS=>{ι:=(List au)×bh,qn:=fH,inv:=λi=>i.1=(oN d.1 (S.i 3)).1.set (it (S.i 3)) (ji ((oN d.1 (S.i 3)).1.getD (it (S.i 3)) Sk) (S.i 3) (oN d.1 (S.i 3)).2).1/\i.2=(ji ((oN d.1 (S.i 3)).1.getD (it (S.i 3)) Sk) (S.i 3) (oN d.1 (S.i 3)).2).2,keep:=[0,2,3,4],slots:=λi=>[],keepN:=[1048576,2097153,2097154],names:=λi=>[(2097152,.live (.row 130 eh i.1)),(1048577,.live (.cells 83 (cF jw i.2)))]}) (bu 28 (λS=>{ι:=(List ck)×bh,qn:=fH,inv:=λi=>i.1=(oL d.1 (S.i 5)).1.2.set (it (S.i 5)) (odLink ((oL d.1 (S.i 5)).1.2.getD (it (S.i 5)) Sk) (oL d.1 (S.i 5)).2).1/\i.2=(odLink ((oL d.1 (S.i 5)).1.2.getD (it (S.i 5)) Sk) (oL d.1 (S.i 5)).2).2,keep:=[0,2,5,6],slots:=λi=>[],keepN:=[1048576,2097152,2097154],names:=λi=>[(2097153,.live (.row 141 rG i.1)),(1048577,.live (.cells 83 (cF jw i.2)))]}) cC))})
def Ge(a:List au)(b:Int)(c:au)(d:Int)(e:Int×Int×bg8×Bool×Bool×Int×Int):=((ae a b).2.1,(ae a b).2.2.1,(ae a b).2.2.2.1,(ae a b).2.2.2.2.1,(ae a b).2.2.2.2.2.1,c.2.2.2.2.2.2.1,d,e)
def Ci(a:List au)(b:Int)(c:bh):=set a (it b) ((ae a b).1,Ge a b (ae a b) (ay c 6).1 (ae a b).2.2.2.2.2.2.2.2)
def V1(a:List au)(b:Int)(c:bh):=((ae (Ci a b c) b).1,Ge (Ci a b c) b (ae (Ci a b c) b) (ae (Ci a b c) b).2.2.2.2.2.2.2.1 ((ay (ay c 6).2 65536).1,(ae (Ci a b c) b).2.2.2.2.2.2.2.2.2))
def zm(a:List au)(b:Int)(c:bh):=set (Ci a b c) (it b) (V1 a b c)
def Vy(a:List au)(b:Int)(c:au)(d:Int)(e:Int×Int×Int×bg8×Bool×Bool×Int×Int):=((ae a b).1,(ae a b).2.1,(ae a b).2.2.1,(ae a b).2.2.2.1,(ae a b).2.2.2.2.1,c.2.2.2.2.2.1,d,e)
def KB(a:List au)(b:Int)(c:au)(d:Int)(e:Int×Int×Int×Int×bg8×Bool×Bool×Int×Int):=set a (it b) ((ae a b).1,(ae a b).2.1,(ae a b).2.2.1,(ae a b).2.2.2.1,c.2.2.2.2.1,d,e)
def D7(a:bh)(b:List au):=(ay (ay a 60).2 (ac b)).1
def Ah(a:List au)(b:bh):=ae a (D7 b a)
def GE(a:bh)(b:List au):=ay (ay (ay a 60).2 (ac b)).2 (ac (Ah b a).2.2.2.2.1)
def xO(a:List au)(b:List bo)(c:List cH)(d:ad)(e f:Int):=ji (ae (oN ((a,b,c),d,e) f).1 f) f (oN ((a,b,c),d,e) f).2
def Ed(a:List au)(b:List bo)(c:List cH)(d:ad)(e f:Int):=odLink (ae (oL ((a,b,c),d,e) f).1.2 f) (oL ((a,b,c),d,e) f).2
def yp(a:List au)(b:List bo)(c:List cH)(d:ad)(e f:Int):=set (oN ((a,b,c),d,e) f).1 (it f) (xO a b c d e f).1
def yh(a:bh)(b:List au):=ay (GE a b).2 (ac (Ah b a).1)
def GK(a:List au)(b:Int)(c:au)(d:bg8)(e:Bool×Bool×Int×Int)(f:List au):=set a (it b) ((ae a b).1,Ge a b (ae a b) (ae a b).2.2.2.2.2.2.2.1 ((ae a b).2.2.2.2.2.2.2.2.1,c.2.2.2.2.2.2.2.2.2.1,d,e))=f
def FP(a:List au)(b:bh):=ae (Ah a b).2.2.2.2.1 (GE b a).1
def Jy(a:List au)(b:Int)(c:bh):=set a (it b) (Vy a b (ae a b) (bZ5 bZ7 (167837696+(ay (ay c 10).2 40).1)) (ae a b).2.2.2.2.2.2.2)
def I1(a:List au)(b:Int):=set a (it b) ((ae a b).1,bZ5 bZ7 (ao (167903232+b)),(ae a b).2.2)
def GF(a:List au)(b:List bo)(c:List cH)(d:ad)(e f:Int):=set (oL ((a,b,c),d,e) f).1.2 (it f) (Ed a b c d e f).1
def Jj(a:Int)(b:List bo)(c:List cH)(d e:Prop):=a=a/\tJ a/\b=b/\c=c/\d/\e
def Dz(a:List au)(b:List bo)(c:List cH)(d:ad)(e f:Int):=oC ((a,b,c),d,e) (it (oK ((a,b,c),d,e) -f))
def OP(a:Int)(b:bh)(c:List au):=[(ao (a+(ay b 60).1),D7 b c,bZ6,(FP c b).1,bz (ae (Ah c b).1 (yh b c).1).2,(FP c b).2.2)]
def LB(a:bh)(b:ad)(c:Int):=qM (ay a 10) b (ay a 10).2.2 c
def Ee(a:Prop)(b:bh)(c:Int)(d:List bo)(e:List cH)(f:Prop)(g:bh):=∃(h:bh),(a/\h=b)/\Jj c d e f (LB g h.1 h.2)
def JZ(a:bh):=ay (ay (ay a 6).2 65536).2 1000
def LX(a:Int)(b:bh)(c:List au):=[(ao (a+(ay b 60).1),D7 b c,bZ6,(FP c b).1,([]:ad),(FP c b).2.2)]
theorem ad6:
 ∀(a:List au)(b:List bo)(c:List cH)(d:ad)(e:Int),ai (uQ a b c d e)->preO ((a,b,c),d,e)->(∃(f:Int) (g:List au) (h:bh),am f (f<=ac a) ((g,h)=oN ((a,b,c),d,e) f)/\0=f/\b=b/\c=c/\a=g/\d=h.1/\ai (e=h.2))/\ ∀(f:Int)(g:List au)(h:bh),am f (f<=ac a) ((g,h)=oN ((a,b,c),d,e) f)->fh f (ac g) (f<ac g) ((f6 h/\ar (iN (ay h 10).1) (∃(i:List au),Ee (i=yp a b c d e f) (xO a b c d e f).2 f b c (GK g f (ae g f) (ae g f).2.2.2.2.2.2.2.2.2.2.1 (bZ3,(ae g f).2.2.2.2.2.2.2.2.2.2.2.2) i) h) (ar (bZ2 ((ay h 10).1=2)) (f6 (ay h 10).2/\f6 (ay (ay h 10).2 3).2/\ ∃(i:List au) (j:bh),(i=yp a b c d e f/\j=(xO a b c d e f).2)/\Jj f b c (GK g f (ae g f) (wF (ay (ay h 10).2 3),wF (ay (ay (ay h 10).2 3).2 200)) (ae g f).2.2.2.2.2.2.2.2.2.2.2 i) (qM (ay (ay (ay h 10).2 3).2 200) j.1 (ay
 (ay (ay h 10).2 3).2 200).2.2 j.2)) (ar (bZ2 ((ay h 10).1=3)) (∀(i:Bool),i=( !(ae g f).2.2.2.1)->(i->(i->i)/\ai ((2:Int)≠(0:Int)))/\(i->aJ i)/\(i->i)/\ ∃(j:List au),Ee (j=yp a b c d e f) (xO a b c d e f).2 f b c (GK g f (ae g f) (ae g f).2.2.2.2.2.2.2.2.2.2.1 ((ae g f).2.2.2.2.2.2.2.2.2.2.2.1,jm i (cd8 f 2) 1,(ae g f).2.2.2.2.2.2.2.2.2.2.2.2.2) j) h) (ar (bZ2 ((ay h 10).1=4)) (∃(i:List au),Ee (i=yp a b c d e f) (xO a b c d e f).2 f b c (KB g f (ae g f) 2 (ae g f).2.2.2.2.2.2=i) h) (ar (bZ2 ((ay h 10).1=5)) (∃(i:List au),Ee (i=yp a b c d e f) (xO a b c d e f).2 f b c (KB (I1 g f) f (ae (I1 g f) f) 3 (ae (I1 g f) f).2.2.2.2.2.2=i) h) (ar (bZ2 ((ay h 10).1=6)) (f6 (ay h 10).2/\ ∃(i:List au) (j:bh),(i=yp a b c d e f/\j=(xO a b c d e f).2)/\Jj f b c (KB (Jy g f h) f (ae
 (Jy g f h) f) 4 (ae (Jy g f h) f).2.2.2.2.2.2=i) (qM (ay (ay h 10).2 40) j.1 (ay (ay h 10).2 40).2.2 j.2)) (∃(i:List au),Ee (i=yp a b c d e f) (xO a b c d e f).2 f b c (g=i) h)))))))/\ ∀(i:List au)(j:bh),i=yp a b c d e f/\j=(xO a b c d e f).2->f6 j/\f6 (ay j 6).2/\f6 (ay (ay j 6).2 65536).2/\ ∃(k:Int) (l:List au) (m:bh),am k (k<=ac a) ((l,m)=oN ((a,b,c),d,e) k)/\bj (ac a) k f/\bf f k/\b=b/\c=c/\set (zm i f j) (it f) ((ae (zm i f j) f).1,Ge (zm i f j) f (ae (zm i f j) f) (ae (zm i f j) f).2.2.2.2.2.2.2.1 ((ae (zm i f j) f).2.2.2.2.2.2.2.2.1,(JZ j).1,(ae (zm i f j) f).2.2.2.2.2.2.2.2.2.2))=l/\qM (JZ j) m.1 (JZ j).2.2 m.2) (∃(i:Int) (j:List au) (k:List ck) (l:bh),am i (i<=ac b) (((j,k),l)=oL ((a,b,c),d,e) i)/\0=i/\c=c/\g=j/\b=k/\h.1=l.1/\ai (h.2=l.2)) (∀(i:Int)(j:List au)(k:List
 ck)(l:bh),am i (i<=ac b) (((j,k),l)=oL ((a,b,c),d,e) i)->fh i (ac k) (i<ac k) ((f6 l/\ar (iN (ay l 6).1) (f6 (ay l 6).2/\ ∃(m:List ck) (n:bh),(m=GF a b c d e i/\n=(Ed a b c d e i).2)/\i=i/\tJ i/\j=j/\c=c/\set k (it i) ((ae k i).1,(ae k i).2.1,(ae k i).2.2.1,(ay (ay l 6).2 10).1,(ae k i).2.2.2.2)=m/\LB (ay l 6).2 n.1 n.2) (ar (bZ2 ((ay l 6).1=2)) (f6 (ay l 6).2/\am (ay (ay l 6).2 3).1 ((ay (ay l 6).2 3).1<ac ((65536:Int)::(20000:Int)::bz 3)) (∃(m:List ck) (n:bh),(m=GF a b c d e i/\n=(Ed a b c d e i).2)/\i=i/\tJ i/\j=j/\c=c/\set k (it i) ((ae k i).1,(ae k i).2.1,(ae k i).2.2.1,(ae k i).2.2.2.1,ae ((65536:Int)::(20000:Int)::bz 3) (ay (ay l 6).2 3).1,(ae k i).2.2.2.2.2)=m/\qM (ay (ay l 6).2 3) n.1 (ay (ay l 6).2 3).2.2 n.2)) (∃(m:List ck)
 (n:bh),(m=GF a b c d e i/\n=(Ed a b c d e i).2)/\i=i/\tJ i/\j=j/\c=c/\k=m/\qM (ay l 6) n.1 (ay l 6).2.2 n.2)))/\ ∀(m:List ck)(n:bh),m=GF a b c d e i/\n=(Ed a b c d e i).2->am (ae m i).1 ((ae m i).1<ac j) (∀(o:Bool),o=(ae j (ae m i).1).2.2.2.2.2.2.2.2.2.2.2.2.1->wy o o (aJ o) (o->aJ o) (cj o o (iP o o (ae m i).2.1 ((ae m i).2.1<ac j)) (o->aJ o) ((o->aJ o)/\(o->o)/\ar (br o (ae j (ae m i).2.1).2.2.2.2.2.2.2.2.2.2.2.2.1) (am (ae m i).2.1 ((ae m i).2.1<ac j) (∃(p:Int) (q:List au) (r:List ck) (s:bh),am p (p<=ac b) (((q,r),s)=oL ((a,b,c),d,e) p)/\bj (ac b) p i/\bf i p/\c=c/\GK j (ae m i).2.1 (ae j (ae m i).2.1) (ae j (ae m i).2.1).2.2.2.2.2.2.2.2.2.2.1 ((ae j (ae m i).2.1).2.2.2.2.2.2.2.2.2.2.2.1,bZ6,(ae j (ae m i).2.1).2.2.2.2.2.2.2.2.2.2.2.2.2) q/\m=r/\n.1=s.1/\ai (n.2=s.2))) (∃(p:Int)
 (q:List au) (r:List ck) (s:bh),am p (p<=ac b) (((q,r),s)=oL ((a,b,c),d,e) p)/\bj (ac b) p i/\bf i p/\c=c/\j=q/\m=r/\n.1=s.1/\ai (n.2=s.2)))))) (f6 l) ((∃(m n:Int) (o:List cH) (p:bh),am m (m<=oK ((a,b,c),d,e)) ((o,n,p)=Dz a b c d e m)/\bn 0 n (ay l 4).1 m (j=j) (k=k/\c=o/\qM (ay l 4) p.1 (ay l 4).2.2 p.2))/\ ∀(m n:Int)(o:List cH)(p:bh),am m (m<=oK ((a,b,c),d,e)) ((o,n,p)=Dz a b c d e m)->ar (ax 0 m) (f6 p/\f6 (ay p 60).2/\am (D7 p j) (D7 p j<ac j) (ar (aV (ac (Ah j p).2.2.2.2.1)) (∃(q r:Int) (s:List cH) (t:bh),am q (q<=oK ((a,b,c),d,e)) ((s,r,t)=Dz a b c d e q)/\cN q m/\bn (ao (n+(ay p 60).1)) r (ao (m -1)) q (j=j) (k=k/\o=s/\qM (ay (ay p 60).2 (ac j)) t.1 (ay (ay p 60).2 (ac j)).2.2 t.2)) (f6 (ay (ay p 60).2 (ac j)).2/\bJ (GE p j).1 (ac (Ah j
 p).2.2.2.2.1) (f6 (GE p j).2) (bJ (yh p j).1 (ac (Ah j p).1) (f6 (yh p j).2) (ar (bZ2 ((ay (yh p j).2 4).1=3)) (bP ((be o+be (LX n p j))*72)/\ ∃(q r:Int) (s:List cH) (t:bh),am q (q<=oK ((a,b,c),d,e)) ((s,r,t)=Dz a b c d e q)/\cN q m/\bn (ao (n+(ay p 60).1)) r (ao (m -1)) q (j=j) (k=k/\o++LX n p j=s/\qM (ay (yh p j).2 4) t.1 (ay (yh p j).2 4).2.2 t.2)) (bP ((be o+be (OP n p j))*72)/\ ∃(q r:Int) (s:List cH) (t:bh),am q (q<=oK ((a,b,c),d,e)) ((s,r,t)=Dz a b c d e q)/\cN q m/\bn (ao (n+(ay p 60).1)) r (ao (m -1)) q (j=j) (k=k/\o++OP n p j=s/\qM (ay (yh p j).2 4) t.1 (ay (yh p j).2 4).2.2 t.2))))))) (((j,k,o),p)=rZ ((a,b,c),d,e)))):= by
  delta ae ac ao aq aK zm V1 Ci Ge Vy KB aQ aJ jH bG cj GE bj br am bP xO aV Ah D7 uQ fh bz ai Ed yp iP yh tJ GK FP bf Jy cN bJ I1 qM wy GF Jj Dz OP jm ax iN bn LB wF Ee JZ LX
  rintro ns0 ls0 hs0 l p ⟨⟨⟨hnl,hnw⟩,⟨hl,hw⟩,-⟩,-⟩⟨hc,n0,h1,h2,hg,hh,ha,hp⟩
  dsimp only at hc n0 h1 h2 hg hh ha hp
  subst hh
  have hB:aY (l,p):=⟨hc,hw⟩
  generalize eS:(((ns0,ls0,[]),l,p):bU)=Z
  have z1:Z.1.1=ns0:=by rw[← eS]
  have z2:Z.1.2.1=ls0:=by rw[← eS]
  have z3:Z.2=(l,p):=by rw[← eS]
  have zB:aY Z.2:=by rw[z3];exact hB
  have zG:jV (be Z.1.1) Z.1.2.1:=by rw[z1,z2];exact hg
  refine⟨⟨0,ns0,(l,p),⟨ab,ab,by rw[← eS];rfl⟩,aI⟩,?_⟩
  rintro i ns cs ⟨i0,il,hF⟩
  have ⟨A1,hcs⟩:=N1 Z zB (i:=i) (by rw[z1];exact il)
  rw[← hF] at A1 hcs
  dsimp only at A1 hcs
  rw[← hF]
  dsimp only
  have hn:=A1.n
  rw[z1] at hn
  refine aw (λhi=>?_) (λhi=>?_)
  .have hi:=aX hi
   have hi':it i<be ns:=ab
   have k10:=(d7 hcs 10).1
   refine⟨i0,hi,⟨hcs.at',?_⟩,?_⟩
   .simp only[cr3,lH hi']
    refine aw (λc=>?_) (λc1=>?_)
    .have c:=aX c
     refine⟨_,_,⟨?_,?_⟩,aI⟩
     .rw[ji,aj c];rfl
     .rw[ji,aj c]
    have c1:=bg c1
    refine aw (λc=>?_) (λc2=>?_)
    .have c:=aX c
     have k3:=fZ k10 (n:=3) ab
     have k11:=(d7 k10 3).1
     have k4:=fZ k11 (n:=200) ab
     refine⟨k10.at',k11.at',_,_,⟨?_,?_⟩,aI⟩
     .rw[ji,ah c1,aj c,aG (n:=1+_) ab ab,aG (n:=1+_) ab ab];rfl
     .rw[ji,ah c1,aj c]
    have c2:=bg c2
    refine aw (λc=>?_) (λc3=>?_)
    .have c:=aX c
     intro b hb
     refine⟨az,az,az,_,_,⟨?_,?_⟩,aI⟩
     .have eb:(bif b then bZ2 (i%2=1) else bZ6)=(!qf (Om ns (it i) Sk)&&bZ2 (i%2=1)):=by
       rw[show b = !qf (Om ns (it i) Sk) from hb]
       cases qf (Om ns (it i) Sk) <;> rfl
      rw[ji,ah c1,ah c2,aj c,Ce i0,eb];rfl
     .rw[ji,ah c1,ah c2,aj c]
    have c3:=bg c3
    refine aw (λc=>?_) (λc4=>?_)
    .have c:=aX c
     refine⟨_,_,⟨?_,?_⟩,aI⟩
     .rw[ji,ah c1,ah c2,ah c3,aj c];rfl
     .rw[ji,ah c1,ah c2,ah c3,aj c]
    have c4:=bg c4
    refine aw (λc=>?_) (λc5=>?_)
    .have c:=aX c
     refine⟨_,_,⟨?_,?_⟩,aI⟩
     .rw[ji,ah c1,ah c2,ah c3,ah c4,aj c,aG (n:=167903232+i) ab ab,ug (n:=167903232+i) ab ab];rfl
     .rw[ji,ah c1,ah c2,ah c3,ah c4,aj c]
    have c5:=bg c5
    refine aw (λc=>?_) (λc6=>?_)
    .have c:=aX c
     have k4:=fZ k10 (n:=40) ab
     refine⟨k10.at',_,_,⟨?_,?_⟩,aI⟩
     .rw[ji,ah c1,ah c2,ah c3,ah c4,ah c5,aj c,ug (n:=167837696+_) ab ab];rfl
     .rw[ji,ah c1,ah c2,ah c3,ah c4,ah c5,aj c]
    have c6:=bg c6
    refine⟨ns,_,⟨?_,?_⟩,aI⟩
    .rw[ji,ah c1,ah c2,ah c3,ah c4,ah c5,ah c6]
     exact (zX i0 hi).symm
    .rw[ji,ah c1,ah c2,ah c3,ah c4,ah c5,ah c6]
   .rintro nsx csx ⟨hx1,hx2⟩
    have kc:=Qd (x:=Om ns (it i) Sk) (i:=i) hcs
    rw[← hx2] at kc
    have ka:=(d7 kc 6).1
    have kb:=(d7 ka 65536).1
    have hxl:it i<be nsx:=by rw[hx1,gd];exact hi'
    simp only[cr3,lH hxl]
    refine⟨kc.at',ka.at',kb.at',i+1,_,_,⟨ab,ab,?_⟩,ab,aI⟩
    rw[VM Z i0,← hF]
    unfold BO BQ
    dsimp only
    rw[show ((it i:Nat):Int)=i by omega,← hx2,hx1,lH hi',cr3]
    rfl
  have hi:=bg hi
  have e:i=be Z.1.1:=by rw[z1];omega
  subst e
  refine⟨⟨0,ns,ls0,cs,⟨ab,ab,?_⟩,aI⟩,?_⟩
  .unfold oL
   rw[← hF,z2];rfl
  clear hF A1 hcs hn hi i0 il
  rintro i ns ls cs ⟨i0,il,hF⟩
  have ⟨A1,hcs,lg,ll⟩:=BV Z zB zG (i:=i) (by rw[z2];exact il)
  rw[← hF] at A1 hcs lg ll
  dsimp only at A1 hcs lg ll
  rw[← hF]
  dsimp only
  have hn:=A1.n
  rw[z1] at hn lg
  rw[z2] at ll
  refine aw (λhi=>?_) (λhi=>?_)
  .have hi:=aX hi
   have hi':it i<be ls:=ab
   have k6:=(d7 hcs 6).1
   refine⟨i0,hi,⟨hcs.at',?_⟩,?_⟩
   .refine aw (λc=>?_) (λc1=>?_)
    .have c:=aX c
     refine⟨k6.at',_,_,⟨?_,?_⟩,aI⟩
     .rw[odLink,aj c]
     .rw[odLink,aj c]
    have c1:=bg c1
    refine aw (λc=>?_) (λc2=>?_)
    .have c:=aX c
     have k3:=fZ k6 (n:=3) ab
     refine⟨k6.at',k3.1,k3.2,_,_,⟨?_,?_⟩,aI⟩
     .rw[odLink,ah c1,aj c]
     .rw[odLink,ah c1,aj c]
    have c2:=bg c2
    refine⟨ls,_,⟨?_,?_⟩,aI⟩
    .rw[odLink,ah c1,ah c2]
     exact (zX i0 hi).symm
    .rw[odLink,ah c1,ah c2]
   .rintro lsx csx ⟨hx1,hx2⟩
    have lgx:=lg.odLink hi' cs
    rw[← hx1] at lgx
    have lxl:it i<be lsx:=by rw[hx1,gd];exact hi'
    have g:=lgx.at' lxl
    have e1:(odLink (Om ls (it i) Sk) cs).1=Om lsx (it i) default:=by rw[hx1,lH hi']
    have nx:((vF ns (Om lsx (it i) Sk),lsx),csx)=oL Z (i+1):=by
     rw[RH Z i0,← hF]
     unfold xz
     dsimp only
     rw[← hx1,← hx2,e1]
    unfold vF at nx
    refine⟨g.1.1,by rw[hn];exact g.1.2,?_⟩
    intro b hb
    refine⟨az,az,az,az,az,az,az,λh=>⟨λ_=>h,λ_=>h,g.2.1,by rw[hn];exact g.2.2,aP⟩,az,az,λh=>h,?_⟩
    refine AM (λha1 ha2=>?_) (λhna=>?_)
    .refine⟨g.2.1,by rw[hn];exact g.2.2,i+1,_,_,_,⟨ab,ab,?_⟩,ab,aI⟩
     rw[← nx,aj ⟨hb.symm.trans ha1,ha2⟩];rfl
    .refine⟨i+1,_,_,_,⟨ab,ab,?_⟩,ab,aI⟩
     rw[← nx,ah]
     rintro⟨x1,x2⟩
     obtain h|h:=hna
     .rw[hb] at h
      rw[show gB (Om ns (it (lA (Om lsx (it i) Sk))) Sk)=(Om ns (Om lsx (it i) Sk).1.toNat Sk).2.2.2.2.2.2.2.2.2.2.2.2.1 from rfl,h] at x1
      cases x1
     .rw[show gB (Om ns (it (lB (Om lsx (it i) Sk))) Sk)=(Om ns (Om lsx (it i) Sk).2.1.toNat Sk).2.2.2.2.2.2.2.2.2.2.2.2.1 from rfl,h] at x2
      cases x2
  have hi:=bg hi
  have e:i=be Z.1.2.1:=by rw[z2];omega
  subst e
  have k4:=fZ hcs (n:=4) ab
  have eK:oK Z=(ay cs 4).1:=by unfold oK;rw[← hF]
  refine⟨hcs.at',⟨_,0,[],(ay cs 4).2,⟨k4.1,by rw[eK];exact io _,?_⟩,aI⟩,?_⟩
  .rw[eK,Int.sub_self]
   unfold oC
   rw[← hF];rfl
  clear i0 il hi
  rintro k a hs cs2 ⟨k0,kl,hC⟩
  have cok:=O7 Z zB zG (it (oK Z-k))
  rw[← hC] at cok
  dsimp only at cok
  have ⟨ok2,a0,al,hsl⟩:=cok
  rw[eK] at kl al hsl
  refine aw (λhk=>?_) (λhk=>?_)
  rotate_left
  .have hk:=bg hk
   have e:k=0:=ab
   subst e
   rw[cC2] at hC
   have:rZ Z=(((oL Z (be Z.1.2.1)).1.1,(oL Z (be Z.1.2.1)).1.2,(oC Z (it (oK Z))).1),(oC Z (it (oK Z))).2.2):=by
    unfold rZ oC oK oL oN
    rfl
   rw[this,← hC,← hF]
  have hk:=aX hk
  have q1:=fZ ok2 (n:=60) ab
  have b1:=(d7 ok2 60).1
  have q2:=fZ b1 (n:=(be ns:Int)) ab
  have b2:=(d7 b1 (be ns:Int)).1
  have en:oC Z (it (oK Z-(k-1)))=tV ns (hs,a,cs2):=by
   rw[show it (oK Z-(k-1))=it (oK Z-k)+1 by omega,Ms,← hC,← hF]
  unfold tV at en
  dsimp only at en
  generalize eW:(ay (ay cs2 60).2 (be ns:Int))=W at q2 b2 en ⊢
  generalize eX:Om ns (it W.1) Sk=X at en ⊢
  have hX:aS X=aS (Om ns0 (it W.1) Sk)/\bW X=bW (Om ns0 (it W.1) Sk):=by
   have:=A1.e (it W.1) (by rw[z1];omega)
   rw[z1,eX] at this;exact this
  have hM:Om ns0 (it W.1) Sk∈ns0:=dm q2.1 ab
  rw[aG (n:=a+_) ab ab,aG (n:=k-1) ab ab]
  refine⟨ok2.at',b1.at',q2.1,q2.2,?_⟩
  refine aw (λhr=>?_) (λhr=>?_)
  .have hr:(be (bW X):Int)=0:=aX hr
   refine⟨k-1,_,_,_,⟨ab,ab,?_⟩,ab,aI⟩
   rw[en,aj ab]
  have hr:=bg hr
  have hr':¬ be (bW X)=0:=λe=>hr (by rw[show X.2.2.2.2.1=bW X from rfl,e];rfl)
  have hpp:=hp _ hM (by rw[← hX.2];exact λe=>hr' (by rw[e];rfl))
  rw[← hX.1,← hX.2] at hpp
  have q3:=fZ b2 (n:=(be (bW X):Int)) ab
  have b3:=(d7 b2 (be (bW X):Int)).1
  have q4:=fZ b3 (n:=(be (aS X):Int)) ab
  have b4:=(d7 b3 (be (aS X):Int)).1
  rw[ah hr'] at en
  refine⟨b2.at',q3.1,q3.2,b3.at',q4.1,q4.2,b4.at',?_⟩
  refine ci (λhz=>?_) (λhz=>?_)
  .have hz:(ay (ay (ay W.2 (be (bW X):Int)).2 (be (aS X):Int)).2 4).1=3:=hz
   refine⟨by simp only[cX,cb8];omega,k-1,_,_,_,⟨ab,ab,?_⟩,ab,aI⟩
   rw[en,aj hz];rfl
  .have hz:¬ (ay (ay (ay W.2 (be (bW X):Int)).2 (be (aS X):Int)).2 4).1=3:=hz
   refine⟨by simp only[cX,cb8];omega,k-1,_,_,_,⟨ab,ab,?_⟩,ab,aI⟩
   rw[en,ah hz];rfl
theorem bI0:aC 21 YO.spec:=aF Tryz.func21 (ap (ap aD DZ) bk5) a47 ad6
theorem GI.small{s:bU}{a b:Nat}(h:GI s a b)(hn:a<=100)(hl:b<=100):uf s :=
 ⟨h.c.at',by rw[h.n];omega,by rw[h.l];omega,by rw[h.h];decide,λx hx=>by have:=h.plen x hx;omega⟩
theorem GI.inN{s:bU}{nn nl:Nat}(h:GI s nn nl){a:Int}(h0:0<=a)(h1:a<nn):inN s.1.1 a:=⟨h0,by rw[h.n];exact h1⟩
theorem GI.preR{s:bU}{b a:Nat}(h:GI s b a)(hn:b<=100)(hl:a<=100):preR s:=by
 refine⟨h.c.at',by rw[h.n];omega,by rw[h.l];omega,h.ends,h.routes,?_⟩
 have:=Ly h.plen
 rw[h.n] at this
 have:=cA4 hn (show 2*a<=200 by omega)
 omega
structure RS (s:bU) (nn nl:Nat) (r:bU):Prop where
 g:GI s nn nl
 i:RI s.1.2.1 (kg s.1.1) s.1.1 r.1.1
 c:aY r.2
 l:r.1.2=s.1.2
theorem GI.rs{s:bU}{a b:Nat}(h:GI s a b)(plain:Bool):RS s a b (E5 s plain):=by
 have:=RI.stepTs (s:=(s.1.1,s.2)) ⟨RI.start h.routes,h.c⟩ h.ends (plain:=plain) (dq _)
 exact⟨h,this.1,this.2,rfl⟩
theorem RS.ports{s r:bU}{a nl:Nat}(h:RS s a nl r){i:Nat}(b:i<a):aS (Om r.1.1 i Sk)=portsF i 0 s.1.2.1 :=
 (h.i.ports (by rw[h.g.n];exact b)).trans (h.g.p i b)
theorem RS.mem{s r:bU}{a nl:Nat}(h:RS s a nl r){x:au}(hx:x∈r.1.1):∃ i,i<a/\Om r.1.1 i Sk=x:=by
 have ⟨i,hi,e⟩:=cb5.1 hx
 exact⟨i,by have:=h.i.n;have:=h.g.n;omega,by rw[cq,cG hi,e];rfl⟩
theorem RS.tab{s r:bU}{a nl:Nat}(h:RS s a nl r){i:Nat}(hi:i<a):qq s.1.2.1 (kg s.1.1) i (bW (Om r.1.1 i Sk)):=h.i.t i (by rw[h.g.n];exact hi)
theorem RS.preO{s r:bU}{d a:Nat}(h:RS s d a r)(hn:d<=100)(hl:a<=100)(h0:0<d):preO r:=by
 have m:∀ x∈r.1.1,be x.1<=2*a:=λx f=>by
  obtain⟨i,j,rfl⟩:=h.mem f;have:=Fc i 0 s.1.2.1;rw[← h.ports j,h.g.l] at this;exact this
 have o:=h.i.n.trans h.g.n
 have al:=Ly h.g.plen
 rw[h.g.n] at al
 have al2:=cA4 hn (show 2*a<=200 by omega)
 refine⟨h.c.at',ab,ab,?_,?_,?_,?_,λx f hr=>?_⟩
 .rw[h.l,h.g.l];omega
 .have:=h.g.ends;rw[h.l,o,← h.g.n];exact this
 .rw[h.l];exact h.g.h
 .have:=Ly m;rw[o] at this;omega
 .have hp:=m x f;obtain⟨i,j,rfl⟩:=h.mem f;have t:=h.tab j;have tl:=L4 t;refine⟨?_,by have:be (aS (Om r.1.1 i Sk))<=2*a:=hp;omega,ab⟩;have ⟨y,ys,e⟩:=cp3 hr;have ty:=t.2 y (by rw[e];exact eV);have ⟨k,ks,ek⟩:=cp3 ty.ne;have ⟨k0,k1,b⟩:=ty.ln k (by rw[ek];exact eV);rw[h.ports j];obtain b|b:=b
  .exact ch8 (ER.2 ⟨it k,ab,.inl ⟨b,rfl⟩⟩)
  .exact ch8 (ER.2 ⟨it k,ab,.inr ⟨b,rfl⟩⟩)
def Dv(plain:Bool)(c:bh):bU:=DF plain (qG c).1 (qG c).2
def kN(c:bh):Int:=(ay (qG c).2.2 4).1
def td(plain:Bool)(c:bh)(k:Int):bU:=uK plain (cM c) (qG c).2 (it (kN c-k))
theorem bV1(l m:List au):(ct7.go (motive:=λx=>List au->List au) l ct8._f).1 m=l++m:=by kernel_rfl
theorem ba5{plain:Bool}{c:bh}{k:Int}(k0:0<k)(k1:k<=kN c)(a:1<cM c)(b:plain=bZ6):td plain c (k-1)=xE (cM c) (td plain c k):=by
 unfold td uK
 rw[aj ⟨a,b⟩,aj ⟨a,b⟩,show it (kN c-(k-1))=it (kN c-k)+1 by omega,mZ,lT];rfl
theorem bK9{plain:Bool}{c:bh}{k:Int}(h:k=0∨¬ (1<cM c/\plain=bZ6)):td plain c k=uK plain (cM c) (qG c).2 (ay (qG c).2.2 4).1.toNat:=by
 obtain h|h:=h
 .subst h;unfold td kN;rw[cC2]
 .unfold td uK;rw[ah h,ah h]
theorem bK3{c:bh}(h:aY c)(plain:Bool)(k:Int)(k0:0<=k):∃ m,m<=9/\GI (td plain c k) (it (cM c)+2) m:=by
 have hn:=Av h
 have a:=HI h
 have h4:=fZ a.c (n:=4) ab
 obtain⟨m,m0,m1,hm⟩:=Xy a hn.1 ab (it (kN c-k))
 unfold kN at m1
 exact⟨m,ab,hm⟩
def US:Ct:=⟨[.box 83 jw,.val .bool],[.agg l7],λd=>[f6 d.1],λd=>((tI d.2.1 d.1,()),(Bh d.2.1 d.1,()))⟩
def aD2:bw US.ps->bL:=(λd=>{loops:=(bu 6 (λS=>{ι:=Int×bU,qn:=fH,μ:=λi=>it (cM d.1-i.1),inv:=λi=>0<=i.1/\i.1<=cM d.1/\i.2=(range (it i.1)).foldl vG (An d.1),keep:=[0,1,4,5],slots:=λi=>[(7,.int .i64 (cM d.1)),(9,.int .i64 i.1),(8,.int .i64 i.1)],keepN:=[80],names:=λi=>[(288,.live (.cells 86 [.own 524288 16,.own 524289 6,.own 524290 7,.ptr 1048576 0])),(524288,.live (.row 130 eh i.2.1.1)),(524289,.live (.row 141 rG i.2.1.2.1)),(524290,.live (.row 155 nD i.2.1.2.2)),(1048576,.live (.cells 83 (cF jw i.2.2)))]}) (bu 14 (λS=>{ι:=Int×bU,qn:=fH,μ:=λi=>it i.1,inv:=λi=>0<=i.1/\i.1<=kN d.1/\i.2=td d.2.1 d.1 i.1,keep:=[0,1,4,5],slots:=λi=>[(7,.int .i64 (cM d.1)),(12,.int .i64 i.1)],keepN:=[80],names:=λi=>[(288,.live (.cells 86 [.own 524288 16,.own 524289 6,.own 524290 7,.ptr 1048576 0])),(524288,.live (.row 130 eh i.2.1.1)),(524289,.live (.row 141 rG i.2.1.2.1)),(524290,.live (.row 155 nD i.2.1.2.2)),(1048576,.live (.cells 83 (cF jw i.2.2)))]}) cC)),cuts:=(bu 21 (λS=>{ι:=bU,inv:=λi=>i=Dv d.2.1 d.1,keep:=[0,1,4,5],slots:=λi=>[],keepN:=[80],names:=λi=>[(288,.live (.cells 86 [.own 524288 16,.own 524289 6,.own 524290 7,.ptr 1048576 0])),(524288,.live (.row 130 eh i.1.1)),(524289,.live (.row 141 rG i.1.2.1)),(524290,.live (.row 155 nD i.1.2.2)),(1048576,.live (.cells 83 (cF jw i.2)))]}) cC)})
def yy(c:Bool)(j:bU) :=
 cb9 (stepT j.1.2.1 c) (j.1.1,j.2) (range (be j.1.1))
def CM(c:Bool)(j:bU) :=
 cb9 xz (((cb9 BO (yy c j) (range (be (yy c j).1))).1,j.1.2.1),(cb9 BO (yy c j) (range (be (yy c j).1))).2) (range (be j.1.2.1))
def FO(e:bU) :=
 Om [(64:Int),(255:Int),(128:Int)] (it (ay e.2 3).1) Sk
def xe(e:bU) :=
 ay (ay e.2 3).2 (256:Int)
def uP(a:ad)(b:Int)(g:bU) :=
 ay (ay g.2 (cM (a,b))).2 (cM (a,b))
def yn(e:bU) :=
 ay (ay (xe e).2 (20:Int)).2 (256:Int)
def yB(a:ad)(b:Int)(g:bU) :=
 ay (ay g.2 2).2 (ao (cM (a,b) -1))
def NR(c:Bool)(j:bU) :=
 cb9 (λ(k:List cH×Int×bh) (l:Nat)=>tV (CM c j).1.1 k) (([]:List cH),(0:Int),(ay (CM c j).2 (4:Int)).2) (range (it (ay (CM c j).2 (4:Int)).1))
def yQ(a:ad)(b:Int)(g:bU) :=
 ay g.2 (ao (cM (a,b) -1))
def CP(a:ad)(b:Int) :=
 ay (ay (a,b) (3:Int)).2 (256:Int)
def K9(e:bU) :=
 e.1.1++[wU (ac e.1.1) bZ6 (FO e) (xe e).1]
def Ky(e:bU) :=
 e.1.1++[wU (ac e.1.1) bZ3 (FO e) (xe e).1]
theorem bk6 :
 ∀(a:ad)(b:Int)(c:Bool),((be a<=cb2/\ ∀(d:Int),d∈a->0<=d/\d<=255)/\KO b)/\True/\True->0<=b/\b<=(ac a)->uf ((([]:List au),([]:List ck),([]:List cH)),a,b)/\f6 (CP a b).2/\(∃(d:Int) (e:bU),(0<=d/\d<=cM (a,b)/\e=cb9 vG (An (a,b)) (range (it d)))/\c=c/\ao ((1:Int)+(ay (CP a b).2 (5:Int)).1)=cM (a,b)/\(↑(0:Nat):Int)=d/\0=d/\[wU (↑(0:Nat):Int) bZ3 (Om [(64:Int),(255:Int),(128:Int)] (it (ay (a,b) (3:Int)).1) Sk) (CP a b).1]=e.1.1/\([]:List ck)=e.1.2.1/\([]:List cH)=e.1.2.2/\(ay (CP a b).2 (5:Int)).2.1=e.2.1/\(ay (CP a b).2 (5:Int)).2.2=e.2.2/\True)/\ ∀(d:Int)(e:bU),0<=d/\d<=cM (a,b)/\e=cb9 vG (An (a,b)) (range (it d))->ar (bZ2 (d<cM (a,b))) (uf e/\uf (((ct7.go (motive:=λ(f:List au)=>List au->List au) e.1.1 ct8._f).1
 [wU (ac e.1.1) bZ6 (FO e) (xe e).1],e.1.2),(xe e).2)/\inN (K9 e) d/\inN (K9 e) (ac e.1.1)/\ ∃(f:Int) (g:bU),(0<=f/\f<=cM (a,b)/\g=cb9 vG (An (a,b)) (range (it f)))/\it (cM (a,b) -f)<it (cM (a,b) -d)/\c=c/\cM (a,b)=cM (a,b)/\(ac e.1.1)=f/\ao (d+1)=f/\mz (mz (K9 e) d (ib (ac e.1.2.1)+1,(ac e.1.2.1))) (ac e.1.1) (ib (ac e.1.2.1)+2,(ac e.1.2.1))=g.1.1/\e.1.2.1++[(d,(ac e.1.1),(1:Int)+(ay (xe e).2 (20:Int)).1,(0:Int),(0:Int),(yn e).1)]=g.1.2.1/\e.1.2.2=g.1.2.2/\(yn e).2.1=g.2.1/\(yn e).2.2=g.2.2/\True) (uf e/\uf (((ct7.go (motive:=λ(f:List au)=>List au->List au) e.1.1 ct8._f).1 [wU (ac e.1.1) bZ3 (FO e) (xe e).1],e.1.2),(xe e).2)/\inN (Ky e) d/\inN (Ky e) (ac e.1.1)/\f6 (yn e).2/\(∃(f:Int) (g:bU),(0<=f/\f<=kN (a,b)/\g=td c
 (a,b) f)/\c=c/\cM (a,b)=cM (a,b)/\(ay (yn e).2 (4:Int)).1=f/\mz (mz (Ky e) d (ib (ac e.1.2.1)+1,(ac e.1.2.1))) (ac e.1.1) (ib (ac e.1.2.1)+2,(ac e.1.2.1))=g.1.1/\e.1.2.1++[(d,(ac e.1.1),(1:Int)+(ay (xe e).2 (20:Int)).1,(0:Int),(0:Int),(yn e).1)]=g.1.2.1/\e.1.2.2=g.1.2.2/\(ay (yn e).2 (4:Int)).2.1=g.2.1/\(ay (yn e).2 (4:Int)).2.2=g.2.2/\True)/\ ∀(f:Int)(g:bU),0<=f/\f<=kN (a,b)/\g=td c (a,b) f-> ∀(h:Bool),h=bZ2 (0<f)->(tf h)/\(rf h)/\ ∀(i:Bool),(i=bif h then bZ2 (1<cM (a,b)) else bZ6)->(tf i)/\(rf i)/\ar (bif i then ! c else bZ6) (f6 g.2/\f6 (ay g.2 (cM (a,b))).2/\ar (! bZ2 (ao ((1:Int)+(ay g.2 (cM (a,b))).1)=ao ((1:Int)+(uP a b g).1))) (uf (g.1,(uP a b g).2)/\inN g.1.1 (ao ((1:Int)+(ay g.2 (cM (a,b))).1))/\inN g.1.1 (ao ((1:Int)+(uP a b g).1))/\ ∃(j:Int)
 (k:bU),(0<=j/\j<=kN (a,b)/\k=td c (a,b) j)/\it j<it f/\c=c/\cM (a,b)=cM (a,b)/\ao (f -1)=j/\mz (mz g.1.1 (ao ((1:Int)+(ay g.2 (cM (a,b))).1)) (ib (ac g.1.2.1)+1,(ac g.1.2.1))) (ao ((1:Int)+(uP a b g).1)) (ib (ac g.1.2.1)+2,(ac g.1.2.1))=k.1.1/\g.1.2.1++[(ao ((1:Int)+(ay g.2 (cM (a,b))).1),ao ((1:Int)+(uP a b g).1),(1:Int)+(ay (uP a b g).2 (20:Int)).1,(0:Int),(0:Int),(ay (ay (uP a b g).2 (20:Int)).2 (256:Int)).1)]=k.1.2.1/\g.1.2.2=k.1.2.2/\(ay (ay (uP a b g).2 (20:Int)).2 (256:Int)).2.1=k.2.1/\(ay (ay (uP a b g).2 (20:Int)).2 (256:Int)).2.2=k.2.2/\True) (∃(j:Int) (k:bU),(0<=j/\j<=kN (a,b)/\k=td c (a,b) j)/\it j<it f/\c=c/\cM (a,b)=cM (a,b)/\ao (f -1)=j/\g.1.1=k.1.1/\g.1.2.1=k.1.2.1/\g.1.2.2=k.1.2.2/\(uP a b g).2.1=k.2.1/\(uP a b g).2.2=k.2.2/\True)) ((∀(j:Bool),j=c->(tf j)/\(rf
 j)/\ ∀(k:Bool),(k=bif j then bZ2 (2<cM (a,b)) else bZ6)->ar k ((rf k)/\f6 g.2/\(rf k)/\ar (bif k then bZ2 ((ay g.2 2).1=1) else bZ6) (f6 (ay g.2 2).2/\uf (g.1,(yB a b g).2)/\inN g.1.1 (ao ((1:Int)+(yB a b g).1))/\inN g.1.1 (cM (a,b))/\ ∃(l:bU),l=Dv c (a,b)/\c=c/\mz (mz g.1.1 (ao ((1:Int)+(yB a b g).1)) (ib (ac g.1.2.1)+1,(ac g.1.2.1))) (cM (a,b)) (ib (ac g.1.2.1)+2,(ac g.1.2.1))=l.1.1/\g.1.2.1++[(ao ((1:Int)+(yB a b g).1),cM (a,b),(1:Int)+(ay (yB a b g).2 (20:Int)).1,(0:Int),(0:Int),(ay (ay (yB a b g).2 (20:Int)).2 (256:Int)).1)]=l.1.2.1/\g.1.2.2=l.1.2.2/\(ay (ay (yB a b g).2 (20:Int)).2 (256:Int)).2.1=l.2.1/\(ay (ay (yB a b g).2 (20:Int)).2 (256:Int)).2.2=l.2.2/\True) (∃(l:bU),l=Dv c (a,b)/\c=c/\g.1.1=l.1.1/\g.1.2.1=l.1.2.1/\g.1.2.2=l.1.2.2/\(ay g.2 2).2.1=l.2.1/\(ay g.2
 2).2.2=l.2.2/\True)) (k=bZ6/\(k->bZ6=bZ3)/\ar (bif k then bZ6 else bZ6) (f6 g.2/\uf (g.1,(yQ a b g).2)/\inN g.1.1 (ao ((1:Int)+(yQ a b g).1))/\inN g.1.1 (cM (a,b))/\ ∃(l:bU),l=Dv c (a,b)/\c=c/\mz (mz g.1.1 (ao ((1:Int)+(yQ a b g).1)) (ib (ac g.1.2.1)+1,(ac g.1.2.1))) (cM (a,b)) (ib (ac g.1.2.1)+2,(ac g.1.2.1))=l.1.1/\g.1.2.1++[(ao ((1:Int)+(yQ a b g).1),cM (a,b),(1:Int)+(ay (yQ a b g).2 (20:Int)).1,(0:Int),(0:Int),(ay (ay (yQ a b g).2 (20:Int)).2 (256:Int)).1)]=l.1.2.1/\g.1.2.2=l.1.2.2/\(ay (ay (yQ a b g).2 (20:Int)).2 (256:Int)).2.1=l.2.1/\(ay (ay (yQ a b g).2 (20:Int)).2 (256:Int)).2.2=l.2.2/\True) (∃(l:bU),l=Dv c (a,b)/\c=c/\g.1.1=l.1.1/\g.1.2.1=l.1.2.1/\g.1.2.2=l.1.2.2/\g.2.1=l.2.1/\g.2.2=l.2.2/\True)))/\ ∀(j:bU),j=Dv c (a,b)->preR j/\ar (! c) (preO (((yy c j).1,j.1.2),(yy c
 j).2)/\((CM c j).1.1,(CM c j).1.2,(NR c j).1)=tI c (a,b)/\(NR c j).2.2=Bh c (a,b)) (((yy c j).1,j.1.2)=tI c (a,b)/\(yy c j).2=Bh c (a,b)))):=by
  delta CM FO xe yy uP yn yB NR yQ CP K9 Ky tf rf ao ac;rintro l p plain ⟨⟨⟨hl,hw⟩,-⟩,-⟩ hc;have hB:aY (l,p):=⟨hc,hw⟩
  generalize ((l,p):bh)=c at hB hc ⊢;have hN:=Av hB;have g0:=GI.start hB;have g1:=g0.node bZ3;have hw5:bZ4.wrap (1+(ay (ay (ay c 3).2 256).2 5).1)=cM c:=aG (n:=cM c) ab ab;rw[hw5];refine⟨g0.small ab ab,g1.c.at',⟨0,An c,⟨ab,ab,rfl⟩,aI⟩,?_⟩;rintro i s ⟨i0,il,hs⟩;have hg:GI s (it i+1) (it i):=by rw[hs];exact (TE hB).chain _
  have e1:(be s.1.1:Int)=i+1:=by rw[hg.n];omega
  simp only[bV1];refine aw (λhi=>?_) (λhi=>?_)
  .have hi:=aX hi;have hg2:=hg.node bZ6;refine⟨hg.small ab ab,hg2.small ab ab,hg2.inN i0 ab,hg2.inN ab ab,i+1,kM (mS s bZ6) i (be s.1.1),⟨ab,ab,?_⟩,ab,?_⟩
   .rw[show it (i+1)=it i+1 by omega,mZ,lT,← hs,ce5,ci8,vG,show ((it i:Nat):Int)=i by omega,e1]
   .repeat' first|exact trivial|refine⟨aP,?_⟩|refine⟨(by with_reducible rfl),?_⟩|refine⟨e1,?_⟩|refine⟨aG ab ab,?_⟩|refine⟨rfl,?_⟩
  have hi:=bg hi;have hi:i=cM c:=ab;subst hi;have hg2:=hg.node bZ3;have eL:kM (mS s bZ3) (cM c) (be s.1.1)=(qG c).2:=by rw[QZ,← hs,e1]
  have gL:=HI hB;rw[← eL] at gL;have h4:=fZ gL.c (n:=4) ab;have eK:(ay (kM (mS s bZ3) (cM c) (be s.1.1)).2 4).1=kN c:=by rw[eL];rfl
  refine⟨hg.small ab ab,hg2.small ab ab,hg2.inN i0 ab,hg2.inN ab ab,gL.c.at',⟨(ay (kM (mS s bZ3) (cM c) (be s.1.1)).2 4).1,((kM (mS s bZ3) (cM c) (be s.1.1)).1,(ay (kM (mS s bZ3) (cM c) (be s.1.1)).2 4).2),⟨h4.1,ab,?_⟩,aI⟩,?_⟩
  .rw[eK];unfold td uK;simp_all
  clear hs hg e1 hg2 eL gL h4 eK il i0;clear s;rintro k s ⟨k0,k1,hs⟩;have ⟨m,hm,hg⟩:=bK3 hB plain k k0;rw[← hs] at hg;have hkN:kN c<=4:=by
   have:=fZ (HI hB).c (n:=4) ab;unfold kN;omega
  have ka:=fZ hg.c (n:=cM c) ab;have ca:=(d7 hg.c (cM c)).1;have kb:=fZ ca (n:=cM c) ab;have cb:=(d7 ca (cM c)).1;intro b hb;refine⟨az,az,?_⟩;intro b1 hb1;refine⟨az,az,?_⟩;refine AM (λx1 x2=>?_) (λhno=>?_)
  .have hk:0<k/\1<cM c:=by
    simp_all
   have hpl:plain=false:=by simpa using x2
   have nx:=ba5 (plain:=plain) hk.1 k1 hk.2 hpl;rw[← hs] at nx;unfold xE at nx;dsimp only at nx;rw[aG (n:=1+(ay s.2 (cM c)).1) ab ab,aG (n:=1+(ay (ay s.2 (cM c)).2 (cM c)).1) ab ab,aG (n:=k-1) ab ab];refine⟨hg.c.at',ca.at',?_⟩;have hgc:=hg.codes cb;refine aw (λhne=>?_) (λhne=>?_)
   .have hne:=jC hne;rw[ah ab] at nx;exact⟨hgc.small ab ab,hgc.inN ab ab,hgc.inN ab ab,k-1,_,⟨ab,ab,nx.symm⟩,ab,aI⟩
   .grind
  have he:k=0∨¬ (1<cM c/\plain=bZ6):=by
   grind
  rw[bK9 he] at hs;clear hno hb1 hb b1 b k0 k1 he;have hF:=OF plain (cM c) (qG c).2;dsimp only at hF;rw[← hs] at hF;have c2:=(d7 hg.c 2).1;refine⟨?_,?_⟩
  .intro b hb
   (repeat refine⟨az,?_⟩);intro b2 hb2;refine aw (λh=>?_) (λh=>?_)
   .have hk:plain=bZ3/\2<cM c:=by
     simp_all
    simp only[h,cond_true];rw[aj hk] at hF;refine⟨λh=>h,hg.c.at',λh=>h,ci (λh2=>?_) (λh2=>?_)⟩
    .rw[aj h2] at hF;have kd:=fZ c2 (n:=cM c-1) ab;have cd:=(d7 c2 (cM c-1)).1;have hgc:=hg.codes cd;rw[aG (n:=cM c-1) ab ab,aG (n:=1+(ay (ay s.2 2).2 (cM c-1)).1) ab ab];exact⟨c2.at',hgc.small ab ab,hgc.inN ab ab,hgc.inN ab ab,_,hF.symm,aI⟩
    .rw[ah h2] at hF;exact⟨_,hF.symm,aI⟩
   .have hk:¬ (plain=bZ3/\2<cM c):=by
     simp_all
    simp only[h,sy];rw[ah hk] at hF;refine⟨aP,λh=>h,?_⟩;rw[iu];exact⟨s,hF.symm,aI⟩
  rintro t ht;obtain⟨m',-,m1,hG⟩:=If hB plain;have hG:GI t (it (cM c)+2) m':=by rw[ht];exact hG
  refine⟨hG.preR ab ab,?_⟩;have hR:=hG.rs plain;have hO:=hR.preO ab ab ab;subst ht;obtain _|_:=plain
  .rw[show (!bZ6)=bZ3 from rfl,Mj];exact⟨hO,rfl,rfl⟩
  .rw[show (!bZ3)=bZ6 from rfl,iu];exact⟨rfl,rfl⟩
theorem Vm:aC 6 US.spec:=aF Tryz.func6 (ap (ap (ap (ap (ap aD an0) DZ) bL3) aN5) bI0) aD2 bk6
end Go.RS
