/- Dgx: digests as functions of bytes. -/
import Derived.Test.YtghpjjompmlooaaGreatDoorSx32
import Derived.Test.YtghpjjompmlooaaGreatDoorWire
set_option maxRecDepth 100000
set_option linter.all false
open Int (toNat)
open List (length take getD set replicate range)
open Bool renaming and_eq_false_iff->cP4,false->ct2,false_or->cV2,or_eq_false_iff->cI2,true->cs8
open ByteArray renaming mk->cZ8
open Decidable renaming decide->cs7
open Go renaming maxLen->cu5
open Go.BinOp renaming and->cw3,or->cH6,xor->cx8
open Go.Func renaming ntmps->cS9
open Go.IntKind renaming i64->ct0,u32->ct3,u64->ct9,u8->cw0,wrap->ct1
open Inhabited renaming default->cs5
open Int renaming ediv_one->cJ7,emod_eq_of_lt->cD3,le_trans->cJ4,sub_zero->cX1,tmod->cx2,toNat->M,toNat_natCast->cv6
open List renaming all_eq_true->cz6,any_eq_true->cw7,append->cQ4,brecOn->cQ3,drop_left->cL9,drop_zero->cM9,exists_cons_of_ne_nil->cM0,findIdx_lt_length_of_exists->cJ5,flatMap_append->cI6,flatMap_cons->cz0,flatten->cw2,flatten_append->cI5,foldl->cw5,foldl_cons->cx7,foldl_nil->cE9,getD->T,getD_cons_succ->cB8,getD_cons_zero->cI3,getElem_mem->cv2,length->V,length_nil->cy2,length_pos_of_mem->cz7,length_range->cC9,mem_filter->cx9,mem_flatMap->cG7,mem_iff_getElem->cv8,mem_map->cv1,mem_range->cx1,pairwise_cons->cu1,pairwise_iff_getElem->cM7,pairwise_singleton->cG4,replicate_succ'->cQ2,replicate_zero->cQ8,set_set->cO0,take_left->cL8
open List.Pairwise renaming filter->cI1,map->cX0,nil->cx5
open Nat renaming mul_le_mul->cV3,sub_self->cP3
open Option renaming any_some->cS1
open Prod renaming fst->cN0,snd->cJ3
open Sigma renaming mk->cY9
namespace Go.RS
open Go.SX Go.Proofs
abbrev jx:Type:=Int×Int×Int×Int×Int×Int×Int×Int
def XZ(k:Int):Int:=bits .and .u64 (ct9.wrap k) 31
def Lv(x k:Int):Int:=bits .or .u32 (gd .u32 x (XZ k)) (fm .u32 x (ct9.wrap (32-XZ k)))
def nP(x n:Int):Int:=Lv x (ct0.wrap (0-n))
def bo1:Ct:=⟨[.val dB,.val cI],[.val dB],λ_=>[],λd=>((Lv d.1 d.2.1,()),())⟩
theorem bJ1:
 ∀ a b,aT a/\J (aq b)->True->am (bits cw3 ct9 (ct1 ct9 b) 31) (0<=ct1 ct9 (32 -bits cw3 ct9 (ct1 ct9 b) 31)) (bits cH6 ct3 (gd ct3 a (bits cw3 ct9 (ct1 ct9 b) 31)) (fm ct3 a (ct1 ct9 (32 -bits cw3 ct9 (ct1 ct9 b) 31)))=Lv a b):= by
  delta aq aH aT am J aF
  intro x k _ _
  refine⟨(Ot _ .u64 _ _).1,?_,rfl⟩
  rw[IntKind.wrap_u64];omega
theorem cf5:aB 268 bo1.spec:=aG Tryz.func268 aC aS bJ1
def aJ8:Ct:=⟨[.val dB,.val cI],[.val dB],λ_=>[],λd=>((nP d.1 d.2.1,()),())⟩
theorem cb8:
 ∀ a b,aT a/\J (aq b)->True->Lv a (ap (0 -b))=nP a b:= by
  delta ap aq aH aT J aF
  exact λ_ _ _ _=>rfl
theorem aj8:aB 223 aJ8.spec:=aG Tryz.func223 (C aC cf5) aS cb8
def I3(i:Int)(w l:Z):Z:=l.foldl (λw x=>w.set (M i) (bits .or .u32 (gd .u32 (T w (M i) cs5) 8) (ct3.wrap x))) w
def uG(b:Z):Nat->Z
 | 0=>replicate 64 0
 | k+1=>I3 k (uG b k) (cZ b (4*k) (4*k+4))
def RH(w:Z)(i:Int):Int:=ct3.wrap (ct3.wrap (ct3.wrap (T w (M (ct0.wrap (i-16))) 0+bits .xor .u32 (bits .xor .u32 (nP (T w (M (ct0.wrap (i-15))) 0) 7) (nP (T w (M (ct0.wrap (i-15))) 0) 18)) (fm .u32 (T w (M (ct0.wrap (i-15))) 0) 3))+T w (M (ct0.wrap (i-7))) 0)+bits .xor .u32 (bits .xor .u32 (nP (T w (M (ct0.wrap (i-2))) 0) 17) (nP (T w (M (ct0.wrap (i-2))) 0) 19)) (fm .u32 (T w (M (ct0.wrap (i-2))) 0) 10))
def BC(w:Z):Nat->Z
 | 0=>w
 | k+1=>(BC w k).set (16+k) (RH (BC w k) ((16+k:Nat):Int))
variable{i:Int}
theorem aP2{w}(h:16<=i):BC w (M (i+1-16))=(BC w (M (i-16))).set (M i) (RH (BC w (M (i-16))) i):=by
 obtain⟨k,rfl⟩:∃ k,i=((16+k:Nat):Int):=⟨M (i-16),Y⟩
 rw[show M (((16+k:Nat):Int)+1-16)=k+1 by omega,show M (((16+k:Nat):Int)-16)=k by omega]
 rfl
theorem cj4{b}(h:0<=i):uG b (M (i+1))=I3 i (uG b (M i)) (cZ b (M (4*i)) (M (4*i+4))):=by
 obtain⟨k,rfl⟩:=tj h
 rw[show M ((k:Int)+1)=k+1 by omega,show M (4*(k:Int))=4*k by omega,show M (4*(k:Int)+4)=4*k+4 by omega]
 rfl
def uF(b:Z):Z:=BC (uG b 16) (V b-16)
def Vj:Ct:=⟨[.val (.sl bc)],[.arr .u32 64],λd=>[V d.1=64],λd=>((uF d.1,()),())⟩
def aF3:bG Vj.ps->bL:=(λd=>{loops:=(bz 3 (λS=>{ι:=Int×Z,qn:=fE,μ:=λi=>M (16-i.1),inv:=λi=>0<=i.1/\i.1<=16/\i.2=uG d.1 (M i.1),keep:=[0,2,3],slots:=λi=>[(12,.int .i64 i.1)],keepN:=[48],names:=λi=>[(64,.live (.ary 341 .u32 64 i.2))]}) (bz 6 (λS=>{ι:=Int×Z×Z,qn:=ot,μ:=λi=>M (4-i.1),inv:=λi=>0<=i.1/\i.1<=4/\i.2.1=cZ d.1 (M (4*S.i 12)) (M (4*S.i 12+4))/\i.2.2=I3 (S.i 12) (uG d.1 (M (S.i 12))) (i.2.1.take (M i.1)),keep:=[0,2,3,4,12],slots:=λi=>[(21,.dsl bc i.2.1),(22,.int .i64 4),(23,.int .i64 i.1)],keepN:=[48],names:=λi=>[(64,.live (.ary 341 .u32 64 i.2.2))]}) (bz 12 (λS=>{ι:=Int×Z,qn:=fE,μ:=λi=>M (64-i.1),inv:=λi=>16<=i.1/\i.1<=64/\i.2=BC (uG d.1 16) (M (i.1-16)),keep:=[2,3],slots:=λi=>[(7,.int .i64 i.1)],keepN:=[48],names:=λi=>[(64,.live (.ary 341 .u32 64 i.2))]}) cm)))})
def L6(a:Int)(b c:Z)(d:Int)(e:Z):=bo a 4 (b=fN c (4*d) (4*d+4)) (e=I3 d (uG c (M d)) (take (M a) b))
def C6(a b:Z):=replicate 64 (0:Int)=replicate 64 (0:Int)/\J (a=b)
def ui(a:Int):=M (ap a)
def AA(a:Z)(b:Int):=T a (ui b) 0
def JH(a:Int)(b c:Z):=16<=a/\a<=64/\b=BC (uG c 16) (M (a -16))
theorem bL0:
 ∀ a,J (aM a)->V a=64->(∃ b c,f9 b 16 c (uG a (M b))/\a=a/\0=b/\C6 (replicate 64 0) c)/\ ∀ b c,f9 b 16 c (uG a (M b))->au (av b 16) (bo (ap (4*b)) (ap (ap (4*b)+4)) (ap (ap (4*b)+4)<=O a) ((∃ d e f,L6 d e a b f/\a=a/\bp b b (ut a (ap (4*b)) 4=e) (O (ut a (ap (4*b)) 4)=4/\0=d/\C6 c f))/\ ∀ d e f,L6 d e a b f->au (av d 4) (am d (d<O e) (bP b (↑((64:Nat)):Int) (M b<64) (am 8 (0<=b) (b<(↑((64:Nat)):Int)/\M b<64/\ ∃ g h i,L6 g h a b i/\bi 4 g d/\a=a/\bp b b (e=h) ((4:Int)=(4:Int)/\aA d=g/\C6 (set f (M b) (bits cH6 ct3 (gd ct3 (T f (M b) 0) 8) (ct1 ct3 (N e d)))) i))))) (∃ g h,f9 g 16 h (uG a (M g))/\bi 16 g b/\a=a/\aA b=g/\C6 f
 h))) ((∃ d e,JH d e a/\16=d/\C6 c e)/\ ∀ d e,JH d e a->au (av d 64) (bP (ap (d -15)) (↑((64:Nat)):Int) (ui (d -15)<64) (bP (ap (d -2)) (↑((64:Nat)):Int) (ui (d -2)<64) (am 3 ((0:Int)<=(10:Int)) (bP (ap (d -16)) (↑((64:Nat)):Int) (ui (d -16)<64) (bP (ap (d -7)) (↑((64:Nat)):Int) (ui (d -7)<64) (bP d (↑((64:Nat)):Int) (M d<64) (∃ f g,JH f g a/\bi 64 f d/\aA d=f/\C6 (set e (M d) (ct1 ct3 (ct1 ct3 (ct1 ct3 (AA e (d -16)+bits cx8 ct3 (bits cx8 ct3 (nP (AA e (d -15)) 7) (nP (AA e (d -15)) 18)) (fm ct3 (AA e (d -15)) 3))+AA e (d -7))+bits cx8 ct3 (bits cx8 ct3 (nP (AA e (d -2)) 17) (nP (AA e (d -2)) 19)) (fm ct3 (AA e (d
 -2)) 10)))) g))))))) (e=uF a)):= by
  delta N O ap aM bp bi bZ am bo fN aA J av L6 bP f9 C6 AA ui JH ut aF
  rintro x-hx
  have hx:=hx
  refine⟨⟨0,_,⟨Y,Y,rfl⟩,aI⟩,?_⟩
  rintro i w ⟨i0,i1,rfl⟩
  refine bT (λh=>?_) (λh=>?_)
  .rw[aJ (n:=4*i) Y Y,aJ (n:=4*i+4) Y Y]
   have hl:V (cZ x (M (4*i)) (M (4*i+4)))=4:=by simp[cZ];omega
   refine⟨Y,Y,Y,⟨0,_,_,⟨Y,Y,rfl,rfl⟩,?_⟩,?_⟩
   .rw[hl];exact aI
   rintro j b w ⟨j0,j1,rfl,rfl⟩
   refine bT (λk=>?_) (λk=>?_)
   .refine⟨Y,Y,Y,Y,Y,Y,Y,Y,Y,j+1,_,_,⟨Y,Y,rfl,rfl⟩,Y,?_⟩
    (repeat refine g9 ?_)
    refine⟨?_,aQ⟩
    rw[nq j0 Y]
    unfold I3
    rw[lr];rfl
   .refine⟨i+1,_,⟨Y,Y,rfl⟩,Y,?_⟩
    (repeat refine g9 ?_)
    refine⟨?_,aQ⟩
    rw[gE Y,cj4 i0]
  .have e:M i=16:=Y
   refine⟨⟨16,_,⟨Y,Y,rfl⟩,?_⟩,?_⟩
   .rw[e];exact aI
   rintro i w ⟨i0,i1,rfl⟩
   refine bT (λh=>?_) (λh=>?_)
   .have e:=aP2 (w:=uG x 16) i0
    unfold RH at e
    have e16:ct0.wrap (i-16)=i-16:=aJ Y Y
    have e15:ct0.wrap (i-15)=i-15:=aJ Y Y
    have e2:ct0.wrap (i-2)=i-2:=aJ Y Y
    have e7:ct0.wrap (i-7)=i-7:=aJ Y Y
    refine⟨Y,Y,Y,Y,Y,Y,Y,Y,Y,Y,Y,Y,Y,Y,Y,Y,Y,i+1,_,⟨Y,Y,rfl⟩,Y,?_⟩
    (repeat refine g9 ?_)
    exact⟨e.symm,aQ⟩
   .unfold uF;rw[show M (i-16)=V x-16 by omega]
theorem bA3:aB 222 Vj.spec:=aG Tryz.func222 (C aC aj8) aF3 bL0
def cpT(k w:Int)(x:jx):Int:=ct3.wrap (ct3.wrap (ct3.wrap (ct3.wrap (x.2.2.2.2.2.2.2+bits .xor .u32 (bits .xor .u32 (nP x.2.2.2.2.1 6) (nP x.2.2.2.2.1 11)) (nP x.2.2.2.2.1 25))+bits .xor .u32 (bits .and .u32 x.2.2.2.2.1 x.2.2.2.2.2.1) (bits .and .u32 (G2 .u32 x.2.2.2.2.1) x.2.2.2.2.2.2.1))+k)+w)
def cpR(k w:Int)(x:jx):jx:=(ct3.wrap (cpT k w x+ct3.wrap (bits .xor .u32 (bits .xor .u32 (nP x.1 2) (nP x.1 13)) (nP x.1 22)+bits .xor .u32 (bits .xor .u32 (bits .and .u32 x.1 x.2.1) (bits .and .u32 x.1 x.2.2.1)) (bits .and .u32 x.2.1 x.2.2.1))),x.1,x.2.1,x.2.2.1,ct3.wrap (x.2.2.2.1+cpT k w x),x.2.2.2.2.1,x.2.2.2.2.2.1,x.2.2.2.2.2.2.1)
def Db(w:Z)(s:jx):Nat->jx
 | 0=>s
 | i+1=>cpR (pickI (ints cKeys keysV) i) (T w i 0) (Db w s i)
def bA7(s x:jx):jx:=(ct3.wrap (s.1+x.1),ct3.wrap (s.2.1+x.2.1),ct3.wrap (s.2.2.1+x.2.2.1),ct3.wrap (s.2.2.2.1+x.2.2.2.1),ct3.wrap (s.2.2.2.2.1+x.2.2.2.2.1),ct3.wrap (s.2.2.2.2.2.1+x.2.2.2.2.2.1),ct3.wrap (s.2.2.2.2.2.2.1+x.2.2.2.2.2.2.1),ct3.wrap (s.2.2.2.2.2.2.2+x.2.2.2.2.2.2.2))
def CA(s:jx)(b:Z):jx:=bA7 s (Db (uF b) s (V b))
def Ur:Ct:=⟨[.agg cSt8,.val (.sl bc)],[.agg cSt8],λd=>[V d.2.1=64],λd=>((CA d.1 d.2.1,()),())⟩
def aR0:bG Ur.ps->bL:=(λd=>{loops:=(bz 4 (λS=>{ι:=Int×Z×cr9,qn:=ot,μ:=λi=>M (64-i.1),inv:=λi=>0<=i.1/\i.1<=64/\i.2.1=uF d.2.1/\i.2.2=Db (uF d.2.1) d.1 (M i.1),keep:=[2,4,5,6,17],slots:=λi=>[(18,.int .i64 i.1)],keepN:=[48,80],names:=λi=>[(96,.live (.ary 341 .u32 64 i.2.1)),(112,.live (.cells 273 (cS cSt8 i.2.2)))]}) cm),unr:=λn=>match n with|12=>9|_=>0,nms:=[11]})
def HJ(a b:jx):=a.1=b.1/\a.2.1=b.2.1/\a.2.2.1=b.2.2.1/\a.2.2.2.1=b.2.2.2.1/\a.2.2.2.2.1=b.2.2.2.2.1/\a.2.2.2.2.2.1=b.2.2.2.2.2.1/\a.2.2.2.2.2.2.1=b.2.2.2.2.2.2.1/\J (a.2.2.2.2.2.2.2=b.2.2.2.2.2.2.2)
def Fm(a:jx)(b c:Prop):=bh a.1 a.2.1 a.2.2.1 (a.2.2.2.1=a.2.2.2.1) (bh a.2.2.2.2.1 a.2.2.2.2.2.1 a.2.2.2.2.2.2.1 b c)
def EU:=ints (Sigma.fst (cY9 cKeys keysV)) (Sigma.snd (cY9 cKeys keysV))
def uK(a b:Prop):=bh 0 0 0 ((0:Int)=(0:Int)) (a/\b)
def FV(a:jx):=a.2.2.2.2.2.2.2=a.2.2.2.2.2.2.2
theorem aR6:
 ∀ a b,CT.wf cSt8 a/\J (aM b)->V b=64->V b=64/\ ∀ c,c=uF b->(∃ d e f,bo d 64 (e=uF b) (f=Db (uF b) a (M d))/\EU=EU/\0=d/\Fm a (FV a) (bh 0 0 0 ((0:Int)=(0:Int)) (uK (c=e) (HJ a f))))/\ ∀ d e f,bo d 64 (e=uF b) (f=Db (uF b) a (M d))->au (av d 64) (am d (d<(↑((64:Nat)):Int)) (bP d (↑((64:Nat)):Int) (M d<64) (∀ g,g=ct1 ct3 (ct1 ct3 (ct1 ct3 (ct1 ct3 (f.2.2.2.2.2.2.2+bits cx8 ct3 (bits cx8 ct3 (nP f.2.2.2.2.1 6) (nP f.2.2.2.2.1 11)) (nP f.2.2.2.2.1 25))+bits cx8 ct3 (bits cw3 ct3 f.2.2.2.2.1 f.2.2.2.2.2.1) (bits cw3 ct3 (G2 ct3 f.2.2.2.2.1) f.2.2.2.2.2.2.1))+SX.pickI EU (M d))+e.getD
 d.toNat 0)-> ∃ h i j,bo h 64 (i=uF b) (j=Db (uF b) a (M h))/\bi 64 h d/\EU=EU/\aA d=h/\Fm a (FV a) (bh 0 0 0 ((0:Int)=(0:Int)) (uK (e=i) (ct1 ct3 (g+ct1 ct3 (bits cx8 ct3 (bits cx8 ct3 (nP f.1 2) (nP f.1 13)) (nP f.1 22)+bits cx8 ct3 (bits cx8 ct3 (bits cw3 ct3 f.1 f.2.1) (bits cw3 ct3 f.1 f.2.2.1)) (bits cw3 ct3 f.2.1 f.2.2.1)))=j.1/\f.1=j.2.1/\f.2.1=j.2.2.1/\f.2.2.1=j.2.2.2.1/\ct1 ct3 (f.2.2.2.1+g)=j.2.2.2.2.1/\f.2.2.2.2.1=j.2.2.2.2.2.1/\f.2.2.2.2.2.1=j.2.2.2.2.2.2.1/\J (f.2.2.2.2.2.2.1=j.2.2.2.2.2.2.2))))))) ((ct1 ct3 (a.1+f.1),ct1 ct3 (a.2.1+f.2.1),ct1 ct3 (a.2.2.1+f.2.2.1),ct1 ct3
 (a.2.2.2.1+f.2.2.2.1),ct1 ct3 (a.2.2.2.2.1+f.2.2.2.2.1),ct1 ct3 (a.2.2.2.2.2.1+f.2.2.2.2.2.1),ct1 ct3 (a.2.2.2.2.2.2.1+f.2.2.2.2.2.2.1),ct1 ct3 (a.2.2.2.2.2.2.2+f.2.2.2.2.2.2.2))=CA a b):= by
  delta ap aM bh bp bi bZ am bo HJ aA J Fm av EU bP uK FV aF
  rintro d x-hx
  refine⟨hx,λw hw=>⟨⟨0,w,d,⟨Y,Y,hw,rfl⟩,aI⟩,?_⟩⟩
  rintro i w y ⟨i0,i1,rfl,hy⟩
  refine bT (λh=>?_) (λh=>?_)
  .refine⟨i0,h,i0,h,Y,λt ht=>⟨i+1,_,_,⟨Y,Y,rfl,rfl⟩,Y,rfl,aJ Y Y,rfl,?_⟩⟩
   rw[show M (i+1)=M i+1 by omega,Db,← hy]
   subst ht
   exact aI
  .rw[show M i=V x by have hx:=hx;omega] at hy
   rw[hy];rfl
theorem ce8:aB 159 Ur.spec:=aG Tryz.func159 (C (C aC aj8) (Ct.named bA3)) aR0 aR6
def AV(b:Z)(s:jx):Nat->jx
 | 0=>s
 | k+1=>CA (AV b s k) (cZ b (64*k) (64*k+64))
def at8:Ct:=⟨[.val (.sl bc),.val cI],[.fn 221 2,.box 22 (.dat (.sl bc)),.box 3 cI],λd=>[1<=d.2.1],λd=>(((),d.1,d.2.1,()),())⟩
theorem bl8:
 ∀ a b,aM a/\J (aq b)->1<=b->au (av b 1) False (()=()/\a=a/\b=b):= by
  delta aq aH aM J av aF
  rintro x n-h
  exact ay (λk=>by have k:=aX k;omega) (λ_=>⟨rfl,rfl,rfl⟩)
theorem ax9:aB 158 at8.spec:=aG Tryz.func158 aC aS bl8
def LS:Cn:=⟨[.val (.sl bc),.box 273 cSt8],[],λd=>[V d.1=64],λd y=>y.2.1=CA d.2.1 d.1,λd _=>⟨((),CA d.2.1 d.1,()),rfl⟩⟩
def GC(r:Loop):Prop:=Dr Tryz.prog GL r [5] (Cx LS.spec)
theorem ce4:
 ∀ a b,aM a/\J (CT.wf cSt8 b)->V a=64->V a=64/\ ∀ c,c=CA b a->c=CA b a:= by
  delta aM J aF
  exact λx d _ h=>⟨h,λ_ e=>e⟩
theorem aR1{r}(hr:xp (cS9 Tryz.f81) (Jx Tryz.f81) r):GC r:=Cn.okR LS (by kernel_rfl) (C aC (Ct.named ce8)) ik aS (Bi (by kernel_rfl) ce4) hr
def am3:Cn:=⟨[.yld [5] 1,.box 273 cSt8,.box 22 (.dat (.sl bc)),.box 3 cI],[],λd=>[GC d.1,V d.2.2.1%64=0,d.2.2.2.1=64],λd y=>y.2.1=AV d.2.2.1 d.2.1 (V d.2.2.1/64),λd _=>⟨((),AV d.2.2.1 d.2.1 (V d.2.2.1/64),d.2.2.1,d.2.2.2.1,()),rfl⟩⟩
def bD2:bG am3.ps->bL:=(λd=>{loops:=(bz 1 (λS=>{ι:=Int×cr9,qn:=fE,μ:=λi=>M (V d.2.2.1-i.1),inv:=λi=>0<=i.1/\i.1<=V d.2.2.1/\i.1%64=0/\i.2=AV d.2.2.1 d.2.1 (M i.1/64),keep:=[0,1,2],slots:=λi=>[(4,.int .i64 i.1)],keepN:=[1048577,1048578],names:=λi=>[(1048576,.live (.cells 273 (cS cSt8 i.2)))]}) cm)})
def DI(a b:Int)(c:Z):=ap (a+min b (O (fN c a (O c))))
def Kt(a:Int)(b:Z)(c d:jx):=bo a (O b) (a%64=0) (c=AV b d (M a/64))
theorem a24:
 ∀ a b c d,True/\CT.wf cSt8 b/\aM c/\J (aq d)->GC a/\V c%64=0/\d=64->(∃ e f,Kt e c f b/\a=a/\0=e/\c=c/\d=d/\HJ b f)/\ ∀ e f,Kt e c f b->au (av e (O c)) (bo e (O c) (pR c) (bo e (DI e d c) (DI e d c=DI e d c) (DI e d c<=O c/\Dr Tryz.prog GL a [5] (Cx (Cn.spec LS))/\V (fN c e (DI e d c))=64/\ ∀ g,g=CA f (fN c e (DI e d c))-> ∃ h i,Kt h c i b/\bi (O c) h e/\a=a/\ap (e+d)=h/\c=c/\d=d/\HJ g i))) (f=AV c b (V c/64)):= by
  delta O ap aq aH aM bi bZ am bo HJ fN J av DI aF Kt pR
  rintro r d x n ⟨-,-,⟨hl,-⟩,-⟩⟨hr,hm,rfl⟩
  simp only[cu5] at hl
  refine⟨⟨0,d,⟨Y,Y,Y,rfl⟩,aI⟩,?_⟩
  rintro i e ⟨h0,h1,h2,he⟩
  refine bT (λk=>?_) (λk=>?_)
  .have q:min (64:Int) (V (cZ x (M i) (M (V x:Int))):Int)=64:=by
    have:V (cZ x (M i) (M (V x:Int)))=V x-M i:=by simp[cZ]
    omega
   rw[q,aJ (n:=i+64) Y Y]
   refine⟨h0,h1,Y,h0,Y,rfl,Y,hr,by simp[cZ];omega,λf hf=>⟨i+64,f,⟨Y,Y,Y,?_⟩,Y,aI⟩⟩
   have hf:=hf
   rw[show M (i+64)/64=M i/64+1 by omega,AV,← he,show 64*(M i/64)=M i by omega,show M i+64=M (i+64) by omega]
   exact hf
  .rw[show M i=V x by omega] at he
   exact he
theorem aN9:aB 221 am3.spec:=jV Tryz.func221 (Xg (s:=Cx LS.spec) aC) bD2 a24
def Bm(b:Z):Z:=b++128::replicate (M ((55-(V b:Int))%64)) 0
def Dy(n:Int)(k:Nat):Z:=(range k).map λ(j:Nat)=>cw0.wrap (fm .u64 (gd .u64 (ct9.wrap n) 3) (56-8*(j:Int)))
def Il(b:Z):Z:=Bm b++Dy (V b) 8
def zZ(s:jx):Nat->Z
 | 0=>[]
 | k+1=>zZ s k++[cw0.wrap (fm .u32 (pickI (ints cSt8 s) k) 24),cw0.wrap (fm .u32 (pickI (ints cSt8 s) k) 16),cw0.wrap (fm .u32 (pickI (ints cSt8 s) k) 8),cw0.wrap (pickI (ints cSt8 s) k)]
def C7(b:Z):jx:=AV (Il b) startV8 (V (Il b)/64)
def pA(b:Z):Z:=zZ (C7 b) (8+V b-V b)
theorem SZ(s):∀ k,V (zZ s k)=4*k
 | 0=>rfl
 | k+1=>by rw[zZ,cw,SZ s k];rfl
theorem JL(b):V (pA b)=32:=by unfold pA;rw[SZ];omega
theorem X7(n)(k):V (Dy n k)=k:=by unfold Dy;rw[nT,cC9]
theorem b74(b):(V (Bm b):Int)=V b+1+(55-(V b:Int))%64:=by
 unfold Bm;rw[cw,fa,wU];omega
def Yr:Ct:=⟨[.val (.sl bc)],[.own 5 bc],λd=>[(V d.1:Int)<=1099511627776],λd=>((pA d.1,()),())⟩
noncomputable def aS5:bG Yr.ps->bL:=(λd=>{loops:=(λn=>match n with|2=>some (λS=>{ι:=Z,μ:=λi=>M ((56-(V i:Int))%64),inv:=λi=>V d.1<V i/\i=d.1++128::replicate (V i-V d.1-1) 0/\(V i:Int)+(56-(V i:Int))%64=(V d.1:Int)+1+(55-(V d.1:Int))%64,keep:=[0,1,2],slots:=λi=>[(3,.own 524288 1)],names:=λi=>[(524288,.live (.row 5 bc i))]})|5=>some (λS=>{ι:=Int×Z,qn:=⟨λk_=>∀(i:Int)(ys:Z),k_ (i,ys),λk_ h_ i=>h_ i.1 i.2,λk_=>∃ (i:Int) (ys:Z),k_ (i,ys),λk_ ⟨i,ys,h_⟩=>⟨_,h_⟩⟩,μ:=λi=>M (i.1+8),inv:=λi => -8<=i.1/\i.1<=56/\i.1%8=0/\i.2=Bm d.1++Dy (V d.1) (M ((56-i.1)/8)),keep:=[0,1,2],slots:=λi=>[(3,.own 524288 1),(4,.int .i64 i.1)],names:=λi=>[(524288,.live (.row 5 bc i.2))]})|14=>some (λS=>{ι:=Int×Z,qn:=⟨λk_=>∀(i:Int)(ys:Z),k_ (i,ys),λk_ h_ i=>h_ i.1 i.2,λk_=>∃ (i:Int) (ys:Z),k_ (i,ys),λk_ ⟨i,ys,h_⟩=>⟨_,h_⟩⟩,μ:=λi=>M (8-i.1),inv:=λi=>0<=i.1/\i.1<=8/\i.2=zZ (C7 d.1) (M i.1),keep:=[0,1,2,42],slots:=λi=>[(7,.own 524288 1),(43,.int .i64 i.1)],names:=λi=>[(524288,.live (.row 5 bc i.2))]})|_=>none),ys:=[5],ln:=cS9 Tryz.f81,lo:=GC})
def Hg(a:jx)(b:Int):=SX.pickI (a.1::a.2.1::a.2.2.1::a.2.2.2.1::a.2.2.2.2.1::a.2.2.2.2.2.1::a.2.2.2.2.2.2.1::bI a.2.2.2.2.2.2.2) (M b)
def NE(a b:Z):=V a<V b/\b=a++128::replicate (V b -V a -1) 0/\O b+(56 -O b)%64=O a+1+(55 -O a)%64
def N5(a:Int)(b c:Z):=(-8)<=a/\a<=56/\a%8=0/\b=Bm c++Dy (O c) (M ((56 -a)/8))
def Sc(a:jx)(b:Int):=ct1 cw0 (fm ct3 (Hg a b) 24)::ct1 cw0 (fm ct3 (Hg a b) 16)::ct1 cw0 (fm ct3 (Hg a b) 8)::bI (ct1 cw0 (Hg a b))
theorem bR4:
 ∀ a,tW a (aR a) (gb a (bI 128)/\(∃ b,NE a b/\a=a/\J (a++bI 128=b))/\ ∀ b,NE a b->(64:Int)≠(0:Int)/\au (db (cx2 (O b) 64) 56) (gb b (bI 0)/\ ∃ c,NE a c/\bZ ((56 -O c)%64) ((56 -O b)%64)/\a=a/\J (b++bI 0=c)) ((∃ c d,N5 c d a/\a=a/\56=c/\J (b=d))/\ ∀ c d,N5 c d a->au (fH c) (am 3 (0<=c) (gb d (bI (ct1 cw0 (fm ct9 (gd ct9 (ct1 ct9 (O a)) 3) c)))/\ ∃ e f,N5 e f a/\bZ (e+8) (c+8)/\a=a/\ap (c -8)=e/\J (d++bI (ct1 cw0 (fm ct9 (gd ct9 (ct1 ct9 (O a)) 3) c))=f))) ((1:Int)<=(64:Int)/\ ∀ e,GC e->GC e/\V d%64=0/\(64:Int)=(64:Int)/\ ∀ f(g:Z)(h:Int),f=AV d
 (1779033703,3144134277,1013904242,2773480762,1359893119,2600822924,528734635,1541459225) (V d/64)->(∃(i:Int) (j:Z),f9 i 8 j (zZ (C7 a) (M i))/\a=a/\Fm f (FV f) (0=i/\J (j=[])))/\ ∀ i j,f9 i 8 j (zZ (C7 a) (M i))->au (av i 8) (am i (i<(↑((8:Nat)):Int)) (am 24 ((0:Int)<=(16:Int)) (am 8 (gb j (Sc f i)) (∃ k l,f9 k 8 l (zZ (C7 a) (M k))/\bi 8 k i/\a=a/\Fm f (FV f) (aA i=k/\J (j++Sc f i=l)))))) (j=pA a)))):= by
  delta O ap aM bh bp aR bi bZ am gb Hg bR aA J bI NE Fm av N5 fH f9 db Sc FV tW aF
  rintro x ⟨⟨hl,-⟩,-⟩ h
  have hP:=b74 x
  refine⟨h,by simp only[fq];omega,⟨x++[128],⟨?_,?_,?_⟩,aI⟩,?_⟩
  .simp only[cw,fq];omega
  .simp only[cw,fq,nW,cP3,cQ8]
  .simp only[cw,fq];omega
  rintro y ⟨h0,h1,h2⟩
  rw[Hn Y]
  refine⟨Y,ay (λk=>?_) (λk=>?_)⟩
  .have k:=lz k
   refine⟨by simp only[fq];omega,y++[0],⟨?_,?_,?_⟩,?_,aI⟩
   .simp only[cw,fq];omega
   .rw[cw,fq,show V y+1-V x-1=(V y-V x-1)+1 by omega,cQ2,← kQ,← gI,← h1]
   .simp only[cw,fq];omega
   .simp only[cw,fq];omega
  have k:=lq k
  have hy:y=Bm x:=by
   rw[h1];unfold Bm
   rw[show V y-V x-1=M ((55-(V x:Int))%64) by omega]
  subst hy
  refine⟨⟨56,_,⟨Y,Y,Y,(js _).symm⟩,aI⟩,?_⟩
  rintro i y ⟨i0,i1,i2,rfl⟩
  refine ay (λk=>?_) (λk=>?_)
  .have k:=aX k
   have hn:=X7 (V x) (M ((56-i)/8))
   refine⟨Y,k,by simp only[cw,fq,hn];omega,i-8,_,⟨Y,Y,Y,rfl⟩,Y,rfl,aJ Y Y,?_,aQ⟩
   rw[show M ((56-(i-8))/8)=M ((56-i)/8)+1 by omega,gI]
   congr 1
   unfold Dy
   rw[ni,kV,List.map_singleton,show (56:Int)-8*(M ((56-i)/8):Int)=i by omega]
  have k:=bg k
  have e:M ((56-i)/8)=8:=Y
  rw[e,show Bm x++Dy (V x) 8=Il x from rfl]
  have hv:V (Il x)%64=0:=by unfold Il;rw[cw,X7];omega
  refine⟨Y,λr hr=>⟨hr,hv,rfl,λs _ _ hs=>⟨⟨0,[],⟨Y,Y,rfl⟩,aI⟩,?_⟩⟩⟩
  have hs:s=C7 x:=hs
  rintro j z ⟨j0,j1,rfl⟩
  have hz:=SZ (C7 x) (M j)
  refine bT (λk=>?_) (λk=>?_)
  .refine⟨j0,k,Y,Y,Y,?_,j+1,_,⟨Y,Y,rfl⟩,Y,?_⟩
   .simp only[fa,cy2];omega
   (repeat refine g9 ?_)
   rw[show M (j+1)=M j+1 by omega,zZ,← hs]
   exact⟨rfl,aQ⟩
  .unfold pA
   rw[show M j=8+V x-V x by omega]
theorem Lh:aB 81 Yr.spec:=Ct.okY _ Tryz.func81 (x:=Jx Tryz.f81) (by kernel_rfl) (C (C (C aC po) ax9) aN9) ik aS5 (λ_ _ hr=>aR1 hr) (Bi (by kernel_rfl) bR4)
def vQ(k:Z)(c:Int):Z:=(range 64).map λi=>bits .xor .u8 (if i<V k then T k i cs5 else 0) c
def sY(k b:Z):Z:=pA (vQ k 92++pA (vQ k 54++b))
theorem TU(k)(c):V (vQ k c)=64:=by unfold vQ;rw[nT,cC9]
theorem Wu(k b):V (sY k b)=32:=JL _
variable{k:Z}{v:Int}
theorem Kz{a c}(h0:0<=i)(h1:i<V a)(h2:i<64)(h:a.take (M i)=(vQ k c).take (M i))(hv:v=bits .xor .u8 (if M i<V k then T k (M i) cs5 else 0) c):(a.set (M i) v).take (M (i+1))=(vQ k c).take (M (i+1)):=by
 have hl:=TU k c
 have h2':M i<64:=Y
 rw[nq h0 (by rw[f5];exact h1),nq h0 Y,List.take_set_of_le (dq _),h,kW Y,hv]
 congr 2
 unfold vQ
 simp[List.getElem?_range h2',cK]
def WF:Ct:=⟨[.val (.sl bc),.val (.sl bc)],[.own 5 bc],λd=>[V d.1<=64,(V d.2.1:Int)<=1000000000],λd=>((sY d.1 d.2.1,()),())⟩
def aI2:bG WF.ps->bL:=(λd=>{loops:=(bz 5 (λS=>{ι:=Int×Z×Z,qn:=ot,μ:=λi=>M (64-i.1),inv:=λi=>0<=i.1/\i.1<=64/\V i.2.1=64/\V i.2.2=64/\i.2.1.take (M i.1)=(vQ d.1 54).take (M i.1)/\i.2.2.take (M i.1)=(vQ d.1 92).take (M i.1),keep:=[0,1,2,3,4,5,6],slots:=λi=>[(14,.int .i64 i.1)],names:=λi=>[(96,.live (.ary 295 .u8 64 i.2.1)),(112,.live (.ary 295 .u8 64 i.2.2))]}) cm)})
def E6(a b:Z)(c:Int)(d:Z):=V a=64/\V b=64/\take (M c) a=take (M c) (vQ d 54)/\take (M c) b=take (M c) (vQ d 92)
def nR(a:Z):=[a]
def Q6(a b c d:Z):=fy (cw2 (a::nR b))/\aR (cw2 (a::nR b))/\ ∀(e:Z),e=pA (cw2 (a::nR b))->fy (cw2 (c::nR e))/\aR (cw2 (c::nR e))/\ ∀(f:Z),f=pA (cw2 (c::nR e))->f=sY d b
def Ra(a:Int)(b:Z)(c d:Prop)(e:Int)(f g:Z):=bP a (↑((64:Nat)):Int) (M a<64) (bP a (↑((64:Nat)):Int) (M a<64) (∃(h:Int) (i j:Z),am h (h<=64) (E6 i j h b)/\bi 64 h a/\c/\d/\e=h/\f=i/\J (g=j)))
def me(a:Z):=V a<=64
theorem a57:
 ∀ a b,aM a/\J (aM b)->me a/\O b<=1000000000->au (av 64 (O a)) (aR a/\ ∀ c,c=pA a->(∃ d e f,am d (d<=64) (E6 e f d a)/\b=b/\0=d/\replicate 64 0=e/\replicate 64 0=f/\False)/\ ∀ d e f,am d (d<=64) (E6 e f d a)->au (av d 64) False (Q6 e b f a)) ((∃ c d e,am c (c<=64) (E6 d e c a)/\a=a/\b=b/\0=c/\replicate 64 0=d/\J (replicate 64 0=e))/\ ∀ c d e,am c (c<=64) (E6 d e c a)->au (av c 64) (au (av c (O a)) (am c (c<O a) (Ra c a (a=a) (b=b) (aA c) (set d (M c) (bits cx8 cw0 (N a c) 54)) (set e (M c) (bits cx8 cw0 (N a c) 92)))) (Ra c a (a=a) (b=b) (aA c) (set d (M c) (bits cx8 cw0 0 54)) (set e (M c) (bits cx8 cw0 0 92)))) (Q6 d b e a)):= by
  delta N O ap aM aR bi bZ am E6 aA J fy Q6 Ra av bP nR me aF
  rintro x y-⟨h1,h2⟩
  refine ay (λk=>by have k:=aX k;omega) (λ_=>⟨⟨0,_,_,⟨Y,Y,wU ..,wU ..,rfl,rfl⟩,aI⟩,?_⟩)
  rintro i a b ⟨i0,i1,ha,hb,ta,tb⟩
  refine bT (λk=>?_) (λk=>?_)
  .refine bT (λm=>?_) (λm=>?_)
   .have ea:=Kz i0 Y Y ta (v:=bits .xor .u8 (T x (M i) cs5) 54) (by rw[ao Y])
    have eb:=Kz i0 Y Y tb (v:=bits .xor .u8 (T x (M i) cs5) 92) (by rw[ao Y])
    exact⟨i0,m,i0,k,Y,i0,k,Y,i+1,_,_,⟨Y,Y,(f5 ..).trans ha,(f5 ..).trans hb,ea,eb⟩,Y,rfl,rfl,aJ Y Y,rfl,rfl,aQ⟩
   .have ea:=Kz i0 Y Y ta (v:=bits .xor .u8 (0) 54) (by rw[I Y])
    have eb:=Kz i0 Y Y tb (v:=bits .xor .u8 (0) 92) (by rw[I Y])
    exact⟨i0,k,Y,i0,k,Y,i+1,_,_,⟨Y,Y,(f5 ..).trans ha,(f5 ..).trans hb,ea,eb⟩,Y,rfl,rfl,aJ Y Y,rfl,rfl,aQ⟩
  .have la:=TU x 54
   have lb:=TU x 92
   rw[gE Y,gE Y] at ta tb
   subst ta tb
   simp only[List.flatten_cons,List.flatten_nil,js,cw]
   refine⟨Y,Y,?_⟩
   rintro z rfl
   have:=JL (vQ x 54++y)
   refine⟨Y,Y,?_⟩
   rintro u rfl
   rfl
theorem UD:aB 98 WF.spec:=aG Tryz.func98 (C (C aC (Ct.named Lh)) XY) aI2 a57
abbrev wX:CT := .pair cI (.pair cI (.pair cI (.sl bc)))
abbrev Xc:CT := .pair cI (.pair cI (.pair cI (.pair cI (.pair (.sl bc) (.sl j9)))))
abbrev Yy:CT := .pair (.sl bc) (.pair cI cI)
variable{n:Int}
theorem Tj{b w}:(V (putB b n w):Int)<=V b+M w:=by
 unfold putB
 split
 .simp only[cy2];omega
 .rw[cw,Ay];omega
def ce1:Ct:=⟨[.val cI,.val cI],[.val .bool],λ_=>[],λd=>((cs7 (0<=d.1)&&cs7 (d.1<=d.2.1),()),())⟩
theorem bz6:
 ∀ a b,dP a b->True-> ∀ c,c=fH a->(c->dE c)/\(c->c)/\bq c (cs7 (a<=b))=(fH a&&cs7 (a<=b)):= by
  delta aq aH aK bq J dP dE fH
  rintro x y - -
  (repeat (refine cG ?_;repeat refine cH ?_))
  cases cs7 (0<=x) <;> rfl
theorem al4:aB 155 ce1.spec:=aG Tryz.func155 aC aS bz6
def cd3:Ct:=⟨[.val cI,.val cI],[.val .bool],λ_=>[],λd=>((cs7 (0<=d.1)&&cs7 (d.1<=15)&&(cs7 (0<=d.2.1)&&cs7 (d.2.1<=63)),()),())⟩
def yH(a b:Int):=fH a&&cs7 (a<=15)&&(fH b&&cs7 (b<=63))
theorem bw5:
 ∀ a b,dP a b->True->zj (fH a&&cs7 (a<=15)) (fH b&&cs7 (b<=63)) (yH a b):= by
  delta aq aH aK bq J yH dP fH zj
  rintro x y - -
  (repeat (refine cG ?_;repeat refine cH ?_))
  cases cs7 (0<=x)&&cs7 (x<=15) <;> rfl
theorem Oi:aB 79 cd3.spec:=aG Tryz.func79 (C aC al4) aS bw5
theorem B7{a x b:Int}(h:a<=x/\x<=b):(!(cs7 (a<=x)&&cs7 (x<=b)))=false:=by rw[f7 h.1,f7 h.2];rfl
def YM:Ct:=⟨[.agg j9],[.val cI],λd=>[oa d.1],λ_=>((0,()),())⟩
def aV9:bG YM.ps->bL:=(λd=>{cuts:=(bz 9 (λS=>{ι:=Unit,inv:=λi=>True,keep:=[1,2,3],slots:=λi=>[(6,.bool ct2)],keepN:=[32,64]}) (bz 14 (λS=>{ι:=Unit,inv:=λi=>True,keep:=[1,2,3],slots:=λi=>[(56,.bool ct2)],keepN:=[32,64]}) cm))})
def N6(a:bv)(b c:Prop):=bh a.1 a.2.1 a.2.2.1 (a.2.2.2.1=a.2.2.2.1) (bh a.2.2.2.2.1 a.2.2.2.2.2.1 a.2.2.2.2.2.2.1 (a.2.2.2.2.2.2.2.1=a.2.2.2.2.2.2.2.1) (a.2.2.2.2.2.2.2.2.1=a.2.2.2.2.2.2.2.2.1/\a.2.2.2.2.2.2.2.2.2.1=a.2.2.2.2.2.2.2.2.2.1/\bh a.2.2.2.2.2.2.2.2.2.2.1 a.2.2.2.2.2.2.2.2.2.2.2.1 a.2.2.2.2.2.2.2.2.2.2.2.2.1 b c))
def oX(a:bv):=a.2.2.2.2.2.2.2.2.2.2.2.2.2.2.2.2=a.2.2.2.2.2.2.2.2.2.2.2.2.2.2.2.2
def Mw(a:bv):=a.2.2.2.2.2.2.2.2.2.2.2.2.2.1=a.2.2.2.2.2.2.2.2.2.2.2.2.2.1
def Zd(a:bv):=N6 a (Mw a) (bh a.2.2.2.2.2.2.2.2.2.2.2.2.2.2.1 a.2.2.2.2.2.2.2.2.2.2.2.2.2.2.2.1 a.2.2.2.2.2.2.2.2.2.2.2.2.2.2.2.2 (a.2.2.2.2.2.2.2.2.2.2.2.1=a.2.2.2.2.2.2.2.2.2.2.2.1) (bh a.2.2.2.2.2.2.2.2.2.2.2.2.1 a.2.2.2.2.2.2.2.2.2.2.2.2.2.1 a.2.2.2.2.2.2.2.2.2.2.2.2.2.2.1 (a.2.2.2.2.2.2.2.2.2.2.2.2.2.2.2.1=a.2.2.2.2.2.2.2.2.2.2.2.2.2.2.2.1) (J (oX a))))
def yU(a:Bool)(b:bv):=vK ((0:Int)=(0:Int)/\a=ct2/\Zd b)
def Io(a:Int):=!(fH a&&cs7 (a<=2251799813685248))
def Lp(a b:Bool)(c:Int):=a=br b ( !(fH c&&cs7 (c<=255)))
def Ts(a:bv):=!(fH a.2.2.2.2.2.2.1&&cs7 (a.2.2.2.2.2.2.1<=1023))
theorem bo0:
 ∀(a:bv),J (CT.wf j9 a)->oa a->au ( !yH a.1 a.2.1) (yU ( !yH a.1 a.2.1) a) (au ( !(fH a.2.2.1&&cs7 (a.2.2.1<=999))) (yU ( !(fH a.2.2.1&&cs7 (a.2.2.1<=999))) a) (au (Io a.2.2.2.1) (yU (Io a.2.2.2.1) a) (au (Io a.2.2.2.2.2.2.2.2.2.2.1) (yU (Io a.2.2.2.2.2.2.2.2.2.2.1) a) (au (av a.2.2.2.2.2.2.2.2.2.2.1 a.2.2.2.1) (yU (av a.2.2.2.2.2.2.2.2.2.2.1 a.2.2.2.1) a) (au (Ts a) (yU (Ts a) a) (∀(b:Bool),b=av a.2.2.2.2.2.2.2.1 1->cQ b (bw b) (yU (br b (av 255 a.2.2.2.2.2.2.2.1)) a)))))))/\ ∀(b:Unit),Ey a.2.2.2.2.2.1 (db a.2.2.2.2.2.1 6) (db a.2.2.2.2.2.1 17) ((16:Int)=(0:Int)) ((∀(c:Bool),c=a.2.2.2.2.2.2.2.2.2.1->wt c c (bq c ( !a.2.2.2.2.2.2.2.2.1)) (yU (bq c ( !a.2.2.2.2.2.2.2.2.1)) a) (∀(d:Bool),d=( !a.2.2.2.2.2.2.2.2.1)->(d->dE d)/\(d->d)/\yU (bq d ( !(aY
 a.2.2.2.2.2.2.2.2.2.2.2.1&&(aY a.2.2.2.2.2.2.2.2.2.2.2.2.1&&(aY a.2.2.2.2.2.2.2.2.2.2.2.2.2.1&&(aY a.2.2.2.2.2.2.2.2.2.2.2.2.2.2.1&&(aY a.2.2.2.2.2.2.2.2.2.2.2.2.2.2.2.1&&(aY a.2.2.2.2.2.2.2.2.2.2.2.2.2.2.2.2&&cs8)))))))) a))/\ ∀(c:Unit),True-> ∀(d:Bool),d=a.2.2.2.2.2.2.2.2.1->cB d d (aK d) (d->aK d) (∀(e:Bool),e=av a.2.2.2.2.2.2.2.2.2.2.2.2.1 1->cB (d&& !e) (d&& !e) (aK (d&& !e)) (wC d e) ((d->aK d)/\ ∀(f:Bool),f=br e (av 5 a.2.2.2.2.2.2.2.2.2.2.2.2.1)->fp (d&& !f) (d&& !f) (aK (d&& !f)) (wC d f) ((d->aK d)/\ ∀(g:Bool),Lp g f a.2.2.2.2.2.2.2.2.2.2.2.2.2.1->fp (d&& !g) (d&& !g) (aK (d&& !g)) (wC d g) ((d->aK d)/\ ∀(h:Bool),Lp h g a.2.2.2.2.2.2.2.2.2.2.2.2.2.2.1->fp (d&& !h) (d&& !h) (aK (d&& !h)) (wC d h) ((d->aK d)/\ ∀(i:Bool),Lp i h a.2.2.2.2.2.2.2.2.2.2.2.2.2.2.2.2->fp (d&& !i) (d&& !i) (aK (d&& !i)) (wC
 d i) ((d->d)/\au (bq d (br i ( !(fH a.2.2.2.2.2.2.2.2.2.2.2.2.2.2.2.1&&cs7 (a.2.2.2.2.2.2.2.2.2.2.2.2.2.2.2.1<=65535))))) ((1:Int)=(0:Int)) ((0:Int)=(0:Int))))))))):= by
  delta Zd bN aK bh bp cB br bq N6 oX cQ bw aY fp J yH wC yU Ey dE Io av wt fH db vK Lp Mw Ts
  rintro r-h
  have n1:(!(cs7 (0<=r.1)&&cs7 (r.1<=15)&&(cs7 (0<=r.2.1)&&cs7 (r.2.1<=63))))=false:=by have:=h.v;have:=h.u;simp;omega
  have n2:=B7 h.n
  have n3:=B7 (x:=r.2.2.2.1) ⟨h.t.1,cJ4 h.t.2.1 h.t.2.2⟩
  have n4:=B7 (x:=r.2.2.2.2.2.2.2.2.2.2.1) ⟨cJ4 h.t.1 h.t.2.1,h.t.2.2⟩
  have n5:=B7 h.f
  have n6:cs7 (r.2.2.2.2.2.2.2.2.2.2.1<r.2.2.2.1)=false:=gH (by have:=h.t;omega)
  rw[n1,n2,n3,n4,n5,n6]
  refine⟨?_,λ_ _=>?_⟩
  ·(repeat (refine cG ?_;repeat refine cH ?_))
   rw[gH (by have:=h.l;omega),gH (by have:=h.l;omega)]
   exact⟨(),aQ,aI⟩
  (repeat (refine cG ?_;repeat refine cH ?_))
  refine ay (λq=>?_) (λ_=>⟨?_,λ_ _=>?_⟩)
  .have:=h.p;simp at q;omega
  ·(repeat (refine cG ?_;repeat refine cH ?_))
   refine ay (λq=>?_) (λ_=>?_)
   .exfalso
    cases e:r.2.2.2.2.2.2.2.2.1 with
    | true=>rw[e] at q;revert q;cases r.2.2.2.2.2.2.2.2.2.1 <;> decide
    | false=>rw[(h.a0 e).1] at q;cases q
   ·(repeat (refine cG ?_;repeat refine cH ?_))
    cases e:r.2.2.2.2.2.2.2.2.1 with
    | true=>exact⟨(),aQ,aI⟩
    | false =>
     have:=(h.a0 e).2
     obtain⟨e1,e2,e3,e4,e5,e6⟩:r.2.2.2.2.2.2.2.2.2.2.2.1=0/\r.2.2.2.2.2.2.2.2.2.2.2.2.1=0/\r.2.2.2.2.2.2.2.2.2.2.2.2.2.1=0/\r.2.2.2.2.2.2.2.2.2.2.2.2.2.2.1=0/\r.2.2.2.2.2.2.2.2.2.2.2.2.2.2.2.1=0/\r.2.2.2.2.2.2.2.2.2.2.2.2.2.2.2.2=0:=by
      unfold jj at this;rw[this];exact⟨rfl,rfl,rfl,rfl,rfl,rfl⟩
     rw[e1,e2,e3,e4,e5,e6]
     exact⟨(),aQ,aI⟩
  .have m1:=B7 h.an.1
   have m2:=B7 h.an.2.1
   have m3:=B7 h.an.2.2.2
   have m4:=B7 h.an.2.2.1
   unfold jj at m1 m2 m3 m4
   rw[m1,m2,m3,m4]
   cases e:r.2.2.2.2.2.2.2.2.1 with
   | true =>
    have k:=h.ak e
    unfold jj at k
    rw[gH Y,gH Y]
    (repeat (refine cG ?_;repeat refine cH ?_))
    exact rfl
   | false =>
    (repeat (refine cG ?_;repeat refine cH ?_))
    exact rfl
theorem aa2:aB 82 YM.spec:=aG Tryz.func82 (C (C aC Oi) al4) aV9 bo0
def aD0:Ct:=⟨[.box 268 (.row 5 bc),.val cI,.val cI],[],λd=>[(V d.1:Int)<=1000000],λd=>((),(putB d.1 d.2.1 d.2.2.1,()))⟩
theorem aU6:
 ∀ a b c,aM a/\dP b c->bV a->aR a/\putB a b c=putB a b c:= by
  delta O aq aH aM aR bV J dP aF
  rintro x n w-h
  exact⟨Y,rfl⟩
theorem Zw:aB 156 aD0.spec:=aG Tryz.func156 (C aC RE) aS aU6
def Wa:Ct:=⟨[.agg j9],[.own 5 bc,.val cI],λd=>[oa d.1],λd=>((fX d.1,0,()),())⟩
def be0:bG Wa.ps->bL:=(λd=>{cuts:=(bz 7 (λS=>{ι:=Unit,inv:=λi=>True,keep:=[1,2,3,4],slots:=λi=>[(5,.int .i64 (oZ d.1))],keepN:=[32]}) (bz 9 (λS=>{ι:=Unit,inv:=λi=>True,keep:=[1,2,3,4],slots:=λi=>[(5,.int .i64 (qq d.1))],keepN:=[32]}) (bz 15 (λS=>{ι:=Z,inv:=λi=>i=gM d.1 (M (S.i 75+1)),keep:=[2,3,7,74,75],slots:=λi=>[],names:=λi=>[(128,.live (.cells 268 [.own 524288 1])),(524288,.live (.row 5 bc i))]}) cm))),unr:=λn=>match n with|12=>17|_=>0})
def T6(a:bv)(b c:Prop):=bh 1 a.2.2.1 2 (a.2.2.2.1=a.2.2.2.1) (bh 7 (ap a.2.2.2.2.1) 4 (a.2.2.2.2.2.1=a.2.2.2.2.2.1) (bh 1 a.2.2.2.2.2.2.1 2 (a.2.2.2.2.2.2.2.1=a.2.2.2.2.2.2.2.1) (bh 1 (qq a) 1 (a.2.2.2.2.2.2.2.2.2.2.1=a.2.2.2.2.2.2.2.2.2.2.1) (bh 7 (ap a.2.2.2.2.2.2.2.2.2.2.2.1) 4 (a.2.2.2.2.2.2.2.2.2.2.2.2.1=a.2.2.2.2.2.2.2.2.2.2.2.2.1) (bh 1 a.2.2.2.2.2.2.2.2.2.2.2.2.2.1 1 (a.2.2.2.2.2.2.2.2.2.2.2.2.2.2.1=a.2.2.2.2.2.2.2.2.2.2.2.2.2.2.1) (bh 1 a.2.2.2.2.2.2.2.2.2.2.2.2.2.2.2.1 2 b c))))))
def II(a:bv):=N6 a (Mw a) (bp a.2.2.2.2.2.2.2.2.2.2.2.2.2.2.1 a.2.2.2.2.2.2.2.2.2.2.2.2.2.2.2.1 (oX a) True)
def qV(a:bv)(b c:Prop):=bh 0 a.1 1 (a.2.1=a.2.1) (T6 a b c)
theorem bC9:
 ∀(a:bv),J (CT.wf j9 a)->oa a->oa a/\au a.2.2.2.2.2.2.2.2.1 (vK (bp 0 0 (1=oZ a) (II a))) (vK (bp 0 0 (0=oZ a) (II a)))/\ ∀(b:Unit),True->au a.2.2.2.2.2.2.2.2.2.1 (vK (bp 0 0 (ap (oZ a+2)=qq a) (II a))) (vK (bp 0 0 (oZ a=qq a) (II a)))/\ ∀(c:Unit),True->((↑((0:Nat)):Int)<=1000000/\ ∃(d:Z),d=gM a 1/\qV a (oX a) (bp 1 0 (putB [] a.1 1=d) True))/\ ∀(d:Z),d=gM a 1->(bV d/\ ∃(e:Z),e=gM a 2/\qV a (oX a) (bp 1 1 (putB d a.2.1 1=e) True))/\ ∀(e:Z),e=gM a 2->(bV e/\ ∃(f:Z),f=gM a 3/\qV a (oX a) (bp 1 2 (putB e a.2.2.1 2=f) True))/\ ∀(f:Z),f=gM a 3->(bV f/\ ∃(g:Z),g=gM a 4/\qV a (oX a) (bp 1 3 (putB f a.2.2.2.1 7=g) True))/\ ∀(g:Z),g=gM a 4->(bV g/\ ∃(h:Z),h=gM a 5/\qV a (oX a) (bp 1 4 (putB g (ap a.2.2.2.2.1) 4=h)
 True))/\ ∀(h:Z),h=gM a 5->(bV h/\ ∃(i:Z),i=gM a 6/\qV a (oX a) (bp 1 5 (putB h a.2.2.2.2.2.1 1=i) True))/\ ∀(i:Z),i=gM a 6->(bV i/\ ∃(j:Z),j=gM a 7/\qV a (oX a) (bp 1 6 (putB i a.2.2.2.2.2.2.1 2=j) True))/\ ∀(j:Z),j=gM a 7->(bV j/\ ∃(k:Z),k=gM a 8/\qV a (oX a) (bp 1 7 (putB j a.2.2.2.2.2.2.2.1 1=k) True))/\ ∀(k:Z),k=gM a 8->(bV k/\ ∃(l:Z),l=gM a 9/\qV a (oX a) (bp 1 8 (putB k (qq a) 1=l) True))/\ ∀(l:Z),l=gM a 9->(bV l/\ ∃(m:Z),m=gM a 10/\qV a (oX a) (bp 1 9 (putB l a.2.2.2.2.2.2.2.2.2.2.1 7=m) True))/\ ∀(m:Z),m=gM a 10->(bV m/\ ∃(n:Z),n=gM a 11/\qV a (oX a) (bp 1 10 (putB m (ap a.2.2.2.2.2.2.2.2.2.2.2.1) 4=n) True))/\ ∀(n:Z),n=gM a 11->(bV n/\ ∃(o:Z),o=gM a 12/\qV a (oX a) (bp 1 11 (putB n
 a.2.2.2.2.2.2.2.2.2.2.2.2.1 1=o) True))/\ ∀(o:Z),o=gM a 12->(bV o/\ ∃(p:Z),p=gM a 13/\qV a (oX a) (bp 1 12 (putB o a.2.2.2.2.2.2.2.2.2.2.2.2.2.1 1=p) True))/\ ∀(p:Z),p=gM a 13->(bV p/\ ∃(q:Z),q=gM a 14/\qV a (oX a) (bp 1 13 (putB p a.2.2.2.2.2.2.2.2.2.2.2.2.2.2.1 1=q) True))/\ ∀(q:Z),q=gM a 14->(bV q/\ ∃(r:Z),r=gM a 15/\qV a (oX a) (bp 1 14 (putB q a.2.2.2.2.2.2.2.2.2.2.2.2.2.2.2.1 2=r) True))/\ ∀(r:Z),r=gM a 15->(bV r/\ ∃(s:Z),s=gM a 16/\qV a (oX a) (bp 1 15 (putB r a.2.2.2.2.2.2.2.2.2.2.2.2.2.2.2.2 1=s) True))/\ ∀(s:Z),s=gM a 16->s=fX a/\(0:Int)=(0:Int):= by
  delta O ap bh bp T6 II N6 oX bV qV J vK Mw
  rintro r-h
  have e4:ct0.wrap r.2.2.2.2.1=r.2.2.2.2.1:=aJ (by have:=h.d;omega) (by have:=h.d;omega)
  have e10:ct0.wrap r.2.2.2.2.2.2.2.2.2.2.2.1=r.2.2.2.2.2.2.2.2.2.2.2.1:=aJ (by have:0<=r.2.2.2.2.2.2.2.2.2.2.2.1:=h.af.1;omega) (by have:r.2.2.2.2.2.2.2.2.2.2.2.1<=4294967295:=h.af.2;omega)
  rw[e4,e10]
  have g1:(1:Int)=oZ r∨(0:Int)=oZ r:=by unfold oZ;split <;> simp
  have g2:ct0.wrap (oZ r+2)=oZ r+2:=aJ Y Y
  rw[g2]
  refine⟨h,⟨ay (λq=>?_) (λq=>?_),λ_ _=>⟨ay (λq=>?_) (λq=>?_),λ_ _=>?_⟩⟩⟩
  .rw[show oZ r=1 by unfold oZ;rw[ao q]];exact⟨(),aQ,aI⟩
  .rw[show oZ r=0 by unfold oZ;rw[q];rfl];exact⟨(),aQ,aI⟩
  .rw[show qq r=oZ r+2 by unfold qq;rw[ao q]];exact⟨(),aQ,aI⟩
  .rw[show qq r=oZ r by unfold qq;rw[q];exact Int.add_zero _];exact⟨(),aQ,aI⟩
  rw[show putB [] r.1 1=gM r 1 from X9 h (k:=0) aD]
  refine⟨⟨aD,_,rfl,aI⟩,?_⟩
  rintro _ rfl
  iterate 15
   refine⟨⟨au4 r _,_,rfl,?_⟩,?_⟩
   ·(repeat' apply And.intro) <;> first|exact X9 h aD|rfl|trivial
   rintro _ rfl
  exact⟨rfl,rfl⟩
theorem UF:aB 157 Wa.spec:=aG Tryz.func157 (Wj (C (C aC aa2) Zw) (d:=77)) be0 bC9
def bR2:Ct:=⟨[.box 292 Yy,.val cI],[.val cI],λd=>[(d.1.2.1:Int)<=1000000,0<=d.1.2.1,1<=d.2.1,d.2.1<=7],λd=>((bM d.1.1 d.1.2.1 d.2.1,()),((d.1.1,d.1.2.1+d.2.1,if d.1.2.2=0 then lS d.1.1 d.1.2.1 d.2.1 else d.1.2.2),()))⟩
def uX(a:Int)(b c:Prop):=a<=1000000/\am a b c
def wQ(a b:Int):=if a=0 then b else a
theorem bc7:
 ∀ a b c d,(aM a/\aq b/\aq c)/\J (aq d)->uX b (1<=d) (d<=7)->aH (O a)/\au (aY c) (bM a b d=bM a b d/\(a,ap (b+d),lS a b d)=(a,b+d,wQ c (lS a b d))) (bM a b d=bM a b d/\(a,ap (b+d),c)=(a,b+d,wQ c (lS a b d))):= by
  delta O ap aq aH aM am aY J uX wQ aF
  rintro b k e w ⟨⟨⟨hl,-⟩,-⟩,-⟩⟨h1,h0,h2,h3⟩
  simp only[cu5] at hl
  rw[aJ (n:=k+w) Y Y]
  refine⟨Y,ay (λq=>⟨rfl,by rw[ao (aX q)]⟩) (λq=>⟨rfl,by rw[I (bg q)]⟩)⟩
theorem ae4:aB 171 bR2.spec:=aG Tryz.func171 (C aC CL) aS bc7
def aw4:Ct:=⟨[.box 292 Yy,.val cI],[.own 5 bc],λd=>[0<=d.1.2.1,0<=d.2.1,d.2.1<=1000,d.1.2.1+d.2.1<=V d.1.1,(V d.1.1:Int)<=1000000],λd=>((cZ d.1.1 (M d.1.2.1) (M (d.1.2.1+d.2.1)),()),((d.1.1,d.1.2.1+d.2.1,d.1.2.2),()))⟩
theorem au6:
 ∀ a b c d,(aM a/\aq b/\aq c)/\J (aq d)->am b (0<=d) (d<=1000/\b+d<=O a/\bV a)->au (av (ap (O a -d)) b) (au (aY c) (fL (fN a b (b+d))/\(a,b,(3:Int))=(a,b+d,c)) (fL (fN a b (b+d))/\(a,b,c)=(a,b+d,c))) (bo (ap (ap (b+d) -d)) (ap (b+d)) (ap (b+d)<=O a) (aR (fN a (ap (ap (b+d) -d)) (ap (b+d)))/\fN a (ap (ap (b+d) -d)) (ap (b+d))=fN a b (b+d)/\(a,ap (b+d),c)=(a,b+d,c))):= by
  delta O ap aq aH aM aR am aY bV bo fN J av aF fL
  rintro b k e n-⟨k0,n0,n1,h,hl⟩
  rw[aJ (n:=(V b:Int)-n) Y Y,aJ (n:=k+n) Y Y,aJ (n:=k+n-n) Y Y,show k+n-n=k by omega]
  refine ay (λq=>by have q:=aX q;omega) (λ_=>⟨k0,Y,h,by simp[cZ];omega,rfl,rfl⟩)
theorem aY0:aB 172 aw4.spec:=aG Tryz.func172 (C aC po) aS au6
def a20:Ct:=⟨[.val (.sl bc)],[.agg j9,.val cI],λd=>[∃ r,oa r/\d.1=fX r],λd=>((xX d.1,0,()),())⟩
def vy(a:Int)(b:Z)(c:Int)(d:Z)(e f g:Int):=a=bM b c 1/\(d,e,f)=(b,c+1,wQ g (lS b c 1))
def EG(a:Int)(b:Z)(c:Int)(d:Z)(e f g:Int):=a=bM b c 2/\(d,e,f)=(b,c+2,wQ g (lS b c 2))
def uY(a:Int)(b c:Prop):=uX a ((1:Int)<=(1:Int)) (b/\c)
theorem bd6:
 ∀ a,J (aM a)->(∃ b,oa b/\a=fX b)->am 1000000 ((0:Int)<=(0:Int)) ((1:Int)<=(1:Int)/\(1:Int)<=(7:Int)/\ ∀ b c d e,b=bM a 0 1/\(c,d,e)=(a,(0:Int)+(1:Int),if (0:Int)=(0:Int) then lS a 0 1 else (0:Int))->uY d ((1:Int)<=(7:Int)) (∀ f g h i,vy f c d g h i e->uX h ((1:Int)<=(2:Int)) ((2:Int)<=(7:Int)/\ ∀ j k l m,EG j g h k l m i->uX l ((1:Int)<=(7:Int)) ((7:Int)<=(7:Int)/\ ∀ n o p q,n=bM k l 7/\(o,p,q)=(k,l+7,wQ m (lS k l 7))->uX p ((1:Int)<=(4:Int)) ((4:Int)<=(7:Int)/\ ∀ r s t u,r=bM o p 4/\(s,t,u)=(o,p+4,wQ q (lS o p 4))->uY t ((1:Int)<=(7:Int)) (∀ v w x y,vy v s t w x y u->uX x ((1:Int)<=(2:Int)) ((2:Int)<=(7:Int)/\ ∀ z A B qq0,EG z w x A B qq0 y->uY B ((1:Int)<=(7:Int))
 (∀ D E F G,vy D A B E F G qq0->uY F ((1:Int)<=(7:Int)) (∀ H qq1 qq2 K,vy H E F qq1 qq2 K G->uX qq2 ((1:Int)<=(7:Int)) ((7:Int)<=(7:Int)/\ ∀ L qq3 qq4 qq5,L=bM qq1 qq2 7/\(qq3,qq4,qq5)=(qq1,qq2+7,wQ K (lS qq1 qq2 7))->uX qq4 ((1:Int)<=(4:Int)) ((4:Int)<=(7:Int)/\ ∀ P Q R S,P=bM qq3 qq4 4/\(Q,R,S)=(qq3,qq4+4,wQ qq5 (lS qq3 qq4 4))->uY R ((1:Int)<=(7:Int)) (∀ qq6 U qq7 W,vy qq6 Q R U qq7 W S->uY qq7 ((1:Int)<=(7:Int)) (∀ X qq8 qq9 a1,vy X U qq7 qq8 qq9 a1 W->uY qq9 ((1:Int)<=(7:Int)) (∀ b1 c1 d1 e1,vy b1 qq8 qq9 c1 d1 e1 a1->uX d1 ((1:Int)<=(2:Int)) ((2:Int)<=(7:Int)/\ ∀ f1 g1 h1 i1,EG f1 c1 d1 g1 h1 i1 e1->uY h1 ((1:Int)<=(7:Int)) (∀ j1 k1 l1 m1,vy j1 g1 h1 k1 l1 m1 i1->au ( !aY m1) ((0,0,0,0,0,0,0,0,ct2,ct2,0,oz)=xX
 a/\(3:Int)=(0:Int)) (oa (b,f,j,n,ct1 ct3 r,v,z,D,gO (bits cw3 ct0 H 1),cs7 (bits cw3 ct0 H 2=2),L,ct1 ct3 P,qq6,X,b1,f1,j1)/\ ∀ n1,n1=( !cs7 ((0:Int)=(0:Int)))->gv n1/\kx n1 (br n1 ( !cs7 (fX (b,f,j,n,ct1 ct3 r,v,z,D,gO (bits cw3 ct0 H 1),cs7 (bits cw3 ct0 H 2=2),L,ct1 ct3 P,qq6,X,b1,f1,j1)=a))) ((0,0,0,0,0,0,0,0,ct2,ct2,0,oz)=xX a/\(2:Int)=(0:Int)) ((b,f,j,n,ct1 ct3 r,v,z,D,gO (bits cw3 ct0 H 1),cs7 (bits cw3 ct0 H 2=2),L,ct1 ct3 P,qq6,X,b1,f1,j1)=xX a/\(0:Int)=(0:Int))))))))))))))))))):= by
  delta aM bN aK br am bw gv aY vy J uX dE oz EG kx gO wQ aF uY
  rintro _-⟨r,h,rfl⟩
  have st:∀{o w x:Int}{b:Z}{j e:Int},(∃ k,k<16/\o=((mz ((oE cs5).take k):Nat):Int)/\w=((T (oE cs5) k cs5).2:Nat))->x=bM (fX r) o w/\(b,j,e)=(fX r,o+w,if (0:Int)=0 then lS (fX r) o w else 0)->x=bM (fX r) o w/\b=fX r/\j=o+w/\e=0:=by
   rintro o w x b j e ⟨k,hk,rfl,rfl⟩⟨h1,h2⟩
   rw[ao rfl,(pC h hk).2] at h2
   cases h2
   exact⟨h1,rfl,rfl,rfl⟩
  iterate 16
   refine⟨aD,aD,aD,aD,?_⟩
   rintro _ _ _ _ q
   obtain⟨rfl,rfl,rfl,rfl⟩:=st aD q
   clear q
  have e4:ct3.wrap (bM (fX r) (0+1+1+2+7) 4)=bM (fX r) (0+1+1+2+7) 4:=by
   have f:bM (fX r) (0+1+1+2+7) 4=r.2.2.2.2.1:=(pC h (k:=4) aD).1
   rw[f];exact vX h.d.1 h.d.2
  have e10:ct3.wrap (bM (fX r) (0+1+1+2+7+4+1+2+1+1+7) 4)=bM (fX r) (0+1+1+2+7+4+1+2+1+1+7) 4:=by
   have f:bM (fX r) (0+1+1+2+7+4+1+2+1+1+7) 4=(jj r).1:=(pC h (k:=10) aD).1
   rw[f];exact vX h.af.1 h.af.2
  rw[e4,e10]
  have hT:=Z8 h
  refine lP.2 ⟨show oa (xX (fX r)) by rw[hT];exact h,?_⟩
  (repeat (refine cG ?_;repeat refine cH ?_))
  refine ay (λq=>?_) (λ_=>⟨rfl,rfl⟩)
  have q:(!cs7 (fX (xX (fX r))=fX r))=true:=q
  rw[hT,f7 rfl] at q;cases q
theorem aQ2:aB 173 a20.spec:=aG Tryz.func173 (C (C (C aC (Ct.named ae4)) UF) Sb) aS bd6
def am6:Z:=[82,83,74,49]
def ma(i r e n:Int):List cr8:=[(82,1),(83,1),(74,1),(49,1),(i,1),(r,1),(e,2),(n,1)]
def qo(i r e:Int)(w:Z)(l:List bv):Z:=jq (ma i r e (V l))++(w++l.flatMap fX)
def dH(i r e:Int)(w:Z)(l:List bv)(k:Z):Z:=qo i r e w l++sY k (qo i r e w l)
structure iT (i r e:Int) (w:Z) (l:List bv):Prop where
 i:0<=i/\i<=15
 r:0<=r/\r<=63
 e:0<=e/\e<=1000
 w:V w=32
 n:V l<=64
 ok:∀ x∈l,oa x
variable{l:List bv}
theorem zT:V (l.flatMap fX)=37*V l:=by
 induction l with
 | nil=>rfl
 | cons x l ih=>rw[cz0,cw,Sd,ih,fa];omega
variable{w:Z}{r e:Int}
theorem iT.lenB(h:iT i r e w l):V (qo i r e w l)=41+37*V l:=by
 unfold qo
 rw[cw,cw,zT,h.w,A5]
 have:mz (ma i r e (V l))=9:=rfl
 omega
theorem iT.len(h:iT i r e w l):V (dH i r e w l k)=73+37*V l:=by
 unfold dH
 rw[cw,h.lenB,Wu];omega
theorem iT.fits(h:iT i r e w l):∀ p∈ma i r e (V l),fits p:=by
 have hn:=h.n
 intro q hq
 simp only[ma,dm,List.not_mem_nil,or_false] at hq
 obtain rfl|rfl|rfl|rfl|rfl|rfl|rfl|rfl:=hq
 .exact mN (m:=82) Y aD aD
 .exact mN (m:=83) Y aD aD
 .exact mN (m:=74) Y aD aD
 .exact mN (m:=49) Y aD aD
 .exact mN h.i aD aD
 .exact mN h.r aD aD
 .exact mN h.e aD aD
 .exact mN (m:=64) Y aD aD
theorem iT.get(h:iT i r e w l)(k){j}(hj:j<8):bM (dH i r e w l k) (mz ((ma 0 0 0 0).take j)) (T (ma 0 0 0 0) j cs5).2=(T (ma i r e (V l)) j cs5).1/\lS (dH i r e w l k) (mz ((ma 0 0 0 0).take j)) (T (ma 0 0 0 0) j cs5).2=0:=by
 have q:=VD h.fits (k:=j) hj (w++l.flatMap fX++sY k (qo i r e w l))
 have e0:jq (ma i r e (V l))++(w++l.flatMap fX++sY k (qo i r e w l))=dH i r e w l k:=(gI ..).symm
 have e1:mz ((ma i r e (V l)).take j)=mz ((ma 0 0 0 0).take j)/\(T (ma i r e (V l)) j cs5).2=(T (ma 0 0 0 0) j cs5).2:=by
  have:j=0∨j=1∨j=2∨j=3∨j=4∨j=5∨j=6∨j=7:=Y;obtain rfl|rfl|rfl|rfl|rfl|rfl|rfl|rfl:=this <;> exact⟨rfl,rfl⟩
 rw[e0,e1.1,e1.2] at q
 exact⟨q.1,q.2.1⟩
variable{b:Z}
theorem UA{a c}:cZ (a++(b++c)) (V a) (V a+V b)=b:=by
 unfold cZ
 rw[← gI,← cw,cL8,cL9]
theorem iT.bef(h:iT i r e w l)(k):cZ (dH i r e w l k) 9 41=w:=by
 have q:=UA (a:=jq (ma i r e (V l))) (b:=w) (c:=l.flatMap fX++sY k (qo i r e w l))
 rw[A5,h.w,show mz (ma i r e (V l))=9 from rfl] at q
 refine Eq.trans (dL (λx=>cZ x 9 41) ?_) q
 unfold dH qo
 simp only[gI]
variable{j:Int}
theorem iT.res(h:iT i r e w l)(k)(h0:0<=j)(hj:j<V l):cZ (dH i r e w l k) (M (41+37*j)) (M (41+37*j+37))=fX (T l (M j) cs5):=by
 obtain⟨n,rfl⟩:=tj h0
 have hn:n<V l:=Y
 have el:l=l.take n++l[n]::l.drop (n+1):=by rw[← sM hn,mj]
 rw[cv6,cK,cT hn,jb]
 have q:=UA (a:=jq (ma i r e (V l))++(w++(l.take n).flatMap fX)) (b:=fX l[n]) (c:=(l.drop (n+1)).flatMap fX++sY k (qo i r e w l))
 have ln:V (jq (ma i r e (V l))++(w++(l.take n).flatMap fX))=41+37*n:=by
  rw[cw,cw,zT,h.w,A5,fF,show mz (ma i r e (V l))=9 from rfl];omega
 rw[ln,Sd] at q
 rw[show M (41+37*(n:Int))=41+37*n by omega,show M (41+37*(n:Int)+37)=41+37*n+37 by omega]
 refine Eq.trans (dL (λx=>cZ x _ _) ?_) q
 unfold dH
 generalize sY k _=S
 unfold qo
 rw[show l.flatMap fX=(l.take n).flatMap fX++(fX l[n]++(l.drop (n+1)).flatMap fX) by rw[← cz0,← cI6,← el]]
 simp only[gI]
abbrev YJ:Type:=Int×Int×Int×Int×Z×List bv
def wS(b:Z)(n:Nat):List bv:=(range n).map λ(j:Nat)=>xX (cZ b (41+37*j) (41+37*j+37))
theorem aQ0(h:0<=j):wS b (M (j+1))=wS b (M j)++[xX (cZ b (M (41+37*j)) (M (41+37*j+37)))]:=by
 obtain⟨n,rfl⟩:=tj h
 rw[show M ((n:Int)+1)=n+1 by omega,show M (41+37*(n:Int))=41+37*n by omega,show M (41+37*(n:Int)+37)=41+37*n+37 by omega,cv6]
 unfold wS
 rw[ni,kV];rfl
def rV(b:Z):YJ:=(bM b 4 1,bM b 5 1,bM b 6 2,bM b 8 1,cZ b 9 41,wS b (M (bM b 8 1)))
theorem iT.parts(h:iT i r e w l)(k):rV (dH i r e w l k)=(i,r,e,(V l:Int),w,l):=by
 unfold rV
 have g4:bM (dH i r e w l k) 4 1=i:=(h.get k (j:=4) aD).1
 have g5:bM (dH i r e w l k) 5 1=r:=(h.get k (j:=5) aD).1
 have g6:bM (dH i r e w l k) 6 2=e:=(h.get k (j:=6) aD).1
 have g8:bM (dH i r e w l k) 8 1=(V l:Int):=(h.get k (j:=7) aD).1
 rw[g4,g5,g6,g8,h.bef k,cv6]
 congr 5
 unfold wS
 apply List.ext_getElem
 .simp
 intro j h1 h2
 rw[List.getElem_map,List.getElem_range]
 have q:=h.res k (j:=(j:Int)) Y Y
 rw[show M (41+37*(j:Int))=41+37*j by omega,show M (41+37*(j:Int)+37)=41+37*j+37 by omega,cv6,cK,cT h2,jb] at q
 rw[q,Z8 (h.ok _ (cv2 h2))]
def qY(b:Z):Int:=if V b<41 then 3 else if b.take 4≠am6∨64<T b 8 cs5 then 2 else 0
def vd(b:Z):Int:=if qY b=0 then 41+37*T b 8 cs5+32 else 0
theorem iT.hd(h:iT i r e w l)(k):∃ t,dH i r e w l k=82::83::74::49::i::r::e/256%256::e%256::(V l:Int)::t:=by
 refine⟨w++l.flatMap fX++sY k (qo i r e w l),?_⟩
 have hn:=h.n
 have hi:=h.i
 have hr:=h.r
 have e1:fu i 1 1=[i]:=by show [i/1%256]=_;rw[cJ7,cD3 Y Y]
 have e2:fu r 1 1=[r]:=by show [r/1%256]=_;rw[cJ7,cD3 Y Y]
 have e3:fu (V l:Int) 1 1=[(V l:Int)]:=by show [(V l:Int)/1%256]=_;rw[cJ7,cD3 Y Y]
 have e4:fu e 2 2=[e/256%256,e%256]:=by show [e/256^1%256,e/1%256]=_;rw[cJ7,Int.pow_one]
 have e5:jq (ma i r e (V l))=[82,83,74,49,i,r,e/256%256,e%256,(V l:Int)]:=by
  show fu 82 1 1++(fu 83 1 1++(fu 74 1 1++(fu 49 1 1++(fu i 1 1++(fu r 1 1++(fu e 2 2++(fu (V l) 1 1++[])))))))=_;rw[e1,e2,e3,e4];rfl
 show jq (ma i r e (V l))++(w++l.flatMap fX)++sY k (qo i r e w l)=_
 rw[e5,gI];rfl
theorem iT.first(h:iT i r e w l)(k){t}(hb:b <+: dH i r e w l k++t)(h0:qY b=0):vd b=V (dH i r e w l k)/\(vd b<=V b->b.take (V (dH i r e w l k))=dH i r e w l k/\b.drop (V (dH i r e w l k)) <+: t):=by
 have hl:=h.len (k:=k)
 have h9:41<=V b:=by
  unfold qY at h0;split at h0
  .cases h0
  .omega
 have ⟨s,hs⟩:=hb
 have ⟨u,hu⟩:=h.hd k
 have e8:T b 8 cs5=(V l:Int):=by
  have:(b++s)[8]? = some (V l:Int):=by rw[hs,hu];rfl
  rw[nJ Y] at this;rw[cK,this];rfl
 have e1:vd b=V (dH i r e w l k):=by unfold vd;rw[ao h0,e8,hl];omega
 refine⟨e1,λh2=>?_⟩
 have h3:V (dH i r e w l k)<=V b:=Y
 have e2:b.take (V (dH i r e w l k))=dH i r e w l k:=by
  have:=dL (take (V (dH i r e w l k))) hs
  rwa [List.take_append_of_le_length h3,cL8] at this
 refine⟨e2,s,?_⟩
 have:=dL (List.drop (V (dH i r e w l k))) hs
 rwa [List.drop_append_of_le_length h3,cL9] at this
theorem iT.lnE0(h:iT i r e w l)(k):qY (dH i r e w l k)=0:=by
 have hl:=h.len (k:=k)
 have ⟨u,hu⟩:=h.hd k
 have hn:=h.n
 unfold qY
 rw[I Y,I]
 rw[hu]
 rintro (q|q)
 .exact q rfl
 .have q:64<(V l:Int):=q;omega
def xr(c:jn)(l:List bv)(k:Z):jn:=(c.1,c.2.1,c.2.2.1+V l,pA (dH c.1 c.2.1 c.2.2.1 c.2.2.2 l k))
def FY:Z:=replicate 32 0
def uu(i r:Int)(k:Z):Z:=dH i r 0 FY [] k
def zf(i r:Int)(k:Z):jn:=(i,r,0,pA (uu i r k))
def pW(k:Z):jn->List (List bv)->List Z
 | _,[]=>[]
 | c,l::ls=>dH c.1 c.2.1 c.2.2.1 c.2.2.2 l k::pW k (xr c l k) ls
structure CB (c:jn) (l:List bv):Prop where
 s:iT c.1 c.2.1 c.2.2.1 c.2.2.2 l
 n1:1<=V l
 n2:c.2.2.1+V l<=1000
 f:∀ j:Nat,j<V l->(T l j cs5).1=c.1/\(T l j cs5).2.1=c.2.1/\(T l j cs5).2.2.1=c.2.2.1+j
def za(k:Z):jn->List (List bv)->Prop
 | _,[]=>True
 | c,l::ls=>CB c l/\za k (xr c l k) ls
def Fv(c:jn)(i r e:Int)(w:Z)(l:List bv):Prop:=(c=(0,0,0,[])/\e=0/\l=[]/\w=FY)∨(c.2.2.2=w/\(c.1,c.2.1,c.2.2.1)=(i,r,e)/\CB c l)
theorem EF(hi:0<=i/\i<=15)(hr:0<=r/\r<=63):iT i r 0 FY []:=⟨hi,hr,aD,rfl,aD,λx hx=>(by cases hx)⟩
structure aZ7 (b k:Z) (i r:Int) (ls:List (List bv)):Prop where
 hi:0<=i/\i<=15
 hr:0<=r/\r<=63
 ok:za k (zf i r k) ls
 b:b <+: uu i r k++(pW k (zf i r k) ls).flatten
structure HE (b k:Z) (ls:List (List bv)) (o:Int) (l:List bv) (c:jn):Prop where
 ho:0<=o/\o<=V b
 hl:37*(V l:Int)<=o
 s:(o=0/\c=(0,0,0,[])/\l=[])∨∃ l1 l2,ls=l1++l2/\l=l1.flatten/\za k c l2/\b.drop (M o) <+: (pW k c l2).flatten
variable{ls:List (List bv)}{o:Int}
theorem HE.pre{c}(h:HE b k ls o l c):l <+: ls.flatten:=by
 obtain⟨-,-,rfl⟩|⟨l1,l2,rfl,rfl,-⟩:=h.s
 .exact List.nil_prefix
 .rw[cI5];exact List.prefix_append ..
theorem HE.step{c}(hp:aZ7 b k i r ls)(h:HE b k ls o l c)(hv:n=vd (b.drop (M o)))(he:qY (b.drop (M o))=0)(hn:o+n<=V b) :
  ∃ i e w x,∃ r,iT i r e w x/\cZ b (M o) (M (o+n))=dH i r e w x k/\Fv c i r e w x/\1<=n/\HE b k ls (o+n) (l++x) (i,r,c.2.2.1+V x,pA (dH i r e w x k)):=by
 have ⟨o0,o1⟩:=h.ho
 have hd:V (b.drop (M o))=V b-M o:=gR
 have sub:∀{m:Nat},n=m->cZ b (M o) (M (o+n))=(b.drop (M o)).take m:=λ{m} e=>by
  unfold cZ;rw[List.drop_take];congr 1;omega
 have key:∀{i r e:Int}{w:Z}{x:List bv}{t:Z},iT i r e w x->b.drop (M o) <+: dH i r e w x k++t->cZ b (M o) (M (o+n))=dH i r e w x k/\1<=n/\37*(V x:Int)<=n/\b.drop (M (o+n)) <+: t:=by
  intro i r e w x t hs hb;have hl:=hs.len (k:=k);have ⟨f1,f2⟩:=hs.first k hb he;have ⟨f3,f4⟩:=f2 Y;have f1:=hv.trans f1;refine⟨(sub f1).trans f3,Y,Y,?_⟩;rw[List.drop_drop] at f4
  rwa [show M (o+n)=M o+V (dH i r e w x k) by omega]
 have hl:=h.hl
 obtain⟨rfl,rfl,rfl⟩|⟨l1,l2,rfl,rfl,ho,hb⟩:=h.s
 .have ⟨q1,q2,q3,q4⟩:=key (EF hp.hi hp.hr) hp.b;exact⟨i,0,FY,[],r,EF hp.hi hp.hr,q1,.inl ⟨rfl,rfl,rfl,rfl⟩,q2,⟨Y,hn⟩,by show 37*(0:Int)<=_;omega,.inr ⟨[],ls,rfl,rfl,hp.ok,q4⟩⟩
 .cases l2 with
  | nil =>
   have:b.drop (M o)=[]:=List.prefix_nil.1 hb;rw[this] at he;cases he
  | cons x l2 =>
   have ⟨hs,ho⟩:=ho;have ⟨q1,q2,q3,q4⟩:=key hs.s hb;refine⟨c.1,c.2.2.1,c.2.2.2,x,c.2.1,hs.s,q1,.inr ⟨rfl,rfl,hs⟩,q2,⟨Y,hn⟩,by rw[cw];omega,.inr ⟨l1++[x],l2,by rw[gI];rfl,by rw[cI5];simp,ho,q4⟩⟩
def Ya:Ct:=⟨[.agg wX,.val (.sl bc),.val (.sl j9),.val (.sl bc)],[.own 5 bc],λd=>[iT d.1.1 d.1.2.1 d.1.2.2.1 d.2.1 d.2.2.1,V d.2.2.2.1<=64],λd=>((dH d.1.1 d.1.2.1 d.1.2.2.1 d.2.1 d.2.2.1 d.2.2.2.1,()),())⟩
def bM9:bG Ya.ps->bL:=(λd=>{loops:=(bz 8 (λS=>{ι:=Int×Z,qn:=fE,μ:=λi=>M (V d.2.2.1-i.1),inv:=λi=>0<=i.1/\i.1<=V d.2.2.1/\i.2=jq (ma d.1.1 d.1.2.1 d.1.2.2.1 (V d.2.2.1))++(d.2.1++(d.2.2.1.take (M i.1)).flatMap fX),keep:=[2,3,9,31,32],slots:=λi=>[(33,.int .i64 i.1)],names:=λi=>[(160,.live (.cells 268 [.own 524288 1])),(524288,.live (.row 5 bc i.2))]}) cm)})
def vZ(a:List bv):=V a<=cu5/\ ∀(b:bv),b∈a->CT.wf j9 b
def B1:=(82:Int)::(83:Int)::(74:Int)::bI 49
def Mx(a:Int)(b:List bv)(c:Z)(d e f:Int)(g:Z):=f9 a (O b) c (jq (ma d e f (O b))++(g++List.flatMap fX (take (M a) b)))
theorem aI0:
 ∀ a b c d e f g,bJ a b (aq c) (aM d)/\aM e/\vZ f/\J (aM g)->iT a b c e f/\me g->1<=V B1/\bV B1/\bV (putB B1 a 1)/\bV (putB (putB B1 a 1) b 1)/\bV (putB (putB (putB B1 a 1) b 1) c 2)/\gb (putB (putB (putB (putB B1 a 1) b 1) c 2) (O f) 1) e/\(∃ h i,Mx h f i a b c e/\f=f/\g=g/\f=f/\O f=O f/\0=h/\J (putB (putB (putB (putB B1 a 1) b 1) c 2) (O f) 1++e=i))/\ ∀ h i,Mx h f i a b c e->eh h (O f) (h<O f) (oa (N f h)/\gb i (fX (N f h))/\ ∃ j k,Mx j f k a b c e/\bi (O f) j h/\f=f/\g=g/\f=f/\O f=O f/\aA h=j/\J (i++fX (N f h)=k)) (me g) (O i<=1000000000/\gb i (sY g i)/\i++sY g i=dH a b c e f g):= by
  delta N O ap aq aH aM bi bZ am gb bR bJ bV eh aA J bI vZ av B1 f9 me Mx aF
  rintro i r e dg w l k ⟨-,-,⟨hl,-⟩,-⟩⟨h,hk⟩
  have hn:=h.n
  have hw:=h.w
  have p0:putB (putB (putB (putB [82,83,74,49] i 1) r 1) e 2) (V l) 1=jq (ma i r e (V l)) :=
   ab4 (λq hq=>h.fits q (gU [(82,1),(83,1),(74,1),(49,1)] hq)) [82,83,74,49]
  have p1:=Tj (b:=[82,83,74,49]) (n:=i) (w:=1)
  have p2:=Tj (b:=putB [82,83,74,49] i 1) (n:=r) (w:=1)
  have p3:=Tj (b:=putB (putB [82,83,74,49] i 1) r 1) (n:=e) (w:=2)
  rw[p0]
  have l9:V (jq (ma i r e (V l)))=9:=A5 _
  simp only[fa,cy2] at *
  refine⟨Y,Y,Y,Y,Y,Y,⟨0,_,⟨Y,Y,by rw[show M (0:Int)=0 from rfl,List.take_zero,List.flatMap_nil,js]⟩,aI⟩,?_⟩
  rintro j b ⟨j0,j1,rfl⟩
  have lt:V (l.take (M j))<=64:=by rw[fF];omega
  have lf:=zT (l:=l.take (M j))
  refine bT (λq=>?_) (λq=>?_)
  .refine⟨j0,q,h.ok _ (cW j0 q),by simp only[cw,lf,Sd,l9,hw];omega,j+1,_,⟨Y,Y,rfl⟩,Y,?_⟩
   rw[nq j0 q,cI6,List.flatMap_singleton,← gI,← gI,← gI]
   (repeat refine g9 ?_)
   trivial
  .rw[gE Y] at *
   have lb:=h.lenB
   rw[show jq (ma i r e (V l))++(w++l.flatMap fX)=qo i r e w l from rfl,Wu]
   exact⟨hk,Y,Y,rfl⟩
theorem WB:aB 80 Ya.spec:=aG Tryz.func80 (C (C (C aC Zw) UF) UD) bM9 aI0
def bP4:Ct:=⟨[.val cI,.val cI,.val (.sl bc)],[.agg wX,.val (.sl bc),.val cI],λd=>[0<=d.1,d.1<=15,0<=d.2.1,d.2.1<=63,V d.2.2.1<=64],λd=>((zf d.1 d.2.1 d.2.2.1,uu d.1 d.2.1 d.2.2.1,0,()),())⟩
def tJ(a:Int):=a<=281474976710656
theorem bA5:
 ∀ a b c,bJ a b (aM c) True->am a (a<=15) (am b (b<=63) (me c))->au ( !yH a b) ((0,0,fA)=zf a b c/\fL (uu a b c)/\(1:Int)=(0:Int)) (bo 32 32 (tJ ((↑((1:Nat)):Int)*32)) (iT a b 0 (replicate 32 0) []/\me c/\ ∀ d,d=dH a b 0 (replicate 32 0) [] c->aR d/\(a,b,0,pA d)=zf a b c/\d=uu a b c/\(0:Int)=(0:Int))):= by
  delta O aq aH aM aR am bJ bo yH fA fH me aF tJ fL
  rintro i r k-⟨a,b,c,d,hk⟩
  have h:=EF ⟨a,b⟩ ⟨c,d⟩
  have hl:=h.len (k:=k)
  refine ay (λq=>by simp[a,b,c,d] at q) (λ_=>⟨aD,aD,aD,h,hk,?_⟩)
  rintro _ rfl
  exact⟨by show (V (dH i r 0 FY [] k):Int)<=_;rw[hl];decide,rfl,rfl,rfl⟩
theorem aM6:aB 41 bP4.spec:=aG Tryz.func41 (C (C (C aC Oi) (Ct.named WB)) Lh) aS bA5
def ax3:Ct:=⟨[.agg wX,.val cI,.agg j9],[.val .bool],λd=>[d.2.2.1.1=d.1.1,d.2.2.1.2.1=d.1.2.1,d.2.2.1.2.2.1=d.1.2.2.1+d.2.1],λ_=>((cs8,()),())⟩
theorem bm2:
 ∀(a b c:Int)(d:Z)(e:Int)(f:bv),bJ a b (aq c) (aM d)/\aq e/\J (CT.wf j9 f)->f.1=a/\f.2.1=b/\f.2.2.1=c+e-> ∀(g:Bool),g=cs7 (f.1=a)->fp g g (dE g) (g->g) (∀(h:Bool),h=lW g f.2.1 b->fp h h (dE h) (h->dE h) ((h->h)/\lW h f.2.2.1 (ap (c+e)))):= by
  delta ap aq aH aM aK cB bq bJ fp J dE lW aF
  rintro i r e dg j x ⟨⟨-,-,⟨e0,e1⟩,-⟩,⟨j0,j1⟩,⟨-,-,⟨n0,a⟩,-⟩,-⟩⟨h1,h2,h3⟩
  have n0 : -9223372036854775808<=x.2.2.1:=n0
  have a:x.2.2.1<=9223372036854775807:=a
  rw[aJ Y Y,h1,h2,h3]
  simp_all
theorem af6:aB 83 ax3.spec:=aG Tryz.func83 aC aS bm2
def aj2:Ct:=⟨[.agg wX,.val (.sl j9),.val (.sl bc)],[.agg wX,.val (.sl bc),.val cI],λd=>[CB d.1 d.2.1,V d.2.2.1<=64],λd=>((xr d.1 d.2.1 d.2.2.1,dH d.1.1 d.1.2.1 d.1.2.2.1 d.1.2.2.2 d.2.1 d.2.2.1,0,()),())⟩
def bm7:bG aj2.ps->bL:=(λd=>{loops:=(bz 4 (λS=>{ι:=Int,μ:=λi=>M (V d.2.1-i),inv:=λi=>0<=i/\i<=V d.2.1,keep:=[1,2,3,6,30,31],slots:=λi=>[(32,.int .i64 i)],keepN:=[64,112]}) cm)})
def FW(a b:Bool)(c d:Prop):=∀(e:Bool),e=a->cQ e (bN e) (gv e/\bw e/\au (br e b) c d)
def S8:=bp 0 0 ((0:Int)=(0:Int)) True
theorem bD4:
 ∀ a b c d e f,bJ a b (aq c) (aM d)/\vZ e/\J (aM f)->CB (a,b,c,d) e/\me f-> ∀ g,g=av (O e) 1->cQ g (bw g) (FW (br g (av 64 (O e))) (av (ap (1000 -O e)) c) ((0,0,fA)=xr (a,b,c,d) e f/\fL (dH a b c d e f)/\(5:Int)=(0:Int)) ((∃ h,aF h (O e)/\e=e/\f=f/\e=e/\O e=O e/\0=h/\bh a b c (d=d) S8)/\ ∀ h,aF h (O e)->eh h (O e) (h<O e) (oa (N e h)/\(N e h).1=a/\(N e h).2.1=b/\(N e h).2.2.1=c+h/\ ∃ i,rW i (O e) h (e=e) (f=f/\e=e/\O e=O e/\aA h=i/\bh a b c (d=d) S8)) (iT a b c d e) (me f/\ ∀ i,i=dH a b c d e f->aR i/\(a,b,ap (c+O e),pA i)=xr (a,b,c,d) e f/\i=dH a b c d e f/\(0:Int)=(0:Int)))):= by
  delta N O ap aq aH aM bN aK bh bp aR br bi bZ am cQ bw bJ gv eh aA J fA vZ dE av me FW rW aF S8 fL
  rintro i r e dg l k ⟨-,⟨hl,-⟩,-⟩⟨h,hk⟩
  have ⟨a,n1,n2,d⟩:=h
  simp only at a n1 n2 d
  have he:=a.e
  have hn:=a.n
  have hS:=a.len (k:=k)
  rw[aJ Y Y,aJ Y Y,gH Y,gH Y,gH Y]
  (repeat (intro (b_:Bool) (c:b_=_);(repeat refine⟨(by first|(simp;done)),?_⟩);subst c))
  refine lP.2 ⟨⟨0,⟨Y,Y⟩,aI⟩,?_⟩
  rintro j ⟨f,j1⟩
  refine bT (λq=>?_) (λq=>?_)
  .have ⟨f1,f2,f3⟩:=d (M j) Y
   refine⟨f,q,a.ok _ (cW f q),f1,f2,by rw[f3];omega,j+1,⟨Y,Y⟩,Y,?_⟩
   (repeat refine g9 ?_)
   trivial
  .refine⟨a,hk,?_⟩
   rintro _ rfl
   exact⟨Y,rfl,rfl,rfl⟩
theorem bF0:aB 42 aj2.spec:=aG Tryz.func42 (C (C (C (C aC aa2) af6) (Ct.named WB)) Lh) bm7 bD4
def b39:Ct:=⟨[.val (.sl bc)],[.val cI,.val cI],λ_=>[],λd=>((vd d.1,qY d.1,()),())⟩
theorem ck0:
 ∀ a,dN (aM a) (au (av (O a) 41) (0=vd a/\3=qY a) (am 8 (8<O a) (bo 0 4 (4<=O a) (nG ( !cs7 (strOfNums (cZ a 0 4)=cZ8 (List.toArray [(82:UInt8),(83:UInt8),(74:UInt8),(49:UInt8)]))) (av 64 (ap (rk a 8))) (0=vd a/\2=qY a) (ap (ap (41+ap (37*ap (rk a 8)))+32)=vd a/\0=qY a))))):= by
  delta rk O ap aM bN aK br am bw bo J nG av dN kx aF
  rintro b ⟨⟨hl,a⟩,-⟩ -
  refine ay (λq=>?_) (λq=>?_)
  .have q:=aX q
   have e:qY b=3:=by unfold qY;rw[ao Y]
   exact⟨by unfold vd;rw[e];rfl,e.symm⟩
  have q:=bg q
  have h8:0<=T b 8 cs5/\T b 8 cs5<=255:=a _ (cW (i:=8) aD Y)
  have e4:cZ b 0 4=b.take 4:=cM9
  have es:(strOfNums (b.take 4)=⟨#[82,83,74,49]⟩)↔b.take 4=am6:=⟨λh=>aa4 (λx hx=>a x (te hx)) aD (h.trans aD),λh=>by rw[h];decide⟩
  rw[e4,decide_eq_decide.2 es,aJ Y Y,aJ (n:=37*_) Y Y,aJ (n:=41+_) Y Y,aJ Y Y]
  refine⟨aD,Y,aD,aD,Y,?_⟩
  (repeat (refine cG ?_;repeat refine cH ?_))
  rw[a91]
  refine bT (λk=>?_) (λk=>?_)
  .have e:qY b=2:=by unfold qY;rw[I Y,ao k]
   exact⟨by unfold vd;rw[e];rfl,e.symm⟩
  .have e:qY b=0:=by unfold qY;rw[I Y,I k]
   exact⟨by unfold vd;rw[ao e],e.symm⟩
theorem at1:aB 95 b39.spec:=aG Tryz.func95 aC aS ck0
def ap6:Ct:=⟨[.val (.sl bc)],[.agg Xc,.val cI],λd=>[∃ i r e w l k,iT i r e w l/\d.1=dH i r e w l k],λd=>((rV d.1,0,()),())⟩
def as5:bG ap6.ps->bL:=(λd=>{loops:=(bz 5 (λS=>{ι:=Int×(List bv)×Int,qn:=ot,μ:=λi=>M (bM d.1 8 1-i.1),inv:=λi=>0<=i.1/\i.1<=bM d.1 8 1/\i.2.2=41+37*i.1/\i.2.1=wS d.1 (M i.1),keep:=[2,3,4,5,24],slots:=λi=>[(25,.int .i64 i.1)],keepN:=[48],names:=λi=>[(176,.live (.cells 292 [.dsl bc d.1,.int .i64 i.2.2,.int .i64 0])),(96,.live (.cells 208 [.int .i64 (bM d.1 4 1),.int .i64 (bM d.1 5 1),.int .i64 (bM d.1 6 2),.int .i64 (bM d.1 8 1),.own 524289 1,.own 524288 17])),(524289,.live (.row 5 bc (cZ d.1 9 41))),(524288,.live (.row 84 j9 i.2.1))]}) cm)})
def Ko(a:Z):=∃(b c d:Int) (e:Z) (f:List bv) (g:Z),iT b c d e f/\a=dH b c d e f g
def Oc(a:Int)(b:Z)(c:Int)(d:List bv):=bo a (bM b 8 1) (c=41+37*a) (d=wS b (M a))
theorem cn7:
 ∀ a,J (aM a)->Ko a->uY 4 ((1:Int)<=(7:Int)) (∀ b c d e,b=bM a 4 1/\(c,d,e)=(a,(4:Int)+(1:Int),if (0:Int)=(0:Int) then lS a 4 1 else (0:Int))->uY d ((1:Int)<=(7:Int)) (∀ f g h i,vy f c d g h i e->uX h ((1:Int)<=(2:Int)) ((2:Int)<=(7:Int)/\ ∀ j k l m,EG j g h k l m i->uY l ((1:Int)<=(7:Int)) (∀ n o p q,vy n k l o p q m->am p ((0:Int)<=(32:Int)) ((32:Int)<=(1000:Int)/\p+32<=O o/\bV o/\(∃ r s t,Oc r a t s/\bp 0 n (0=r) (uK (o=a) (p+32=t/\q=0/\b=bM a 4 1/\f=bM a 5 1/\j=bM a 6 2/\n=bM a 8 1/\fN o p (p+32)=cZ a 9 41/\J (s=[]))))/\ ∀ r s t,Oc r a t s->au (av r n) (am t ((0:Int)<=(37:Int)) ((37:Int)<=(1000:Int)/\t+37<=O a/\bV a/\(∃ u,oa u/\fN a t (t+37)=fX u)/\ ∀ u,tX
 (u=xX (fN a t (t+37))) 0 ((0,0,0,0,[],[])=rV a/\(2:Int)=(0:Int)) (bR ((V s+V [u])*128)/\ ∃ v w x,Oc v a x w/\bi (bM a 8 1) v r/\bp 0 n (aA r=v) (uK (a=a) (t+37=x/\bh 0 (bM a 4 1) (bM a 5 1) (bM a 6 2=bM a 6 2) (bM a 8 1=bM a 8 1/\cZ a 9 41=cZ a 9 41/\J (s++[u]=w))))))) ((bM a 4 1,bM a 5 1,bM a 6 2,bM a 8 1,cZ a 9 41,s)=rV a/\(0:Int)=(0:Int))))))):= by
  delta O ap aM bh bp bi bZ am bR aY bV bo fN aA vy J uX av EG Ko tX uK wQ Oc aF uY
  rintro _-⟨i,r,e,w,l,k,h,rfl⟩
  have hl:=h.len (k:=k)
  have hn:=h.n
  have hP:=h.parts k
  have g8:bM (dH i r e w l k) 8 1=(V l:Int):=(h.get k (j:=7) aD).1
  have st:∀{o n x j c:Int}{b:Z},lS (dH i r e w l k) o n=0->x=bM (dH i r e w l k) o n/\(b,j,c)=(dH i r e w l k,o+n,if (0:Int)=0 then lS (dH i r e w l k) o n else 0)->x=bM (dH i r e w l k) o n/\b=dH i r e w l k/\j=o+n/\c=0:=by
   rintro o n x j c b h0 ⟨h1,h2⟩
   rw[ao rfl,h0] at h2
   cases h2
   exact⟨h1,rfl,rfl,rfl⟩
  refine⟨aD,aD,aD,aD,?_⟩
  rintro _ _ _ _ q
  obtain⟨rfl,rfl,rfl,rfl⟩:=st (o:=4) (n:=1) (h.get k (j:=4) aD).2 q
  clear q
  refine⟨aD,aD,aD,aD,?_⟩
  rintro _ _ _ _ q
  obtain⟨rfl,rfl,rfl,rfl⟩:=st (o:=5) (n:=1) (h.get k (j:=5) aD).2 q
  clear q
  refine⟨aD,aD,aD,aD,?_⟩
  rintro _ _ _ _ q
  obtain⟨rfl,rfl,rfl,rfl⟩:=st (o:=6) (n:=2) (h.get k (j:=6) aD).2 q
  clear q
  refine⟨aD,aD,aD,aD,?_⟩
  rintro _ _ _ _ q
  obtain⟨rfl,rfl,rfl,rfl⟩:=st (o:=8) (n:=1) (h.get k (j:=7) aD).2 q
  clear q
  rw[g8]
  refine⟨aD,aD,aD,Y,Y,⟨0,[],41,⟨Y,Y,aD,rfl⟩,?_⟩,?_⟩
  .exact aI
  rintro j z o ⟨j0,j1,rfl,rfl⟩
  refine bT (λq=>?_) (λq=>?_)
  .have rs:=h.res k j0 q
   refine⟨Y,aD,aD,Y,Y,⟨_,h.ok _ (cW j0 q),rs⟩,?_⟩
   rintro y c ⟨hy,rfl⟩
   have hy:=hy
   refine lP.2 ⟨?_,j+1,_,_,⟨Y,Y,rfl,rfl⟩,Y,?_⟩
   .simp only[fq,wS,nT,cC9];omega
   rw[aQ0 j0,← hy,show 41+37*j+37=41+37*(j+1) by omega]
   (repeat refine g9 ?_)
   trivial
  .rw[show M j=V l by omega]
   refine⟨?_,rfl⟩
   have:=hP
   unfold rV at this ⊢
   rw[g8];rfl
theorem aH2:aB 96 ap6.spec:=aG Tryz.func96 (C (C (C aC (Ct.named ae4)) aY0) (Ct.named aQ2)) as5 cn7
def bY7:Ct:=⟨[.agg wX],[.val .bool],λ_=>[],λd=>((cs7 (d.1.1=0/\d.1.2.1=0/\d.1.2.2.1=0/\V d.1.2.2.2=0),()),())⟩
theorem ci6:
 ∀ a b c d,dN (bJ a b (aq c) (aM d)) (∀ e,e=aY a->cB e e (aK e) (e->e) (∀ f,f=bq e (aY b)->cB f f (aK f) (f->f) (∀ g,g=bq f (aY c)->fp g g (aK g) (g->g) (bq g (aY (O d))=cs7 (a=0/\b=0/\c=0/\V d=0))))):= by
  delta O aq aH aM aK cB bq bJ aY fp J dN aF
  rintro a b c d - -
  (repeat (refine cG ?_;repeat refine cH ?_))
  rw[Dt,Dt,Dt]
  exact decide_eq_decide.2 Y
theorem by4:aB 175 bY7.spec:=aG Tryz.func175 aC aS ci6
def Wi:Ct:=⟨[.agg wX,.agg Xc],[.val .bool],λd=>[∃ i r e w l,iT i r e w l/\d.2.1=(i,r,e,(V l:Int),w,l)/\Fv d.1 i r e w l],λ_=>((cs8,()),())⟩
def ax1:bG Wi.ps->bL:=(λd=>{loops:=(bz 6 (λS=>{ι:=Int,μ:=λi=>M (V d.2.1.2.2.2.2.2-i),inv:=λi=>0<=i/\i<=V d.2.1.2.2.2.2.2,keep:=[2,3,71,72],slots:=λi=>[(73,.int .i64 i)],keepN:=[48,64]}) cm)})
def NA(a:YJ)(b:jn):=∃(c d e:Int) (f:Z) (g:List bv),iT c d e f g/\a=(c,d,e,O g,f,g)/\Fv b c d e f g
theorem bj0:
 ∀ a b c d e f g h i j,bJ a b (aq c) (aM d)/\J (bJ e f (aq g) (aq h/\aM i/\L4 j))->NA (e,f,g,h,i,j) (a,b,c,d)->au (cs7 (a=0/\b=0/\c=0/\V d=0)) (∀ k,k=aY g->cB k k (aK k) (k->k) (∀ l,l=bq k (aY h)->(l->aK l)/\au l (bo 32 32 (tJ ((↑((1:Nat)):Int)*32)) ((l->aK l)/\(l->l)/\ ∀ m,m=bq l (cs7 (i=replicate 32 0))->fp m m (dE m) (m->m) (bq m (yH e f)))) (l=ct2/\(l->ct2)/\ ∀ m,m=bq l ct2->fp m m (dE m) (m->m) (bq m (yH e f))))) (∀ k,k=aY h->cQ k (gv k) (bw k/\ ∀ l,l=br k (db e a)->cQ l (gv l) (bw l/\ ∀ m,m=br l (db f b)->cQ m (gv m) (bw m/\ ∀ n,n=br m (db g c)->cQ n (gv n) (bN n/\bw n/\FW (br n ( !cs7 (i=d))) (av (ap (1000 -h)) c) ct2 ((∃ o,aF o (O j)/\j=j/\O
 j=O j/\0=o/\bh a b c (d=d) (bh e f g (h=h) (i=i/\J (j=j))))/\ ∀ o,aF o (O j)->au (av o (O j)) (bP o (O j) ((N j o).1=a) ((N j o).2.1=b/\(N j o).2.2.1=c+o/\ ∃ p,rW p (O j) o (j=j) (O j=O j/\aA o=p/\bh a b c (d=d) (bh e f g (h=h) (i=i/\J (j=j)))))) cs8)))))):= by
  delta N O ap aq aH aM bN aK bh aT bp cB br bi bq bZ am cQ bw bJ gv aY bo L4 aA fp J yH dE av bP fH db FW NA rW aF tJ
  rintro a b c d i r e n w l ⟨⟨-,-,⟨c0,c1⟩,-⟩,-⟩⟨i,r,e,w,l,h,hp,hk⟩
  cases hp
  obtain⟨hc,rfl,rfl,rfl⟩|⟨h1,h2,hs⟩:=hk
  .cases hc
   have h0:=h.i
   have h3:=h.r
   rw[f7 (⟨rfl,rfl,rfl,rfl⟩:(0:Int)=0/\(0:Int)=0/\(0:Int)=0/\V ([]:Z)=0),f7 h0.1,f7 h0.2,f7 h3.1,f7 h3.2]
   refine Wd.2 ?_
   (repeat (intro (b_:Bool) (hb_:b_=_);(repeat refine⟨(by first|(simp;done)|(rw[hb_];simp;done)|(rw[hb_];simp;omega)|(rw[hb_];simp;intros;omega)|(rw[hb_];simp +contextual;done)),?_⟩);subst hb_))
   refine ay (λ_=>⟨aD,aD,aD,?_⟩) (λq=>absurd q aD)
   (repeat (refine cG ?_;repeat refine cH ?_))
   decide
  .have h1:d=w:=h1
   cases h2
   subst h1
   have hw:=h.w
   have hn:=h.n
   obtain⟨-,n1,n2,hf⟩:=hs
   simp only at n1 n2 hf
   have he:=h.e
   rw[gH Y,aJ (n:=1000-(V l:Int)) Y Y,gH (show ¬ (V l:Int)=0 by omega),gH (show ¬ 1000-(V l:Int)<c by omega)]
   simp only[decide_true,Bool.not_true]
   refine lP.2 ?_
   (repeat (intro (b_:Bool) (hb_:b_=_);(repeat refine⟨(by first|(simp;done)|(rw[hb_];simp;done)|(rw[hb_];simp;omega)|(rw[hb_];simp;intros;omega)|(rw[hb_];simp +contextual;done)),?_⟩);subst hb_))
   refine lP.2 ⟨⟨0,⟨Y,Y⟩,aI⟩,?_⟩
   rintro j ⟨j0,j1⟩
   refine ay (λq=>?_) (λ_=>trivial)
   have q:=aX q
   have ⟨f1,f2,f3⟩:=hf (M j) Y
   refine⟨j0,q,f1,f2,by rw[f3];omega,j+1,⟨Y,Y⟩,Y,?_⟩
   (repeat refine g9 ?_)
   trivial
theorem aU3:aB 99 Wi.spec:=aG Tryz.func99 (C (C (C (C aC by4) Sb) Oi) af6) ax1 bj0
def cj3:Ct:=⟨[.agg wX,.val (.sl bc),.val (.sl bc)],[.agg wX,.val (.sl j9),.val cI],λd=>[∃ i r e w l,iT i r e w l/\d.2.1=dH i r e w l d.2.2.1/\Fv d.1 i r e w l,V d.2.2.1<=64],λd=>(((((rV d.2.1).1,(rV d.2.1).2.1,d.1.2.2.1+(rV d.2.1).2.2.2.1,pA d.2.1):jn),(rV d.2.1).2.2.2.2.2,0,()),())⟩
def HU(a:Z)(b:Int):=(bM a 4 1,bM a 5 1,b+bM a 8 1,pA a)
def GJ(a:Z)(b:Int):=(0,0,fA)=HU a b
def Gv(a:Z):=[]=wS a (M (bM a 8 1))
def NK(a b:Z)(c:jn):=∃(d e f:Int) (g:Z) (h:List bv),iT d e f g h/\a=dH d e f g h b/\Fv c d e f g h
theorem bq8:
 ∀ a b c d e f,bJ a b (aq c) (aM d)/\aM e/\J (aM f)->NK e f (a,b,c,d)/\me f-> ∀ g h,g=vd e/\h=qY e->au ( !aY h) (GJ e c/\Gv e/\h=0) (au (av (O e) g) (GJ e c/\Gv e/\(3:Int)=(0:Int)) (au (av g (O e)) (GJ e c/\Gv e/\(2:Int)=(0:Int)) (Ko e/\ ∀ i j k l m n,tX ((i,j,k,l,m,n)=rV e) 0 (GJ e c/\Gv e/\(2:Int)=(0:Int)) (bo (ap (g -32)) (O e) (pR e) (bo 0 (ap (g -32)) (ap (g -32)<=O e) (me f/\O (cZ e 0 (ui (g -32)))<=1000000000/\ ∀ o,o=sY f (cZ e 0 (ui (g -32)))->au ( !cs7 (fN e (ap (g -32)) (O e)=o)) (GJ e c/\Gv e/\(19:Int)=(0:Int)) (NA (i,j,k,l,m,n) (a,b,c,d)/\aR e/\(i,j,ap (c+l),pA e)=HU e c/\n=wS e (M (bM e 8 1))/\(0:Int)=(0:Int)))))))):= by
  delta O ap aq aH aM aR am bJ aY bo fN J fA GJ HU av Gv Ko tX ui me NA NK aF pR
  rintro a b c d x k-⟨⟨i,r,e,w,l,h,rfl,hk⟩,k64⟩
  have hP:=h.parts k
  have hl:=h.len (k:=k)
  have h0:=h.lnE0 k
  have hV:=(h.first k (b:=dH i r e w l k) (t:=[]) (by rw[js];exact List.prefix_rfl) h0).1
  have hn:=h.n
  have e1:cZ (dH i r e w l k) 0 (V (qo i r e w l))=qo i r e w l:=by unfold cZ dH;rw[cL8,cM9]
  have e2:cZ (dH i r e w l k) (V (qo i r e w l)) (V (dH i r e w l k))=sY k (qo i r e w l):=by unfold cZ;rw[List.take_length];unfold dH;rw[cL9]
  have lb:=h.lenB
  rintro n y ⟨hn',hy⟩
  have hn':=hn'.trans hV
  have hy:=hy.trans h0
  subst hn' hy
  refine lP.2 (ay (λq=>by have q:=aX q;omega) (λ_=>ay (λq=>by have q:=aX q;omega) (λ_=>⟨⟨i,r,e,w,l,k,h,rfl⟩,?_⟩)))
  rintro i' r' e' n' w' l' y ⟨hp,hy⟩
  have hy:=hy
  subst hy
  have hp:=hp.trans hP
  cases hp
  rw[aJ (n:=(V (dH i r e w l k):Int)-32) Y Y,show M ((V (dH i r e w l k):Int)-32)=V (qo i r e w l) by omega,e1,cv6,e2]
  refine lP.2 ⟨Y,Y,Y,Y,Y,Y,k64,Y,?_⟩
  rintro _ rfl
  rw[f7 rfl]
  unfold rV at hP
  have g1:=dL (λx=>x.1) hP
  have g2:=dL (λx=>x.2.1) hP
  have g4:=dL (λx=>x.2.2.2.1) hP
  have g6:=dL (λx=>x.2.2.2.2.2) hP
  simp only at g1 g2 g4 g6
  rw[g4] at g6 ⊢
  rw[g1,g2,g6]
  refine lP.2 ⟨⟨i,r,e,w,l,h,rfl,hk⟩,Y,?_,rfl,rfl⟩
  have:c+(V l:Int)<=2000/\0<=c:=by
   obtain⟨hc,-⟩|⟨-,h2,hs⟩:=hk
   .cases hc;omega
   .cases h2;have:=hs.n2;have:=h.e;simp only at *;omega
  rw[aJ (n:=c+_) Y Y]
theorem aX5:aB 49 cj3.spec:=aG Tryz.func49 (C (C (C (C (C (C aC (Ct.named at1)) (Ct.named aH2)) (Ct.named UD)) Sb) aU3) Lh) aS bq8
def first(f:Nat->Int):Nat->Int
 | 0=>0
 | n+1=>if first f n≠0 then first f n else f n
theorem NL{f}(h0:0<=i)(h:first f (M i)=0)(hf:f (M i)=0):first f (M (i+1))=0:=by
 rw[show M (i+1)=M i+1 by omega,first,I (by simp[h]),hf]
theorem SW{f a}(h:first f a≠0):∀ k,first f (a+k)=first f a
 | 0=>rfl
 | k+1=>by rw[← jv,first,ao (by rw[SW h k];exact h),SW h k]
theorem TT{f}{n:Nat}(h0:0<=i)(h1:i<n)(h:first f (M i)=0)(hf:f (M i)≠0):f (M i)=first f n:=by
 have e:first f (M i+1)=f (M i):=by rw[first,I (by simp[h])]
 have k:=SW (a:=M i+1) (by rw[e];exact hf) (n-(M i+1))
 rw[show M i+1+(n-(M i+1))=n by omega] at k
 rw[k,e]
theorem B2{f}:∀{n:Nat},first f n=0→∀ i,i<n->f i=0
 | 0,_,i,hi=>Y
 | n+1,h,i,hi=>by
  by_cases k:first f n=0
  .rw[first,I (by simp[k])] at h;by_cases e:i=n
   .rw[e];exact h
   .exact B2 k i Y
  .rw[first,ao k] at h;exact absurd h k
theorem Nb{f}:∀{n:Nat},(∀ i,i<n->f i=0)->first f n=0
 | 0,_=>rfl
 | n+1,h=>by rw[first,I (by rw[Nb λi hi=>h i Y];simp),h n Y]
def lR(x:ar)(i:Nat):Int :=
 if ¬ gm (T (aV x) i cs5).1∨pT x (T (aV x) i cs5).1<i then 10
 else if (T (aV x) i cs5).2<0∨f8 x (T (aV x) i cs5).2<i then 11 else 0
def uo(x:ar):Prop:=kX x≠0/\(¬ gm (kX x)∨0<=pT x (kX x))
instance (x:ar):Decidable (uo x):=by unfold uo;infer_instance
def tw(x:ar):Prop:=ah5 x<0∨(pI x<1∨4<pI x)∨(pI x=3/\kX x=0)∨(wj x≠0∧¬ gm (wj x))∨(pI x=4/\wj x=0)∨(mD x<1∨255<mD x)∨V (aV x)=0
instance (x:ar):Decidable (tw x):=by unfold tw;infer_instance
def iS(x:ar):Int :=
 if 32<V (aV x) then 5
 else if first (lR x) (V (aV x))≠0 then first (lR x) (V (aV x))
 else if uo x then 10
 else if tw x then 13
 else if rN x≠0 then rN x
 else if jJ (nI x)≠0 then jJ (nI x)
 else jH (ce x) (dc x)
theorem Gj{c:Bool}{y n m:Prop}(hy:c=cs8->y)(hm:c=ct2->m):au c (au c y n) m:=by
 cases c with
 | true=>exact hy rfl
 | false=>exact hm rfl
variable{x:ar}
theorem Z9(h:V (aV x)<=32)(h0:0<=i)(h1:i<V (aV x))(hf:first (lR x) (M i)=0)(hb:lR x (M i)≠0):lR x (M i)=iS x:=by
 have e:=TT h0 h1 hf hb
 unfold iS
 rw[I Y,← e,ao hb]
theorem bT6(h:V (aV x)<=32)(hf:first (lR x) (V (aV x))=0)(hl:uo x):10=iS x:=by
 unfold iS
 rw[I Y,I (by simp[hf]),ao hl]
theorem a15(h:V (aV x)<=32)(hf:first (lR x) (V (aV x))=0)(hl:¬ uo x)(hb:tw x):13=iS x:=by
 unfold iS
 rw[I Y,I (by simp[hf]),I hl,ao hb]
theorem ae3(h:V (aV x)<=32)(hf:first (lR x) (V (aV x))=0)(hl:¬ uo x)(hb:¬ tw x):iS x=if rN x≠0 then rN x else if jJ (nI x)≠0 then jJ (nI x) else jH (ce x) (dc x):=by
 unfold iS
 rw[I Y,I (by simp[hf]),I hl,I hb]
theorem bx9(h0:0<=i)(h:¬ gm (T (aV x) (M i) cs5).1∨pT x (T (aV x) (M i) cs5).1<i):lR x (M i)=10:=by
 unfold lR
 rw[show ((M i:Nat):Int)=i by omega,ao h]
theorem bJ3(h0:0<=i)(h:¬ (¬ gm (T (aV x) (M i) cs5).1∨pT x (T (aV x) (M i) cs5).1<i))(k:(T (aV x) (M i) cs5).2<0∨f8 x (T (aV x) (M i) cs5).2<i):lR x (M i)=11:=by
 unfold lR
 rw[show ((M i:Nat):Int)=i by omega,I h,ao k]
theorem b48(h0:0<=i)(h:¬ (¬ gm (T (aV x) (M i) cs5).1∨pT x (T (aV x) (M i) cs5).1<i))(k:¬ ((T (aV x) (M i) cs5).2<0∨f8 x (T (aV x) (M i) cs5).2<i)):lR x (M i)=0:=by
 unfold lR
 rw[show ((M i:Nat):Int)=i by omega,I h,I k]
def Wl:Ct:=⟨[.agg eM],[.val cI],λd=>[],λd=>((iS d.1,()),())⟩
def aW3:bG Wl.ps->bL:=(λd=>{loops:=(bz 4 (λS=>{ι:=Int,μ:=λi=>M (V (aV d.1)-i),inv:=λi=>0<=i/\i<=V (aV d.1)/\first (lR d.1) (M i)=0,keep:=[1,12,13],slots:=λi=>[(14,.int .i64 i)],keepN:=[32]}) cm),cuts:=(bz 21 (λS=>{ι:=Unit,inv:=λi=>V (aV d.1)<=32/\first (lR d.1) (V (aV d.1))=0∧¬ uo d.1∧¬ tw d.1,keep:=[1],slots:=λi=>[],keepN:=[32]}) cm),unr:=λn=>match n with|22=>4|_=>0})
def MC(a:ar):=a.1=a.1/\yS a (yJ a) (J (t9 a))
def O7(a:ar):=V (aV a)<=32/\first (lR a) (V (aV a))=0/\ ¬uo a/\ ¬tw a
def A9(a:ar):=∃(b:Unit),O7 a/\MC a
def yM(a:ar):=rN a::jJ a.2.2.2.2.2.2.2.2.2.2.1::bI (jH a.2.2.2.2.1 (dc a))
def Np(a:Int)(b:ar):=am a (a<=O (aV b)) (first (lR b) (M a)=0)
theorem bM8:
 ∀ a,dN (CT.wf eM a) (au (av 32 (O a.1)) (5=iS a) ((∃ b,Np b a/\a.1=a.1/\O a.1=O a.1/\0=b/\MC a)/\ ∀ b,Np b a->au (av b (O a.1)) (am b (b<O a.1) (∀ c,c=( !cs7 (gm (N a.1 b).1))->bN c/\gv c/\gv c/\bw c/\au (br c (av (pT a (N a.1 b).1) b)) (10=iS a) (∀ d,d=da (N a.1 b).2->bN d/\gv d/\gv d/\bw d/\au (br d (av (f8 a (N a.1 b).2) b)) (11=iS a) (∃ e,Np e a/\bi (O (aV a)) e b/\a.1=a.1/\O a.1=O a.1/\aA b=e/\MC a)))) (∀ c,c=( !aY a.2.1)->fp c c (aK c) (c->aK c) (∀ d,d=( !cs7 (gm a.2.1))->cB (c&& !d) (c&& !d) (dE (c&& !d)) (c&& !d->aK (c&& !d)) (wC c d/\(c->c)/\au (bq c (br d (fH (pT a a.2.1)))) (10=iS a) (au (da a.2.2.1) (au (da a.2.2.1) (13=iS a) (A9 a)) (vO (av a.2.2.2.2.2.1 1)
 (av 4 a.2.2.2.2.2.1) (13=iS a) (A9 a) (∀ e,e=cs7 (a.2.2.2.2.2.1=3)->wt e e (bq e (aY a.2.1)) (au (bq e (aY a.2.1)) (13=iS a) (A9 a)) (∀ f,f=( !aY a.2.2.2.2.2.2.1)->fp f f (aK f) (f->f) (au (bq f ( !cs7 (gm a.2.2.2.2.2.2.1))) (au (bq f ( !cs7 (gm a.2.2.2.2.2.2.1))) (13=iS a) (A9 a)) (∀ g,g=cs7 (a.2.2.2.2.2.1=4)->wt g g (bq g (aY a.2.2.2.2.2.2.1)) (au (bq g (aY a.2.2.2.2.2.2.1)) (13=iS a) (A9 a)) (vO (av a.2.2.2.2.2.2.2.2.2.2.2.2.2.1 1) (av 255 a.2.2.2.2.2.2.2.2.2.2.2.2.2.1) (13=iS a) (A9 a) (au (aY (O a.1)) (13=iS a) (A9 a))))))))/\ ∀(e:Unit),O7 a->sr (aV a)/\gP 0 (O (yM a)) ( !aY (N (yM a) 0)) (N (yM a) 0=iS a) (gP (aA 0) (O (yM a)) ( !aY (N (yM a) (aA 0))) (N (yM a) (aA 0)=iS a) (gP (aA (aA 0)) (O
 (yM a)) ( !aY (N (yM a) (aA (aA 0)))) (N (yM a) (aA (aA 0))=iS a) (0=iS a))))))))):= by
  delta N O ap D0 bN aK bh bp yS cB br bi bq bZ A9 MC am cQ yJ t9 bw gv yM aY O7 aA fp vO J bI wC dE da av wt dN fH Np sr gP
  rintro d - -
  have hd:d.1=aV d:=rfl
  rw[hd]
  refine ay (λh=>?_) (λh=>?_)
  .unfold iS;rw[ao (by have:=aX h;omega)]
  have h32:V (aV d)<=32:=by have:=bg h;omega
  clear h
  refine⟨⟨0,⟨Y,Y,rfl⟩,aI⟩,?_⟩
  rintro x ⟨x0,x1,hf⟩
  refine ay (λhx=>?_) (λhx=>?_)
  .have hx:=aX hx
   refine⟨x0,hx,?_⟩
   (repeat (refine cG ?_;repeat refine cH ?_))
   refine rI (λho=>?_) (λh1 h2=>?_)
   .have e:=bx9 (x:=d) x0 (ho.imp lz aX)
    rw[← Z9 h32 x0 hx hf (by rw[e];decide),e]
   have hn:¬ (¬ gm (T (aV d) (M x) cs5).1∨pT d (T (aV d) (M x) cs5).1<x):=by
    rintro (k|k)
    .exact k (lq h1)
    .exact bg h2 k
   (repeat (refine cG ?_;repeat refine cH ?_))
   refine rI (λho=>?_) (λh1 h2=>?_)
   .have e:=bJ3 (x:=d) x0 hn (ho.imp aX aX)
    rw[← Z9 h32 x0 hx hf (by rw[e];decide),e]
   .have e:=b48 (x:=d) x0 hn (by
     rintro (k|k)
     .exact bg h1 k
     .exact bg h2 k)
    exact⟨x+1,⟨Y,Y,NL x0 hf e⟩,Y,aI⟩
  have hx:=bg hx
  rw[show M x=V (aV d) by omega] at hf
  rw[show d.2.1=kX d from rfl]
  intro b hb
  refine⟨aw,aw,aw,aw,?_⟩
  intro b1 hb1
  (repeat refine⟨(by cases b <;> cases b1 <;> simp),?_⟩)
  have hL:(bif b then bif b1 then cs8 else cs7 (0<=pT d (kX d)) else ct2)=cs7 (uo d):=by
   rw[hb,hb1]
   unfold uo
   by_cases k1:kX d=0 <;> by_cases k2:gm (kX d) <;> by_cases k3:0<=pT d (kX d) <;> simp[k1,k2,k3]
  rw[hL]
  refine ay (λh=>bT6 h32 hf (aX h)) (λhl=>?_)
  have hl:=bg hl
  clear hL hb hb1
  refine⟨?_,?_⟩
  .have bad:=λh=>a15 (x:=d) h32 hf hl h
   refine Gj (λh=>bad (.inl (aX h))) (λc1=>?_)
   (repeat (refine cG ?_;repeat refine cH ?_))
   rw[Ok]
   refine Gj (λh=>bad (.inr (.inl (aX h)))) (λc2=>?_)
   (repeat (refine cG ?_;repeat refine cH ?_))
   rw[Dt]
   refine Gj (λh=>bad (.inr (.inr (.inl (aX h))))) (λc3=>?_)
   (repeat (refine cG ?_;repeat refine cH ?_))
   rw[a81]
   refine Gj (λh=>bad (.inr (.inr (.inr (.inl (aX h)))))) (λc4=>?_)
   (repeat (refine cG ?_;repeat refine cH ?_))
   rw[Dt]
   refine Gj (λh=>bad (.inr (.inr (.inr (.inr (.inl (aX h))))))) (λc5=>?_)
   (repeat (refine cG ?_;repeat refine cH ?_))
   rw[Ok]
   refine Gj (λh=>bad (.inr (.inr (.inr (.inr (.inr (.inl (aX h)))))))) (λc6=>?_)
   refine ay (λh=>bad (.inr (.inr (.inr (.inr (.inr (.inr ?_))))))) (λc7=>?_)
   .have:=aX h;omega
   refine⟨(),⟨h32,hf,hl,?_⟩,aI⟩
   rintro (k|k|k|k|k|k|k)
   .exact bg c1 k
   .exact bg c2 k
   .exact bg c3 k
   .exact bg c4 k
   .exact bg c5 k
   .exact bg c6 k
   .have:=bg c7;omega
  rintro-⟨-,-,-,hb⟩
  have e:=ae3 h32 hf hl hb
  rw[show ct1 ct0 (ct1 ct0 ((0:Int)+1)+1)=2 by decide,show ct1 ct0 ((0:Int)+1)=1 by decide,e]
  refine⟨Y,Y,aw,ay (λh=>?_) (λh=>?_)⟩
  .rw[ao (show rN d≠0 from lz h)];rfl
  rw[I (λk=>k (lq h))]
  refine⟨Y,aw,ay (λh=>?_) (λh=>?_)⟩
  .rw[ao (show jJ (nI d)≠0 from lz h)];rfl
  rw[I (λk=>k (lq h))]
  refine⟨Y,aw,ay (λh=>?_) (λh=>?_)⟩
  .rfl
  .exact (lq h).symm
theorem ax2:aB 188 Wl.spec:=aG Tryz.func188 (C (C (C (C (C (C (C aC av5) ag2) JD) bT0) ad5) UR) as3) aW3 bM8
abbrev tg:CT := .pair cI (.pair cI (.pair cI (.pair cI (.pair cI cI))))
abbrev oG:CT := .pair cI (.pair cI (.pair .bool fD))
abbrev mM:CT := .pair (.sl eM) (.pair (.sl tg) (.sl oG))
abbrev cz:Type:=Int×Int×Int×Int×Int×Int
abbrev cJ:Type:=Int×Int×Bool×Rt
abbrev Net:Type:=List ar×List cz×List cJ
abbrev bj:Type:=Z×Int
abbrev tD:Type:=Int×Int
def lA(l:cz):Int:=l.1
def lB(l:cz):Int:=l.2.1
def rJ(l:cz):Int:=l.2.2.1
def nE(l:cz):Int:=l.2.2.2.1
def yg(l:cz):Int:=l.2.2.2.2.1
def A8(l:cz):Int:=l.2.2.2.2.2
variable{α:Type}{j:Nat}
theorem qN [Inhabited α] {l} {i} {a:α} (h:i≠j):T (l.set i a) j cs5=T l j default:=by
 rw[cK,cK,List.getElem?_set_ne h]
def Hs(c:bj):Int:=T c.1 (M c.2) cs5
def qm(c:bj)(n:Int):Int×bj:=if (V c.1:Int)<=c.2∨n<1 then (0,c) else ((Hs c).tmod n,(c.1,c.2+1))
def az(c:bj)(n:Int):Int×bj :=
 if (V c.1:Int)<=c.2∨n<1 then (0,c)
 else if 256<n then ((256*Hs c+(qm (c.1,c.2+1) 256).1).tmod n,(qm (c.1,c.2+1) 256).2)
 else ((Hs c).tmod n,(c.1,c.2+1))
structure bf (c:bj):Prop where
 at':bX c
 b:∀ x∈c.1,0<=x/\x<=255
variable{c:bj}
theorem bf.code(h:bf c)(hb:¬ (V c.1:Int)<=c.2):0<=Hs c/\Hs c<=255:=h.b _ (cW h.at'.1 Y)
theorem Q0(h:bf c)(n):bf (qm c n).2/\0<=(qm c n).1/\((qm c n).1<n∨(qm c n).1=0):=by
 unfold qm
 split
 .exact⟨h,aw,.inr rfl⟩
 next hb=>have hc:=h.code Y;have ha:=h.at';exact⟨⟨⟨by have:=ha.1;show 0<=c.2+1;omega,by show c.2+1<=(V c.1:Int);omega⟩,h.b⟩,xz hc.1,.inl (xV hc.1 Y)⟩
theorem dZ(h:bf c)(n):bf (az c n).2/\0<=(az c n).1/\((az c n).1<n∨(az c n).1=0):=by
 unfold az
 split
 .exact⟨h,aw,.inr rfl⟩
 next hb=>
  have hc:=h.code Y;have ha:=h.at';have h1:bf (c.1,c.2+1):=⟨⟨by have:=ha.1;show 0<=c.2+1;omega,by show c.2+1<=(V c.1:Int);omega⟩,h.b⟩
  split
  .have k:=Q0 h1 256;exact⟨k.1,xz Y,.inl (xV Y Y)⟩
  .exact⟨h1,xz hc.1,.inl (xV hc.1 Y)⟩
theorem gh(h:bf c){n}(hn:0<n):0<=(az c n).1/\(az c n).1<n:=by
 have:=dZ h n;omega
def yE(i:Int)(host:Bool)(f sd:Int):ar:=([],0,1+i/3,host,[],1,0,0,0,0,(0,0),ct2,ct2,f,sd)
abbrev bY:Type:=Net×bj
def mZ(s:bY)(host:Bool):bY :=
 ((s.1.1++[yE (V s.1.1) host (T ([64,255,128]:Z) (az s.2 3).1.toNat cs5) (az (az s.2 3).2 256).1],s.1.2),(az (az s.2 3).2 256).2)
def nA(ns:List ar)(x:Int)(p:tD):List ar:=ns.set (M x) ((T ns (M x) cs5).1++[p],(T ns (M x) cs5).2)
def iE(l:Int):Int:=167837696+4*l
def lp(s:bY)(a b:Int):bY :=
 ((nA (nA s.1.1 a (iE (V s.1.2.1)+1,V s.1.2.1)) b (iE (V s.1.2.1)+2,V s.1.2.1),
   s.1.2.1++[(a,b,1+(az s.2 20).1,0,0,(az (az s.2 20).2 256).1)],s.1.2.2),(az (az s.2 20).2 256).2)
def nZ(k:Int):Z->Z
 | []=>[k]
 | x::r=>if k<x then k::x::r else x::nZ k r
theorem WJ{k}:∀{l:Z},(∀ x∈l,¬ k<x)->nZ k l=l++[k]
 | [],_=>rfl
 | x::r,h=>by rw[nZ,I (h x dU),WJ λy hy=>h y (eZ _ hy)];rfl
theorem Yq{k m}:∀{l:Z},(∃ x∈l,k<x)->nZ k (l++m)=nZ k l++m
 | [],h=>by obtain⟨x,hx,-⟩:=h;cases hx
 | y::r,h=>by
  rw[kQ,nZ,nZ];by_cases hy:k<y
  .rw[ao hy,ao hy];rfl
  .rw[I hy,I hy,Yq (l:=r)];rfl;have ⟨x,hx,hk⟩:=h;obtain rfl|hx:=dm.1 hx
   .exact absurd hk hy
   .exact⟨x,hx,hk⟩
theorem WO{k x}:∀{l:Z},(∀ y∈l,¬ k<y)->k<x->nZ k (l++[x])=l++[k]++[x]
 | [],_,h=>by rw[x9,nZ,ao h];rfl
 | y::r,h,hk=>by rw[kQ,nZ,I (h y dU),WO (λz hz=>h z (eZ _ hz)) hk];rfl
theorem Ss(k):∀ l,V (nZ k l)=V l+1
 | []=>rfl
 | x::r=>by rw[nZ];split <;> simp[Ss k r]
def zw(l:List Rt)(p:fM):Nat:=l.findIdx λr=>cs7 (r.1=p)
def El(x:ar)(l:List Rt):ar:=(x.1,x.2.1,x.2.2.1,x.2.2.2.1,l,x.2.2.2.2.2)
def BP(l:List Rt)(p:fM)(k way:Int):List Rt :=
 if zw l p<V l then
  if k∈(T l (zw l p) cs5).2.1 then l else gC l (p,nZ k (T l (zw l p) cs5).2.1,(T l (zw l p) cs5).2.2)
 else gC l (p,[k],way)
def xC(ns:List ar)(n:Int)(p:fM)(k way:Int):List ar:=ns.set (M n) (El (T ns (M n) cs5) (BP (ce (T ns (M n) cs5)) p k way))
def Al(d:Z)(l:cz):Z :=
 (d.set (M (lA l)) (min (T d (M (lA l)) cs5) (T d (M (lB l)) cs5+1))).set (M (lB l)) (min (T d (M (lB l)) cs5) (T d (M (lA l)) cs5+1))
def mq(nn:Nat)(ls:List cz)(to:Int):Z:=(range nn).foldl (λd _=>ls.foldl Al d) ((replicate nn (1000:Int)).set (M to) 0)
def wY(d:Z)(to:Int)(p:fM)(plain:Bool)(k way:Int)(ns:List ar)(a b:Int):List ar :=
 if T d (M a) cs5≠T d (M b) cs5+1∨(b≠to/\qy (T ns (M b) cs5)=cs8) then ns
 else if plain=cs8/\tP (ce (T ns (M a) cs5)) p=cs8 then ns else xC ns a p k way
def stepK(ls:List cz)(d:Z)(to:Int)(p:fM)(plain:Bool)(way:Int)(ns:List ar)(k:Nat):List ar :=
 wY d to p plain k way (wY d to p plain k way ns (lA (T ls k cs5)) (lB (T ls k cs5))) (lB (T ls k cs5)) (lA (T ls k cs5))
def stepP(ls:List cz)(d:Z)(to:Int)(plain:Bool)(way:Int)(ns:List ar)(q:tD):List ar :=
 (range (V ls)).foldl (stepK ls d to (q.1,32) plain way) ns
def sy(c:bj):Int×bj:=if 1+(az c 3).1=3 then (if 0<(az (az c 3).2 3).1 then 1 else 3,(az (az c 3).2 3).2) else (1+(az c 3).1,(az c 3).2)
def stepT(ls:List cz)(plain:Bool)(s:List ar×bj)(to:Nat):List ar×bj :=
 ((aV (s.1.getD to cs5)).foldl (stepP ls (mq (V s.1) ls to) to plain (sy s.2).1) s.1,(sy s.2).2)
def HT(s:bY)(plain:Bool):bY :=
 let r:=(range (V s.1.1)).foldl (stepT s.1.2.1 plain) (s.1.1,s.2)
 ((r.1,s.1.2),r.2)
def bx0(x:ar):ar:=(x.1,x.2.1,x.2.2.1,x.2.2.2.1,x.2.2.2.2.1,x.2.2.2.2.2.1,x.2.2.2.2.2.2.1,x.2.2.2.2.2.2.2.1,x.2.2.2.2.2.2.2.2.1,x.2.2.2.2.2.2.2.2.2.1,x.2.2.2.2.2.2.2.2.2.2.1,cs8,x.2.2.2.2.2.2.2.2.2.2.2.2)
def bN8(x:ar)(b:aq4):ar:=(x.1,x.2.1,x.2.2.1,x.2.2.2.1,x.2.2.2.2.1,x.2.2.2.2.2.1,x.2.2.2.2.2.2.1,x.2.2.2.2.2.2.2.1,x.2.2.2.2.2.2.2.2.1,x.2.2.2.2.2.2.2.2.2.1,b,x.2.2.2.2.2.2.2.2.2.2.2)
def KG(x:ar)(b:Bool):ar:=(x.1,x.2.1,x.2.2.1,x.2.2.2.1,x.2.2.2.2.1,x.2.2.2.2.2.1,x.2.2.2.2.2.2.1,x.2.2.2.2.2.2.2.1,x.2.2.2.2.2.2.2.2.1,x.2.2.2.2.2.2.2.2.2.1,x.2.2.2.2.2.2.2.2.2.2.1,x.2.2.2.2.2.2.2.2.2.2.2.1,b,x.2.2.2.2.2.2.2.2.2.2.2.2.2)
def b68(x:ar)(s:Int):ar:=(x.1,x.2.1,x.2.2.1,x.2.2.2.1,x.2.2.2.2.1,s,x.2.2.2.2.2.2)
def aK0(x:ar)(a s:Int):ar:=(x.1,a,x.2.2.1,x.2.2.2.1,x.2.2.2.2.1,s,x.2.2.2.2.2.2)
def ca4(x:ar)(a s:Int):ar:=(x.1,x.2.1,x.2.2.1,x.2.2.2.1,x.2.2.2.2.1,s,a,x.2.2.2.2.2.2.2)
def ck3(x:ar)(i b s:Int):ar:=(x.1,x.2.1,x.2.2.1,x.2.2.2.1,x.2.2.2.2.1,x.2.2.2.2.2.1,x.2.2.2.2.2.2.1,i,b,s,x.2.2.2.2.2.2.2.2.2.2)
def jL(x:ar)(i:Int)(c:bj):ar×bj :=
 let a:=az c 10
 if a.1=1 then (bx0 x,a.2)
 else if a.1=2 then (bN8 x (1+(az a.2 3).1,1+(az (az a.2 3).2 200).1),(az (az a.2 3).2 200).2)
 else if a.1=3 then (KG x (!qy x&&cs7 (i%2=1)),a.2)
 else if a.1=4 then (b68 x 2,a.2)
 else if a.1=5 then (aK0 x (167903232+i) 3,a.2)
 else if a.1=6 then (ca4 x (167837696+(az a.2 40).1) 4,(az a.2 40).2)
 else (x,a.2)
def Dp(x:ar)(i:Int)(c:bj):ar×bj :=
 let y:=jL x i c
 (ck3 y.1 (az y.2 6).1 (az (az y.2 6).2 65536).1 (az (az (az y.2 6).2 65536).2 1000).1,(az (az (az y.2 6).2 65536).2 1000).2)
def Dz(s:List ar×bj)(i:Nat):List ar×bj:=(s.1.set i (Dp (T s.1 i cs5) i s.2).1,(Dp (T s.1 i cs5) i s.2).2)
def odLink(l:cz)(c:bj):cz×bj :=
 let a:=az c 6
 if a.1=1 then ((l.1,l.2.1,l.2.2.1,(az a.2 10).1,l.2.2.2.2),(az a.2 10).2)
 else if a.1=2 then ((l.1,l.2.1,l.2.2.1,l.2.2.2.1,T ([65536,20000,3]:Z) (az a.2 3).1.toNat cs5,l.2.2.2.2.2),(az a.2 3).2)
 else (l,a.2)
def xF(ns:List ar)(l:cz):List ar :=
 if g7 (T ns (M (lA l)) cs5)=cs8/\g7 (T ns (M (lB l)) cs5)=cs8 then ns.set (M (lB l)) (KG (T ns (M (lB l)) cs5) ct2) else ns
def yv(s:(List ar×List cz)×bj)(i:Nat):(List ar×List cz)×bj :=
 let r:=odLink (T s.1.2 i cs5) s.2
 ((xF s.1.1 r.1,s.1.2.set i r.1),r.2)
def uB(ns:List ar)(s:List cJ×Int×bj):List cJ×Int×bj :=
 let a:=az s.2.2 60
 let at':=s.2.1+a.1
 let w:=az a.2 (V ns)
 let x:=T ns (M w.1) cs5
 if V (ce x)=0 then (s.1,at',w.2)
 else
  let r:=az w.2 (V (ce x))
  let p:=az r.2 (V (aV x))
  let z:=az p.2 4
  let rt:=T (ce x) (M r.1) cs5
  (s.1++[(at',w.1,ct2,(rt.1,if z.1=3 then [] else [(T (aV x) (M p.1) cs5).2],rt.2.2))],at',z.2)
def tK(s:bY):bY :=
 let n:=(range (V s.1.1)).foldl Dz (s.1.1,s.2)
 let l:=(range (V s.1.2.1)).foldl yv ((n.1,s.1.2.1),n.2)
 let k:=az l.2 4
 let h:=(range (M k.1)).foldl (λs _=>uB l.1.1 s) ([],0,k.2)
 ((l.1.1,l.1.2,h.1),h.2.2)
def wN(s:bY)(k:Nat):bY:=lp (mZ s ct2) k (k+1)
def yL(n:Int)(s:bY):bY :=
 let a:=az s.2 n
 let b:=az a.2 n
 if a.1=b.1 then (s.1,b.2) else lp (s.1,b.2) (1+a.1) (1+b.1)
def rP(c:bj):Int×bY :=
 let a:=mZ (([],[],[]),c) cs8
 let m:=az a.2 5
 let s:=(range (M (1+m.1))).foldl wN (a.1,m.2)
 (1+m.1,lp (mZ s cs8) (1+m.1) (1+m.1+1))
def Fy(plain:Bool)(n:Int)(s:bY):bY :=
 let k:=az s.2 4
 let s1:=if 1<n/\plain=ct2 then (range (M k.1)).foldl (λs _=>yL n s) (s.1,k.2) else (s.1,k.2)
 if plain=cs8/\2<n then
  if (az s1.2 2).1=1 then lp (s1.1,(az (az s1.2 2).2 (n-1)).2) (1+(az (az s1.2 2).2 (n-1)).1) n else (s1.1,(az s1.2 2).2)
 else s1
def Iy(plain:Bool)(c:bj):bY :=
 let s:=HT (Fy plain (rP c).1 (rP c).2) plain
 if plain then s else tK s
def vl(plain:Bool)(c:bj):Net:=(Iy plain c).1
def DE(plain:Bool)(c:bj):bj:=(Iy plain c).2
def gw(x:ar):Z:=vq x++(if kX x=0 then [] else [kX x])
def bW0:Ct:=⟨[.val cI,.val cI,.val cI],[.val .bool],λ_=>[],λd=>((cs7 (d.2.1<=d.1/\d.1<=d.2.2.1),()),())⟩
theorem bS7:
 ∀ a b c,bJ a b (aq c) True->True-> ∀ d,d=cs7 (b<=a)->(d->dE d)/\(d->d)/\bq d (cs7 (a<=c))=cs7 (b<=a/\a<=c):= by
  delta aq aH aK bq bJ J dE
  simp_all
theorem TC:aB 187 bW0.spec:=aG Tryz.func187 aC aS bS7
def ao8:Ct:=⟨[.agg eM],[.own 72 dB],λd=>[V (aV d.1)<=100000],λd=>((gw d.1,()),())⟩
def bV3:bG ao8.ps->bL:=(λd=>{loops:=(bz 3 (λS=>{ι:=Int×Z,qn:=fE,μ:=λi=>M (V (aV d.1)-i.1),inv:=λi=>0<=i.1/\i.1<=V (aV d.1)/\i.2=(vq d.1).take (M i.1),keep:=[1,7,8],slots:=λi=>[(3,.own 524288 1),(9,.int .i64 i.1)],keepN:=[32],names:=λi=>[(524288,.live (.row 72 dB i.2))]}) cm)})
theorem aQ9:
 ∀ a,J (CT.wf eM a)->sr (aV a)->(∃ b c,f9 b (O (aV a)) c (take (M b) (vq a))/\a.1=a.1/\O a.1=O a.1/\0=b/\AM a (t9 a) (J (c=[])))/\ ∀ b c,f9 b (O (aV a)) c (take (M b) (vq a))->au (av b (O a.1)) (bP b (O a.1) (bR ((V c+V (bI (N a.1 b).1))*4)) (∃ d e,f9 d (O (aV a)) e (take (M d) (vq a))/\Hv a d b (c++bI (N a.1 b).1) e)) (au ( !aY a.2.1) (bR ((V c+V (bI a.2.1))*4)/\c++bI a.2.1=gw a) (c=gw a)):= by
  delta N O ap D0 bh bp yS bi bZ am yJ t9 bR aY aA J bI av bP f9 AM Hv sr
  rintro d-hl
  have a:V (vq d)=V (aV d):=by simp[vq]
  have hd:d.1=aV d:=rfl
  have hz:d.2.1=kX d:=rfl
  rw[hd,hz]
  refine⟨⟨0,[],⟨Y,Y,rfl⟩,aI⟩,?_⟩
  rintro j l ⟨c,j1,rfl⟩
  refine bT (λb=>?_) (λb=>?_)
  .refine⟨c,b,by simp;omega,j+1,_,⟨Y,Y,rfl⟩,Y,?_⟩
   (repeat refine g9 ?_)
   rw[KW c (by rw[a];exact b)]
   unfold vq
   simp_all
  .rw[gE Y]
   unfold gw
   refine ay (λh=>?_) (λh=>?_)
   .grind
   .simp_all
theorem bx1:aB 191 ao8.spec:=aG Tryz.func191 aC bV3 aQ9
def uS(i:Int)(l:Z)(m:cq7):List aq4:=l.foldl (λm a=>m6 a i m) m
def kY(ns:List ar)(k:Nat):List aq4:=(range k).foldl (λm (i:Nat)=>uS (i:Int) (gw (T ns i cs5)) m) []
def ag4(ns:List ar):Bool:=(range (V ns)).any λ(i:Nat)=>(gw (T ns i cs5)).any λa=>jm a (kY ns i)
def y9(n:Net):Int:=if ag4 n.1 then 10 else 0
theorem X8{a b v}:∀{m:cq7},jm a (m6 b v m)=(cs7 (a=b)||jm a m)
 | []=>by simp only[m6,jm];cases cs7 (a=b) <;> rfl
 | p::m=>by
  simp only[m6];by_cases c:b=p.1
  .rw[f7 c,cond_true,jm,jm,← c];cases cs7 (a=b) <;> rfl
  .rw[gH c,uh,jm,jm,X8];grind
theorem UH{a b v}:∀{m:cq7},ob a (m6 b v m)=if a=b then v else ob a m
 | []=>by
  simp only[m6,ob];simp_all
 | p::m=>by
  simp only[m6];by_cases c:b=p.1
  .rw[f7 c,cond_true,ob,ob,← c];simp_all
  .rw[gH c,uh,ob,ob,UH];grind
theorem bM5(i a)(l)(m):uS i (l++[a]) m=m6 a i (uS i l m):=by
 unfold uS;rw[lr];rfl
variable{a:Int}
theorem PT{i m}:∀{l:Z},jm a (uS i l m)=(cs7 (a∈l)||jm a m)/\ob a (uS i l m)=if a∈l then i else ob a m:=by
 intro l
 induction l generalizing m with
 | nil=>simp[uS]
 | cons b l ih =>
  have k:=ih (m:=m6 b i m);unfold uS at k ⊢;rw[cx7,k.1,k.2,X8,UH];grind
theorem YR(ns):∀ k a,jm a (kY ns k)=cs8->ob a (kY ns k)<k
 | k+1,a,h=>by
  have e:kY ns (k+1)=uS k (gw (T ns k cs5)) (kY ns k):=by unfold kY;rw[ni,lr];rfl
  rw[e] at h ⊢;have q:=PT (i:=(k:Int)) (a:=a) (m:=kY ns k) (l:=gw (T ns k cs5));rw[q.1] at h;rw[q.2];split
  .omega
  next hn=>rw[gH hn,cV2] at h;have:=YR ns k a h;omega
def XU:Ct:=⟨[.agg mM],[.val cI],λd=>[∀ x∈d.1.1,V (aV x)<=100000],λd=>((y9 d.1,()),())⟩
def bW6:bG XU.ps->bL:=(λd=>{loops:=(bz 3 (λS=>{ι:=Int,μ:=λi=>M (V d.1.1-i),inv:=λi=>0<=i/\i<=V d.1.1∧∀ k:Nat,(k:Int)<i→∀ a∈gw (T d.1.1 k cs5),jm a (kY d.1.1 k)=ct2,keep:=[1,12,13],slots:=λi=>[(14,.int .i64 i),(3,.mapp 524288)],keepN:=[32],names:=λi=>[(524288,.live (.mp .u32 .i64 (kY d.1.1 (M i))))]}) (bz 6 (λS=>{ι:=Int,μ:=λi=>M (V (gw (T d.1.1 (M (S.i 14)) cs5))-i),inv:=λi=>0<=i/\i<=V (gw (T d.1.1 (M (S.i 14)) cs5))∧∀ a∈(gw (T d.1.1 (M (S.i 14)) cs5)).take (M i),jm a (kY d.1.1 (M (S.i 14)))=ct2,keep:=[1,4,12,13,14,20,21],slots:=λi=>[(22,.int .i64 i),(3,.mapp 524288)],keepN:=[32,336],names:=λi=>[(524288,.live (.mp .u32 .i64 (uS (S.i 14) ((gw (T d.1.1 (M (S.i 14)) cs5)).take (M i)) (kY d.1.1 (M (S.i 14))))))]}) cm))})
def nh(a:List ar):=V a<=cu5/\ ∀(b:ar),b∈a->kL b.1/\aT b.2.1/\aq b.2.2.1/\True/\dh b.2.2.2.2.1/\aq b.2.2.2.2.2.1/\aT b.2.2.2.2.2.2.1/\bJ b.2.2.2.2.2.2.2.1 b.2.2.2.2.2.2.2.2.1 (aq b.2.2.2.2.2.2.2.2.2.1) ((aq b.2.2.2.2.2.2.2.2.2.2.1.1/\aq b.2.2.2.2.2.2.2.2.2.2.1.2)/\True/\True/\aq b.2.2.2.2.2.2.2.2.2.2.2.2.2.1/\aq b.2.2.2.2.2.2.2.2.2.2.2.2.2.2)
def jR(a:List bu):=V a<=cu5/\ ∀(b:bu),b∈a->bJ b.1 b.2.1 (aq b.2.2.1) (aq b.2.2.2.1/\aq b.2.2.2.2.1/\aq b.2.2.2.2.2)
def nC(a:List cJ):=V a<=cu5/\ ∀(b:cJ),b∈a->bJ b.1 b.2.1 True (dC b.2.2.2.1.1 b.2.2.2.1.2 b.2.2.2.2.1 b.2.2.2.2.2)
def gT(a:List ar)(b:List bu)(c:List cJ):=nh a/\jR b/\nC c
def iz(a:List ar)(b:List bu)(c d:Prop):=a=a/\b=b/\c/\d
def Dn(a b:Int)(c:List ar):=uS a (take (M b) (gw (N c a))) (kY c (M a))
def My(a:Int)(b:List ar)(c:Int):=am a (a<=O (gw (N b c))) (∀(d:Int),d∈take (M a) (gw (N b c))->jm d (kY b (M c))=ct2)
def KQ(a:Int)(b:List ar):=am a (a<=O b) (∀(c:Nat),(c:Int)<a-> ∀(d:Int),d∈gw (rk b c)->jm d (kY b c)=ct2)
def qz(a:List ar):=O a=O a
theorem b42:
 ∀ a b c,J (gT a b c)->(∀ d,d∈a->sr (aV d))->(∃ d,KQ d a/\a=a/\qz a/\0=d/\iz a b (c=c) (J ([]=kY a (M d))))/\ ∀ d,KQ d a->au (av d (O a)) (bP d (O a) (sr (aV (N a d))) ((∃ e,My e a d/\d=d/\a=a/\bh (O a) d (O (gw (N a d))) (0=e) (iz a b (c=c) (gw (N a d)=gw (N a d)/\J (kY a (M d)=Dn d e a))))/\ ∀ e,My e a d->au (av e (O (gw (N a d)))) (am e (e<O (gw (N a d))) (∀ f,f=jm (N (gw (N a d)) e) (Dn d e a)->(f->dE f)/\(f->f)/\au (bq f (db (ob (N (gw (N a d)) e) (Dn d e a)) d)) (10=y9 (a,b,c)) (∃ g,My g a d/\bi (O (gw (N a d))) g e/\d=d/\a=a/\bh (O a) d (O (gw (N a d))) (aA e=g) (iz a b (c=c) (gw (N a d)=gw (N a d)/\J (m6 (N (gw (N a d))
 e) d (Dn d e a)=Dn d g a)))))) (∃ f,KQ f a/\bi (O a) f d/\a=a/\qz a/\aA d=f/\iz a b (c=c) (J (Dn d e a=kY a (M f)))))) (0=y9 (a,b,c)):= by
  delta N rk O ap aq aH gT nh dh dC aK bh cU aT bp jR bi bq bZ am bJ aA J iz Dn My dE KQ kL av bP db nC sr aF qz
  rintro ns ls hs ⟨⟨⟨hnl,-⟩,-⟩,-⟩ hp
  simp only[cu5] at hnl
  have hlen:∀ x∈ns,V (gw x)<=100001:=λx hx=>by
   unfold gw vq
   grind
  refine⟨⟨0,⟨Y,Y,λk hk=>Y⟩,aI⟩,?_⟩
  rintro i ⟨i0,i1,hI⟩
  refine ay (λhi=>?_) (λhi=>?_)
  rotate_left
  .have hi:=bg hi
   unfold y9
   rw[I]
   intro h
   have ⟨k,hk,h2⟩:=cw7.1 h
   grind
  have hi:=aX hi
  have hm:=cW i0 hi
  have hl:=hlen _ hm
  refine⟨i0,hi,hp _ hm,⟨0,⟨Y,Y,aw⟩,aI⟩,?_⟩
  rintro j ⟨j0,j1,hJ⟩
  have ei:((M i:Nat):Int)=i:=Y
  refine ay (λhj=>?_) (λhj=>?_)
  rotate_left
  .have hj:=bg hj
   rw[gE Y] at hJ ⊢
   refine⟨i+1,⟨Y,Y,λk hk a ha=>?_⟩,Y,?_⟩
   .by_cases e:(k:Int)<i
    .exact hI k e a ha
    .have:k=M i:=Y
     grind
   .have e:uS i (gw (T ns (M i) cs5)) (kY ns (M i))=kY ns (M (i+1)):=by
     rw[show M (i+1)=M i+1 by omega]
     unfold kY
     rw[ni,lr,cx7,cE9,ei]
    rw[e]
    exact aI
  have hj:=aX hj
  have ha:=cW j0 hj
  have st:=KW j0 hj
  refine⟨j0,hj,?_⟩
  have q:=PT (i:=i) (a:=T (gw (T ns (M i) cs5)) (M j) cs5) (m:=kY ns (M i)) (l:=(gw (T ns (M i) cs5)).take (M j))
  generalize T (gw (T ns (M i) cs5)) (M j) cs5=a at ha st q ⊢
  have lt:=YR ns (M i) a
  rw[ei] at lt
  intro b hb
  (repeat refine⟨aw,?_⟩)
  refine uZ (λx1 x2=>?_) (λhno=>?_)
  .have x2:=lz x2
   rw[hb,q.1] at x1
   rw[q.2] at x2
   have hn:a ∉ (gw (T ns (M i) cs5)).take (M j):=λh=>by rw[ao h] at x2;exact x2 rfl
   rw[gH hn,cV2] at x1
   unfold y9
   rw[ao]
   exact cw7.2 ⟨M i,cx1.2 (show M i<V ns by omega),cw7.2 ⟨a,ha,x1⟩⟩
  .have hz:jm a (kY ns (M i))=false:=by
    grind
   refine⟨j+1,⟨Y,Y,λy hy=>?_⟩,Y,?_⟩
   .rw[st] at hy
    obtain hy|hy:=dX.1 hy
    .exact hJ y hy
    .grind
   .rw[st,bM5]
    exact aI
theorem bD6:aB 115 XU.spec:=aG Tryz.func115 (C aC bx1) bW6 b42
def kK(ls:List cz)(k x:Int):Int:=if k<0∨(V ls:Int)<=k then -1 else if x=lA (T ls (M k) cs5) then lB (T ls (M k) cs5) else if x=lB (T ls (M k) cs5) then lA (T ls (M k) cs5) else -1
def wh(n:Net):Int:=if V n.1<1∨64<V n.1∨128<V n.2.1∨64<V n.2.2 then 5 else 0
def bE1:Ct:=⟨[.agg mM],[.val cI],λ_=>[],λd=>((wh d.1,()),())⟩
def Lu(a b c d:Bool)(e f:Prop):=∀(g:Bool),g=a->cQ g (bN g) (bw g/\ ∀(h:Bool),h=br g b->cQ h (bN h) (bw h/\sJ (br h c) d e f))
theorem aU8:
 ∀ a b c,dN (gT a b c) (Lu (av (O a) 1) (av 64 (O a)) (av 128 (O b)) (av 64 (O c)) (5=wh (a,b,c)) (0=wh (a,b,c))):= by
  delta O aq aH gT nh dh dC bN aK cU aT jR br cQ bw bJ J sJ kL av dN nC Lu aF
  rintro ns ls hs - -
  (repeat (refine cG ?_;repeat refine cH ?_))
  unfold wh
  refine ay (λh=>?_) (λh=>?_)
  .grind
  .grind
theorem a44:aB 111 bE1.spec:=aG Tryz.func111 aC aS aU8
def Uk:Ct:=⟨[.agg eM],[.own 3 cI],λd=>[V (aV d.1)<=100000],λd=>((dc d.1,()),())⟩
def cm0:bG Uk.ps->bL:=(λd=>{loops:=(bz 3 (λS=>{ι:=Int×Z,qn:=fE,μ:=λi=>M (V (aV d.1)-i.1),inv:=λi=>0<=i.1/\i.1<=V (aV d.1)/\i.2=(dc d.1).take (M i.1),keep:=[1,7,8],slots:=λi=>[(3,.own 524288 1),(9,.int .i64 i.1)],keepN:=[32],names:=λi=>[(524288,.live (.row 3 cI i.2))]}) cm)})
theorem av8:
 ∀ a,LU a:= by
  delta N O ap D0 bh bp yS bi bZ am yJ t9 bR LU aA J bI av bP f9 vJ AM Hv sr
  rintro d-hl
  have a:V (dc d)=V (aV d):=by simp[dc]
  refine⟨⟨0,[],⟨Y,Y,rfl⟩,aI⟩,?_⟩
  rintro j l ⟨c,j1,rfl⟩
  have hd:d.1=aV d:=rfl
  rw[hd]
  refine bT (λb=>?_) (λb=>?_)
  .refine⟨c,b,by simp;omega,j+1,_,⟨Y,Y,rfl⟩,Y,?_⟩
   (repeat refine g9 ?_)
   rw[KW c (by rw[a];exact b)]
   unfold dc
   simp_all
  .rw[gE Y]
theorem ZL:aB 189 Uk.spec:=aG Tryz.func189 aC cm0 av8
def a07:Ct:=⟨[.agg mM,.val cI,.val cI],[.val cI],λ_=>[],λd=>((kK d.1.2.1 d.2.1 d.2.2.1,()),())⟩
def gZ(a:List bu)(b:Int):=(N a b).2.1
theorem a62:
 ∀ a b c d e,gT a b c/\dP d e->True->au ( !cs7 (0<=d/\d<=ap (O b -1))) ((-1)=kK b d e) (gP d (O b) (cs7 (e=(N b d).1)) (gZ b d=kK b d e) (au (cs7 (e=gZ b d)) ((N b d).1=kK b d e) ((-1)=kK b d e))):= by
  delta N O ap aq aH gT nh dh dC cU aT jR am bJ J dP kL nC gZ aF gP
  rintro ns ls hs k x ⟨⟨-,⟨hl,-⟩,-⟩,-⟩ -
  simp only[cu5] at hl
  rw[aJ Y Y]
  unfold kK lA lB
  refine ay (λh=>?_) (λh=>?_)
  .grind
  have h:=lq h
  rw[I Y]
  refine⟨h.1,Y,ay (λb=>?_) (λb=>?_)⟩
  .simp_all
  rw[I (bg b)]
  refine bT (λa=>?_) (λa=>?_)
  .rw[ao a]
  .rw[I a]
theorem bs4:aB 203 a07.spec:=aG Tryz.func203 (C aC TC) aS a62
def pH(ns:List ar)(l:cz):Bool:=g7 (T ns (M (lA l)) cs5)&&g7 (T ns (M (lB l)) cs5)
def xI(n:Net):Int:=if n.2.1.any (pH n.1) then 13 else 0
def Ia(n:Net):Prop:=∀ l∈n.2.1,0<=lA l/\lA l<V n.1/\0<=lB l/\lB l<V n.1
def Vu:Ct:=⟨[.agg mM],[.val cI],λd=>[Ia d.1],λd=>((xI d.1,()),())⟩
def aC6:bG Vu.ps->bL:=(λd=>{loops:=(bz 2 (λS=>{ι:=Int,μ:=λi=>M (V d.1.2.1-i),inv:=λi=>0<=i/\i<=V d.1.2.1∧∀ x∈d.1.2.1.take (M i),pH d.1.1 x=ct2,keep:=[1,6,7],slots:=λi=>[(8,.int .i64 i)],keepN:=[32]}) cm)})
def kH(a:List bu)(b:List cJ):=a=a/\J (b=b)
def KR(a:Int)(b:List bu)(c:List ar):=am a (a<=O b) (∀(d:bu),d∈take (M a) b->pH c d=ct2)
theorem b25:
 ∀ a b c,J (gT a b c)->(∀ d,d∈b->bP (lA d) (O a) (0<=lB d) (lB d<O a))->(∃ d,KR d b a/\b=b/\O b=O b/\0=d/\a=a/\kH b c)/\ ∀ d,KR d b a->uf d (O b) (d<O b) (am (N b d).1 ((N b d).1<O a) (∀ e,e=(N a (N b d).1).2.2.2.2.2.2.2.2.2.2.2.2.1->oq e e (iW e e (gZ b d) (gZ b d<O a)) (aK e) (e->e) (au (bq e (N a (gZ b d)).2.2.2.2.2.2.2.2.2.2.2.2.1) (13=xI (a,b,c)) (∃ f,KR f b a/\bi (O b) f d/\b=b/\O b=O b/\aA d=f/\a=a/\kH b c)))) (xI (a,b,c)):= by
  delta N O ap aq aH gT nh dh dC aK cU aT jR cB bi bq bZ am bJ aA J iW kL av oq kH bP nC KR gZ uf aF
  rintro ns ls hs ⟨⟨-,⟨hl,-⟩,-⟩,-⟩ he
  simp only[cu5] at hl
  refine⟨⟨0,⟨Y,Y,aw⟩,aI⟩,?_⟩
  rintro i ⟨c,i1,f⟩
  refine ay (λa=>?_) (λa=>?_)
  rotate_left
  .have a:=bg a
   rw[gE Y] at f
   unfold xI
   simp_all
  have a:=aX a
  have g:=cW c a
  have e:=he _ g
  refine⟨c,a,e.1,e.2.1,?_⟩
  intro b j
  (repeat first|refine⟨λh=>⟨λ_=>h,λ_=>h,e.2.2.1,e.2.2.2,aQ⟩,?_⟩|refine⟨λh=>⟨λ_=>h,e.2.2.1,e.2.2.2,aQ⟩,?_⟩|refine⟨aw,?_⟩)
  refine uZ (λx1 x2=>?_) (λd=>?_)
  .unfold xI
   rw[ao]
   refine cw7.2 ⟨_,g,?_⟩
   unfold pH
   rw[fB]
   exact⟨j.symm.trans x1,x2⟩
  .refine⟨i+1,⟨Y,Y,yD c a f ?_⟩,Y,aI⟩
   unfold pH
   rw[cP4]
   obtain h|h:=d
   .exact .inl (j.symm.trans h)
   .exact .inr h
theorem as9:aB 116 Vu.spec:=aG Tryz.func116 aC aC6 b25
def Am(n:Net)(k:Nat):Bool:=cs7 (f8 (T n.1 (M (lA (T n.2.1 k cs5))) cs5) k<0)||decide (f8 (T n.1 (M (lB (T n.2.1 k cs5))) cs5) k<0)
def vA(n:Net):Int:=if (range (V n.2.1)).any (Am n) then 11 else 0
def YX:Ct:=⟨[.agg mM],[.val cI],λd=>[Ia d.1],λd=>((vA d.1,()),())⟩
def cd7:bG YX.ps->bL:=(λd=>{loops:=(bz 2 (λS=>{ι:=Int,μ:=λi=>M (V d.1.2.1-i),inv:=λi=>0<=i/\i<=V d.1.2.1∧∀ k:Nat,(k:Int)<i->Am d.1 k=ct2,keep:=[1,6,7],slots:=λi=>[(8,.int .i64 i)],keepN:=[32]}) cm)})
def LM(a b:Int)(c:List ar×List cz×List cJ):=am a (a<=b) (∀(d:Nat),(d:Int)<a->Am c d=ct2)
theorem bD1:
 ∀ a b c,J (gT a b c)->(∀ d,d∈b->bP (lA d) (O a) (0<=lB d) (lB d<O a))->(∃ d,LM d (O b) (a,b,c)/\b=b/\O b=O b/\0=d/\a=a/\kH b c)/\ ∀ d,LM d (O b) (a,b,c)->uf d (O b) (d<O b) (am (N b d).1 ((N b d).1<O a) (∀ e,e=da (f8 (N a (N b d).1) d)->cQ e ( !e->iW ( !e) ( !e) (gZ b d) (gZ b d<O a)) (bN e/\gv e/\kx e (br e (da (f8 (N a (gZ b d)) d))) (11=vA (a,b,c)) (∃ f,LM f (O b) (a,b,c)/\bi (O b) f d/\b=b/\O b=O b/\aA d=f/\a=a/\kH b c)))) (vA (a,b,c)):= by
  delta N O ap aq aH gT nh dh dC bN aK cU aT jR br bi bZ am cQ bw bJ gv aA J iW dE kL da av kH bP nC kx LM gZ uf aF
  rintro ns ls hs ⟨⟨-,⟨hl,-⟩,-⟩,-⟩ he
  simp only[cu5] at hl
  refine⟨⟨0,⟨Y,Y,λk hk=>Y⟩,aI⟩,?_⟩
  rintro i ⟨c,i1,hI⟩
  refine ay (λa=>?_) (λa=>?_)
  rotate_left
  .have a:=bg a
   unfold vA
   grind
  have a:=aX a
  have hm:=cW c a
  have e:=he _ hm
  have d:((M i:Nat):Int)=i:=Y
  refine⟨c,a,e.1,e.2.1,?_⟩
  intro b f
  (repeat first|refine⟨λh=>⟨λ_=>h,λ_=>h,e.2.2.1,e.2.2.2,aQ⟩,?_⟩|refine⟨λh=>⟨λ_=>h,e.2.2.1,e.2.2.2,aQ⟩,?_⟩|refine⟨aw,?_⟩)
  refine rI (λho=>?_) (λx1 x2=>?_)
  .unfold vA
   rw[ao]
   refine cw7.2 ⟨M i,cx1.2 (show M i<V ls by omega),?_⟩
   unfold Am
   rw[uJ,d]
   obtain h|h:=ho
   .exact .inl (f.symm.trans h)
   .exact .inr h
  .refine⟨i+1,⟨Y,Y,λk hk=>?_⟩,Y,aI⟩
   by_cases e2:(k:Int)<i
   .exact hI k e2
   .have:k=M i:=Y
    subst this
    unfold Am
    rw[cI2,d]
    exact⟨f.symm.trans x1,x2⟩
theorem bE7:aB 114 YX.spec:=aG Tryz.func114 (C aC JD) cd7 bD1
def pE(nn:Nat)(l:cz):Prop:=0<=lA l/\lA l<nn/\0<=lB l/\lB l<nn/\lA l≠lB l/\1<=rJ l/\rJ l<=1073741824/\0<=nE l/\nE l<=1073741824/\0<=yg l/\yg l<=65536
instance (nn:Nat) (l:cz):Decidable (pE nn l):=by unfold pE;infer_instance
def sW(n:Net):Int:=if n.2.1.all (λl=>cs7 (pE (V n.1) l)) then 0 else 11
def U0:Ct:=⟨[.agg mM],[.val cI],λd=>[],λd=>((sW d.1,()),())⟩
def cq0:bG U0.ps->bL:=(λd=>{loops:=(bz 3 (λS=>{ι:=Int,μ:=λi=>M (V d.1.2.1-i),inv:=λi=>0<=i/\i<=V d.1.2.1∧∀ x∈d.1.2.1.take (M i),pE (V d.1.1) x,keep:=[1,3,11,12],slots:=λi=>[(13,.int .i64 i)],keepN:=[32]}) cm)})
def KB(a:Int)(b:List bu)(c:List ar):=am a (a<=O b) (∀(d:bu),d∈take (M a) b->pE (V c) d)
theorem aP4:
 ∀ a b c,dN (gT a b c) ((∃ d,KB d b a/\ap (O a -1)=ap (O a -1)/\b=b/\O b=O b/\0=d/\a=a/\kH b c)/\ ∀ d,KB d b a->uf d (O b) (d<O b) (∀ e,e=( !cs7 (0<=(N b d).1/\(N b d).1<=ap (O a -1)))->bN e/\gv e/\bN e/\bw e/\ ∀ f,f=br e ( !cs7 (0<=gZ b d/\gZ b d<=ap (O a -1)))->cQ f (gv f) (bw f/\Lu (br f (cs7 ((N b d).1=gZ b d))) ( !cs7 (1<=(N b d).2.2.1/\(N b d).2.2.1<=1073741824)) ( !cs7 (0<=(N b d).2.2.2.1/\(N b d).2.2.2.1<=1073741824)) ( !cs7 (0<=(N b d).2.2.2.2.1/\(N b d).2.2.2.2.1<=65536)) (11=sW (a,b,c)) (∃ g,KB g b a/\bi (O b) g d/\ap (O a -1)=ap (O a -1)/\b=b/\O b=O b/\aA d=g/\a=a/\kH b c))) (sW (a,b,c))):= by
  delta N O ap aq aH gT nh dh dC bN aK cU aT jR br bi bZ am cQ bw bJ gv aA J sJ dE kL av kH dN KB nC gZ Lu uf aF
  rintro ns ls hs ⟨⟨⟨hnl,-⟩,⟨hl,-⟩,-⟩,-⟩ -
  simp only[cu5] at hl hnl
  rw[aJ (n:=(V ns:Int)-1) Y Y]
  refine⟨⟨0,⟨Y,Y,aw⟩,aI⟩,?_⟩
  rintro i ⟨i0,i1,hI⟩
  refine ay (λhi=>?_) (λhi=>?_)
  rotate_left
  .have hi:=bg hi
   rw[gE Y] at hI
   unfold sW
   rw[ao]
   exact cz6.2 λl hl=>f7 (hI l hl)
  have hi:=aX hi
  have hm:=cW i0 hi
  refine⟨i0,hi,?_⟩
  have key:pE (V ns) (T ls (M i) cs5)↔((0<=(T ls (M i) cs5).1/\(T ls (M i) cs5).1<=(V ns:Int)-1)/\(0<=(T ls (M i) cs5).2.1/\(T ls (M i) cs5).2.1<=(V ns:Int)-1)∧¬ (T ls (M i) cs5).1=(T ls (M i) cs5).2.1/\(1<=(T ls (M i) cs5).2.2.1/\(T ls (M i) cs5).2.2.1<=1073741824)/\(0<=(T ls (M i) cs5).2.2.2.1/\(T ls (M i) cs5).2.2.2.1<=1073741824)/\(0<=(T ls (M i) cs5).2.2.2.2.1/\(T ls (M i) cs5).2.2.2.2.1<=65536)):=by
   unfold pE lA lB rJ nE yg
   omega
  have fj:=λh=>yD i0 hi hI (P:=pE (V ns)) h
  generalize T ls (M i) cs5=l at hm key fj ⊢
  generalize hA:cs7 (0<=l.1/\l.1<=(V ns:Int)-1)=bA
  generalize hB:cs7 (0<=l.2.1/\l.2.1<=(V ns:Int)-1)=bB
  generalize hC:cs7 (l.1=l.2.1)=bC
  generalize hD:cs7 (1<=l.2.2.1/\l.2.2.1<=1073741824)=bD
  generalize hE:cs7 (0<=l.2.2.2.1/\l.2.2.2.1<=1073741824)=bE
  generalize hF:cs7 (0<=l.2.2.2.2.1/\l.2.2.2.2.1<=65536)=bF
  have key2:pE (V ns) l↔(bA=cs8/\bB=cs8/\bC=ct2/\bD=cs8/\bE=cs8/\bF=cs8):=by
   rw[key,← hA,← hB,← hC,← hD,← hE,← hF]
   simp only[pJ,xZ]
  have bad:¬ pE (V ns) l->(11:Int)=sW (ns,ls,hs):=λh=>by
   unfold sW
   rw[I]
   intro k
   exact h (aX (cz6.1 k l hm))
  intro b1 hb1
  (repeat refine⟨aw,?_⟩)
  intro b2 hb2
  (repeat refine⟨aw,?_⟩)
  intro b3 hb3
  (repeat refine⟨aw,?_⟩)
  intro b4 hb4
  (repeat refine⟨aw,?_⟩)
  intro b5 hb5
  (repeat refine⟨aw,?_⟩)
  have tot:(bif b5 then cs8 else !bF) = !(bA&&bB && !bC&&bD&&bE&&bF):=by
   rw[hb5,hb4,hb3,hb2,hb1]
   cases bA <;> cases bB <;> cases bC <;> cases bD <;> cases bE <;> cases bF <;> rfl
  rw[tot]
  refine ay (λh=>bad λk=>?_) (λh=>?_)
  .have ⟨a1,a2,a3,a4,a5,a6⟩:=key2.1 k
   rw[a1,a2,a3,a4,a5,a6] at h;cases h
  .have h2:=key2.2 (by
    clear tot hb1 hb2 hb3 hb4 hb5 key2 hA hB hC hD hE hF
    revert h
    cases bA <;> cases bB <;> cases bC <;> cases bD <;> cases bE <;> cases bF <;> decide)
   exact⟨i+1,⟨Y,Y,fj h2⟩,Y,aI⟩
theorem aL6:aB 112 U0.spec:=aG Tryz.func112 (C aC TC) cq0 aP4
theorem Yx{links}:∀{l:List Rt}{q:Option fM},chk links q l=0->dY l/\(∀ p,q=some p→∀ r∈l,cM p r.1)∧∀ r∈l,oF r.1=cs8/\pO r links
 | [],q,_=>⟨cx5,λ_ _ r hr=>(by cases hr),λr hr=>(by cases hr)⟩
 | r::l,q,h=>by
  rw[chk] at h;split at h
  .cases h
  rename_i h1;split at h
  .cases h
  rename_i h2;split at h
  .cases h
  rename_i h3;obtain⟨i1,i2,i3⟩:=Yx h;have hv:oF r.1=true:=by cases hh:oF r.1 <;> simp_all
  have hp:∀ p,q=some p->cM p r.1:=λp hp=>by
   subst hp;rw[cS1] at h2;have:¬ (0<=jg p r.1):=by simpa using h2
   exact IF.1 Y
  refine⟨cu1.2 ⟨i2 _ rfl,i1⟩,λp e z hz=>?_,λz hz=>?_⟩
  .obtain rfl|hz:=dm.1 hz
   .exact hp p e
   .exact IH (hp p e) (i2 _ rfl z hz)
  .obtain rfl|hz:=dm.1 hz
   .exact⟨hv,jW h3⟩
   .exact i3 z hz
variable{l:List Rt}
theorem I0{links}(h:jH l links=0):dY l/\V l<=64∧∀ r∈l,oF r.1=cs8/\pO r links:=by
 unfold jH at h
 split at h
 .cases h
 next hl=>have k:=Yx h;exact⟨k.1,Y,k.2.2⟩
theorem CZ{links}(h:jH l links=0):dY l/\okL l:=by
 have ⟨h1,h2,h3⟩:=I0 h
 exact⟨h1,Y,λr hr=>by have:=(h3 r hr).2.1.1;omega⟩
def j8(c:cJ):Int:=c.1
def de(c:cJ):Int:=c.2.1
def AK(c:cJ):Bool:=c.2.2.1
def ig(c:cJ):Rt:=c.2.2.2
def uL(a b:Int):Int:=if a≠0 then a else b
variable{b:Int}
theorem wy(h:uL a b=0):a=0/\b=0:=by
 unfold uL at h
 split at h
 next k=>exact absurd h k
 next k=>exact⟨Y,h⟩
def AC(n:Net)(i:Nat)(k:Int):Bool:=cs7 ((V n.2.1:Int)<=k) || !(cs7 (lA (T n.2.1 (M k) cs5)=i)||decide (lB (T n.2.1 (M k) cs5)=i))
def tE(n:Net)(i:Nat):Int :=
 if iS (T n.1 i cs5)≠0 then iS (T n.1 i cs5)
 else if (dc (T n.1 i cs5)).any (AC n i) then 11 else 0
def sG(n:Net):Int:=first (tE n) (V n.1)
def jX(l:List Rt)(c:cJ):List Rt:=if AK c=cs8 then mn l (ig c).1 else gC l (ig c)
def gB(n:Net):Nat->List (List Rt)
 | 0=>n.1.map ce
 | i+1=>(gB n i).set (M (de (T n.2.2 i cs5))) (jX (T (gB n i) (M (de (T n.2.2 i cs5))) cs5) (T n.2.2 i cs5))
def uI(n:Net)(i:Nat)(c p:cJ)(l:List Rt):Int :=
 if j8 c<0∨1125899906842624<j8 c then 1
 else if 0<i/\j8 c<j8 p then 6
 else if de c<0∨(V n.1:Int)<=de c then 8
 else if AK c=cs8/\tP l (ig c).1=ct2 then 8
 else jH (jX l c) (dc (T n.1 (M (de c)) cs5))
def o5(n:Net)(i:Nat):Int:=uI n i (T n.2.2 i cs5) (T n.2.2 (i-1) cs5) (T (gB n i) (M (de (T n.2.2 i cs5))) cs5)
def uR(n:Net):Int:=first (o5 n) (V n.2.2)
def jA(n:Net):Int:=uL (wh n) (uL (sW n) (uL (sG n) (uL (vA n) (uL (y9 n) (uL (xI n) (uR n))))))
variable{n:Net}
theorem aj3(h:sW n=0):Ia n:=λl hl=>by
 unfold sW at h
 split at h
 next k=>have k:=aX (cz6.1 k l hl);exact⟨k.1,k.2.1,k.2.2.1,k.2.2.2.1⟩
 .cases h
variable{i:Nat}
theorem sC [Inhabited α] {xs:List α} (h:i<V xs):T xs i cs5∈xs:=by
 have:=cW (xs:=xs) (i:=(i:Nat)) Y Y
 simpa using this
theorem b00(h:first (lR x) (V (aV x))=0):∀ k∈dc x,0<=k:=λk hk=>by
 obtain⟨q,hq,rfl⟩:=cv1.1 hk
 have ⟨i,hi,e⟩:=cv8.1 hq
 have k1:=B2 h i hi
 unfold lR at k1
 rw[cK,cT hi,jb,e] at k1
 split at k1
 .cases k1
 split at k1
 .cases k1
 rename_i h2
 show 0<=q.2
 omega
structure NV (x:ar):Prop where
 len:V (aV x)<=32
 pos:0<V (aV x)
 bad:first (lR x) (V (aV x))=0
 loop:¬ uo x
 form:¬ tw x
 tab:jH (ce x) (dc x)=0
theorem Vo(h:iS x=0):NV x:=by
 unfold iS at h
 split at h
 .cases h
 rename_i h1
 split at h
 next k=>exact absurd h k
 rename_i h2
 split at h
 .cases h
 rename_i h3
 split at h
 .cases h
 rename_i h4
 split at h
 next k=>exact absurd h k
 split at h
 next k=>exact absurd h k
 refine⟨Y,?_,Y,h3,h4,h⟩
 unfold tw at h4
 omega
theorem LR(h:sG n=0)(hi:i<V n.1):NV (T n.1 i cs5):=by
 have k:=B2 h i hi
 unfold tE at k
 split at k
 next e=>exact absurd k e
 next e=>exact Vo Y
theorem b47(h:sG n=0):∀ x∈n.1,NV x:=λx hx=>by
 have ⟨i,hi,e⟩:=cv8.1 hx
 have:=LR h hi
 rw[cK,cT hi,e] at this;exact this
structure TB (n:Net) (t:List (List Rt)):Prop where
 len:V t=V n.1
 r:∀ i:Nat,i<V n.1->dY (T t i cs5)/\okL (T t i cs5)
theorem GR{β:Type} [Inhabited α] [Inhabited β] {f:α->β} {l} (h:i<V l):T (l.map f) i cs5=f (T l i cs5):=by
 rw[cK,cK,List.getElem?_map,cT h];rfl
theorem xG(n):∀ i,V (gB n i)=V n.1
 | 0=>by simp[gB]
 | i+1=>by rw[gB,f5,xG n i]
theorem YO{n}(hb:sG n=0):∀{i:Nat},first (o5 n) i=0->TB n (gB n i)
 | 0,_=>⟨xG n 0,λi hi=>by
  rw[gB,GR hi];exact CZ (LR hb hi).tab⟩
 | i+1,h=>by
  have h0:first (o5 n) i=0:=by
   by_cases e:first (o5 n) i=0
   .exact e
   .rw[first,ao e] at h;exact h
  have k:=YO hb h0;have hz:=B2 h i Y;refine⟨xG n _,λj hj=>?_⟩;rw[gB];unfold o5 uI at hz;generalize T n.2.2 i cs5=c at hz ⊢;split at hz
  .cases hz
  split at hz
  .cases hz
  split at hz
  .cases hz
  rename_i hw;split at hz
  .cases hz
  by_cases e:M (de c)=j
  .subst e;rw[kW (by rw[k.len];exact hj)];exact CZ hz
  .rw[qN e];exact k.r j hj
def TN(who at':Int)(l:List Rt)(c:cJ):List Rt:=if de c=who/\j8 c<=at' then jX l c else l
def T7(n:Net)(who at':Int)(k:Int):List Rt:=(n.2.2.take (M k)).foldl (TN who at') (ce (T n.1 (M who) cs5))
def Qe(n:Net)(who at':Int):List Rt:=if who<0∨(V n.1:Int)<=who then [] else T7 n who at' (V n.2.2)
structure Hk (m:Nat) (l:List Rt):Prop where
 s:dY l
 n:V l<=m
 x:∀ r∈l,(V r.2.1:Int)<=1099511627776
variable{l:List Rt}{m:Nat}
theorem Hk.okL(h:Hk m l)(hm:m<=100000):okL l:=⟨by have:=h.n;omega,h.x⟩
theorem Hk.ch(h:Hk m l){c}(hc:((ig c).2.1.length:Int)<=1099511627776):Hk (m+1) (jX l c):=by
 unfold jX
 split
 .refine⟨cI1 _ h.s,?_,λr hr=>h.x r (cx9.1 hr).1⟩;have:=aq9 l (ig c).1;have:=h.n;omega
 .refine⟨TJ h.s,?_,λr hr=>?_⟩
  .have:=U7 l (ig c);have:=h.n;omega
  .obtain rfl|⟨hr,-⟩:=Xm.1 hr
   .exact hc
   .exact h.x r hr
def cq9(s t:Int)(c:cJ):Bool:=cs7 (s<j8 c/\j8 c<=t)
theorem a89:0<=pT x a↔a∈vq x:=by
 unfold pT kC
 constructor
 .intro h;split at h
  next k=>have:=List.findIdx_getElem (w:=k);exact cv1.2 ⟨_,cv2 k,aX this⟩
  .omega
 .intro h;obtain⟨q,hq,rfl⟩:=cv1.1 h;have:(aV x).findIdx (qb q.1)<V (aV x):=cJ5 ⟨q,hq,by unfold qb;simp⟩;rw[ao this];omega
theorem Tg{α:Type} [DecidableEq α]:∀{l m:List α},l.Nodup->(∀ x∈l,x∈m)->V l<=V m
 | [],m,_,_=>aw
 | x::l,m,h,hs=>by
  have hx:=hs x dU;have hn:=List.nodup_cons.1 h;have:=Tg (l:=l) (m:=m.erase x) hn.2 λy hy=>(List.mem_erase_of_ne (λe:y=x=>hn.1 (e▸hy))).2 (hs y (eZ _ hy));rw[List.length_erase_of_mem hx] at this;have hp:=cz7 hx;rw[fa];omega
theorem E5{α β:Type}(S:β->Prop)(f):∀{l:List α}{b:β},S b->(∀ x∈l,∀ b,S b->S (f b x))->S (l.foldl f b)
 | [],b,h,_=>h
 | x::l,b,h,hf=>E5 S f (l:=l) (hf x dU b h) λy hy=>hf y (eZ _ hy)
theorem OY{k x}:∀{l:Z},x∈nZ k l->x=k∨x∈l
 | [],h=>by simp[nZ] at h;exact .inl h
 | y::r,h=>by
  rw[nZ] at h;split at h
  .obtain e|h:=dm.1 h
   .exact .inl e
   .exact .inr h
  .obtain e|h:=dm.1 h
   .exact .inr (e▸dU)
   .obtain e|h:=OY h
    .exact .inl e
    .exact .inr (eZ _ h)
theorem af7{k}:∀{l:Z},l.Pairwise (· < ·)->k ∉ l->(nZ k l).Pairwise (· < ·)
 | [],_,_=>by rw[nZ];exact cG4 _ _
 | y::r,h,hk=>by
  have h:=cu1.1 h;rw[nZ];split
  .rename_i hy;refine cu1.2 ⟨λz hz=>?_,cu1.2 h⟩;obtain rfl|hz:=dm.1 hz
   .exact hy
   .exact Int.lt_trans hy (h.1 z hz)
  .rename_i hy;have:k≠y:=λe=>hk (e▸dU);refine cu1.2 ⟨λz hz=>?_,af7 h.2 λe=>hk (eZ _ e)⟩;obtain rfl|hz:=OY hz
   .omega
   .exact h.1 z hz
theorem aT7(k)(l):nZ k l≠[]:=by
 intro e
 have:=Ss k l
 rw[e] at this;simp at this
theorem W9{r x}(h:x∈gC l r):x=r∨x∈l:=by
 unfold gC at h
 obtain h|h:=dX.1 h
 .exact .inr (cx9.1 h).1
 .obtain e|h:=dm.1 h
  .exact .inl e
  .exact .inr (cx9.1 h).1
def lnk(ls:List cz)(i k:Int):Prop:=0<=k/\k<V ls/\(lA (T ls (M k) cs5)=i∨lB (T ls (M k) cs5)=i)
structure Tm (ls:List cz) (aa:Z) (i:Int) (r:Rt):Prop where
 len:r.1.2=32
 mem:r.1.1∈aa
 ne:r.2.1≠[]
 pw:r.2.1.Pairwise (· < ·)
 ln:∀ k∈r.2.1,lnk ls i k
 w0:1<=r.2.2
 w1:r.2.2<=3
def rF(ls:List cz)(aa:Z)(i:Int)(t:List Rt):Prop:=dY t∧∀ r∈t,Tm ls aa i r
variable{i:Int}{t:List Rt}{ls:List cz}{aa:Z}
theorem SA(h:rF ls aa i t):V t<=V aa:=by
 have hn:(t.map λr=>r.1.1).Nodup:=by
  refine cX0 (R:=λa b:Rt=>a.1.1≠b.1.1) _ (λa b h=>h) (h.1.imp_of_mem λ{a b} ha hb k=>?_);have e1:=(h.2 a ha).len;have e2:=(h.2 b hb).len;unfold cM at k;omega
 have:=Tg hn (m:=aa) λx hx=>by
  obtain⟨r,hr,rfl⟩:=cv1.1 hx;exact (h.2 r hr).mem
 simpa using this
theorem Qh{r}(h:Tm ls aa i r):V r.2.1<=V ls:=by
 have hn:r.2.1.Nodup:=h.pw.imp λk=>Y
 have:=Tg hn (m:=(range (V ls)).map λ(n:Nat)=>(n:Int)) λx hx=>by
  have ⟨k0,k1,_⟩:=h.ln x hx;exact cv1.2 ⟨M x,cx1.2 Y,Y⟩
 simpa using this
variable{k:Int}{p:fM}
theorem bO7(h:rF ls aa i t){way}(hp:p.2=32)(ha:p.1∈aa)(hk:lnk ls i k)(h0:1<=way)(h1:way<=3) :
  rF ls aa i (BP t p k way):=by
 have put:∀ r,Tm ls aa i r->rF ls aa i (gC t r):=λr hr =>
  ⟨TJ h.1,λx hx=>by
   obtain rfl|hx:=W9 hx
   .exact hr
   .exact h.2 x hx⟩
 unfold BP
 split
 next hf=>
  have hx:T t (zw t p) cs5∈t:=by
   have:=cW (xs:=t) (i:=(zw t p:Nat)) Y Y;simpa using this
  have hx:=h.2 _ hx;split
  .exact h
  .rename_i hn;exact put _ ⟨hp,ha,aT7 _ _,af7 hx.pw hn,λy hy=>by
    obtain rfl|hy:=OY hy
    .exact hk
    .exact hx.ln y hy,hx.w0,hx.w1⟩
 .exact put _ ⟨hp,ha,aw,cG4 _ _,λy hy=>by rw[iV.1 hy];exact hk,h0,h1⟩
structure RI (ls:List cz) (aa:Z) (ns0 ns:List ar):Prop where
 n:V ns=V ns0
 e:∀ i:Nat,i<V ns0->El (T ns i cs5) []=El (T ns0 i cs5) []
 t:∀ i:Nat,i<V ns0->rF ls aa i (ce (T ns i cs5))
variable{i:Nat}
theorem RI.ports {ls aa ns0 ns} (h:RI ls aa ns0 ns) (hi:i<V ns0):aV (T ns i cs5)=aV (T ns0 i cs5):=by
 have:=dL aV (h.e i hi);exact this
theorem RI.host {ls aa ns0 ns} (h:RI ls aa ns0 ns) (hi:i<V ns0):qy (T ns i cs5)=qy (T ns0 i cs5):=by
 have:=dL qy (h.e i hi);exact this
theorem RI.route {ls aa ns0 ns} (h:RI ls aa ns0 ns) {way} (a0:0<=a) (a1:a<V ns0) (hp:p.2=32) (ha:p.1∈aa) (hk:lnk ls a k) (h0:1<=way) (h1:way<=3) :
  RI ls aa ns0 (xC ns a p k way):=by
 have hl:M a<V ns:=by have:=h.n;omega
 unfold xC
 refine⟨by rw[f5];exact h.n,λi hi=>?_,λi hi=>?_⟩
 .by_cases e:M a=i
  .subst e;rw[kW hl];exact h.e _ hi
  .rw[qN e];exact h.e _ hi
 .by_cases e:M a=i
  .subst e;rw[kW hl];have:=bO7 (h.t _ hi) (p:=p) (k:=k) (way:=way) hp ha (by rwa [show ((M a:Nat):Int)=a by omega]) h0 h1;exact this
  .rw[qN e];exact h.t _ hi
variable{d:Z}{to:Int}{plain:Bool}
theorem RI.step {ls aa ns0 ns} (h:RI ls aa ns0 ns) {way} (a0:0<=a) (a1:a<V ns0) (hp:p.2=32) (ha:p.1∈aa) (hk:lnk ls a k) (h0:1<=way) (h1:way<=3) :
  RI ls aa ns0 (wY d to p plain k way ns a b):=by
 unfold wY
 split
 .exact h
 .split
  .exact h
  .exact h.route a0 a1 hp ha hk h0 h1
def kv(n:Nat)(ls:List cz):Prop:=∀ l∈ls,0<=l.1/\l.1<n/\0<=l.2.1/\l.2.1<n
variable{k n:Nat}
theorem kv.at'(hg:kv n ls)(hk:k<V ls):(0<=lA (T ls k cs5)/\lA (T ls k cs5)<n)/\0<=lB (T ls k cs5)/\lB (T ls k cs5)<n:=by
 have hx:T ls k cs5∈ls:=by
  have:=cW (xs:=ls) (i:=(k:Nat)) Y Y;simpa using this
 have ⟨q1,q2,q3,q4⟩:=hg _ hx
 exact⟨⟨q1,q2⟩,q3,q4⟩
theorem XM(hk:k<V ls):lnk ls (lA (T ls k cs5)) k:=⟨by omega,by omega,.inl (by simp)⟩
theorem WA(hk:k<V ls):lnk ls (lB (T ls k cs5)) k:=⟨by omega,by omega,.inr (by simp)⟩
theorem RI.stepK {ls aa ns0 ns} (h:RI ls aa ns0 ns) (hg:kv (V ns0) ls) {way} (hk:k<V ls) (hp:p.2=32) (ha:p.1∈aa) (h0:1<=way) (h1:way<=3) :
  RI ls aa ns0 (stepK ls d to p plain way ns k):=by
 have hh:=hg.at' hk
 unfold Go.RS.stepK
 exact (h.step hh.1.1 hh.1.2 hp ha (XM hk) h0 h1).step hh.2.1 hh.2.2 hp ha (WA hk) h0 h1
theorem RI.stepKs {ls aa ns0 ns} (h:RI ls aa ns0 ns) (hg:kv (V ns0) ls) {way} (hp:p.2=32) (ha:p.1∈aa) (h0:1<=way) (h1:way<=3) (hn:n<=V ls) :
  RI ls aa ns0 ((range n).foldl (Go.RS.stepK ls d to p plain way) ns) :=
 E5 _ _ h λk hk b hb=>hb.stepK hg (by have:=cx1.1 hk;omega) hp ha h0 h1
variable{q:tD}
theorem RI.stepP {ls aa ns0 ns} (h:RI ls aa ns0 ns) (hg:kv (V ns0) ls) {way} (ha:q.1∈aa) (h0:1<=way) (h1:way<=3) :
  RI ls aa ns0 (stepP ls d to plain way ns q) :=
 h.stepKs (p:=(q.1,32)) hg rfl ha h0 h1 (dq _)
def kU(ns:List ar):Z:=ns.flatMap λx=>(aV x).map (·.1)
variable{ns:List ar}
theorem W8(hi:i<V ns)(hq:q∈aV (T ns i cs5)):q.1∈kU ns:=by
 have hx:T ns i cs5∈ns:=by
  have:=cW (xs:=ns) (i:=(i:Nat)) Y Y;simpa using this
 exact cG7.2 ⟨_,hx,cv1.2 ⟨q,hq,rfl⟩⟩
theorem RI.stepPs {ls ns0 ns} (h:RI ls (kU ns0) ns0 ns) (hg:kv (V ns0) ls) {way} (h0:1<=way) (h1:way<=3) {l:List tD} (hl:∀ q∈l,q.1∈kU ns0) :
  RI ls (kU ns0) ns0 (l.foldl (Go.RS.stepP ls d to plain way) ns) :=
 E5 _ _ h λq hq b hb=>hb.stepP hg (hl q hq) h0 h1
variable{c:bj}
theorem an5(h:bf c):bf (sy c).2/\1<=(sy c).1/\(sy c).1<=3:=by
 have k:=dZ h 3
 have k2:=dZ k.1 3
 have:=gh h (n:=3) Y
 unfold sy
 split
 .refine⟨k2.1,?_⟩;dsimp only;split <;> omega
 .exact⟨k.1,by dsimp only;omega,by dsimp only;omega⟩
variable{s:List ar×bj}
theorem RI.stepT {ls ns0} (h:RI ls (kU ns0) ns0 s.1/\bf s.2) (hg:kv (V ns0) ls) {to} (ht:to<V ns0) :
  RI ls (kU ns0) ns0 (stepT ls plain s to).1/\bf (stepT ls plain s to).2:=by
 have w:=an5 h.2
 unfold Go.RS.stepT
 refine⟨h.1.stepPs hg w.2.1 w.2.2 λq hq=>?_,w.1⟩
 rw[h.1.ports ht] at hq
 exact W8 ht hq
theorem RI.stepTs {ls ns0} (h:RI ls (kU ns0) ns0 s.1/\bf s.2) (hg:kv (V ns0) ls) (hn:n<=V ns0) :
  RI ls (kU ns0) ns0 ((range n).foldl (Go.RS.stepT ls plain) s).1/\bf ((range n).foldl (Go.RS.stepT ls plain) s).2 :=
 E5 (λs:List ar×bj=>RI ls (kU ns0) ns0 s.1/\bf s.2) _ h λk hk b hb=>RI.stepT hb hg (by have:=cx1.1 hk;omega)
variable{ns0:List ar}
theorem RI.start(h:∀ x∈ns0,ce x=[]):RI ls (kU ns0) ns0 ns0:=by
 refine⟨rfl,λ_ _=>rfl,λi hi=>?_⟩
 have hx:T ns0 i cs5∈ns0:=by
  have:=cW (xs:=ns0) (i:=(i:Nat)) Y Y;simpa using this
 rw[h _ hx]
 exact⟨cx5,λr hr=>by cases hr⟩
def u6(i:Int)(k:Nat)(l:cz):List tD:=(if lA l=i then [(iE k+1,(k:Int))] else [])++(if lB l=i then [(iE k+2,(k:Int))] else [])
def portsF(i:Int):Nat->List cz->List tD
 | _,[]=>[]
 | k,l::r=>u6 i k l++portsF i (k+1) r
theorem UU(i)(l):∀ k ls,portsF i k (ls++[l])=portsF i k ls++u6 i (k+V ls) l
 | k,[]=>by simp[portsF]
 | k,x::r=>by
  rw[kQ,portsF,UU i l (k+1) r,portsF,gI,fa,show k+1+V r=k+(V r+1) by omega]
theorem aw5(i)(k)(l):V (u6 i k l)<=2:=by
 unfold u6
 split <;> split <;> simp
theorem IB(i):∀ k ls,V (portsF i k ls)<=2*V ls
 | k,[]=>by simp[portsF]
 | k,x::r=>by
  have:=IB i (k+1) r;have:=aw5 i k x;rw[portsF,cw,fa];omega
theorem Xu{i}:∀{k:Nat}{ls:List cz},(∀ x∈ls,lA x≠i/\lB x≠i)->portsF i k ls=[]
 | k,[],_=>rfl
 | k,x::r,h=>by
  have hx:=h x dU;rw[portsF,Xu λy hy=>h y (eZ _ hy),u6,I hx.1,I hx.2];rfl
theorem Hd{i q}:∀{k:Nat}{ls:List cz},q∈portsF i k ls↔∃ j,j<V ls/\((lA (T ls j cs5)=i/\q=(iE (k+j:Nat)+1,((k+j:Nat):Int)))∨(lB (T ls j cs5)=i/\q=(iE (k+j:Nat)+2,((k+j:Nat):Int))))
 | k,[]=>by simp[portsF]
 | k,x::r=>by
  rw[portsF,dX,Hd (k:=k+1) (ls:=r)];constructor
  .rintro (h|⟨j,hj,h⟩)
   .refine⟨0,aw,?_⟩;unfold u6 at h;obtain h|h:=dX.1 h
    .split at h
     next e=>exact .inl ⟨e,by simpa using h⟩
     .cases h
    .split at h
     next e=>exact .inr ⟨e,by simpa using h⟩
     .cases h
   .refine⟨j+1,by rw[fa];omega,?_⟩;rw[cB8,show k+(j+1)=k+1+j by omega];exact h
  .rintro⟨j,hj,h⟩;cases j with
   | zero =>
    refine .inl ?_;rw[cI3] at h;unfold u6;obtain⟨e,h⟩|⟨e,h⟩:=h
    .rw[ao e];exact dX.2 (.inl (by simpa using h))
    .rw[ao e];exact dX.2 (.inr (by simpa using h))
   | succ j =>
    refine .inr ⟨j,by rw[fa] at hj;omega,?_⟩;rw[cB8,show k+(j+1)=k+1+j by omega] at h;exact h
variable{l:List α}
theorem Xf [Inhabited α] {m} (h:i<V l):T (l++m) i cs5=T l i default:=by
 rw[cK,nJ h,cK]
theorem ZI [Inhabited α] {x}:T (l++[x]) (V l) cs5=x:=by
 rw[cK];simp
theorem MJ{x p}(x0:0<=x)(hi:i<V ns) :
  T (nA ns x p) i cs5=((T ns i cs5).1++(if x=i then [p] else []),(T ns i cs5).2):=by
 unfold nA
 by_cases e:x=i
 .have:M x=i:=Y;rw[this,kW hi,ao e]
 .have:M x≠i:=Y;rw[qN this,I e,js]
theorem Ro(ns)(x)(p):V (nA ns x p)=V ns:=by unfold nA;exact f5
structure GI (s:bY) (nn nl:Nat):Prop where
 n:V s.1.1=nn
 l:V s.1.2.1=nl
 h:s.1.2.2=[]
 c:bf s.2
 g:∀ x∈s.1.2.1,(0<=lA x/\lA x<nn)/\(0<=lB x/\lB x<nn)/\lA x≠lB x/\(1<=rJ x/\rJ x<=20)/\nE x=0/\yg x=0/\0<=A8 x/\A8 x<=255
 p:∀ i:Nat,i<nn->aV (T s.1.1 i cs5)=portsF i 0 s.1.2.1
 d:∀ i:Nat,i<nn→∃ host f sd,(T s.1.1 i cs5).2=(yE i host f sd).2/\(f=64∨f=255∨f=128)/\0<=sd/\sd<=255
variable{s:bY}{nn nl:Nat}
theorem GI.node(h:GI s nn nl)(host):GI (mZ s host) (nn+1) nl:=by
 have k3:=gh h.c (n:=3) Y
 have c3:=(dZ h.c 3).1
 have k4:=gh c3 (n:=256) Y
 have c4:=(dZ c3 256).1
 refine⟨by simp only[mZ,cw,fa,cy2,h.n],h.l,h.h,c4,λx hx=>?_,λi hi=>?_,λi hi=>?_⟩
 .have:=h.g x hx;omega
 .by_cases e:i<nn
  .rw[show (mZ s host).1.1.getD i cs5=T s.1.1 i cs5 from Xf (by rw[h.n];exact e)];exact h.p i e
  .have e:i=V s.1.1:=by rw[h.n];omega
   subst e;rw[show (mZ s host).1.1.getD (V s.1.1) cs5=yE (V s.1.1) host _ _ from ZI];refine (Xu λx hx=>?_).symm;have:=h.g x hx;have:=h.n;omega
 .by_cases e:i<nn
  .rw[show (mZ s host).1.1.getD i cs5=T s.1.1 i cs5 from Xf (by rw[h.n];exact e)];exact h.d i e
  .have e:i=V s.1.1:=by rw[h.n];omega
   subst e;rw[show (mZ s host).1.1.getD (V s.1.1) cs5=yE (V s.1.1) host _ _ from ZI];refine⟨host,_,_,rfl,?_,k4.1,Y⟩;obtain e|e|e:=(show (az s.2 3).1=0∨(az s.2 3).1=1∨(az s.2 3).1=2 by omega) <;> rw[e] <;> simp
theorem GI.link(h:GI s nn nl)(a0:0<=a)(a1:a<nn)(b0:0<=b)(b1:b<nn)(ne:a≠b):GI (lp s a b) nn (nl+1):=by
 have k3:=gh h.c (n:=20) Y
 have c3:=(dZ h.c 20).1
 have k4:=gh c3 (n:=256) Y
 have c4:=(dZ c3 256).1
 refine⟨by simp only[lp,Ro,h.n],by simp only[lp,cw,fa,cy2,h.l],h.h,c4,λx hx=>?_,λi hi=>?_,λi hi=>?_⟩
 .obtain hx|hx:=dX.1 hx
  .exact h.g x hx
  .rw[iV.1 hx];refine⟨⟨a0,a1⟩,⟨b0,b1⟩,ne,?_,rfl,rfl,k4.1,?_⟩
   .show 1<=1+(az s.2 20).1/\1+(az s.2 20).1<=20;omega
   .show (az (az s.2 20).2 256).1<=255;omega
 .have hp:=h.p i hi;unfold lp;dsimp only;rw[MJ b0 (by rw[Ro,h.n];exact hi),MJ a0 (by rw[h.n];exact hi),UU,← hp,gD];simp only[aV,u6,lA,lB,gI];rfl
 .unfold lp;dsimp only;rw[MJ b0 (by rw[Ro,h.n];exact hi),MJ a0 (by rw[h.n];exact hi)];exact h.d i hi
theorem GI.codes(h:GI s nn nl)(hc:bf c):GI (s.1,c) nn nl:=⟨h.n,h.l,h.h,hc,h.g,h.p,h.d⟩
theorem GI.start(hc:bf c):GI (([],[],[]),c) 0 0 :=
 ⟨rfl,rfl,rfl,hc,λx hx=>(by cases hx),λi hi=>Y,λi hi=>Y⟩
theorem GI.routes(h:GI s nn nl):∀ x∈s.1.1,ce x=[]:=λx hx=>by
 have ⟨i,hi,e⟩:=cv8.1 hx
 obtain⟨host,f,sd,hd,-⟩:=h.d i (by rw[← h.n];exact hi)
 have:T s.1.1 i cs5=x:=by rw[cK,cT hi,e];rfl
 rw[this] at hd
 show x.2.2.2.2.1=[]
 rw[hd];rfl
theorem GI.plen(h:GI s nn nl):∀ x∈s.1.1,V x.1<=2*nl:=λx hx=>by
 have ⟨i,hi,e⟩:=cv8.1 hx
 have hp:=h.p i (by rw[← h.n];exact hi)
 have:T s.1.1 i cs5=x:=by rw[cK,cT hi,e];rfl
 rw[this] at hp
 have:=IB i 0 s.1.2.1
 rw[← hp,h.l] at this;exact this
theorem Mv:∀{ns:List ar}{m:Nat},(∀ x∈ns,V x.1<=m)->V (kU ns)<=V ns*m
 | [],m,_=>by simp[kU]
 | x::r,m,h=>by
  have k:=Mv (ns:=r) (m:=m) λy hy=>h y (eZ _ hy);have hx:=h x dU;unfold kU at k ⊢;rw[cz0,cw,nT,fa,Nat.succ_mul];show V (aV x)+_<=_;have:V (aV x)<=m:=hx;omega
theorem GI.ends(h:GI s nn nl):kv (V s.1.1) s.1.2.1:=λx hx=>by
 have:=h.g x hx
 rw[h.n]
 exact⟨this.1.1,this.1.2,this.2.1.1,this.2.1.2⟩
theorem GI.chain{s}(h:GI s 1 0):∀ k,GI ((range k).foldl wN s) (k+1) k
 | 0=>h
 | k+1=>by
  rw[ni,lr];exact ((GI.chain h k).node ct2).link Y Y Y Y Y
def cL(c:bj):Int:=1+(az (mZ (([],[],[]),c) cs8).2 5).1
def A7(c:bj):bY:=((mZ (([],[],[]),c) cs8).1,(az (mZ (([],[],[]),c) cs8).2 5).2)
theorem ai2(h:bf c):GI (A7 c) 1 0:=((GI.start h).node cs8).codes (dZ ((GI.start h).node cs8).c 5).1
theorem Bt(h:bf c):1<=cL c/\cL c<=5:=by
 have:=gh ((GI.start h).node cs8).c (n:=5) Y
 unfold cL;omega
theorem Pn(c):rP c=(cL c,lp (mZ ((range (M (cL c))).foldl wN (A7 c)) cs8) (cL c) (cL c+1)):=rfl
theorem MU(h:bf c):GI (rP c).2 (M (cL c)+2) (M (cL c)+1):=by
 have:=Bt h
 rw[Pn]
 exact (((ai2 h).chain _).node cs8).link Y Y Y Y Y
variable{n:Int}
theorem GI.short(h:GI s nn nl)(n1:1<=n)(hn:n+2<=nn):∃ m,nl<=m/\m<=nl+1/\GI (yL n s) nn m:=by
 have ka:=gh h.c (n:=n) Y
 have ca:=(dZ h.c n).1
 have kb:=gh ca (n:=n) Y
 have cb:=(dZ ca n).1
 unfold yL
 dsimp only
 split
 .exact⟨nl,Y,Y,h.codes cb⟩
 next e=>exact⟨nl+1,Y,Y,(h.codes cb).link Y Y Y Y Y⟩
theorem GI.shorts{s nn nl}(h:GI s nn nl){n:Int}(n1:1<=n)(hn:n+2<=nn):∀ k,∃ m,nl<=m/\m<=nl+k/\GI ((range k).foldl (λs _=>yL n s) s) nn m
 | 0=>⟨nl,Y,Y,h⟩
 | k+1=>by
  obtain⟨m,m0,m1,hm⟩:=GI.shorts h n1 hn k;have ⟨m',q0,q1,hq⟩:=hm.short n1 hn;refine⟨m',Y,Y,?_⟩;rw[ni,lr];exact hq
def wi(plain:Bool)(n:Int)(s:bY)(k:Nat):bY:=if 1<n/\plain=ct2 then (range k).foldl (λs _=>yL n s) (s.1,(az s.2 4).2) else (s.1,(az s.2 4).2)
theorem XS(h:GI s nn nl)(n1:1<=n)(hn:n+2<=nn)(k):∃ m,nl<=m/\m<=nl+k/\GI (wi plain n s k) nn m:=by
 have hc:=h.codes (dZ h.c 4).1
 unfold wi
 split
 .exact hc.shorts n1 hn k
 .exact⟨nl,Y,Y,hc⟩
theorem Qb(plain)(n)(s):Fy plain n s=(let s1:=wi plain n s (az s.2 4).1.toNat
  if plain=cs8/\2<n then
   if (az s1.2 2).1=1 then lp (s1.1,(az (az s1.2 2).2 (n-1)).2) (1+(az (az s1.2 2).2 (n-1)).1) n else (s1.1,(az s1.2 2).2)
  else s1):=rfl
theorem bE5(h:GI s nn nl)(n1:1<=n)(hn:n+2<=nn):∃ m,nl<=m/\m<=nl+4/\GI (Fy plain n s) nn m:=by
 have k4:=gh h.c (n:=4) Y
 have ⟨m,m0,m1,hm⟩:=XS h (plain:=plain) n1 hn (az s.2 4).1.toNat
 rw[Qb]
 dsimp only
 generalize wi plain n s (az s.2 4).1.toNat=t at hm ⊢
 have c2:=(dZ hm.c 2).1
 have c3:=(dZ c2 (n-1)).1
 split
 next e=>
  split
  .have k5:=gh c2 (n:=n-1) Y;exact⟨m+1,Y,Y,(hm.codes c3).link Y Y Y Y Y⟩
  .exact⟨m,Y,Y,hm.codes c2⟩
 .exact⟨m,Y,Y,hm⟩
theorem No(h:bf c)(plain):∃ m,2<=m/\m<=10/\GI (Fy plain (rP c).1 (rP c).2) (M (cL c)+2) m:=by
 have hn:=Bt h
 have ⟨m,m0,m1,hm⟩:=bE5 (MU h) (plain:=plain) (n:=cL c) hn.1 Y
 exact⟨m,Y,Y,hm⟩
abbrev FX:OT := .pair (.pair (.row 133 eM) (.pair (.row 144 tg) (.row 158 oG))) (.ref 86 iA)
def sL(s:bY):List cz:=s.1.2.1
def vF(s:bY):Prop:=bX s.2/\(V s.1.1:Int)<=1000/\(V s.1.2.1:Int)<=1000/\(V s.1.2.2:Int)<=1000∧∀ x∈s.1.1,(V x.1:Int)<=1000
def inN(ns:List ar)(a:Int):Prop:=0<=a/\a<V ns
def cd8:Ct:=⟨[.box 86 iA,.val cI],[.val cI],λd=>[bX d.1,d.2.1<=256],λd=>(((qm d.1 d.2.1).1,()),((qm d.1 d.2.1).2,()))⟩
theorem aG4:
 ∀ a b c,rB a b c->bX (a,b)/\c<=256->nG (cs7 (O a<=b)) (av c 1) (0=(qm (a,b) c).1/\(a,b)=(qm (a,b) c).2) (gP b (O a) (av 256 c) False (c≠0/\cx2 (ap (N a b)) c=(qm (a,b) c).1/\(a,aA b)=(qm (a,b) c).2)):= by
  delta N O ap aq aH aM bN aK br am bw aA J nG av kx rB aF gP
  rintro l p n ⟨⟨⟨hl,hw⟩,h0,h1⟩,⟨h2,h3⟩,-⟩⟨⟨a,f⟩,hn⟩
  simp only[cu5] at hl a f
  (repeat (refine cG ?_;repeat refine cH ?_))
  refine rI (λc=>?_) (λd e=>?_)
  .have c:(V l:Int)<=p∨n<1:=by simpa using c
   rw[qm,ao c];exact⟨rfl,rfl⟩
  .have d:=bg d
   have e:=bg e
   have c:¬ ((V l:Int)<=p∨n<1):=Y
   have ⟨hm0,hm1⟩:=hw _ (cW a Y)
   refine⟨a,Y,ay (λk=>?_) (λ_=>⟨Y,?_⟩)⟩
   .grind
   .rw[qm,I c,aJ Y Y,aJ Y Y];exact⟨rfl,rfl⟩
theorem Yk:aB 12 cd8.spec:=aG Tryz.func12 aC aS aG4
def a03:Ct:=⟨[.box 86 iA,.val cI],[.val cI],λd=>[bX d.1],λd=>(((az d.1 d.2.1).1,()),((az d.1 d.2.1).2,()))⟩
def Fb(a:Z)(b c:Int):=cx2 (ap (ap (256*ap (N a b))+(qm (a,aA b) 256).1)) c
theorem bB1:
 ∀ a b c,rB a b c->aF b (O a)->nG (cs7 (O a<=b)) (av c 1) (0=(az (a,b) c).1/\(a,b)=(az (a,b) c).2) (gP b (O a) (av 256 c) (bX (a,aA b)/\(256:Int)<=(256:Int)/\c≠0/\Fb a b c=(az (a,b) c).1/\(qm (a,aA b) 256).2=(az (a,b) c).2) (c≠0/\cx2 (ap (N a b)) c=(az (a,b) c).1/\(a,aA b)=(az (a,b) c).2)):= by
  delta N O ap aq aH aM bN aK br am bw aA J nG av Fb kx rB aF gP
  rintro l p n ⟨⟨⟨hl,h⟩,h0,h1⟩,⟨h2,h3⟩,-⟩⟨a,g⟩
  simp only[cu5] at hl a g
  (repeat (refine cG ?_;repeat refine cH ?_))
  refine rI (λc=>?_) (λd e=>?_)
  .have c:(V l:Int)<=p∨n<1:=by simpa using c
   rw[az,ao c];exact⟨rfl,rfl⟩
  .have d:=bg d
   have e:=bg e
   have c:¬ ((V l:Int)<=p∨n<1):=Y
   have ⟨hm0,hm1⟩:=h _ (cW a Y)
   rw[aJ Y Y,aJ (n:=T l (M p) cs5) Y Y]
   refine⟨a,Y,ay (λk=>?_) (λk=>⟨Y,?_⟩)⟩
   .have k:=aX k
    have f:bf (l,p+1):=⟨⟨by show 0<=p+1;omega,by show p+1<=V l;omega⟩,h⟩
    have hr:=Q0 f 256
    refine⟨f.at',Y,Y,?_⟩
    rw[az,I c,ao k,aJ (n:=256*_) Y Y,aJ Y Y]
    exact⟨rfl,rfl⟩
   .rw[az,I c,I (bg k)];exact⟨rfl,rfl⟩
theorem Ek:aB 12 a03.spec:=aG Tryz.func12 (C aC Yk) aS bB1
def cq5:Ct:=⟨[.box 89 FX,.val .bool],[.val cI],λd=>[vF d.1],λd=>(((V d.1.1.1:Int),()),(mZ d.1 d.2.1,()))⟩
def vx(a:List ar)(b:List bu)(c:List cJ)(d:Z)(e:Int):=((V a<=cu5/\ ∀(f:ar),f∈a->CT.wf eM f)/\jR b/\V c<=cu5/\ ∀(f:cJ),f∈c->CT.wf oG f)/\aM d/\aq e
def PZ(a:Z)(b:Int):=az (az (a,b) 3).2 256
def Tq:=(64:Int)::(255:Int)::bI 128
def Tr(a:List ar)(b:Bool)(c:Z)(d:Int):=[(([]:List aq4),(0:Int),ap (1+ap (Int.tdiv (O a) 3)),b,([]:List cF),(1:Int),(0:Int),(0:Int),(0:Int),(0:Int),((0:Int),(0:Int)),ct2,ct2,N Tq (az (c,d) 3).1,(PZ c d).1)]
theorem aX0:
 ∀ a b c d e f,vx a b c d e/\J True->(bX (d,e)/\O a<=1000/\O b<=1000/\O c<=1000/\ ∀ g,g∈a->O g.1<=1000)->bX (d,e)/\bP (az (d,e) 3).1 (O Tq) (bX (az (d,e) 3).2) ((3:Int)≠(0:Int)/\bR ((V a+V (Tr a f d e))*152)/\qz a/\((a++Tr a f d e,b,c),(PZ d e).2)=mZ ((a,b,c),d,e) f):= by
  delta N O ap aq aH aM jR am bR bJ vx J bI bP Tr PZ Tq aF qz
  rintro ns ls hs l p b ⟨⟨-,⟨hl,hw⟩,-⟩,-,-⟩⟨c,h1,h2,h3,h4⟩
  have a:bf (l,p):=⟨c,hw⟩
  have r1:=dZ a 3
  have r2:=gh a (n:=3) Y
  have e:Int.tdiv (V ns:Int) 3=(V ns:Int)/3:=FJ Y
  refine⟨c,r2.1,by simpa using r2.2,r1.1.at',Y,by simp;omega,rfl,?_⟩
  rw[e,aJ (n:=(V ns:Int)/3) Y Y,aJ Y Y]
  rfl
theorem aW8:aB 24 cq5.spec:=aG Tryz.func24 (C aC Ek) aS aX0
def uz(ns:List ar)(a b l k:Int):List ar:=if k=0 then ns else if k=1 then nA ns a (iE l+1,l) else nA (nA ns a (iE l+1,l)) b (iE l+2,l)
def UB:Ct:=⟨[.box 89 FX,.val cI,.val cI],[.val cI],λd=>[vF d.1,inN d.1.1.1 d.2.1,inN d.1.1.1 d.2.2.1],λd=>(((V d.1.1.2.1:Int),()),(lp d.1 d.2.1 d.2.2.1,()))⟩
def be7:bG UB.ps->bL:=(λd=>{loops:=(bz 5 (λS=>{ι:=Int×(List ar),qn:=fE,μ:=λi=>M (2-i.1),inv:=λi=>0<=i.1/\i.1<=2/\i.2=uz d.1.1.1 d.2.1 d.2.2.1 (V d.1.1.2.1) i.1,keep:=[0,1,2,6,7,8],slots:=λi=>[(9,.int .i64 i.1)],keepN:=[1048577,2097154],names:=λi=>[(1048576,.live (.cells 89 [.own 524288 16,.own 524289 6,.own 2097154 7,.ptr 1048577 0])),(524288,.live (.row 133 eM i.2)),(524289,.live (.row 144 tg (sL (lp d.1 d.2.1 d.2.2.1))))]}) cm)})
def CO(a:List bu):=ct1 ct3 (ap (167837696+ap (4*O a)))
def wL(a:Z)(b:Int):=az (az (a,b) 20).2 256
def zF(a:Int×bj):=ap (1+a.1)
theorem bc8:
 ∀ a b c d e f g,vx a b c d e/\dP f g->vF ((a,b,c),d,e)/\inN a f/\0<=g/\g<O a->bX (d,e)/\bX (az (d,e) 20).2/\bR ((V b+V [(f,g,zF (az (d,e) 20),(0:Int),(0:Int),(wL d e).1)])*48)/\(∃ h i,am h (h<=2) (i=uz a f g (O b) h)/\bh f g 0 (O b=O b) (CO b=CO b/\0=h/\(wL d e).2.1=(wL d e).2.1/\(wL d e).2.2=(wL d e).2.2/\c=c/\a=i/\J (b++[(f,g,zF (az (d,e) 20),0,0,(wL d e).1)]=sL (lp ((a,b,c),d,e) f g))))/\ ∀ h i,am h (h<=2) (i=uz a f g (O b) h)->eh h 2 (h<O (f::bI g)) (bP (N (f::bI g) h) (O i) (bR (V (N i (N (f::bI g) h)).1*16)) (bR ((V (N i (N (f::bI g) h)).1+V [(ct1 ct3 (ct1 ct3 (CO b+1)+ct1 ct3 h),O
 b)])*16)/\am (N (f::bI g) h) (N (f::bI g) h<O i) (∃ j k,am j (j<=2) (k=uz a f g (O b) j)/\bi 2 j h/\bh f g 0 (O b=O b) (CO b=CO b/\aA h=j/\(wL d e).2.1=(wL d e).2.1/\(wL d e).2.2=(wL d e).2.2/\c=c/\set i (M (N (f::bI g) h)) ((N i (N (f::bI g) h)).1++[(ct1 ct3 (ct1 ct3 (CO b+1)+ct1 ct3 h),O b)],(N i (N (f::bI g) h)).2)=k/\J (sL (lp ((a,b,c),d,e) f g)=sL (lp ((a,b,c),d,e) f g)))))) (O b=O b) (((i,sL (lp ((a,b,c),d,e) f g),c),(wL d e).2)=lp ((a,b,c),d,e) f g):= by
  delta N O ap aq aH aM bh bp jR bi bZ am bR bJ vx eh aA J bI dP CO wL av bP zF aF
  rintro ns ls hs l p a b ⟨⟨-,⟨hl,hw⟩,-⟩,⟨ha1,ha2⟩,⟨hb1,hb2⟩,-⟩⟨⟨o,h1,h2,h3,q⟩,⟨e,d⟩,b0,f⟩
  simp only at h1 h2 h3 q d
  have g:bf (l,p):=⟨o,hw⟩
  have r1:=dZ g 20
  have e1:ct0.wrap (1+(az (l,p) 20).1)=1+(az (l,p) 20).1:=aJ Y Y
  rw[e1,aJ (n:=4*(V ls:Int)) Y Y,aJ Y Y,vX Y Y,vX Y Y]
  refine⟨o,r1.1.at',by simp only[fq];omega,⟨0,ns,⟨Y,Y,by rw[uz,ao rfl]⟩,?_⟩,?_⟩
  ·(repeat refine wD ?_)
   exact⟨rfl,aQ⟩
  rintro k ms ⟨k0,k2,rfl⟩
  have hlen:∀ m,V (uz ns a b (V ls) m)=V ns:=λm=>by
   unfold uz nA;split
   .rfl
   .split <;> simp
  refine bT (λhk=>?_) (λhk=>?_)
  .rw[hlen]
   have h:k=0∨k=1:=Y
   have hports:∀ x:Int,0<=x->x<V ns->((T ns (M x) cs5).1.length:Int)<=1000:=λx x0 x1=>q _ (cW x0 x1)
   obtain rfl|rfl:=h
   .have i:uz ns a b (V ls) 0=ns:=by rw[uz,ao rfl]
    rw[i]
    have:=hports a e d
    have j:T ([a,b]:Z) (M 0) cs5=a:=rfl
    rw[j]
    refine⟨Y,aw,e,d,Y,by simp only[fq];omega,e,d,1,_,⟨Y,Y,rfl⟩,Y,?_⟩
    (repeat refine wD ?_)
    refine⟨aJ Y Y,?_⟩
    (repeat refine wD ?_)
    refine⟨?_,?_⟩
    .rw[uz,I Y,ao rfl]
     have:ct3.wrap (167837696+4*(V ls:Int)+1+ct3.wrap 0)=iE (V ls)+1:=by
      rw[vX (n:=0) Y Y,vX Y Y];unfold iE;omega
     rw[this];rfl
    .exact⟨rfl,aQ⟩
   .have i:uz ns a b (V ls) 1=nA ns a (iE (V ls)+1,V ls):=by rw[uz,I Y,ao rfl]
    rw[i]
    have j:T ([a,b]:Z) (M 1) cs5=b:=rfl
    rw[j]
    have hpb:((T (nA ns a (iE (V ls)+1,V ls)) (M b) cs5).1.length:Int)<=1001:=by
     unfold nA
     by_cases c:M a=M b
     .rw[c,kW Y]
      grind
     .rw[qN c]
      have:=hports b b0 f;omega
    refine⟨Y,aw,b0,f,Y,by simp only[fq];omega,b0,f,2,_,⟨Y,Y,rfl⟩,Y,?_⟩
    (repeat refine wD ?_)
    refine⟨aJ Y Y,?_⟩
    (repeat refine wD ?_)
    refine⟨?_,?_⟩
    .rw[uz,I Y,I Y]
     have:ct3.wrap (167837696+4*(V ls:Int)+1+ct3.wrap 1)=iE (V ls)+2:=by
      rw[vX (n:=1) Y Y,vX Y Y];unfold iE;omega
     rw[this];rfl
    .exact⟨rfl,aQ⟩
  .have:k=2:=Y
   subst this
   refine⟨rfl,?_⟩
   rfl
theorem bM7:aB 25 UB.spec:=aG Tryz.func25 (C aC Ek) be7 bc8
def V5(k:Int)(done:Z)(f:Bool)(l:Z):Prop:=(f=ct2/\l=done∧∀ x∈done,¬ k<x)∨(f=cs8/\l=nZ k done∧∃ x∈done,k<x)
def XV:Ct:=⟨[.box 89 FX,.val cI,.agg qF,.val cI,.val cI],[],λd=>[inN d.1.1.1 d.2.1,dY (ce (T d.1.1.1 (M d.2.1) cs5)),okL (ce (T d.1.1.1 (M d.2.1) cs5)),∀ r∈ce (T d.1.1.1 (M d.2.1) cs5),(V r.2.1:Int)<=1000],λd=>((),(((xC d.1.1.1 d.2.1 d.2.2.1 d.2.2.2.1 d.2.2.2.2.1,d.1.1.2),d.1.2),()))⟩
def bx4:bG XV.ps->bL:=(λd=>{loops:=(bz 3 (λS=>{ι:=Int,μ:=λi=>M (V (ce (T d.1.1.1 (M d.2.1) cs5))-i),inv:=λi=>0<=i/\i<=V (ce (T d.1.1.1 (M d.2.1) cs5))∧∀ r∈(ce (T d.1.1.1 (M d.2.1) cs5)).take (M i),cs7 (r.1=d.2.2.1)=ct2,keep:=[0,1,3,4,7,8,9,10],slots:=λi=>[(11,.int .i64 i)],keepN:=[1048576,1048577,2097152,2097153,2097154,128]}) (bz 7 (λS=>{ι:=Int,μ:=λi=>M ((T (ce (T d.1.1.1 (M d.2.1) cs5)) (M (S.i 11)) cs5).2.1.length-i),inv:=λi=>0<=i/\i<=(T (ce (T d.1.1.1 (M d.2.1) cs5)) (M (S.i 11)) cs5).2.1.length∧∀ x∈(T (ce (T d.1.1.1 (M d.2.1) cs5)) (M (S.i 11)) cs5).2.1.take (M i),x≠d.2.2.2.1,keep:=[0,1,3,4,7,8,9,10,11],slots:=λi=>[(12,.int .i64 i)],keepN:=[1048576,1048577,2097152,2097153,2097154,128]}) (bz 13 (λS=>{ι:=Int×Bool×Z,qn:=ot,μ:=λi=>M ((T (ce (T d.1.1.1 (M d.2.1) cs5)) (M (S.i 11)) cs5).2.1.length-i.1),inv:=λi=>0<=i.1/\i.1<=(T (ce (T d.1.1.1 (M d.2.1) cs5)) (M (S.i 11)) cs5).2.1.length/\V5 d.2.2.2.1 ((T (ce (T d.1.1.1 (M d.2.1) cs5)) (M (S.i 11)) cs5).2.1.take (M i.1)) i.2.1 i.2.2,keep:=[0,1,3,4,7,8,9,10,11,13],slots:=λi=>[(14,.bool i.2.1),(15,.int .i64 i.1)],keepN:=[1048576,1048577,2097152,2097153,2097154,128],names:=λi=>[(224,.live (.cells 156 [.int .u32 d.2.2.1.1,.int .i64 d.2.2.1.2,.own 524288 1,.int .i64 (T (ce (T d.1.1.1 (M d.2.1) cs5)) (M (S.i 11)) cs5).2.2])),(524288,.live (.row 3 cI i.2.2))]}) cm)))})
def lE(a:List ar)(b:Int):=(N a b).2.2.2.2.1
def uT(a:Int):=M a=M a
def vY(a:List ar)(b c:Int):=(N (ce (N a b)) c).2.1
def JK(a:Int)(b:List ar)(c d e:Int):=am a (a<=O (ce (N b c))) (∀(f:cF),f∈take (M a) (ce (N b c))->cs7 (f.1=(d,e))=ct2)
def Lj(a:List ar)(b:Int)(c:aq4)(d:bj):=((N a b).1,(N a b).2.1,(N a b).2.2.1,(N a b).2.2.2.1,gC (lE a b) (c,d),(N a b).2.2.2.2.2)
def IM(a:Int)(b:List ar)(c d e:Int)(f:Bool)(g:Z):=am a (a<=O (vY b c d)) (V5 e (take (M a) (vY b c d)) f g)
def vg(a:List ar)(b c:Int):=(N (lE a b) c).2.1
def BJ(a:List ar)(b c:Int):=(N (ce (N a b)) c).2.2
def tp(a:Z)(b:Int)(c:List ar)(d:List bu)(e f:Prop):=a=a/\b=b/\iz c d e f
theorem a92:
 ∀ a b c d e f g h i j,vx a b c d e/\aq f/\(aT g/\aq h)/\dP i j->(inN a f/\dY (ce (N a f))/\okL (ce (N a f))/\ ∀ k,k∈ce (N a f)->O k.2.1<=1000)->bP f (O a) (∃ k,JK k a f g h/\bh f i j (uT f) (0=k/\tp d e a b (c=c) (qK g h))) (∀ k,JK k a f g h->eh k (O (lE a f)) (k<O (lE a f)) (au (cs7 ((N (lE a f) k).1.1=g)&&(cs7 ((N (lE a f) k).1.2=h)&&cs8)) ((∃ l,B0 l (vY a f k) (take (M l) (vY a f k)) i/\bh f i j (uT f) (k=k/\0=l/\tp d e a b (c=c) (qK g h)))/\ ∀ l,B0 l (vY a f k) (take (M l) (vY a f k)) i->gP k (O (lE a f)) (av l (O (vg a f k))) (am k (k<O (lE a f)) (gP l (O (vg a f k)) (cs7 (N (vg a f k) l=i)) (((a,b,c),d,e)=((xC a f (g,h) i
 j,b,c),d,e)) (∃ m,B0 m (vY a f k) (take (M m) (vY a f k)) i/\bi (O (vY a f k)) m l/\bh f i j (uT f) (k=k/\aA l=m/\tp d e a b (c=c) (qK g h))))) (bP k (O (lE a f)) (∃ m n o,IM m a f k i n o/\bh f i j (uT f) (k=k/\ct2=n/\0=m/\tp d e a b (c=c) (bh g h g (h=h) ((N (lE a f) k).2.2=BJ a f k/\J (o=[]))))) (∀ m n o,IM m a f k i n o->gP k (O (lE a f)) (av m (O (vg a f k))) (∀ p,p=( !n)->fp p p (aK p) (p->iW p p k (k<O (lE a f))) (oq p p (iW p p m (m<O (vg a f k))) (dE p) (p->p) (au (bq p (av i (N (vg a f k) m))) (vJ o (bI i)/\am k (k<O (lE a f)) (bP m (O (vg a f k)) (vJ (o++bI i) (bI (N (vg a f k) m))) (∃ q r s,IM q a f k i r s/\bi (O (vY a f k)) q
 m/\bh f i j (uT f) (k=k/\cs8=r/\aA m=q/\tp d e a b (c=c) (bh g h g (h=h) (BJ a f k=BJ a f k/\J (o++bI i++bI (N (vg a f k) m)=s))))))) (am k (k<O (lE a f)) (bP m (O (vg a f k)) (vJ o (bI (N (vg a f k) m))) (∃ q r s,IM q a f k i r s/\bi (O (vY a f k)) q m/\bh f i j (uT f) (k=k/\n=r/\aA m=q/\tp d e a b (c=c) (bh g h g (h=h) (BJ a f k=BJ a f k/\J (o++bI (N (vg a f k) m)=s)))))))))) (au ( !n) (vJ o (bI i)/\dY (lE a f)/\okL (lE a f)/\aR (o++bI i)/\((set a (M f) (Lj a f (g,h) (o++bI i,BJ a f k)),b,c),d,e)=((xC a f (g,h) i j,b,c),d,e)) (dY (lE a f)/\okL (lE a f)/\aR o/\((set a (M f) (Lj a f (g,h) (o,BJ a f k)),b,c),d,e)=((xC a f (g,h) i j,b,c),d,e)))))) (∃ l,JK l a f g h/\bi (O (ce
 (N a f))) l k/\bh f i j (uT f) (aA k=l/\tp d e a b (c=c) (qK g h)))) (dY (lE a f)) (okL (lE a f)/\aR (bI i)/\((set a (M f) (Lj a f (g,h) (bI i,j)),b,c),d,e)=((xC a f (g,h) i j,b,c),d,e))):= by
  delta N O ap aq aH aM aK bh aT bp jR aR cB bi bq bZ am bR bJ vx eh aA fp J lE bI iW uT iz vY dP dE JK Lj av B0 oq bP vJ IM vg qK BJ tp aF gP
  rintro ns ls hs cl cp n a pl k way-⟨⟨n0,n1⟩,hsr,hol,hnx⟩
  have eR:(T ns (M n) cs5).2.2.2.2.1=ce (T ns (M n) cs5):=rfl
  simp only[eR]
  have fin:∀ l',BP (ce (T ns (M n) cs5)) (a,pl) k way=l'→((ns.set (M n) ((T ns (M n) cs5).1,(T ns (M n) cs5).2.1,(T ns (M n) cs5).2.2.1,(T ns (M n) cs5).2.2.2.1,l',(T ns (M n) cs5).2.2.2.2.2),ls,hs),cl,cp)=((xC ns n (a,pl) k way,ls,hs),cl,cp):=by
   rintro _ rfl;rfl
  have same:BP (ce (T ns (M n) cs5)) (a,pl) k way=ce (T ns (M n) cs5)->((ns,ls,hs),cl,cp)=((xC ns n (a,pl) k way,ls,hs),cl,cp):=λh=>by
   have h2:=fin _ h
   rw[← h2]
   have e:((T ns (M n) cs5).1,(T ns (M n) cs5).2.1,(T ns (M n) cs5).2.2.1,(T ns (M n) cs5).2.2.2.1,ce (T ns (M n) cs5),(T ns (M n) cs5).2.2.2.2.2)=T ns (M n) default:=rfl
   simp_all
  generalize ce (T ns (M n) cs5)=R at *
  have hlR:=hol.1
  refine⟨n0,n1,⟨0,⟨Y,Y,aw⟩,aI⟩,?_⟩
  rintro i ⟨i0,i1,hi⟩
  refine ay (λhk=>?_) (λhk=>?_)
  rotate_left
  .have hk:=bg hk
   rw[gE Y] at hi
   refine⟨hsr,hol,aw,fin _ ?_⟩
   have e:zw R (a,pl)=V R:=List.findIdx_eq_length_of_false hi
   rw[BP,e,I (Nat.lt_irrefl _)]
  have hk:=aX hk
  refine⟨i0,hk,ay (λhm=>?_) (λhm=>?_)⟩
  rotate_left
  .have hf:cs7 ((T R (M i) cs5).1=(a,pl))=false:=by
    grind
   exact⟨i+1,⟨Y,Y,yD i0 hk hi hf⟩,Y,aI⟩
  have hm:cs7 ((T R (M i) cs5).1=(a,pl))=true:=by
   grind
  have hfi:i=if zw R (a,pl)<V R then (zw R (a,pl):Int) else -1:=F0 i0 hk hi hm
  have hfl:=jW λq=>by rw[I q] at hfi;omega
  rw[ao hfl] at hfi
  have hfe:zw R (a,pl)=M i:=Y
  have hrl:=hnx _ (cW i0 hk)
  have eL:BP R (a,pl) k way=if k∈(T R (M i) cs5).2.1 then R else gC R ((a,pl),nZ k (T R (M i) cs5).2.1,(T R (M i) cs5).2.2):=by
   rw[BP,ao hfl,hfe]
  generalize hZ:T R (M i) cs5=S at *
  refine⟨⟨0,⟨Y,Y,aw⟩,aI⟩,?_⟩
  rintro j ⟨j0,j1,hj⟩
  refine⟨i0,hk,ay (λhjk=>?_) (λhjk=>?_)⟩
  .have hjk:=aX hjk
   refine⟨i0,hk,j0,hjk,ay (λhe=>same ?_) (λhe=>?_)⟩
   .have he:=aX he
    rw[eL,ao (he▸cW j0 hjk)]
   .exact⟨j+1,⟨Y,Y,yD (P:=λx=>x≠k) j0 hjk hj (bg he)⟩,Y,aI⟩
  have hjk:=bg hjk
  rw[gE Y] at hj
  have hnk:¬ k∈S.2.1:=λq=>hj k q rfl
  rw[I hnk] at eL
  refine⟨i0,hk,⟨0,ct2,[],⟨Y,Y,.inl ⟨rfl,aw,aw⟩⟩,aI⟩,?_⟩
  rintro m f l ⟨m0,m1,hins⟩
  have hll:(V l:Int)<=1001:=by
   obtain⟨-,rfl,-⟩|⟨-,rfl,-⟩:=hins
   .grind
   .rw[Ss,fF];omega
  refine⟨i0,hk,ay (λhmk=>?_) (λhmk=>?_)⟩
  .have hmk:=aX hmk
   (repeat (intro (b_:Bool) (hb_:b_=_);(repeat refine⟨(by first|(simp +contextual;done)|(rw[hb_];simp +contextual;done)|(rw[hb_];simp;omega)|(rw[hb_];simp;intros;omega)|(rw[hb_];simp +contextual;intros;omega)|(intros;simp_all;done)|(intros;simp_all;omega)),?_⟩)));(repeat (subst hb_))
   refine uZ (λh1 h2=>?_) (λh1=>?_)
   .have h1:f=false:=by simpa using h1
    have h2:=aX h2
    subst h1
    obtain⟨-,rfl,hin⟩|⟨q,-⟩:=hins
    .refine⟨by simp only[fq];omega,i0,hk,m0,hmk,by simp only[cw,fq];omega,m+1,cs8,_,⟨Y,Y,.inr ⟨rfl,rfl,T S.2.1 (M m) cs5,?_,h2⟩⟩,Y,?_⟩
     .rw[nq m0 hmk];exact gU _ aw
     ·(repeat refine g9 ?_)
      refine⟨?_,aQ⟩
      rw[nq m0 hmk,WO hin h2]
    .cases q
   .refine⟨i0,hk,m0,hmk,by simp only[fq];omega,m+1,f,l++[T S.2.1 (M m) cs5],⟨Y,Y,?_⟩,Y,aI⟩
    rw[nq m0 hmk]
    obtain⟨rfl,rfl,hin⟩|⟨rfl,rfl,hin⟩:=hins
    .refine .inl ⟨rfl,rfl,λx hx=>?_⟩
     obtain hx|hx:=dX.1 hx
     .exact hin x hx
     .rw[iV.1 hx]
      grind
    .have ⟨x,hx,hx2⟩:=hin
     exact .inr ⟨rfl,(Yq ⟨x,hx,hx2⟩).symm,x,gq _ hx,hx2⟩
  have hmk:=bg hmk
  rw[gE Y] at hins
  refine ay (λhf=>?_) (λhf=>?_)
  .have hf:f=false:=by simpa using hf
   obtain⟨-,rfl,hin⟩|⟨q,-⟩:=hins
   .refine⟨by simp only[fq];omega,hsr,hol,by simp only[cw,fq];omega,fin _ ?_⟩
    rw[eL,WJ hin]
   .rw[hf] at q;cases q
  .have hf:f=true:=by simpa using hf
   obtain⟨q,-⟩|⟨-,rfl,hin⟩:=hins
   .rw[hf] at q;cases q
   .exact⟨hsr,hol,Y,fin _ eL⟩
theorem bp8:aB 55 XV.spec:=aG Tryz.func55 (C aC co4) bx4 a92
def az1(n:Nat)(to:Int):Z:=(replicate n (1000:Int)).set (M to) 0
def zi(n:Nat)(ls:List cz)(to:Int)(k:Nat):Z:=(range k).foldl (λd _=>ls.foldl Al d) (az1 n to)
variable{n:Nat}
theorem aF1{i:Int}(h0:0<=i)(h1:i<n):(replicate (M i) (1000:Int)++replicate (n-M i) 0).set (M i) 1000=replicate (M (i+1)) 1000++replicate (n-M (i+1)) 0:=by
 have e:M (i+1)=M i+1:=Y
 have e2:n-M i=(n-(M i+1))+1:=Y
 rw[e,e2,List.set_append_right _ _ aw,wU,cP3,List.replicate_succ,List.set_cons_zero,cQ2,gI]
 rfl
def xB(n:Nat)(d:Z):Prop:=V d=n∧∀ x∈d,0<=x/\x<=1000
theorem Qm{i}(h:xB n d)(h0:0<=v)(h1:v<=1000):xB n (d.set i v):=by
 refine⟨by rw[f5];exact h.1,λx a=>?_⟩
 obtain a|rfl:=AL a
 .exact h.2 x a
 .exact⟨h0,h1⟩
theorem Xs(h:xB n d){i:Int}(h0:0<=i)(h1:i<n):0<=T d (M i) cs5/\T d (M i) cs5<=1000:=h.2 _ (cW h0 (by rw[h.1];exact h1))
variable{l:cz}
theorem ba0(h:xB n d)(a:0<=l.1/\l.1<n/\0<=l.2.1/\l.2.1<n):xB n (Al d l):=by
 have ha:=Xs h a.1 a.2.1
 have hb:=Xs h a.2.2.1 a.2.2.2
 unfold Al lA lB
 exact Qm (Qm h Y Y) Y Y
theorem PD{n}:∀{ls:List cz}{d:Z},kv n ls->xB n d->xB n (ls.foldl Al d)
 | [],d,_,h=>h
 | l::ls,d,a,h=>PD (ls:=ls) (λx hx=>a x (eZ _ hx)) (ba0 h (a l dU))
theorem b90(hg:kv n ls)(h:xB n d)(j):xB n ((ls.take j).foldl Al d) :=
 PD (λx hx=>hg x (te hx)) h
theorem Pu(n)(ls)(to)(a:kv n ls):∀ k,xB n (zi n ls to k)
 | 0=>Qm ⟨wU,λx hx=>by rw[(List.mem_replicate.1 hx).2];omega⟩ Y Y
 | k+1=>by
  have:=PD a (Pu n ls to a k);unfold zi at this ⊢;rw[ni,lr];exact this
def Y7:Ct:=⟨[.box 89 FX,.val cI],[.own 3 cI],λd=>[(V d.1.1.1:Int)<=1000,(V d.1.1.2.1:Int)<=1000,inN d.1.1.1 d.2.1,kv (V d.1.1.1) d.1.1.2.1],λd=>((mq (V d.1.1.1) d.1.1.2.1 d.2.1,()),(d.1,()))⟩
def a55:bG Y7.ps->bL:=(λd=>{loops:=(bz 3 (λS=>{ι:=Int×Z,qn:=fE,μ:=λi=>M (V d.1.1.1-i.1),inv:=λi=>0<=i.1/\i.1<=V d.1.1.1/\i.2=replicate (M i.1) 1000++replicate (V d.1.1.1-M i.1) 0,keep:=[0,1],slots:=λi=>[(6,.int .i64 i.1),(5,.own 524288 1)],keepN:=[1048576,1048577,2097152,2097153,2097154],names:=λi=>[(524288,.live (.row 3 cI i.2))]}) (bz 8 (λS=>{ι:=Int×Z,qn:=fE,μ:=λi=>M (V d.1.1.1-i.1),inv:=λi=>0<=i.1/\i.1<=V d.1.1.1/\i.2=zi (V d.1.1.1) d.1.1.2.1 d.2.1 (M i.1),keep:=[0,1],slots:=λi=>[(7,.int .i64 i.1),(5,.own 524288 1)],keepN:=[1048576,1048577,2097152,2097153,2097154],names:=λi=>[(524288,.live (.row 3 cI i.2))]}) (bz 11 (λS=>{ι:=Int×Z,qn:=fE,μ:=λi=>M (V d.1.1.2.1-i.1),inv:=λi=>0<=i.1/\i.1<=V d.1.1.2.1/\i.2=(d.1.1.2.1.take (M i.1)).foldl Al (zi (V d.1.1.1) d.1.1.2.1 d.2.1 (M (S.i 7))),keep:=[0,1,7],slots:=λi=>[(8,.int .i64 i.1),(5,.own 524288 1)],keepN:=[1048576,1048577,2097152,2097153,2097154],names:=λi=>[(524288,.live (.row 3 cI i.2))]}) cm)))})
def Jl(a:Int)(b:List ar)(c:Z):=f9 a (O b) c (replicate (M a) 1000++replicate (V b -M a) 0)
def Nk(a:Int)(b:List bu)(c:Z)(d:List ar)(e f:Int):=f9 a (O b) c (cw5 Al (zi (V d) b e (M f)) (take (M a) b))
theorem aA2:
 ∀ a b c d e f,vx a b c d e/\J (aq f)->(O a<=1000/\O b<=1000/\inN a f/\ ∀ g,g∈b->bP g.1 (O a) (0<=g.2.1) (g.2.1<O a))->bo (O a) (O a) (tJ ((↑((8:Nat)):Int)*O a)) ((∃ g h,Jl g a h/\f=f/\0=g/\tp d e a b (c=c) (J (replicate (M (O a)) 0=h)))/\ ∀ g h,Jl g a h->au (av g (O h)) (am g (g<O h) (∃ i j,Jl i a j/\bi (O a) i g/\f=f/\aA g=i/\tp d e a b (c=c) (J (set h (M g) 1000=j)))) (bP f (O h) (∃ i j,f9 i (O a) j (zi (V a) b f (M i))/\f=f/\0=i/\tp d e a b (c=c) (J (set h (M f) 0=j))) (∀ i j,f9 i (O a) j (zi (V a) b f (M i))->au (av i (O j)) ((∃ k l,Nk k b l a f i/\bp f i (0=k) (tp d e a b (c=c) (J
 (j=l))))/\ ∀ k l,Nk k b l a f i->au (av k (O b)) (am k (k<O b) (am (N b k).1 ((N b k).1<O l) (am (gZ b k) (gZ b k<O l) (am (gZ b k) (gZ b k<O l) (am (N b k).1 ((N b k).1<O l) (am (N b k).1 ((N b k).1<O l) (am (gZ b k) (gZ b k<O (set l (M (N b k).1) (min (N l (N b k).1) (aA (N l (gZ b k)))))) (∃ m n,Nk m b n a f i/\bi (O b) m k/\bp f i (aA k=m) (tp d e a b (c=c) (J (set (set l (M (N b k).1) (min (N l (N b k).1) (aA (N l (gZ b k))))) (M (gZ b k)) (min (N l (gZ b k)) (aA (N l (N b k).1)))=n))))))))))) (∃ m n,f9 m (O a) n (zi (V a) b f (M m))/\bi (O a) m i/\f=f/\aA i=m/\tp d e a b (c=c) (J (l=n)))) (j=mq (V a) b f/\((a,b,c),d,e)=((a,b,c),d,e))))):= by
  delta N O ap aq aH aM bp jR bi bZ am bJ bo vx aA J iz av bP f9 Jl gZ Nk tp aF tJ
  rintro ns ls hs l p to-⟨h1,h2,⟨t0,t1⟩,q⟩
  refine⟨Y,Y,Y,⟨0,_,⟨Y,Y,rfl⟩,?_⟩,?_⟩
  .simp_all
  rintro i d ⟨s,i1,rfl⟩
  have g:V (replicate (M i) (1000:Int)++replicate (V ns-M i) 0)=V ns:=by
   simp_all
  rw[g]
  refine ay (λc=>?_) (λc=>?_)
  .have c:=aX c
   refine⟨s,c,i+1,_,⟨Y,Y,rfl⟩,Y,?_⟩
   (repeat refine wD ?_)
   refine⟨aJ Y Y,?_⟩
   (repeat refine wD ?_)
   refine⟨?_,aQ⟩
   exact aF1 s c
  have c:=bg c
  have e:M i=V ns:=Y
  rw[e,cP3,cQ8,js]
  refine⟨t0,t1,⟨0,_,⟨Y,Y,rfl⟩,?_⟩,?_⟩
  ·(repeat refine wD ?_)
   exact⟨rfl,aQ⟩
  rintro k d ⟨k0,k1,rfl⟩
  have t:=Pu (V ns) ls to q
  rw[(t (M k)).1]
  refine ay (λa=>?_) (λa=>?_)
  rotate_left
  .have a:=bg a
   have e:M k=V ns:=Y
   rw[e];exact⟨rfl,rfl⟩
  have a:=aX a
  refine⟨⟨0,_,⟨Y,Y,rfl⟩,?_⟩,?_⟩
  .simp_all
  rintro j d ⟨r,j1,rfl⟩
  have f:=b90 q (t (M k)) (M j)
  refine ay (λb=>?_) (λb=>?_)
  rotate_left
  .have b:=bg b
   refine⟨k+1,_,⟨Y,Y,rfl⟩,Y,?_⟩
   (repeat refine wD ?_)
   refine⟨aJ Y Y,?_⟩
   (repeat refine wD ?_)
   refine⟨?_,aQ⟩
   rw[gE Y,show M (k+1)=M k+1 by omega]
   unfold zi
   rw[ni,lr];rfl
  have b:=aX b
  have ⟨h,m,n,o⟩:=q _ (cW r b)
  generalize hX:cw5 Al (zi (V ns) ls to (M k)) (ls.take (M j))=X at f
  have xa:=f.2 _ (cW h (by rw[f.1];exact m))
  have xb:=f.2 _ (cW n (by rw[f.1];exact o))
  simp only[f5]
  rw[f.1]
  refine⟨r,b,h,m,n,o,n,o,h,m,h,m,n,o,j+1,_,⟨Y,Y,rfl⟩,Y,?_⟩
  (repeat refine g9 ?_)
  refine⟨?_,aQ⟩
  rw[aJ Y Y,aJ Y Y,nq r b,lr,hX]
  rfl
theorem aL7:aB 53 Y7.spec:=aG Tryz.func53 aC a55 aA2
def ba3:Ct:=⟨[.val (.sl fD),.agg qF],[.val .bool],λd=>[okL d.1],λd=>((tP d.1 d.2.1,()),())⟩
theorem be1:
 ∀ a b c,dh a/\J (aT b/\aq c)->xA a->okL a/\tP a (b,c)=tP a (b,c):= by
  delta O aq aH dh dC cU aT aR J xA aF
  rintro l a n-h
  exact⟨h,rfl⟩
theorem b81:aB 54 ba3.spec:=aG Tryz.func54 (C aC bu9) aS be1
def aG8:Ct:=⟨[.box 86 iA],[.val dB],λd=>[bX d.1],λd=>((ct3.wrap (167837696+(az d.1 40).1),()),((az d.1 40).2,()))⟩
theorem bU8:
 ∀ a b,J (aM a/\aq b)->aF b (O a)->bX (a,b)/\ct1 ct3 (ap (167837696+(az (a,b) 40).1))=ct1 ct3 (167837696+(az (a,b) 40).1)/\(az (a,b) 40).2=(az (a,b) 40).2:= by
  delta O ap aq aH aM J aF
  rintro l p ⟨⟨⟨hl,hw⟩,-⟩,-⟩ b
  have a:bf (l,p):=⟨b,hw⟩
  have r2:=gh a (n:=40) Y
  refine⟨b,?_,rfl⟩
  rw[aJ Y Y]
theorem bP8:aB 56 aG8.spec:=aG Tryz.func56 (C aC Ek) aS bU8
def tB(d:Z)(to:Int)(p:fM)(plain:Bool)(k way:Int)(ns:List ar)(l:cz)(e:Int):List ar :=
 if e=0 then ns else if e=1 then wY d to p plain k way ns (lA l) (lB l) else wY d to p plain k way (wY d to p plain k way ns (lA l) (lB l)) (lB l) (lA l)
structure preR (s:bY):Prop where
 c:bX s.2
 n:(V s.1.1:Int)<=1000
 l:(V s.1.2.1:Int)<=1000
 g:kv (V s.1.1) s.1.2.1
 r:∀ x∈s.1.1,ce x=[]
 a:(V (kU s.1.1):Int)<=100000
variable{i:Nat}
theorem a47(hi:i<V ns):V (aV (T ns i cs5))<=V (kU ns):=by
 have hx:T ns i cs5∈ns:=by
  simp_all
 unfold kU
 have ⟨u,v,e⟩:=List.append_of_mem hx
 grind
theorem RI.pre(h:RI ls (kU ns0) ns0 ns)(ha:(V (kU ns0):Int)<=100000)(hl:(V ls:Int)<=1000){u:Int}(u0:0<=u)(u1:u<V ns0) :
  inN ns u/\dY (ce (T ns (M u) cs5))/\okL (ce (T ns (M u) cs5))∧∀ r∈ce (T ns (M u) cs5),(V r.2.1:Int)<=1000:=by
 have t:=h.t (M u) Y
 have tl:=SA t
 have b:∀ r∈ce (T ns (M u) cs5),(V r.2.1:Int)<=1000:=λr a=>by have:=Qh (t.2 r a);omega
 refine⟨⟨u0,by rw[h.n];exact u1⟩,t.1,⟨Y,λr a=>?_⟩,b⟩
 have:=b r a;omega
def WH:Ct:=⟨[.box 89 FX,.val .bool],[],λd=>[preR d.1],λd=>((),(HT d.1 d.2.1,()))⟩
def au2:bG WH.ps->bL:=(λd=>{loops:=(bz 1 (λS=>{ι:=Int×(List ar)×bj,qn:=ot,μ:=λi=>M (V d.1.1.1-i.1),inv:=λi=>0<=i.1/\i.1<=V d.1.1.1/\(i.2.1,i.2.2)=(range (M i.1)).foldl (stepT d.1.1.2.1 d.2.1) (d.1.1.1,d.1.2),keep:=[0,1],slots:=λi=>[(4,.int .i64 i.1)],names:=λi=>[(1048576,.live (.cells 89 [.own 524288 16,.own 524289 6,.own 524290 7,.ptr 1048577 0])),(524288,.live (.row 133 eM i.2.1)),(524289,.live (.row 144 tg d.1.1.2.1)),(524290,.live (.row 158 oG d.1.1.2.2)),(1048577,.live (.cells 86 (cS iA i.2.2)))]}) (bz 9 (λS=>{ι:=Int×(List ar),qn:=fE,μ:=λi=>M (V (S.l yB 7)-i.1),inv:=λi=>0<=i.1/\i.1<=V (S.l yB 7)/\i.2=((S.l yB 7).take (M i.1)).foldl (stepP d.1.1.2.1 (mq (V d.1.1.1) d.1.1.2.1 (S.i 4)) (S.i 4) d.2.1 (S.i 6)) (S.r eM 449),keep:=[0,1,4,5,6,7],slots:=λi=>[(8,.int .i64 i.1)],keepN:=[448,1048577],names:=λi=>[(1048576,.live (.cells 89 [.own 524288 16,.own 524289 6,.own 524290 7,.ptr 1048577 0])),(524288,.live (.row 133 eM i.2)),(524289,.live (.row 144 tg d.1.1.2.1)),(524290,.live (.row 158 oG d.1.1.2.2))]}) (bz 13 (λS=>{ι:=Int×(List ar),qn:=fE,μ:=λi=>M (V d.1.1.2.1-i.1),inv:=λi=>0<=i.1/\i.1<=V d.1.1.2.1/\i.2=(range (M i.1)).foldl (stepK d.1.1.2.1 (mq (V d.1.1.1) d.1.1.2.1 (S.i 4)) (S.i 4) (S.c qF 160) d.2.1 (S.i 6)) (S.r eM 524288),keep:=[0,1,4,5,6,7,8,9],slots:=λi=>[(10,.int .i64 i.1)],keepN:=[160,448,1048577],names:=λi=>[(1048576,.live (.cells 89 [.own 524288 16,.own 524289 6,.own 524290 7,.ptr 1048577 0])),(524288,.live (.row 133 eM i.2)),(524289,.live (.row 144 tg d.1.1.2.1)),(524290,.live (.row 158 oG d.1.1.2.2))]}) (bz 18 (λS=>{ι:=Int×(List ar),qn:=fE,μ:=λi=>M (2-i.1),inv:=λi=>0<=i.1/\i.1<=2/\i.2=tB (mq (V d.1.1.1) d.1.1.2.1 (S.i 4)) (S.i 4) (S.c qF 160) d.2.1 (S.i 10) (S.i 6) (S.r eM 524288) (S.c tg 192) i.1,keep:=[0,1,4,5,6,7,8,9,10,11,12],slots:=λi=>[(13,.int .i64 i.1)],keepN:=[160,192,448,1504,1048577],names:=λi=>[(1048576,.live (.cells 89 [.own 524288 16,.own 524289 6,.own 524290 7,.ptr 1048577 0])),(524288,.live (.row 133 eM i.2)),(524289,.live (.row 144 tg d.1.1.2.1)),(524290,.live (.row 158 oG d.1.1.2.2))]}) cm)))),cuts:=(bz 7 (λS=>{ι:=Int×bj,qn:=fE,inv:=λi=>(i.1,i.2)=sy ((range (M (S.i 4))).foldl (stepT d.1.1.2.1 d.2.1) (d.1.1.1,d.1.2)).2,keep:=[0,1,4,5],slots:=λi=>[(6,.int .i64 i.1)],keepN:=[448,1048576,449,450,451],names:=λi=>[(1048577,.live (.cells 86 (cS iA i.2)))]}) cm)})
def vu(a:List bu)(b:Int):=[((N a b).1,gZ a b),(gZ a b,(N a b).1)]
def zp(a:List ar)(b:List bu)(c:Int):=mq (V a) b c=mq (V a) b c
def In(a:List bu)(b:Int)(c:List ar)(d:Int)(e:bj)(f g:Prop):=bh (N a b).2.2.1 (N a b).2.2.2.1 (N a b).2.2.2.2.1 ((N a b).2.2.2.2.2=(N a b).2.2.2.2.2) (zp c a d/\vu a b=vu a b/\e.1=e.1/\f/\g)
def su(a:Int×bj)(b:bj)(c:Int):=a.2.1=b.1/\J (c=b.2)
def qJ(a:List ar)(b c:Int):=(N (N a b).1 c).1
def Aw(a:List ar)(b:Int):=(N a b).1=(N a b).1
def AI(a:List bu)(b:Bool)(c:List ar)(d:Z)(e f:Int):=cw5 (stepT a b) (c,d,e) (range (M f))
def uV(a:List bu)(b c:Int):=(N (vu a b) c).1
theorem as2:
 ∀ a b c d e f,vx a b c d e/\J True->preR ((a,b,c),d,e)->(∃ g h i,am g (g<=O a) ((h,i)=AI b f a d e g)/\f=f/\0=g/\a=h/\b=b/\c=c/\d=i.1/\J (e=i.2))/\ ∀ g h i,am g (g<=O a) ((h,i)=AI b f a d e g)->au (av g (O h)) (O h<=1000/\O b<=1000/\inN h g/\kv (V h) b/\bX i/\(∀ j,j=cs7 (zF (az i 3)=3)->cB j j (aK j) (j->aK j) (pK j j (bX (az i 3).2) ((j->j)/\au (bq j (av 0 (az (az i 3).2 3).1)) (∃ k l,(k,l)=sy (AI b f a d e g).2/\f=f/\g=g/\1=k/\zp h b g/\h=h/\b=b/\c=c/\su (az (az i 3).2 3) l (az (az i 3).2 3).2.2) (∃ k l,(k,l)=sy (AI b f a d e g).2/\f=f/\g=g/\zF (az i 3)=k/\zp h b g/\h=h/\b=b/\c=c/\su (az (az i 3).2 3) l (az (az i 3).2
 3).2.2)) (j->ct2) (au (bq j ct2) (∃ k l,(k,l)=sy (AI b f a d e g).2/\f=f/\g=g/\1=k/\zp h b g/\h=h/\b=b/\c=c/\su (az i 3) l (az i 3).2.2) (∃ k l,(k,l)=sy (AI b f a d e g).2/\f=f/\g=g/\zF (az i 3)=k/\zp h b g/\h=h/\b=b/\c=c/\su (az i 3) l (az i 3).2.2))))/\ ∀ j k,(j,k)=sy (AI b f a d e g).2->bP g (O h) (∃ l m,am l (l<=O (N h g).1) (m=cw5 (stepP b (mq (V a) b g) g f j) h (take (M l) (N h g).1))/\f=f/\bp g j (Aw h g) (0=l/\zp h b g/\k.1=k.1/\k.2=k.2/\h=m/\kH b c)) (∀ l m,am l (l<=O (N h g).1) (m=cw5 (stepP b (mq (V a) b g) g f j) h (take (M l) (N h g).1))->au (av l (O (N h g).1)) (bP l (O (N h g).1) (∃ n o,am n (n<=O b) (o=cw5 (stepK b (mq (V a) b g) g
 (qJ h g l,32) f j) m (range (M n)))/\f=f/\bp g j (Aw h g) (l=l/\0=n/\bp (qJ h g l) 32 (zp h b g) (k.1=k.1/\k.2=k.2/\m=o/\kH b c))) (∀ n o,am n (n<=O b) (o=cw5 (stepK b (mq (V a) b g) g (qJ h g l,32) f j) m (range (M n)))->au (av n (O b)) (bP n (O b) (∃ p q,am p (p<=2) (q=tB (mq (V a) b g) g (qJ h g l,32) f n j o (N b n) p)/\f=f/\bp g j (Aw h g) (bp l n (0=p) (bh (qJ h g l) 32 (N b n).1 (gZ b n=gZ b n) (In b n h g k (k.2=k.2) (o=q/\kH b c))))) (∀ p q,am p (p<=2) (q=tB (mq (V a) b g) g (qJ h g l,32) f n j o (N b n) p)->au (av p 2) (am p (p<O (vu b n)) (am (uV b n p) (uV b n p<O (mq (V h) b g)) (am (N (vu b n) p).2 ((N (vu b n) p).2<O (mq (V h) b g)) (∀ r,r=db (N (mq
 h.length b g) (uV b n p)) (aA (N (mq (V h) b g) (N (vu b n) p).2))->bN r/\gv r/\bN r/\ ∀ s,s=db (N (vu b n) p).2 g->oq ( !r&&s) ( !r&&s) (aK ( !r&&s)) (aK ( !r&&s)) ( !r&&s->iW ( !r&&s) ( !r&&s) (N (vu b n) p).2 ((N (vu b n) p).2<O q)) (cB ( !r&&s) ( !r&&s) (aK ( !r&&s)) (BD r s) (bw r/\au (br r (bq s (N q (N (vu b n) p).2).2.2.2.1)) (∃ t u,am t (t<=2) (u=tB (mq (V a) b g) g (qJ h g l,32) f n j o (N b n) t)/\bi 2 t p/\f=f/\bp g j (Aw h g) (bp l n (aA p=t) (bh (qJ h g l) 32 (N b n).1 (gZ b n=gZ b n) (In b n h g k (k.2=k.2) (q=u/\kH b c))))) (∀ t,t=f->oq t t (aK t) (aK t) (t->iW t t (uV b n p) (uV b n p<O q)) (fp t t ((t->t)/\(t->t)/\J (okL (N q (uV b n p)).2.2.2.2.1)) (t->t) (au (bq t (tP (N q (uV b n
 p)).2.2.2.2.1 (qJ h g l,32))) (∃ u v,am u (u<=2) (v=tB (mq (V a) b g) g (qJ h g l,32) f n j o (N b n) u)/\bi 2 u p/\f=f/\bp g j (Aw h g) (bp l n (aA p=u) (bh (qJ h g l) 32 (N b n).1 (gZ b n=gZ b n) (In b n h g k (k.2=k.2) (q=v/\kH b c))))) (inN q (uV b n p)/\dY (ce (N q (uV b n p)))/\okL (ce (N q (uV b n p)))/\(∀ u,u∈ce (N q (uV b n p))->O u.2.1<=1000)/\ ∃ u v,am u (u<=2) (v=tB (mq (V a) b g) g (qJ h g l,32) f n j o (N b n) u)/\bi 2 u p/\f=f/\bp g j (Aw h g) (bp l n (aA p=u) (bh (qJ h g l) 32 (N b n).1 (gZ b n=gZ b n) (In b n h g k (k.2=k.2) (xC q (uV b n p) (qJ h g l,32) n j=v/\kH b c)))))))))))))) (∃ r s,am r (r<=O b) (s=cw5 (stepK b (mq (V a) b g) g (qJ h g l,32) f
 j) m (range (M r)))/\bi (O b) r n/\f=f/\bp g j (Aw h g) (l=l/\aA n=r/\bp (qJ h g l) 32 (zp h b g) (k.1=k.1/\k.2=k.2/\q=s/\kH b c))))) (∃ p q,am p (p<=O (N h g).1) (q=cw5 (stepP b (mq (V a) b g) g f j) h (take (M p) (N h g).1))/\bi (O (N h g).1) p l/\f=f/\bp g j (Aw h g) (aA l=p/\zp h b g/\k.1=k.1/\k.2=k.2/\o=q/\kH b c)))) (∃ n o p,am n (n<=O a) ((o,p)=AI b f a d e n)/\bi (O a) n g/\f=f/\aA g=n/\m=o/\b=b/\c=c/\k.1=p.1/\J (k.2=p.2)))) (((h,b,c),i)=HT ((a,b,c),d,e) f):= by
  delta N O ap aq aH aM bN aK bh bp jR cB br bi vu bq bZ am bw bJ gv In vx aA fp J iW zp su dE pK qJ av oq kH bP Aw db BD AI gZ zF aF uV
  rintro ns0 ls hs l p plain ⟨⟨-,⟨hl,hw⟩,-⟩,-⟩⟨hc,h1,h2,hg,hr,ha⟩
  dsimp only at hc h1 h2 hg hr ha
  have hB:bf (l,p):=⟨hc,hw⟩
  have base:∀ n,n<=V ns0->RI ls (kU ns0) ns0 ((range n).foldl (stepT ls plain) (ns0,(l,p))).1/\bf ((range n).foldl (stepT ls plain) (ns0,(l,p))).2:=λn hn=>RI.stepTs (ns0:=ns0) (s:=(ns0,(l,p))) ⟨RI.start hr,hB⟩ hg hn
  refine⟨⟨0,ns0,(l,p),⟨Y,Y,rfl⟩,aI⟩,?_⟩
  rintro to ns cs ⟨t0,t1,hF⟩
  have ⟨R,hcs⟩:=base (M to) Y
  have e1:=(dL cN0 hF).symm
  have e2:=(dL cJ3 hF).symm
  dsimp only at e1 e2
  rw[e1] at R
  rw[e2] at hcs ⊢
  have hn:=R.n
  simp only[hn]
  refine ay (λht=>?_) (λht=>?_)
  rotate_left
  .have ht:=bg ht
   have e:M to=V ns0:=Y
   rw[e] at e1 e2
   unfold HT
   dsimp only
   rw[e1,e2]
  have ht:=aX ht
  have v3:=gh hcs (n:=3) Y
  have k1:=(dZ hcs 3).1
  have k2:=(dZ k1 3).1
  refine⟨h1,h2,⟨t0,by rw[hn];exact ht⟩,hg,hcs.at',?_,?_⟩
  .rw[aJ (n:=1+_) Y Y]
   (repeat (refine cG ?_;repeat refine cH ?_))
   refine ay (λkb=>?_) (λkb=>?_)
   .simp only[kb,cond_true]
    have kb:=aX kb
    refine⟨λh=>h,k1.at',λh=>h,bT (λkc=>?_) (λkc=>?_)⟩
    .refine⟨1,_,?_,aI⟩
     rw[sy,ao kb,ao kc]
    .refine⟨_,_,?_,aI⟩
     rw[sy,ao kb,I kc,kb]
   .simp only[kb,uh]
    have kb:=bg kb
    refine⟨aQ,λh=>h,?_⟩
    rw[lP]
    refine⟨_,_,?_,aI⟩
    rw[sy,I kb]
  rintro way cs' hW
  have hw3:=an5 hcs
  rw[← hW] at hw3
  have ⟨hcs',w0,w1⟩:=hw3
  dsimp only at hcs' w0 w1
  have hD:xB (V ns0) (mq (V ns0) ls to):=Pu (V ns0) ls to hg _
  generalize eD:mq (V ns0) ls to=D at hD ⊢
  have hP:∀ q∈(T ns (M to) cs5).1,q.1∈kU ns0:=λq hq=>by
   have:aV (T ns (M to) cs5)=aV (T ns0 (M to) cs5):=R.ports Y
   refine W8 (i:=M to) Y (q:=q) ?_
   rw[← this];exact hq
  have hPl:((T ns (M to) cs5).1.length:Int)<=100000:=by
   have:aV (T ns (M to) cs5)=aV (T ns0 (M to) cs5):=R.ports Y
   have e:(T ns (M to) cs5).1=aV (T ns0 (M to) cs5):=this
   rw[e]
   have:=a47 (ns:=ns0) (i:=M to) Y
   omega
  generalize eP:(T ns (M to) cs5).1=P at hP hPl ⊢
  refine⟨t0,ht,⟨0,ns,⟨Y,Y,rfl⟩,aI⟩,?_⟩
  rintro i ns1 ⟨i0,i1,hn1⟩
  have R1:RI ls (kU ns0) ns0 ns1:=by
   rw[hn1];exact R.stepPs hg w0 w1 λq hq=>hP q (te hq)
  refine ay (λhi=>?_) (λhi=>?_)
  rotate_left
  .have hi:=bg hi
   refine⟨to+1,ns1,cs',⟨Y,Y,?_⟩,Y,aI⟩
   rw[show M (to+1)=M to+1 by omega,ni,lr,← hF,cx7,cE9,stepT]
   dsimp only
   rw[← hW,hn,show ((M to:Nat):Int)=to by omega,eD,hn1,gE Y,← eP]
   rfl
  have hi:=aX hi
  have hq:=hP _ (cW i0 hi)
  generalize eq:(T P (M i) cs5).1=q at hq ⊢
  refine⟨i0,hi,⟨0,ns1,⟨Y,Y,rfl⟩,aI⟩,?_⟩
  rintro k ns2 ⟨k0,kl,hn2⟩
  have R2:RI ls (kU ns0) ns0 ns2:=by
   rw[hn2];exact R1.stepKs (p:=(q,32)) hg rfl hq w0 w1 Y
  refine ay (λhk=>?_) (λhk=>?_)
  rotate_left
  .have hk:=bg hk
   refine⟨i+1,ns2,⟨Y,Y,?_⟩,Y,aI⟩
   rw[nq i0 hi,lr,← hn1,cx7,cE9,stepP,hn2,eq,show M k=V ls by omega]
  have hk:=aX hk
  have hh:=hg.at' (k:=M k) Y
  have la:=XM (ls:=ls) (k:=M k) Y
  have lb:=WA (ls:=ls) (k:=M k) Y
  rw[show ((M k:Nat):Int)=k by omega] at la lb
  refine⟨k0,hk,⟨0,ns2,⟨Y,Y,rfl⟩,aI⟩,?_⟩
  rintro e ns3 ⟨e0,el,hn3⟩
  refine ay (λhe=>?_) (λhe=>?_)
  rotate_left
  .have he:=bg he
   have he:e=2:=Y
   subst he
   refine⟨k+1,ns3,⟨Y,Y,?_⟩,Y,aI⟩
   rw[show M (k+1)=M k+1 by omega,ni,lr,← hn2,cx7,cE9,stepK,hn3,tB,I Y,I Y,show ((M k:Nat):Int)=k by omega]
  have he:=aX he
  obtain⟨u,v,hL,hS,hu,hv,hk',R3⟩:∃ u v,T ([((T ls (M k) cs5).1,(T ls (M k) cs5).2.1),((T ls (M k) cs5).2.1,(T ls (M k) cs5).1)]:List aq4) (M e) cs5=(u,v) ∧
    tB D to (q,32) plain k way ns2 (T ls (M k) cs5) (e+1)=wY D to (q,32) plain k way ns3 u v/\(0<=u/\u<V ns0)/\(0<=v/\v<V ns0)/\lnk ls u k/\RI ls (kU ns0) ns0 ns3:=by
   obtain rfl|rfl:=(show e=0∨e=1 by omega)
   .refine⟨_,_,rfl,?_,hh.1,hh.2,la,?_⟩
    .rw[hn3,tB,tB,I Y,ao Y,ao rfl];rfl
    .rw[hn3,tB,ao rfl];exact R2
   .refine⟨_,_,rfl,?_,hh.2,hh.1,lb,?_⟩
    .rw[hn3,tB,tB,I Y,I Y,I Y,ao rfl];rfl
    .rw[hn3,tB,I Y,ao rfl]
     exact R2.step (p:=(q,32)) hh.1.1 hh.1.2 rfl hq la w0 w1
  have hn3':=R3.n
  simp only[hL,hn3',hD.1]
  have dv:=hD.2 _ (cW hv.1 (by rw[hD.1];exact hv.2))
  rw[aJ (n:=T D (M v) cs5+1) Y Y]
  have pr:=R3.pre ha h2 hu.1 hu.2
  refine⟨e0,by simp only[fa,cy2];omega,hu.1,hu.2,hv.1,hv.2,?_⟩
  intro b hb
  refine⟨aw,aw,aw,?_⟩
  intro b1 hb1
  refine⟨aw,aw,aw,aw,aw,λh=>⟨λ_=>h,λ_=>h,hv.1,hv.2,aQ⟩,aw,aw,λh=>⟨λ_=>h,λh1=>by simp only[h,h1];rfl,aQ⟩,λh=>by rw[h];rfl,?_⟩
  refine rI (λho=>?_) (λho1 ho2=>?_)
  .refine⟨e+1,ns3,⟨Y,Y,?_⟩,Y,aI⟩
   rw[hS,wY,ao]
   obtain ho|ho:=ho
   .rw[hb] at ho;exact .inl (lz ho)
   .obtain _|_:=b1
    .cases ho
    .exact .inr ⟨lz hb1.symm,ho⟩
  have hN:¬ (T D (M u) cs5≠T D (M v) cs5+1∨(v≠to/\qy (T ns3 (M v) cs5)=cs8)):=by
   rw[hb] at ho1
   rintro (h|⟨h,h'⟩)
   .exact h (lq ho1)
   .rw[hb1,gH h] at ho2
    rw[show qy (T ns3 (M v) cs5)=(T ns3 (M v) cs5).2.2.2.1 from rfl] at h'
    rw[h'] at ho2;cases ho2
  intro b2 hb2
  subst hb2
  refine⟨aw,aw,aw,aw,aw,λh=>⟨λ_=>h,λ_=>h,hu.1,hu.2,aQ⟩,aw,aw,λh=>⟨λ_=>h,λ_=>h,pr.2.2.1,aQ⟩,λh=>h,?_⟩
  refine uZ (λha1 ha2=>?_) (λhna=>?_)
  .refine⟨e+1,ns3,⟨Y,Y,?_⟩,Y,aI⟩
   rw[hS,wY,I hN,ao ⟨ha1,ha2⟩]
  .refine⟨pr.1,pr.2.1,pr.2.2.1,pr.2.2.2,e+1,_,⟨Y,Y,?_⟩,Y,aI⟩
   rw[hS,wY,I hN,I]
   rintro⟨x1,x2⟩
   obtain h|h:=hna
   .rw[h] at x1;cases x1
   .rw[show ce (T ns3 (M u) cs5)=(T ns3 (M u) cs5).2.2.2.2.1 from rfl,h] at x2;cases x2
theorem aK2:aB 26 WH.spec:=aG Tryz.func26 (C (C (C (C aC aL7) Ek) b81) bp8) au2 as2
structure preO (s:bY):Prop where
 c:bX s.2
 n0:0<V s.1.1
 n:(V s.1.1:Int)<=1000
 l:(V s.1.2.1:Int)<=1000
 g:kv (V s.1.1) s.1.2.1
 h:s.1.2.2=[]
 a:(V (kU s.1.1):Int)<=100000
 p:∀ x∈s.1.1,ce x≠[]->0<V (aV x)/\V (aV x)<=1000/\V (ce x)<=100000
def oN(s:bY)(i:Int):List ar×bj:=(range (M i)).foldl Dz (s.1.1,s.2)
def oL(s:bY)(i:Int):(List ar×List cz)×bj:=(range (M i)).foldl yv (((oN s (V s.1.1)).1,s.1.2.1),(oN s (V s.1.1)).2)
def oC(s:bY)(i:Nat):List cJ×Int×bj:=(range i).foldl (λc _=>uB (oL s (V s.1.2.1)).1.1 c) ([],0,(az (oL s (V s.1.2.1)).2 4).2)
def oK(s:bY):Int:=(az (oL s (V s.1.2.1)).2 4).1
structure AG (ns0 ns:List ar):Prop where
 n:V ns=V ns0
 e:∀ i:Nat,i<V ns0->aV (T ns i cs5)=aV (T ns0 i cs5)/\ce (T ns i cs5)=ce (T ns0 i cs5)
variable{x:ar}
theorem AG.set(h:AG ns0 ns)(hi:i<V ns0)(b:aV x=aV (T ns i cs5)/\ce x=ce (T ns i cs5)):AG ns0 (ns.set i x):=by
 refine⟨by rw[f5];exact h.n,λj a=>?_⟩
 by_cases e:i=j
 .subst e;rw[kW (by rw[h.n];exact hi)];exact⟨b.1.trans (h.e _ a).1,b.2.trans (h.e _ a).2⟩
 .rw[qN e];exact h.e _ a
theorem aT5(x)(i)(c):aV (jL x i c).1=aV x/\ce (jL x i c).1=ce x:=by
 unfold jL
 dsimp only
 repeat' split
 all_goals exact⟨rfl,rfl⟩
variable{i:Int}
theorem SS(h:bf c):bf (jL x i c).2:=by
 unfold jL
 dsimp only
 repeat' split
 all_goals first|exact (dZ h _).1|exact (dZ (dZ h _).1 _).1|exact (dZ (dZ (dZ h _).1 _).1 _).1
theorem bO2(x)(i)(c):aV (Dp x i c).1=aV x/\ce (Dp x i c).1=ce x:=aT5 x i c
theorem aX3(h:bf c):bf (Dp x i c).2:=by
 have k:=SS (x:=x) (i:=i) h
 exact (dZ (dZ (dZ k _).1 _).1 _).1
theorem Pp(s)(h:bf s.2)(hi:i<=V s.1.1):AG s.1.1 (oN s i).1/\bf (oN s i).2:=by
 refine E5 (λc:List ar×bj=>AG s.1.1 c.1/\bf c.2) _ ⟨⟨rfl,λ_ _=>⟨rfl,rfl⟩⟩,h⟩ λk a c b=>?_
 have a:=cx1.1 a
 exact⟨b.1.set Y (bO2 _ _ _),aX3 b.2⟩
theorem UC(s)(h0:0<=i):oN s (i+1)=Dz (oN s i) (M i):=by
 unfold oN
 rw[show M (i+1)=M i+1 by omega,ni,lr];rfl
theorem Uv(l)(c):lA (odLink l c).1=lA l/\lB (odLink l c).1=lB l:=by
 unfold odLink
 dsimp only
 repeat' split
 all_goals exact⟨rfl,rfl⟩
theorem bW8(h:bf c):bf (odLink l c).2:=by
 unfold odLink
 dsimp only
 repeat' split
 all_goals first|exact (dZ h _).1|exact (dZ (dZ h _).1 _).1
theorem kv.set(h:kv n ls){x:cz}(hx:0<=x.1/\x.1<n/\0<=x.2.1/\x.2.1<n)(i):kv n (ls.set i x):=λy a=>by
 obtain a|rfl:=AL a
 .exact h y a
 .exact hx
theorem kv.odLink(h:kv n ls){i}(hi:i<V ls)(c):kv n (ls.set i (odLink (T ls i cs5) c).1):=by
 have k:=Uv (T ls i cs5) c
 have g:=h.at' hi
 refine h.set ?_ i
 show 0<=lA _/\lA _<_/\0<=lB _/\lB _<_
 simp_all
theorem bD3(h:AG ns0 ns)(hl:0<=lB l/\lB l<V ns0):AG ns0 (xF ns l):=by
 unfold xF
 split
 .exact h.set Y ⟨rfl,rfl⟩
 .exact h
variable{i:Int}
theorem DL(s)(h:bf s.2)(hg:kv (V s.1.1) s.1.2.1)(hi:i<=V s.1.2.1) :
  AG s.1.1 (oL s i).1.1/\bf (oL s i).2/\kv (V s.1.1) (oL s i).1.2/\(oL s i).1.2.length=V s.1.2.1:=by
 have b:=Pp s h (i:=V s.1.1) Y
 refine E5 (λc:(List ar×List cz)×bj=>AG s.1.1 c.1.1/\bf c.2/\kv (V s.1.1) c.1.2/\V c.1.2=V s.1.2.1) _ ⟨b.1,b.2,hg,rfl⟩ λk d c hc=>?_
 have d:=cx1.1 d
 have ⟨c1,c2,f,c4⟩:=hc
 have a:k<V c.1.2:=Y
 have g:=f.at' a
 have e:=Uv (T c.1.2 k cs5) c.2
 refine⟨bD3 c1 ?_,bW8 c2,f.odLink a _,by simp only[yv,f5];exact c4⟩
 rw[e.2];exact g.2
theorem ac8(s)(h0:0<=i):oL s (i+1)=yv (oL s i) (M i):=by
 unfold oL
 rw[show M (i+1)=M i+1 by omega,ni,lr];rfl
theorem Th(s)(i):oC s (i+1)=uB (oL s (V s.1.2.1)).1.1 (oC s i):=by
 unfold oC
 rw[ni,lr];rfl
theorem aW7{s}(h:bf s.2.2):bf (uB ns s).2.2/\s.2.1<=(uB ns s).2.1/\(uB ns s).2.1<=s.2.1+60/\(uB ns s).1.length<=V s.1+1:=by
 have a:=gh h (n:=60) Y
 have k1:=(dZ h 60).1
 have k2:=(dZ k1 (V ns)).1
 unfold uB
 dsimp only
 split
 .grind
 .exact⟨(dZ (dZ (dZ k2 _).1 _).1 _).1,by dsimp only;omega,by simp;omega⟩
theorem Pl(s)(h:bf s.2)(a:kv (V s.1.1) s.1.2.1):∀ i,bf (oC s i).2.2/\0<=(oC s i).2.1/\(oC s i).2.1<=60*i/\(oC s i).1.length<=i
 | 0=>⟨(dZ (DL s h a (fJ _)).2.1 4).1,fJ _,fJ _,dq _⟩
 | i+1=>by
  have k:=Pl s h a i;have m:=aW7 (ns:=(oL s (V s.1.2.1)).1.1) k.1;rw[Th];grind
def YZ:Ct:=⟨[.box 89 FX],[],λd=>[preO d.1],λd=>((),(tK d.1,()))⟩
def cl1:bG YZ.ps->bL:=(λd=>{loops:=(bz 2 (λS=>{ι:=Int×(List ar)×bj,qn:=ot,μ:=λi=>M (V d.1.1.1-i.1),inv:=λi=>0<=i.1/\i.1<=V d.1.1.1/\(i.2.1,i.2.2)=oN d.1 i.1,keep:=[0,2],slots:=λi=>[(3,.int .i64 i.1)],keepN:=[1048576,2097153,2097154],names:=λi=>[(2097152,.live (.row 133 eM i.2.1)),(1048577,.live (.cells 86 (cS iA i.2.2)))]}) (bz 20 (λS=>{ι:=Int×(List ar)×(List cz)×bj,qn:=HW,μ:=λi=>M (V d.1.1.2.1-i.1),inv:=λi=>0<=i.1/\i.1<=V d.1.1.2.1/\((i.2.1,i.2.2.1),i.2.2.2)=oL d.1 i.1,keep:=[0,2],slots:=λi=>[(5,.int .i64 i.1)],keepN:=[1048576,2097154],names:=λi=>[(2097152,.live (.row 133 eM i.2.1)),(2097153,.live (.row 144 tg i.2.2.1)),(1048577,.live (.cells 86 (cS iA i.2.2.2)))]}) (bz 32 (λS=>{ι:=Int×Int×(List cJ)×bj,qn:=HW,μ:=λi=>M i.1,inv:=λi=>0<=i.1/\i.1<=oK d.1/\(i.2.2.1,i.2.1,i.2.2.2)=oC d.1 (M (oK d.1-i.1)),keep:=[0,2],slots:=λi=>[(8,.int .i64 i.1),(7,.int .i64 i.2.1)],keepN:=[2097152,2097153],names:=λi=>[(1048576,.live (.cells 89 [.own 2097152 16,.own 2097153 6,.own 524288 7,.ptr 1048577 0])),(524288,.live (.row 158 oG i.2.2.1)),(1048577,.live (.cells 86 (cS iA i.2.2.2)))]}) cm))),cuts:=(bz 18 (λS=>{ι:=(List ar)×bj,qn:=fE,inv:=λi=>i.1=(oN d.1 (S.i 3)).1.set (M (S.i 3)) (jL ((oN d.1 (S.i 3)).1.getD (M (S.i 3)) cs5) (S.i 3) (oN d.1 (S.i 3)).2).1/\i.2=(jL ((oN d.1 (S.i 3)).1.getD (M (S.i 3)) cs5) (S.i 3) (oN d.1 (S.i 3)).2).2,keep:=[0,2,3,4],slots:=λi=>[],keepN:=[1048576,2097153,2097154],names:=λi=>[(2097152,.live (.row 133 eM i.1)),(1048577,.live (.cells 86 (cS iA i.2)))]}) (bz 28 (λS=>{ι:=(List cz)×bj,qn:=fE,inv:=λi=>i.1=(oL d.1 (S.i 5)).1.2.set (M (S.i 5)) (odLink ((oL d.1 (S.i 5)).1.2.getD (M (S.i 5)) cs5) (oL d.1 (S.i 5)).2).1/\i.2=(odLink ((oL d.1 (S.i 5)).1.2.getD (M (S.i 5)) cs5) (oL d.1 (S.i 5)).2).2,keep:=[0,2,5,6],slots:=λi=>[],keepN:=[1048576,2097152,2097154],names:=λi=>[(2097153,.live (.row 144 tg i.1)),(1048577,.live (.cells 86 (cS iA i.2)))]}) cm))})
def Ir(a:List ar)(b:Int)(c:ar)(d:Int)(e:Int×Int×aq4×Bool×Bool×Int×Int):=((N a b).2.1,(N a b).2.2.1,(N a b).2.2.2.1,(N a b).2.2.2.2.1,(N a b).2.2.2.2.2.1,c.2.2.2.2.2.2.1,d,e)
def DH(a:List ar)(b:Int)(c:bj):=set a (M b) ((N a b).1,Ir a b (N a b) (az c 6).1 (N a b).2.2.2.2.2.2.2.2)
def zT3(a:List ar)(b:Int)(c:bj):=((N (DH a b c) b).1,Ir (DH a b c) b (N (DH a b c) b) (N (DH a b c) b).2.2.2.2.2.2.2.1 ((az (az c 6).2 65536).1,(N (DH a b c) b).2.2.2.2.2.2.2.2.2))
def Bx(a:List ar)(b:Int)(c:bj):=set (DH a b c) (M b) (zT3 a b c)
def Xj(a:List ar)(b:Int)(c:ar)(d:Int)(e:Int×Int×Int×aq4×Bool×Bool×Int×Int):=((N a b).1,(N a b).2.1,(N a b).2.2.1,(N a b).2.2.2.1,(N a b).2.2.2.2.1,c.2.2.2.2.2.1,d,e)
def KM(a:List ar)(b:Int)(c:ar)(d:Int)(e:Int×Int×Int×Int×aq4×Bool×Bool×Int×Int):=set a (M b) ((N a b).1,(N a b).2.1,(N a b).2.2.1,(N a b).2.2.2.1,c.2.2.2.2.1,d,e)
def z7(a:bj)(b:List ar):=az (az a 60).2 (O b)
def Hm(a:List ar)(b:bj):=N a (z7 b a).1
def BT(a:List ar)(b:bj):=(Hm a b).2.2.2.2.1
def By(a:bj)(b:List ar):=az (z7 a b).2 (O (BT b a))
def yn(a:List ar)(b:List bu)(c:List cJ)(d:Z)(e f:Int):=jL (N (oN ((a,b,c),d,e) f).1 f) f (oN ((a,b,c),d,e) f).2
def Es(a:List ar)(b:List bu)(c:List cJ)(d:Z)(e f:Int):=odLink (N (oL ((a,b,c),d,e) f).1.2 f) (oL ((a,b,c),d,e) f).2
def AZ(a:List ar)(b:List bu)(c:List cJ)(d:Z)(e f:Int):=set (oN ((a,b,c),d,e) f).1 (M f) (yn a b c d e f).1
def AN(a:bj)(b:List ar):=az (By a b).2 (O (Hm b a).1)
def HP(a:List ar)(b:Int)(c:ar)(d:aq4)(e:Bool×Bool×Int×Int)(f:List ar):=set a (M b) ((N a b).1,Ir a b (N a b) (N a b).2.2.2.2.2.2.2.1 ((N a b).2.2.2.2.2.2.2.2.1,c.2.2.2.2.2.2.2.2.2.1,d,e))=f
def Kj(a:List ar)(b:Int)(c:bj):=set a (M b) (Xj a b (N a b) (ct1 ct3 (167837696+(az (az c 10).2 40).1)) (N a b).2.2.2.2.2.2.2)
def Tl(a:Int)(b:bj)(c:List ar):=[(ap (a+(az b 60).1),(z7 b c).1,ct2,(N (BT c b) (By b c).1).1,bI (N (Hm c b).1 (AN b c).1).2,(N (BT c b) (By b c).1).2.2)]
def Qc(a:Int)(b:bj)(c:List ar):=[(ap (a+(az b 60).1),(z7 b c).1,ct2,(N (BT c b) (By b c).1).1,([]:Z),(N (BT c b) (By b c).1).2.2)]
def MA(a:List ar)(b:Int):=set a (M b) ((N a b).1,ct1 ct3 (ap (167903232+b)),(N a b).2.2)
def HS(a:List ar)(b:List bu)(c:List cJ)(d:Z)(e f:Int):=set (oL ((a,b,c),d,e) f).1.2 (M f) (Es a b c d e f).1
def CF(a:Int)(b:List bu)(c:List cJ)(d e:Prop):=a=a/\uT a/\b=b/\c=c/\d/\e
def GB(a:List ar)(b:List bu)(c:List cJ)(d:Z)(e f:Int):=oC ((a,b,c),d,e) (M (oK ((a,b,c),d,e) -f))
def DR(a b:bj):=su (az a 10) b (az a 10).2.2
def LH(a:bj):=az (az (az a 6).2 65536).2 1000
theorem aE7:
 ∀ a b c d e,J (vx a b c d e)->preO ((a,b,c),d,e)->(∃ f g h,am f (f<=O a) ((g,h)=oN ((a,b,c),d,e) f)/\0=f/\b=b/\c=c/\a=g/\d=h.1/\J (e=h.2))/\ ∀ f g h,am f (f<=O a) ((g,h)=oN ((a,b,c),d,e) f)->eh f (O g) (f<O g) ((bX h/\au (gO (az h 10).1) (∃(i:List ar) (j:bj),(i=AZ a b c d e f/\j=(yn a b c d e f).2)/\CF f b c (HP g f (N g f) (N g f).2.2.2.2.2.2.2.2.2.2.1 (cs8,(N g f).2.2.2.2.2.2.2.2.2.2.2.2) i) (DR h j)) (au (cs7 ((az h 10).1=2)) (bX (az h 10).2/\bX (az (az h 10).2 3).2/\ ∃(i:List ar) (j:bj),(i=AZ a b c d e f/\j=(yn a b c d e f).2)/\CF f b c (HP g f (N g f) (zF (az (az h 10).2 3),zF (az (az (az h 10).2 3).2 200)) (N g f).2.2.2.2.2.2.2.2.2.2.2 i) (su (az (az (az h
 10).2 3).2 200) j (az (az (az h 10).2 3).2 200).2.2)) (au (cs7 ((az h 10).1=3)) (∀ i,i=( !(N g f).2.2.2.1)->(i->(i->i)/\J ((2:Int)≠(0:Int)))/\(i->aK i)/\(i->i)/\ ∃(j:List ar) (k:bj),(j=AZ a b c d e f/\k=(yn a b c d e f).2)/\CF f b c (HP g f (N g f) (N g f).2.2.2.2.2.2.2.2.2.2.1 ((N g f).2.2.2.2.2.2.2.2.2.2.2.1,bq i (gO (cx2 f 2)),(N g f).2.2.2.2.2.2.2.2.2.2.2.2.2) j) (DR h k)) (au (cs7 ((az h 10).1=4)) (∃(i:List ar) (j:bj),(i=AZ a b c d e f/\j=(yn a b c d e f).2)/\CF f b c (KM g f (N g f) 2 (N g f).2.2.2.2.2.2=i) (DR h j)) (au (cs7 ((az h 10).1=5)) (∃(i:List ar) (j:bj),(i=AZ a b c d e f/\j=(yn a b c d e f).2)/\CF f b c (KM (MA g f) f (N (MA g f) f) 3 (N (MA g f) f).2.2.2.2.2.2=i) (DR h j)) (au (cs7 ((az h 10).1=6)) (bX (az h 10).2/\ ∃(i:List ar)
 (j:bj),(i=AZ a b c d e f/\j=(yn a b c d e f).2)/\CF f b c (KM (Kj g f h) f (N (Kj g f h) f) 4 (N (Kj g f h) f).2.2.2.2.2.2=i) (su (az (az h 10).2 40) j (az (az h 10).2 40).2.2)) (∃ i j,(i=AZ a b c d e f/\j=(yn a b c d e f).2)/\CF f b c (g=i) (DR h j))))))))/\ ∀ i j,i=AZ a b c d e f/\j=(yn a b c d e f).2->bX j/\bX (az j 6).2/\bX (az (az j 6).2 65536).2/\ ∃ k l m,am k (k<=O a) ((l,m)=oN ((a,b,c),d,e) k)/\bi (O a) k f/\aA f=k/\b=b/\c=c/\set (Bx i f j) (M f) ((N (Bx i f j) f).1,Ir (Bx i f j) f (N (Bx i f j) f) (N (Bx i f j) f).2.2.2.2.2.2.2.1 ((N (Bx i f j) f).2.2.2.2.2.2.2.2.1,(LH j).1,(N (Bx i f j) f).2.2.2.2.2.2.2.2.2.2))=l/\su (LH j) m (LH j).2.2) (∃ i j k l,am i (i<=O b)
 (((j,k),l)=oL ((a,b,c),d,e) i)/\0=i/\c=c/\g=j/\b=k/\h.1=l.1/\J (h.2=l.2)) (∀ i j k l,am i (i<=O b) (((j,k),l)=oL ((a,b,c),d,e) i)->eh i (O k) (i<O k) ((bX l/\au (gO (az l 6).1) (bX (az l 6).2/\ ∃ m n,(m=HS a b c d e i/\n=(Es a b c d e i).2)/\i=i/\uT i/\j=j/\c=c/\set k (M i) ((N k i).1,(N k i).2.1,(N k i).2.2.1,(az (az l 6).2 10).1,(N k i).2.2.2.2)=m/\DR (az l 6).2 n) (au (cs7 ((az l 6).1=2)) (bX (az l 6).2/\am (az (az l 6).2 3).1 ((az (az l 6).2 3).1<O ((65536:Int)::(20000:Int)::bI 3)) (∃ m n,(m=HS a b c d e i/\n=(Es a b c d e i).2)/\i=i/\uT i/\j=j/\c=c/\set k (M i) ((N k i).1,(N k i).2.1,(N k i).2.2.1,(N k i).2.2.2.1,N ((65536:Int)::(20000:Int)::bI 3) (az (az l 6).2 3).1,(N k
 i).2.2.2.2.2)=m/\su (az (az l 6).2 3) n (az (az l 6).2 3).2.2)) (∃ m n,(m=HS a b c d e i/\n=(Es a b c d e i).2)/\i=i/\uT i/\j=j/\c=c/\k=m/\su (az l 6) n (az l 6).2.2)))/\ ∀ m n,m=HS a b c d e i/\n=(Es a b c d e i).2->am (N m i).1 ((N m i).1<O j) (∀ o,o=(N j (N m i).1).2.2.2.2.2.2.2.2.2.2.2.2.1->oq o o (aK o) (aK o) (o->aK o) (cB o o (iW o o (N m i).2.1 ((N m i).2.1<O j)) (o->aK o) ((o->aK o)/\(o->o)/\au (bq o (N j (N m i).2.1).2.2.2.2.2.2.2.2.2.2.2.2.1) (am (N m i).2.1 ((N m i).2.1<O j) (∃ p q r s,am p (p<=O b) (((q,r),s)=oL ((a,b,c),d,e) p)/\bi (O b) p i/\aA i=p/\c=c/\HP j (N m i).2.1 (N j (N m i).2.1) (N j (N m i).2.1).2.2.2.2.2.2.2.2.2.2.1 ((N j (N m
 i).2.1).2.2.2.2.2.2.2.2.2.2.2.1,ct2,(N j (N m i).2.1).2.2.2.2.2.2.2.2.2.2.2.2.2) q/\m=r/\n.1=s.1/\J (n.2=s.2))) (∃ p q r s,am p (p<=O b) (((q,r),s)=oL ((a,b,c),d,e) p)/\bi (O b) p i/\aA i=p/\c=c/\j=q/\m=r/\n.1=s.1/\J (n.2=s.2)))))) (bX l) ((∃ m n o p,am m (m<=oK ((a,b,c),d,e)) ((o,n,p)=GB a b c d e m)/\0=n/\(az l 4).1=m/\j=j/\k=k/\c=o/\su (az l 4) p (az l 4).2.2)/\ ∀ m n o p,am m (m<=oK ((a,b,c),d,e)) ((o,n,p)=GB a b c d e m)->au (av 0 m) (bX p/\bX (az p 60).2/\gP (z7 p j).1 (O j) (aY (O (BT j p))) (∃ q r s t,am q (q<=oK ((a,b,c),d,e)) ((s,r,t)=GB a b c d e q)/\bZ q m/\ap (n+(az p 60).1)=r/\ap (m -1)=q/\j=j/\k=k/\o=s/\su (z7 p j) t (z7 p j).2.2) (bX (z7 p j).2/\bP (By p j).1
 (O (BT j p)) (bX (By p j).2) (bP (AN p j).1 (O (Hm j p).1) (bX (AN p j).2) (au (cs7 ((az (AN p j).2 4).1=3)) (bR ((V o+V (Qc n p j))*72)/\ ∃ q r s t,am q (q<=oK ((a,b,c),d,e)) ((s,r,t)=GB a b c d e q)/\bZ q m/\ap (n+(az p 60).1)=r/\ap (m -1)=q/\j=j/\k=k/\o++Qc n p j=s/\su (az (AN p j).2 4) t (az (AN p j).2 4).2.2) (bR ((V o+V (Tl n p j))*72)/\ ∃ q r s t,am q (q<=oK ((a,b,c),d,e)) ((s,r,t)=GB a b c d e q)/\bZ q m/\ap (n+(az p 60).1)=r/\ap (m -1)=q/\j=j/\k=k/\o++Tl n p j=s/\su (az (AN p j).2 4) t (az (AN p j).2 4).2.2))))) (((j,k,o),p)=tK ((a,b,c),d,e)))):= by
  delta N O ap aq aH Bx zT3 DH Ir Xj KM aM aK jR cB bi bq By bZ BT Hm am bR yn bJ aY vx eh aA J Es AZ bI iW AN uT su HP Kj Tl av oq bP Qc MA HS CF GB DR z7 gO zF aF gP LH
  rintro ns0 ls0 hs0 l p ⟨⟨⟨hnl,hnw⟩,⟨hl,hw⟩,-⟩,-⟩⟨hc,n0,h1,h2,hg,hh,ha,hp⟩
  dsimp only at hc n0 h1 h2 hg hh ha hp
  subst hh
  have hB:bf (l,p):=⟨hc,hw⟩
  generalize eS:(((ns0,ls0,[]),l,p):bY)=S
  have z1:S.1.1=ns0:=by rw[← eS]
  have z2:S.1.2.1=ls0:=by rw[← eS]
  have z3:S.2=(l,p):=by rw[← eS]
  have zB:bf S.2:=by rw[z3];exact hB
  have zG:kv (V S.1.1) S.1.2.1:=by rw[z1,z2];exact hg
  refine⟨⟨0,ns0,(l,p),⟨Y,Y,by rw[← eS];rfl⟩,aI⟩,?_⟩
  rintro i ns cs ⟨i0,il,hF⟩
  have ⟨A1,hcs⟩:=Pp S zB (i:=i) (by rw[z1];exact il)
  rw[← hF] at A1 hcs
  dsimp only at A1 hcs
  rw[← hF]
  dsimp only
  have hn:=A1.n
  rw[z1] at hn
  refine ay (λhi=>?_) (λhi=>?_)
  .have hi:=aX hi
   have hi':M i<V ns:=Y
   have k10:=(dZ hcs 10).1
   refine⟨i0,hi,⟨hcs.at',?_⟩,?_⟩
   .simp only[cO0,kW hi']
    refine ay (λc=>?_) (λc1=>?_)
    .have c:=aX c
     refine⟨_,_,⟨?_,?_⟩,aI⟩
     .rw[jL,ao c];rfl
     .rw[jL,ao c]
    have c1:=bg c1
    refine ay (λc=>?_) (λc2=>?_)
    .have c:=aX c
     have k3:=gh k10 (n:=3) Y
     have k11:=(dZ k10 3).1
     have k4:=gh k11 (n:=200) Y
     refine⟨k10.at',k11.at',_,_,⟨?_,?_⟩,aI⟩
     .rw[jL,I c1,ao c,aJ (n:=1+_) Y Y,aJ (n:=1+_) Y Y];rfl
     .rw[jL,I c1,ao c]
    have c2:=bg c2
    refine ay (λc=>?_) (λc3=>?_)
    .have c:=aX c
     intro b hb
     refine⟨aw,aw,aw,_,_,⟨?_,?_⟩,aI⟩
     .have eb:(bif b then cs7 (i%2=1) else ct2)=(!qy (T ns (M i) cs5)&&cs7 (i%2=1)):=by
       rw[show b = !qy (T ns (M i) cs5) from hb]
       cases qy (T ns (M i) cs5) <;> rfl
      rw[jL,I c1,I c2,ao c,Hn i0,eb];rfl
     .rw[jL,I c1,I c2,ao c]
    have c3:=bg c3
    refine ay (λc=>?_) (λc4=>?_)
    .have c:=aX c
     refine⟨_,_,⟨?_,?_⟩,aI⟩
     .rw[jL,I c1,I c2,I c3,ao c];rfl
     .rw[jL,I c1,I c2,I c3,ao c]
    have c4:=bg c4
    refine ay (λc=>?_) (λc5=>?_)
    .have c:=aX c
     refine⟨_,_,⟨?_,?_⟩,aI⟩
     .rw[jL,I c1,I c2,I c3,I c4,ao c,aJ (n:=167903232+i) Y Y,vX (n:=167903232+i) Y Y];rfl
     .rw[jL,I c1,I c2,I c3,I c4,ao c]
    have c5:=bg c5
    refine ay (λc=>?_) (λc6=>?_)
    .have c:=aX c
     have k4:=gh k10 (n:=40) Y
     refine⟨k10.at',_,_,⟨?_,?_⟩,aI⟩
     .rw[jL,I c1,I c2,I c3,I c4,I c5,ao c,vX (n:=167837696+_) Y Y];rfl
     .rw[jL,I c1,I c2,I c3,I c4,I c5,ao c]
    have c6:=bg c6
    refine⟨ns,_,⟨?_,?_⟩,aI⟩
    .rw[jL,I c1,I c2,I c3,I c4,I c5,I c6]
     exact (ze i0 hi).symm
    .rw[jL,I c1,I c2,I c3,I c4,I c5,I c6]
   .rintro nsx csx ⟨hx1,hx2⟩
    have kc:=SS (x:=T ns (M i) cs5) (i:=i) hcs
    rw[← hx2] at kc
    have ka:=(dZ kc 6).1
    have kb:=(dZ ka 65536).1
    have hxl:M i<V nsx:=by rw[hx1,f5];exact hi'
    simp only[cO0,kW hxl]
    refine⟨kc.at',ka.at',kb.at',i+1,_,_,⟨Y,Y,?_⟩,Y,aI⟩
    rw[UC S i0,← hF]
    unfold Dz Dp
    dsimp only
    rw[show ((M i:Nat):Int)=i by omega,← hx2,hx1,kW hi',cO0]
    rfl
  have hi:=bg hi
  have e:i=V S.1.1:=by rw[z1];omega
  subst e
  refine⟨⟨0,ns,ls0,cs,⟨Y,Y,?_⟩,aI⟩,?_⟩
  .unfold oL
   rw[← hF,z2];rfl
  clear hF A1 hcs hn hi i0 il
  rintro i ns ls cs ⟨i0,il,hF⟩
  have ⟨A1,hcs,lg,ll⟩:=DL S zB zG (i:=i) (by rw[z2];exact il)
  rw[← hF] at A1 hcs lg ll
  dsimp only at A1 hcs lg ll
  rw[← hF]
  dsimp only
  have hn:=A1.n
  rw[z1] at hn lg
  rw[z2] at ll
  refine ay (λhi=>?_) (λhi=>?_)
  .have hi:=aX hi
   have hi':M i<V ls:=Y
   have k6:=(dZ hcs 6).1
   refine⟨i0,hi,⟨hcs.at',?_⟩,?_⟩
   .refine ay (λc=>?_) (λc1=>?_)
    .have c:=aX c
     refine⟨k6.at',_,_,⟨?_,?_⟩,aI⟩
     .rw[odLink,ao c]
     .rw[odLink,ao c]
    have c1:=bg c1
    refine ay (λc=>?_) (λc2=>?_)
    .have c:=aX c
     have k3:=gh k6 (n:=3) Y
     refine⟨k6.at',k3.1,k3.2,_,_,⟨?_,?_⟩,aI⟩
     .rw[odLink,I c1,ao c]
     .rw[odLink,I c1,ao c]
    have c2:=bg c2
    refine⟨ls,_,⟨?_,?_⟩,aI⟩
    .rw[odLink,I c1,I c2]
     exact (ze i0 hi).symm
    .rw[odLink,I c1,I c2]
   .rintro lsx csx ⟨hx1,hx2⟩
    have lgx:=lg.odLink hi' cs
    rw[← hx1] at lgx
    have lxl:M i<V lsx:=by rw[hx1,f5];exact hi'
    have g:=lgx.at' lxl
    have e1:(odLink (T ls (M i) cs5) cs).1=T lsx (M i) default:=by rw[hx1,kW hi']
    have nx:((xF ns (T lsx (M i) cs5),lsx),csx)=oL S (i+1):=by
     rw[ac8 S i0,← hF]
     unfold yv
     dsimp only
     rw[← hx1,← hx2,e1]
    unfold xF at nx
    refine⟨g.1.1,by rw[hn];exact g.1.2,?_⟩
    intro b hb
    refine⟨aw,aw,aw,aw,aw,aw,aw,λh=>⟨λ_=>h,λ_=>h,g.2.1,by rw[hn];exact g.2.2,aQ⟩,aw,aw,λh=>h,?_⟩
    refine uZ (λha1 ha2=>?_) (λhna=>?_)
    .refine⟨g.2.1,by rw[hn];exact g.2.2,i+1,_,_,_,⟨Y,Y,?_⟩,Y,aI⟩
     rw[← nx,ao ⟨hb.symm.trans ha1,ha2⟩];rfl
    .refine⟨i+1,_,_,_,⟨Y,Y,?_⟩,Y,aI⟩
     rw[← nx,I]
     rintro⟨x1,x2⟩
     obtain h|h:=hna
     .rw[hb] at h
      rw[show g7 (T ns (M (lA (T lsx (M i) cs5))) cs5)=(T ns (T lsx (M i) cs5).1.toNat cs5).2.2.2.2.2.2.2.2.2.2.2.2.1 from rfl,h] at x1
      cases x1
     .rw[show g7 (T ns (M (lB (T lsx (M i) cs5))) cs5)=(T ns (T lsx (M i) cs5).2.1.toNat cs5).2.2.2.2.2.2.2.2.2.2.2.2.1 from rfl,h] at x2
      cases x2
  have hi:=bg hi
  have e:i=V S.1.2.1:=by rw[z2];omega
  subst e
  have k4:=gh hcs (n:=4) Y
  have eK:oK S=(az cs 4).1:=by unfold oK;rw[← hF]
  refine⟨hcs.at',⟨_,0,[],(az cs 4).2,⟨k4.1,by rw[eK];exact fJ _,?_⟩,aI⟩,?_⟩
  .rw[eK,Int.sub_self]
   unfold oC
   rw[← hF];rfl
  clear i0 il hi
  rintro k a hs cs2 ⟨k0,kl,hC⟩
  have cok:=Pl S zB zG (M (oK S-k))
  rw[← hC] at cok
  dsimp only at cok
  have ⟨ok2,a0,al,hsl⟩:=cok
  rw[eK] at kl al hsl
  refine ay (λhk=>?_) (λhk=>?_)
  rotate_left
  .have hk:=bg hk
   have e:k=0:=Y
   subst e
   rw[cX1] at hC
   have:tK S=(((oL S (V S.1.2.1)).1.1,(oL S (V S.1.2.1)).1.2,(oC S (M (oK S))).1),(oC S (M (oK S))).2.2):=by
    unfold tK oC oK oL oN
    rfl
   rw[this,← hC,← hF]
  have hk:=aX hk
  have q1:=gh ok2 (n:=60) Y
  have b1:=(dZ ok2 60).1
  have q2:=gh b1 (n:=(V ns:Int)) Y
  have b2:=(dZ b1 (V ns:Int)).1
  have en:oC S (M (oK S-(k-1)))=uB ns (hs,a,cs2):=by
   rw[show M (oK S-(k-1))=M (oK S-k)+1 by omega,Th,← hC,← hF]
  unfold uB at en
  dsimp only at en
  generalize eW:(az (az cs2 60).2 (V ns:Int))=W at q2 b2 en ⊢
  generalize eX:T ns (M W.1) cs5=X at en ⊢
  have hX:aV X=aV (T ns0 (M W.1) cs5)/\ce X=ce (T ns0 (M W.1) cs5):=by
   have:=A1.e (M W.1) (by rw[z1];omega)
   rw[z1,eX] at this;exact this
  have hM:T ns0 (M W.1) cs5∈ns0:=cW q2.1 Y
  rw[aJ (n:=a+_) Y Y,aJ (n:=k-1) Y Y]
  refine⟨ok2.at',b1.at',q2.1,q2.2,?_⟩
  refine ay (λhr=>?_) (λhr=>?_)
  .have hr:(V (ce X):Int)=0:=aX hr
   refine⟨k-1,_,_,_,⟨Y,Y,?_⟩,Y,aI⟩
   rw[en,ao Y]
  have hr:=bg hr
  have hr':¬ V (ce X)=0:=λe=>hr (by rw[show X.2.2.2.2.1=ce X from rfl,e];rfl)
  have hpp:=hp _ hM (by rw[← hX.2];exact λe=>hr' (by rw[e];rfl))
  rw[← hX.1,← hX.2] at hpp
  have q3:=gh b2 (n:=(V (ce X):Int)) Y
  have b3:=(dZ b2 (V (ce X):Int)).1
  have q4:=gh b3 (n:=(V (aV X):Int)) Y
  have b4:=(dZ b3 (V (aV X):Int)).1
  rw[I hr'] at en
  refine⟨b2.at',q3.1,q3.2,b3.at',q4.1,q4.2,b4.at',?_⟩
  refine bT (λhz=>?_) (λhz=>?_)
  .have hz:(az (az (az W.2 (V (ce X):Int)).2 (V (aV X):Int)).2 4).1=3:=hz
   refine⟨by simp only[fa,cy2];omega,k-1,_,_,_,⟨Y,Y,?_⟩,Y,aI⟩
   rw[en,ao hz];rfl
  .have hz:¬ (az (az (az W.2 (V (ce X):Int)).2 (V (aV X):Int)).2 4).1=3:=hz
   refine⟨by simp only[fa,cy2];omega,k-1,_,_,_,⟨Y,Y,?_⟩,Y,aI⟩
   rw[en,I hz];rfl
theorem bI6:aB 27 YZ.spec:=aG Tryz.func27 (C (C aC Ek) bP8) cl1 aE7
variable{b:Nat}{s:bY}
theorem GI.small{a}(h:GI s a b)(hn:a<=100)(hl:b<=100):vF s :=
 ⟨h.c.at',by rw[h.n];omega,by rw[h.l];omega,by rw[h.h];decide,λx hx=>by have:=h.plen x hx;omega⟩
theorem GI.inN(h:GI s nn nl){a:Int}(h0:0<=a)(h1:a<nn):inN s.1.1 a:=⟨h0,by rw[h.n];exact h1⟩
variable{a:Nat}
theorem GI.preR(h:GI s b a)(hn:b<=100)(hl:a<=100):preR s:=by
 refine⟨h.c.at',by rw[h.n];omega,by rw[h.l];omega,h.ends,h.routes,?_⟩
 have:=Mv h.plen
 rw[h.n] at this
 have:=cV3 hn (show 2*a<=200 by omega)
 omega
structure RS (s:bY) (nn nl:Nat) (r:bY):Prop where
 g:GI s nn nl
 i:RI s.1.2.1 (kU s.1.1) s.1.1 r.1.1
 c:bf r.2
 l:r.1.2=s.1.2
theorem GI.rs(h:GI s a b)(plain):RS s a b (HT s plain):=by
 have:=RI.stepTs (s:=(s.1.1,s.2)) ⟨RI.start h.routes,h.c⟩ h.ends (plain:=plain) (dq _)
 exact⟨h,this.1,this.2,rfl⟩
variable{i:Nat}{r:bY}
theorem RS.ports(h:RS s a nl r)(b:i<a):aV (T r.1.1 i cs5)=portsF i 0 s.1.2.1 :=
 (h.i.ports (by rw[h.g.n];exact b)).trans (h.g.p i b)
variable{x:ar}
theorem RS.mem(h:RS s a nl r)(hx:x∈r.1.1):∃ i,i<a/\T r.1.1 i cs5=x:=by
 have ⟨i,hi,e⟩:=cv8.1 hx
 exact⟨i,by have:=h.i.n;have:=h.g.n;omega,by rw[cK,cT hi,e];rfl⟩
theorem RS.tab(h:RS s a nl r)(hi:i<a):rF s.1.2.1 (kU s.1.1) i (ce (T r.1.1 i cs5)):=h.i.t i (by rw[h.g.n];exact hi)
theorem RS.preO{d}(h:RS s d a r)(hn:d<=100)(hl:a<=100)(h0:0<d):preO r:=by
 have m:∀ x∈r.1.1,V x.1<=2*a:=λx f=>by
  obtain⟨i,j,rfl⟩:=h.mem f;have:=IB i 0 s.1.2.1;rw[← h.ports j,h.g.l] at this;exact this
 have o:=h.i.n.trans h.g.n
 have al:=Mv h.g.plen
 rw[h.g.n] at al
 have al2:=cV3 hn (show 2*a<=200 by omega)
 refine⟨h.c.at',Y,Y,?_,?_,?_,?_,λx f hr=>?_⟩
 .rw[h.l,h.g.l];omega
 .have:=h.g.ends;rw[h.l,o,← h.g.n];exact this
 .rw[h.l];exact h.g.h
 .have:=Mv m;rw[o] at this;omega
 .have hp:=m x f;obtain⟨i,j,rfl⟩:=h.mem f;have t:=h.tab j;have tl:=SA t;refine⟨?_,by have:V (aV (T r.1.1 i cs5))<=2*a:=hp;omega,Y⟩;have ⟨y,ys,e⟩:=cM0 hr;have ty:=t.2 y (by rw[e];exact dU);have ⟨k,ks,ek⟩:=cM0 ty.ne;have ⟨k0,k1,b⟩:=ty.ln k (by rw[ek];exact dU);rw[h.ports j];obtain b|b:=b
  .exact cz7 (Hd.2 ⟨M k,Y,.inl ⟨b,rfl⟩⟩)
  .exact cz7 (Hd.2 ⟨M k,Y,.inr ⟨b,rfl⟩⟩)
def Gl(plain:Bool)(c:bj):bY:=Fy plain (rP c).1 (rP c).2
def kN(c:bj):Int:=(az (rP c).2.2 4).1
def uN(plain:Bool)(c:bj)(k:Int):bY:=wi plain (cL c) (rP c).2 (M (kN c-k))
theorem b34(l m):(cQ3.go (motive:=λx=>List ar->List ar) l cQ4._f).1 m=l++m:=by kernel_rfl
variable{k:Int}
theorem az2(k0:0<k)(k1:k<=kN c)(a:1<cL c)(b:plain=ct2):uN plain c (k-1)=yL (cL c) (uN plain c k):=by
 unfold uN wi
 rw[ao ⟨a,b⟩,ao ⟨a,b⟩,show M (kN c-(k-1))=M (kN c-k)+1 by omega,ni,lr];rfl
theorem bd1(h:k=0∨¬ (1<cL c/\plain=ct2)):uN plain c k=wi plain (cL c) (rP c).2 (az (rP c).2.2 4).1.toNat:=by
 obtain h|h:=h
 .subst h;unfold uN kN;rw[cX1]
 .unfold uN wi;rw[I h,I h]
theorem bw9(h:bf c)(plain)(k)(k0:0<=k):∃ m,m<=9/\GI (uN plain c k) (M (cL c)+2) m:=by
 have hn:=Bt h
 have a:=MU h
 have h4:=gh a.c (n:=4) Y
 obtain⟨m,m0,m1,hm⟩:=XS a hn.1 Y (M (kN c-k))
 unfold kN at m1
 exact⟨m,Y,hm⟩
def ar3:Ct:=⟨[.box 86 iA,.val .bool],[.agg mM],λd=>[bX d.1],λd=>((vl d.2.1 d.1,()),(DE d.2.1 d.1,()))⟩
def a09:bG ar3.ps->bL:=(λd=>{loops:=(bz 6 (λS=>{ι:=Int×bY,qn:=fE,μ:=λi=>M (cL d.1-i.1),inv:=λi=>0<=i.1/\i.1<=cL d.1/\i.2=(range (M i.1)).foldl wN (A7 d.1),keep:=[0,1,4,5],slots:=λi=>[(7,.int .i64 (cL d.1)),(9,.int .i64 i.1),(8,.int .i64 i.1)],keepN:=[80],names:=λi=>[(288,.live (.cells 89 [.own 524288 16,.own 524289 6,.own 524290 7,.ptr 1048576 0])),(524288,.live (.row 133 eM i.2.1.1)),(524289,.live (.row 144 tg i.2.1.2.1)),(524290,.live (.row 158 oG i.2.1.2.2)),(1048576,.live (.cells 86 (cS iA i.2.2)))]}) (bz 14 (λS=>{ι:=Int×bY,qn:=fE,μ:=λi=>M i.1,inv:=λi=>0<=i.1/\i.1<=kN d.1/\i.2=uN d.2.1 d.1 i.1,keep:=[0,1,4,5],slots:=λi=>[(7,.int .i64 (cL d.1)),(12,.int .i64 i.1)],keepN:=[80],names:=λi=>[(288,.live (.cells 89 [.own 524288 16,.own 524289 6,.own 524290 7,.ptr 1048576 0])),(524288,.live (.row 133 eM i.2.1.1)),(524289,.live (.row 144 tg i.2.1.2.1)),(524290,.live (.row 158 oG i.2.1.2.2)),(1048576,.live (.cells 86 (cS iA i.2.2)))]}) cm)),cuts:=(bz 21 (λS=>{ι:=bY,inv:=λi=>i=Gl d.2.1 d.1,keep:=[0,1,4,5],slots:=λi=>[],keepN:=[80],names:=λi=>[(288,.live (.cells 89 [.own 524288 16,.own 524289 6,.own 524290 7,.ptr 1048576 0])),(524288,.live (.row 133 eM i.1.1)),(524289,.live (.row 144 tg i.1.2.1)),(524290,.live (.row 158 oG i.1.2.2)),(1048576,.live (.cells 86 (cS iA i.2)))]}) cm)})
def AB(c:Bool)(j:bY) :=
 cw5 (stepT j.1.2.1 c) (j.1.1,j.2) (range (V j.1.1))
def EH(c:Bool)(j:bY) :=
 cw5 yv (((cw5 Dz (AB c j) (range (V (AB c j).1))).1,j.1.2.1),(cw5 Dz (AB c j) (range (V (AB c j).1))).2) (range (V j.1.2.1))
def Ix(e:bY) :=
 T [(64:Int),(255:Int),(128:Int)] (M (az e.2 3).1) cs5
def zb(e:bY) :=
 az (az e.2 3).2 (256:Int)
def vU(a:Z)(b:Int)(g:bY) :=
 az (az g.2 (cL (a,b))).2 (cL (a,b))
def Ag(e:bY) :=
 az (az (zb e).2 (20:Int)).2 (256:Int)
def Ab(a:Z)(b:Int)(g:bY) :=
 az (az g.2 2).2 (ap (cL (a,b) -1))
def PU(c:Bool)(j:bY) :=
 cw5 (λ(k:List cJ×Int×bj) (l:Nat)=>uB (EH c j).1.1 k) (([]:List cJ),(0:Int),(az (EH c j).2 (4:Int)).2) (range (M (az (EH c j).2 (4:Int)).1))
def zX(a:Z)(b:Int)(g:bY) :=
 az g.2 (ap (cL (a,b) -1))
def FT(a:Z)(b:Int) :=
 az (az (a,b) (3:Int)).2 (256:Int)
def LI(e:bY) :=
 e.1.1++[yE (O e.1.1) ct2 (Ix e) (zb e).1]
def LF(e:bY) :=
 e.1.1++[yE (O e.1.1) cs8 (Ix e) (zb e).1]
theorem ck9 :
 ∀ a b c,((V a<=cu5/\ ∀ d,d∈a->0<=d/\d<=255)/\N9 b)/\True/\True->0<=b/\b<=(O a)->vF ((([]:List ar),([]:List cz),([]:List cJ)),a,b)/\bX (FT a b).2/\(∃ d e,(0<=d/\d<=cL (a,b)/\e=cw5 wN (A7 (a,b)) (range (M d)))/\c=c/\ap ((1:Int)+(az (FT a b).2 (5:Int)).1)=cL (a,b)/\(↑(0:Nat):Int)=d/\0=d/\[yE (↑(0:Nat):Int) cs8 (T [(64:Int),(255:Int),(128:Int)] (M (az (a,b) (3:Int)).1) cs5) (FT a b).1]=e.1.1/\([]:List cz)=e.1.2.1/\([]:List cJ)=e.1.2.2/\(az (FT a b).2 (5:Int)).2.1=e.2.1/\(az (FT a b).2 (5:Int)).2.2=e.2.2/\True)/\ ∀ d e,0<=d/\d<=cL (a,b)/\e=cw5 wN (A7 (a,b)) (range (M d))->au (cs7 (d<cL (a,b))) (vF e/\vF (((cQ3.go (motive:=λf=>List ar->List ar) e.1.1 cQ4._f).1
 [yE (O e.1.1) ct2 (Ix e) (zb e).1],e.1.2),(zb e).2)/\inN (LI e) d/\inN (LI e) (O e.1.1)/\ ∃ f g,(0<=f/\f<=cL (a,b)/\g=cw5 wN (A7 (a,b)) (range (M f)))/\M (cL (a,b) -f)<M (cL (a,b) -d)/\c=c/\cL (a,b)=cL (a,b)/\(O e.1.1)=f/\ap (d+1)=f/\nA (nA (LI e) d (iE (O e.1.2.1)+1,(O e.1.2.1))) (O e.1.1) (iE (O e.1.2.1)+2,(O e.1.2.1))=g.1.1/\e.1.2.1++[(d,(O e.1.1),(1:Int)+(az (zb e).2 (20:Int)).1,(0:Int),(0:Int),(Ag e).1)]=g.1.2.1/\e.1.2.2=g.1.2.2/\(Ag e).2.1=g.2.1/\(Ag e).2.2=g.2.2/\True) (vF e/\vF (((cQ3.go (motive:=λf=>List ar->List ar) e.1.1 cQ4._f).1 [yE (O e.1.1) cs8 (Ix e) (zb e).1],e.1.2),(zb e).2)/\inN (LF e) d/\inN (LF e) (O e.1.1)/\bX (Ag e).2/\(∃ f g,(0<=f/\f<=kN (a,b)/\g=uN c
 (a,b) f)/\c=c/\cL (a,b)=cL (a,b)/\(az (Ag e).2 (4:Int)).1=f/\nA (nA (LF e) d (iE (O e.1.2.1)+1,(O e.1.2.1))) (O e.1.1) (iE (O e.1.2.1)+2,(O e.1.2.1))=g.1.1/\e.1.2.1++[(d,(O e.1.1),(1:Int)+(az (zb e).2 (20:Int)).1,(0:Int),(0:Int),(Ag e).1)]=g.1.2.1/\e.1.2.2=g.1.2.2/\(az (Ag e).2 (4:Int)).2.1=g.2.1/\(az (Ag e).2 (4:Int)).2.2=g.2.2/\True)/\ ∀ f g,0<=f/\f<=kN (a,b)/\g=uN c (a,b) f-> ∀ h,h=cs7 (0<f)->(vh h)/\(sD h)/\ ∀ i,(i=bif h then cs7 (1<cL (a,b)) else ct2)->(vh i)/\(sD i)/\au (bif i then ! c else ct2) (bX g.2/\bX (az g.2 (cL (a,b))).2/\au (! cs7 (ap ((1:Int)+(az g.2 (cL (a,b))).1)=ap ((1:Int)+(vU a b g).1))) (vF (g.1,(vU a b g).2)/\inN g.1.1 (ap ((1:Int)+(az g.2 (cL (a,b))).1))/\inN g.1.1 (ap ((1:Int)+(vU a b g).1))/\ ∃(j:Int)
 (k:bY),(0<=j/\j<=kN (a,b)/\k=uN c (a,b) j)/\M j<M f/\c=c/\cL (a,b)=cL (a,b)/\ap (f -1)=j/\nA (nA g.1.1 (ap ((1:Int)+(az g.2 (cL (a,b))).1)) (iE (O g.1.2.1)+1,(O g.1.2.1))) (ap ((1:Int)+(vU a b g).1)) (iE (O g.1.2.1)+2,(O g.1.2.1))=k.1.1/\g.1.2.1++[(ap ((1:Int)+(az g.2 (cL (a,b))).1),ap ((1:Int)+(vU a b g).1),(1:Int)+(az (vU a b g).2 (20:Int)).1,(0:Int),(0:Int),(az (az (vU a b g).2 (20:Int)).2 (256:Int)).1)]=k.1.2.1/\g.1.2.2=k.1.2.2/\(az (az (vU a b g).2 (20:Int)).2 (256:Int)).2.1=k.2.1/\(az (az (vU a b g).2 (20:Int)).2 (256:Int)).2.2=k.2.2/\True) (∃ j k,(0<=j/\j<=kN (a,b)/\k=uN c (a,b) j)/\M j<M f/\c=c/\cL (a,b)=cL (a,b)/\ap (f -1)=j/\g.1.1=k.1.1/\g.1.2.1=k.1.2.1/\g.1.2.2=k.1.2.2/\(vU a b g).2.1=k.2.1/\(vU a b g).2.2=k.2.2/\True)) ((∀ j,j=c->(vh j)/\(sD
 j)/\ ∀ k,(k=bif j then cs7 (2<cL (a,b)) else ct2)->au k ((sD k)/\bX g.2/\(sD k)/\au (bif k then cs7 ((az g.2 2).1=1) else ct2) (bX (az g.2 2).2/\vF (g.1,(Ab a b g).2)/\inN g.1.1 (ap ((1:Int)+(Ab a b g).1))/\inN g.1.1 (cL (a,b))/\ ∃ l,l=Gl c (a,b)/\c=c/\nA (nA g.1.1 (ap ((1:Int)+(Ab a b g).1)) (iE (O g.1.2.1)+1,(O g.1.2.1))) (cL (a,b)) (iE (O g.1.2.1)+2,(O g.1.2.1))=l.1.1/\g.1.2.1++[(ap ((1:Int)+(Ab a b g).1),cL (a,b),(1:Int)+(az (Ab a b g).2 (20:Int)).1,(0:Int),(0:Int),(az (az (Ab a b g).2 (20:Int)).2 (256:Int)).1)]=l.1.2.1/\g.1.2.2=l.1.2.2/\(az (az (Ab a b g).2 (20:Int)).2 (256:Int)).2.1=l.2.1/\(az (az (Ab a b g).2 (20:Int)).2 (256:Int)).2.2=l.2.2/\True) (∃ l,l=Gl c (a,b)/\c=c/\g.1.1=l.1.1/\g.1.2.1=l.1.2.1/\g.1.2.2=l.1.2.2/\(az g.2 2).2.1=l.2.1/\(az g.2
 2).2.2=l.2.2/\True)) (k=ct2/\(k->ct2=cs8)/\au (bif k then ct2 else ct2) (bX g.2/\vF (g.1,(zX a b g).2)/\inN g.1.1 (ap ((1:Int)+(zX a b g).1))/\inN g.1.1 (cL (a,b))/\ ∃ l,l=Gl c (a,b)/\c=c/\nA (nA g.1.1 (ap ((1:Int)+(zX a b g).1)) (iE (O g.1.2.1)+1,(O g.1.2.1))) (cL (a,b)) (iE (O g.1.2.1)+2,(O g.1.2.1))=l.1.1/\g.1.2.1++[(ap ((1:Int)+(zX a b g).1),cL (a,b),(1:Int)+(az (zX a b g).2 (20:Int)).1,(0:Int),(0:Int),(az (az (zX a b g).2 (20:Int)).2 (256:Int)).1)]=l.1.2.1/\g.1.2.2=l.1.2.2/\(az (az (zX a b g).2 (20:Int)).2 (256:Int)).2.1=l.2.1/\(az (az (zX a b g).2 (20:Int)).2 (256:Int)).2.2=l.2.2/\True) (∃ l,l=Gl c (a,b)/\c=c/\g.1.1=l.1.1/\g.1.2.1=l.1.2.1/\g.1.2.2=l.1.2.2/\g.2.1=l.2.1/\g.2.2=l.2.2/\True)))/\ ∀ j,j=Gl c (a,b)->preR j/\au (! c) (preO (((AB c j).1,j.1.2),(AB c
 j).2)/\((EH c j).1.1,(EH c j).1.2,(PU c j).1)=vl c (a,b)/\(PU c j).2.2=DE c (a,b)) (((AB c j).1,j.1.2)=vl c (a,b)/\(AB c j).2=DE c (a,b)))):=by
  delta EH Ix zb AB vU Ag Ab PU zX FT LI LF vh sD ap O;rintro l p plain ⟨⟨⟨hl,hw⟩,-⟩,-⟩ hc;have hB:bf (l,p):=⟨hc,hw⟩
  generalize ((l,p):bj)=c at hB hc ⊢;have hN:=Bt hB;have g0:=GI.start hB;have g1:=g0.node cs8;have hw5:ct0.wrap (1+(az (az (az c 3).2 256).2 5).1)=cL c:=aJ (n:=cL c) Y Y;rw[hw5];refine⟨g0.small Y Y,g1.c.at',⟨0,A7 c,⟨Y,Y,rfl⟩,aI⟩,?_⟩;rintro i s ⟨i0,il,hs⟩;have hg:GI s (M i+1) (M i):=by rw[hs];exact (ai2 hB).chain _
  have e1:(V s.1.1:Int)=i+1:=by rw[hg.n];omega
  simp only[b34];refine ay (λhi=>?_) (λhi=>?_)
  .have hi:=aX hi;have hg2:=hg.node ct2;refine⟨hg.small Y Y,hg2.small Y Y,hg2.inN i0 Y,hg2.inN Y Y,i+1,lp (mZ s ct2) i (V s.1.1),⟨Y,Y,?_⟩,Y,?_⟩
   .rw[show M (i+1)=M i+1 by omega,ni,lr,← hs,cx7,cE9,wN,show ((M i:Nat):Int)=i by omega,e1]
   .repeat' first|exact trivial|refine⟨aQ,?_⟩|refine⟨(by with_reducible rfl),?_⟩|refine⟨e1,?_⟩|refine⟨aJ Y Y,?_⟩|refine⟨rfl,?_⟩
  have hi:=bg hi;have hi:i=cL c:=Y;subst hi;have hg2:=hg.node cs8;have eL:lp (mZ s cs8) (cL c) (V s.1.1)=(rP c).2:=by rw[Pn,← hs,e1]
  have gL:=MU hB;rw[← eL] at gL;have h4:=gh gL.c (n:=4) Y;have eK:(az (lp (mZ s cs8) (cL c) (V s.1.1)).2 4).1=kN c:=by rw[eL];rfl
  refine⟨hg.small Y Y,hg2.small Y Y,hg2.inN i0 Y,hg2.inN Y Y,gL.c.at',⟨(az (lp (mZ s cs8) (cL c) (V s.1.1)).2 4).1,((lp (mZ s cs8) (cL c) (V s.1.1)).1,(az (lp (mZ s cs8) (cL c) (V s.1.1)).2 4).2),⟨h4.1,Y,?_⟩,aI⟩,?_⟩
  .rw[eK];unfold uN wi;simp_all
  clear hs hg e1 hg2 eL gL h4 eK il i0;clear s;rintro k s ⟨k0,k1,hs⟩;have ⟨m,hm,hg⟩:=bw9 hB plain k k0;rw[← hs] at hg;have hkN:kN c<=4:=by
   have:=gh (MU hB).c (n:=4) Y;unfold kN;omega
  have ka:=gh hg.c (n:=cL c) Y;have ca:=(dZ hg.c (cL c)).1;have kb:=gh ca (n:=cL c) Y;have cb:=(dZ ca (cL c)).1;intro b hb;refine⟨aw,aw,?_⟩;intro b1 hb1;refine⟨aw,aw,?_⟩;refine uZ (λx1 x2=>?_) (λhno=>?_)
  .have hk:0<k/\1<cL c:=by
    simp_all
   have hpl:plain=false:=by simpa using x2
   have nx:=az2 (plain:=plain) hk.1 k1 hk.2 hpl;rw[← hs] at nx;unfold yL at nx;dsimp only at nx;rw[aJ (n:=1+(az s.2 (cL c)).1) Y Y,aJ (n:=1+(az (az s.2 (cL c)).2 (cL c)).1) Y Y,aJ (n:=k-1) Y Y];refine⟨hg.c.at',ca.at',?_⟩;have hgc:=hg.codes cb;refine ay (λhne=>?_) (λhne=>?_)
   .have hne:=lz hne;rw[I Y] at nx;exact⟨hgc.small Y Y,hgc.inN Y Y,hgc.inN Y Y,k-1,_,⟨Y,Y,nx.symm⟩,Y,aI⟩
   .grind
  have he:k=0∨¬ (1<cL c/\plain=ct2):=by
   grind
  rw[bd1 he] at hs;clear hno hb1 hb b1 b k0 k1 he;have hF:=Qb plain (cL c) (rP c).2;dsimp only at hF;rw[← hs] at hF;have c2:=(dZ hg.c 2).1;refine⟨?_,?_⟩
  .intro b hb
   (repeat refine⟨aw,?_⟩);intro b2 hb2;refine ay (λh=>?_) (λh=>?_)
   .have hk:plain=cs8/\2<cL c:=by
     simp_all
    simp only[h,cond_true];rw[ao hk] at hF;refine⟨λh=>h,hg.c.at',λh=>h,bT (λh2=>?_) (λh2=>?_)⟩
    .rw[ao h2] at hF;have kd:=gh c2 (n:=cL c-1) Y;have cd:=(dZ c2 (cL c-1)).1;have hgc:=hg.codes cd;rw[aJ (n:=cL c-1) Y Y,aJ (n:=1+(az (az s.2 2).2 (cL c-1)).1) Y Y];exact⟨c2.at',hgc.small Y Y,hgc.inN Y Y,hgc.inN Y Y,_,hF.symm,aI⟩
    .rw[I h2] at hF;exact⟨_,hF.symm,aI⟩
   .have hk:¬ (plain=cs8/\2<cL c):=by
     simp_all
    simp only[h,uh];rw[I hk] at hF;refine⟨aQ,λh=>h,?_⟩;rw[lP];exact⟨s,hF.symm,aI⟩
  rintro t ht;obtain⟨m',-,m1,hG⟩:=No hB plain;have hG:GI t (M (cL c)+2) m':=by rw[ht];exact hG
  refine⟨hG.preR Y Y,?_⟩;have hR:=hG.rs plain;have hO:=hR.preO Y Y Y;subst ht;obtain _|_:=plain
  .rw[show (!ct2)=cs8 from rfl,Wd];exact⟨hO,rfl,rfl⟩
  .rw[show (!cs8)=ct2 from rfl,lP];exact⟨rfl,rfl⟩
theorem Xl:aB 6 ar3.spec:=aG Tryz.func6 (C (C (C (C (C aC aW8) Ek) bM7) aK2) bI6) a09 ck9
structure NP (i:Int) (x:ar):Prop where
 own:ah5 x=1+i/3
 loop:kX x=0∨kX x=167903232+i
 src:(pI x=1∨pI x=2)∨(pI x=3/\kX x=167903232+i)∨(pI x=4/\167837696<=wj x)
 fix:wj x=0∨(167837696<=wj x/\wj x<167837736)
 id:(0<=xu x/\xu x<=5)/\(0<=sw x/\sw x<=65535)/\0<=GF x/\GF x<=1000000
 lim:nI x=(0,0)∨(1<=(nI x).1/\(nI x).1<=3/\1<=(nI x).2/\(nI x).2<=200)
 first:mD x=64∨mD x=255∨mD x=128
 seed:0<=LO x/\LO x<=255
variable{i:Int}
theorem NP.new{host f sd}(hf:f=64∨f=255∨f=128)(h0:0<=sd)(h1:sd<=255):NP i (yE i host f sd) :=
 ⟨rfl,.inl rfl,.inl (.inl rfl),.inl rfl,⟨⟨by show (0:Int)<=0;decide,by show (0:Int)<=5;decide⟩,⟨by show (0:Int)<=0;decide,by show (0:Int)<=65535;decide⟩,by show (0:Int)<=0;decide,by show (0:Int)<=1000000;decide⟩,.inl rfl,hf,h0,h1⟩
theorem NP.same{y}(h:NP i x)(e:x.2=y.2):NP i y:=by
 have ⟨p,x⟩:=x
 have ⟨q,y⟩:=y
 cases e
 exact⟨h.own,h.loop,h.src,h.fix,h.id,h.lim,h.first,h.seed⟩
theorem NP.routes{y}(h:NP i x)(e:El x []=El y []):NP i y:=by
 have k:NP i (El x []):=⟨h.own,h.loop,h.src,h.fix,h.id,h.lim,h.first,h.seed⟩
 rw[e] at k
 exact⟨k.own,k.loop,k.src,k.fix,k.id,k.lim,k.first,k.seed⟩
theorem NP.way(h:NP i x)(hc:bf c):NP i (jL x i c).1:=by
 have a:=gh hc (n:=10) Y
 have ca:=(dZ hc 10).1
 have b:=gh ca (n:=3) Y
 have cb:=(dZ ca 3).1
 have e:=gh cb (n:=200) Y
 have f:=gh ca (n:=40) Y
 unfold jL
 dsimp only
 split
 .exact⟨h.own,h.loop,h.src,h.fix,h.id,h.lim,h.first,h.seed⟩
 split
 .refine⟨h.own,h.loop,h.src,h.fix,h.id,.inr ?_,h.first,h.seed⟩;show 1<=1+_/\1+_<=(3:Int)/\1<=1+_/\1+_<=(200:Int)
  omega
 split
 .exact⟨h.own,h.loop,h.src,h.fix,h.id,h.lim,h.first,h.seed⟩
 split
 .exact⟨h.own,h.loop,.inl (.inr rfl),h.fix,h.id,h.lim,h.first,h.seed⟩
 split
 .exact⟨h.own,.inr rfl,.inr (.inl ⟨rfl,rfl⟩),h.fix,h.id,h.lim,h.first,h.seed⟩
 split
 .refine⟨h.own,h.loop,.inr (.inr ⟨rfl,?_⟩),.inr ⟨?_,?_⟩,h.id,h.lim,h.first,h.seed⟩
  .show 167837696<=167837696+_;omega
  .show 167837696<=167837696+_;omega
  .show 167837696+_<167837736;omega
 .exact h
theorem NP.od(h:NP i x)(hc:bf c):NP i (Dp x i c).1:=by
 have k:=h.way hc
 have kc:=SS (x:=x) (i:=i) hc
 have a:=gh kc (n:=6) Y
 have ca:=(dZ kc 6).1
 have b:=gh ca (n:=65536) Y
 have cb:=(dZ ca 65536).1
 have e:=gh cb (n:=1000) Y
 refine⟨k.own,k.loop,k.src,k.fix,?_,k.lim,k.first,k.seed⟩
 show (0<=(az (jL x i c).2 6).1/\(az (jL x i c).2 6).1<=5)/\(0<=(az (az (jL x i c).2 6).2 65536).1/\(az (az (jL x i c).2 6).2 65536).1<=65535)/\0<=(az (az (az (jL x i c).2 6).2 65536).2 1000).1/\(az (az (az (jL x i c).2 6).2 65536).2 1000).1<=1000000
 omega
theorem NP.opq(h:NP i x)(b):NP i (KG x b):=⟨h.own,h.loop,h.src,h.fix,h.id,h.lim,h.first,h.seed⟩
def w8(ns:List ar):Prop:=∀ i:Nat,i<V ns->NP i (T ns i cs5)
variable{i:Nat}
theorem w8.set(h:w8 ns)(hx:i<V ns->NP i x):w8 (ns.set i x):=λj hj=>by
 rw[f5] at hj
 by_cases e:i=j
 .subst e;rw[kW hj];exact hx hj
 .rw[qN e];exact h j hj
structure LK (l0 l:cz):Prop where
 a:lA l=lA l0
 b:lB l=lB l0
 d:rJ l=rJ l0
 s:A8 l=A8 l0
 j:0<=nE l/\nE l<=9
 o:0<=yg l/\yg l<=65536
theorem LK.od{l0}(h:LK l0 l)(hc:bf c):LK l0 (odLink l c).1:=by
 have a:=gh hc (n:=6) Y
 have ca:=(dZ hc 6).1
 have b:=gh ca (n:=10) Y
 have e:=gh ca (n:=3) Y
 unfold odLink
 dsimp only
 split
 .refine⟨h.a,h.b,h.d,h.s,?_,h.o⟩;show 0<=(az (az c 6).2 10).1/\(az (az c 6).2 10).1<=9;omega
 split
 .refine⟨h.a,h.b,h.d,h.s,h.j,?_⟩;show 0<=T ([65536,20000,3]:Z) (az (az c 6).2 3).1.toNat cs5/\T ([65536,20000,3]:Z) (az (az c 6).2 3).1.toNat cs5<=65536;obtain e|e|e:=(show (az (az c 6).2 3).1=0∨(az (az c 6).2 3).1=1∨(az (az c 6).2 3).1=2 by omega) <;> rw[e] <;> decide
 .exact h
structure uU (ls0 ls:List cz):Prop where
 n:V ls=V ls0
 k:∀ i:Nat,i<V ls0->LK (T ls0 i cs5) (T ls i cs5)
variable{ls0:List cz}
theorem uU.set(h:uU ls0 ls){x}(hx:i<V ls0->LK (T ls0 i cs5) x):uU ls0 (ls.set i x):=by
 refine⟨by rw[f5];exact h.n,λj hj=>?_⟩
 by_cases e:i=j
 .subst e;rw[kW (by rw[h.n];exact hj)];exact hx hj
 .rw[qN e];exact h.k j hj
theorem uU.mem(h:uU ls0 ls)(hl:l∈ls):∃ l0∈ls0,LK l0 l:=by
 have ⟨i,hi,e⟩:=cv8.1 hl
 have:=h.k i (by rw[← h.n];exact hi)
 rw[cK (l:=ls),cT hi,e] at this
 exact⟨_,sC (by rw[← h.n];exact hi),this⟩
variable{i:Int}
theorem uU.lnk(h:uU ls0 ls)(hk:lnk ls0 i k):lnk ls i k:=by
 have ⟨k0,k1,k2⟩:=hk
 have e:=h.k (M k) Y
 exact⟨k0,by rw[h.n];exact k1,by rw[e.a,e.b];exact k2⟩
theorem al0(i):∀ k ls ls',V ls'=V ls->(∀ j,j<V ls->lA (T ls' j cs5)=lA (T ls j cs5)/\lB (T ls' j cs5)=lB (T ls j cs5))->portsF i k ls'=portsF i k ls
 | k,[],[],_,_=>rfl
 | k,x::r,[],h,_=>by cases h
 | k,[],x::r,h,_=>by cases h
 | k,x::r,y::t,h,e=>by
  have e0:=e 0 aw;rw[cI3,cI3] at e0;rw[portsF,portsF,u6,u6,e0.1,e0.2,al0 i (k+1) r t (by simpa using h) λj hj=>by
   have:=e (j+1) (by simp;omega);rw[cB8,cB8] at this;exact this]
theorem uU.portsF(h:uU ls0 ls)(i)(k):portsF i k ls=Go.RS.portsF i k ls0 :=
 al0 i k ls0 ls h.n λj hj=>⟨(h.k j hj).a,(h.k j hj).b⟩
theorem rF.lk(h:uU ls0 ls)(k:rF ls0 aa i t):rF ls aa i t :=
 ⟨k.1,λr hr=>by
  have q:=k.2 r hr;exact⟨q.len,q.mem,q.ne,q.pw,λx hx=>h.lnk (q.ln x hx),q.w0,q.w1⟩⟩
structure CH (ns:List ar) (c:cJ):Prop where
 at':0<=j8 c/\j8 c<=180
 w:0<=de c/\de c<V ns
 r:AK c=ct2
 p:∃ r∈ce (T ns (M (de c)) cs5),(ig c).1=r.1/\(ig c).2.2=r.2.2
 x:(ig c).2.1=[]∨∃ q∈aV (T ns (M (de c)) cs5),(ig c).2.1=[q.2]
def Jq:Z:=(range 10).flatMap λ(k:Nat)=>[iE k+1,iE k+2]
variable{a:Int}
theorem Y9{k:Nat}(hk:k<10)(h:a=iE k+1∨a=iE k+2):a∈Jq:=by
 refine cG7.2 ⟨k,cx1.2 hk,?_⟩
 obtain h|h:=h <;> rw[h] <;> simp
theorem rF.sub{bb}(h:rF ls aa i t)(hs:∀ a∈aa,a∈bb):rF ls bb i t :=
 ⟨h.1,λr hr=>by
  have q:=h.2 r hr;exact⟨q.len,hs _ q.mem,q.ne,q.pw,q.ln,q.w0,q.w1⟩⟩
structure DN (n:Net):Prop where
 n3:3<=V n.1
 n7:V n.1<=7
 l2:2<=V n.2.1
 l10:V n.2.1<=10
 h3:V n.2.2<=3
 g:∀ x∈n.2.1,(0<=lA x/\lA x<V n.1)/\(0<=lB x/\lB x<V n.1)/\lA x≠lB x/\(1<=rJ x/\rJ x<=20)/\(0<=nE x/\nE x<=9)/\(0<=yg x/\yg x<=65536)/\0<=A8 x/\A8 x<=255
 p:∀ i:Nat,i<V n.1->aV (T n.1 i cs5)=portsF i 0 n.2.1
 d:w8 n.1
 t:∀ i:Nat,i<V n.1->rF n.2.1 Jq i (ce (T n.1 i cs5))
 o:∀ x∈n.2.1,pH n.1 x=ct2
 c:∀ x∈n.2.2,CH n.1 x
 s:n.2.2.Pairwise λa b=>j8 a<=j8 b
theorem an1{s}(h:w8 s.1.1)(hc:bf s.2):∀{i:Nat},i<=V s.1.1->w8 (oN s i).1
 | 0,_=>h
 | i+1,hi=>by
  have k:=an1 h hc (i:=i) Y;have b:=(Pp s hc (i:=i) Y).2;rw[show ((i+1:Nat):Int)=(i:Int)+1 by omega,UC s Y];unfold Dz;refine k.set λhl=>?_;have e:(M (i:Int):Nat)=i:=Y;rw[e] at hl ⊢;exact (k i hl).od b
theorem aD4(h:w8 ns)(hl:0<=lB l):w8 (xF ns l):=by
 unfold xF
 split
 .exact h.set λhi=>(h _ hi).opq _
 .exact h
theorem b09(hb:0<=lB l/\lB l<V ns):pH (xF ns l) l=false:=by
 unfold xF
 split
 .unfold pH;rw[kW Y];exact Bool.and_false _
 next h=>unfold pH;cases h1:g7 (T ns (M (lA l)) cs5) <;> cases h2:g7 (T ns (M (lB l)) cs5) <;> simp_all
theorem by6{m}(h:pH ns m=ct2):pH (xF ns l) m=false:=by
 unfold xF
 split
 .have set_op:∀(i j:Nat),g7 (T ns j cs5)=ct2->g7 (T (ns.set i (KG (T ns i cs5) ct2)) j cs5)=false:=λi j hj=>by
   by_cases e:i=j
   .subst e;by_cases hl:i<V ns
    .rw[kW hl];rfl
    .rw[List.set_eq_of_length_le Y];exact hj
   .rw[qN e];exact hj
  unfold pH at h ⊢;rw[cP4] at h ⊢;exact h.imp (set_op _ _) (set_op _ _)
 .exact h
theorem ac3{m}(ha:lA l=lA m)(hb:lB l=lB m):pH ns l=pH ns m:=by unfold pH;rw[ha,hb]
structure OLI (s:bY) (i:Nat):Prop where
 np:w8 (oL s i).1.1
 lk:uU s.1.2.1 (oL s i).1.2
 df:∀ k:Nat,k<i->pH (oL s i).1.1 (T s.1.2.1 k cs5)=ct2
theorem SK{s}(h:w8 s.1.1)(hc:bf s.2)(hg:kv (V s.1.1) s.1.2.1)(hl:uU s.1.2.1 s.1.2.1):∀{i:Nat},i<=V s.1.2.1->OLI s i
 | 0,_=>⟨an1 h hc (dq _),hl,λk hk=>Y⟩
 | i+1,hi=>by
  have k:=SK h hc hg hl (i:=i) Y;have ⟨ag,cb,ge,ll⟩:=DL s hc hg (i:=i) Y;have hb:=hg.at' (k:=i) Y;have e:(M (i:Int):Nat)=i:=Y;have lk1:=(k.lk.k i Y).od cb;have hn:=ag.n;have step:oL s ((i+1:Nat):Int)=yv (oL s i) i:=by
   rw[show ((i+1:Nat):Int)=(i:Int)+1 by omega,ac8 s Y,e]
  have fin:OLI s (i+1):=by
   refine⟨?_,?_,λj hj=>?_⟩
   .rw[step];unfold yv;dsimp only;refine aD4 k.np ?_;rw[lk1.b];exact hb.2.1
   .rw[step];unfold yv;dsimp only;exact k.lk.set λ_=>lk1
   .rw[step];unfold yv;dsimp only;by_cases q:j=i
    .subst q;rw[← ac3 (l:=(odLink ((oL s j).1.2.getD j cs5) (oL s j).2).1) lk1.a lk1.b];refine b09 ?_;rw[lk1.b,hn];exact hb.2
    .exact by6 (k.df j Y)
  exact fin
structure Lw (ns:List ar) (m:Nat) (x:List cJ×Int×bj):Prop where
 c:bf x.2.2
 a:0<=x.2.1/\x.2.1<=60*m
 n:V x.1<=m
 h:∀ y∈x.1,CH ns y/\j8 y<=x.2.1
 s:x.1.Pairwise λa b=>j8 a<=j8 b
theorem Lw.next{m x}(h:Lw ns m x)(hm:m<3)(h0:0<V ns)(hp:∀ x∈ns,ce x≠[]->0<V (aV x)):Lw ns (m+1) (uB ns x):=by
 have a:=gh h.c (n:=60) Y
 have k1:=(dZ h.c 60).1
 have w:=gh k1 (n:=(V ns:Int)) Y
 have k2:=(dZ k1 (V ns:Int)).1
 have ha:=h.a
 have hn:=h.n
 unfold uB
 dsimp only
 have hX:=cW (xs:=ns) w.1 w.2
 generalize eX:T ns (az (az x.2.2 60).2 (V ns:Int)).1.toNat cs5=X at hX ⊢
 split
 .refine⟨k2,?_,?_,λy hy=>⟨(h.h y hy).1,?_⟩,h.s⟩
  .show 0<=x.2.1+_/\x.2.1+_<=60*((m+1:Nat):Int);omega
  .show (V x.1)<=m+1;omega
  .have:=(h.h y hy).2;show j8 y<=x.2.1+_;omega
 next hr=>
  have hr':ce X≠[]:=λe=>hr (by rw[e];rfl);have q3:=gh k2 (n:=(V (ce X):Int)) Y;have b3:=(dZ k2 (V (ce X):Int)).1;have hpp:=hp X hX hr';have q4:=gh b3 (n:=(V (aV X):Int)) Y;have b4:=(dZ b3 (V (aV X):Int)).1;have b5:=(dZ b4 4).1;refine⟨b5,?_,?_,λy hy=>?_,?_⟩
  .show 0<=x.2.1+_/\x.2.1+_<=60*((m+1:Nat):Int);omega
  .show (V (x.1++[_]))<=m+1;rw[cw,fq];omega
  .obtain hy|hy:=dX.1 hy
   .refine⟨(h.h y hy).1,?_⟩;have:=(h.h y hy).2;show j8 y<=x.2.1+_;omega
   .rw[iV.1 hy];refine⟨⟨?_,w,rfl,?_,?_⟩,fJ _⟩
    .show 0<=x.2.1+_/\x.2.1+_<=180;omega
    .refine⟨T (ce X) (az (az (az x.2.2 60).2 (V ns:Int)).2 (V (ce X):Int)).1.toNat cs5,?_,rfl,rfl⟩;show _∈ce (T ns (az (az x.2.2 60).2 (V ns:Int)).1.toNat cs5);rw[eX];exact cW q3.1 q3.2
    .by_cases hz:(az (az (az (az (az x.2.2 60).2 (V ns:Int)).2 (V (ce X):Int)).2 (V (aV X):Int)).2 4).1=3
     .exact .inl (ao hz)
     .refine .inr ⟨T (aV X) (az (az (az (az x.2.2 60).2 (V ns:Int)).2 (V (ce X):Int)).2 (V (aV X):Int)).1.toNat cs5,?_,I hz⟩;show _∈aV (T ns (az (az x.2.2 60).2 (V ns:Int)).1.toNat cs5);rw[eX];exact cW q4.1 q4.2
  .refine List.pairwise_append.2 ⟨h.s,cG4 _ _,λy hy z hz=>?_⟩;have:=(h.h y hy).2;rw[iV.1 hz];show j8 y<=x.2.1+_;omega
theorem HG [Inhabited α] {l} {x:α} (h:x∈l):∃ i,i<V l/\T l i cs5=x:=by
 have ⟨i,hi,e⟩:=cv8.1 h
 exact⟨i,hi,by rw[cK,cT hi,e];rfl⟩
theorem RS.np(h:RS s nn nl r):w8 r.1.1:=λi hi=>by
 have hi':i<nn:=by have:=h.i.n;have:=h.g.n;omega
 have ⟨host,f,sd,hd,hf,h0,h1⟩:=h.g.d i hi'
 have e:=h.i.e i (by rw[h.g.n];exact hi')
 exact NP.routes (NP.same (NP.new (host:=host) hf h0 h1) hd.symm) e.symm
variable{i:Nat}
theorem RS.opq(h:RS s nn nl r)(hi:i<nn):g7 (T r.1.1 i cs5)=false:=by
 obtain⟨host,f,sd,hd,-⟩:=h.g.d i hi
 have e:=dL g7 (h.i.e i (by rw[h.g.n];exact hi))
 have e2:=dL (λz=>g7 (([]:List aq4),z)) hd
 exact e.trans e2
theorem RS.adr(h:RS s nn nl r)(hl:nl<=10):∀ a∈kU s.1.1,a∈Jq:=λa ha=>by
 unfold kU at ha
 have ⟨x,hx,ha⟩:=cG7.1 ha
 obtain⟨q,hq,rfl⟩:=cv1.1 ha
 obtain⟨i,hi,rfl⟩:=HG hx
 rw[h.g.p i (by rw[← h.g.n];exact hi)] at hq
 have ⟨j,hj,e⟩:=Hd.1 hq
 rw[h.g.l] at hj
 rw[gD] at e
 obtain⟨-,rfl⟩|⟨-,rfl⟩:=e
 .exact Y9 (k:=j) Y (.inl rfl)
 .exact Y9 (k:=j) Y (.inr rfl)
theorem RS.links(h:RS s nn nl r):r.1.2.1=s.1.2.1:=dL cN0 h.l
theorem RS.lk(h:RS s nn nl r):uU r.1.2.1 r.1.2.1:=⟨rfl,λi hi=>by
 rw[h.links] at hi ⊢
 have:=h.g.g _ (sC hi)
 exact⟨rfl,rfl,rfl,rfl,Y,Y⟩⟩
theorem RS.dn(h:RS s nn nl r)(n3:3<=nn)(n7:nn<=7)(l2:2<=nl)(l10:nl<=10):DN r.1:=by
 have rn:=h.i.n.trans h.g.n
 have rl:=h.links
 have rh:=(dL cJ3 h.l).trans h.g.h
 refine⟨Y,Y,by rw[rl,h.g.l];exact l2,by rw[rl,h.g.l];exact l10,by rw[rh];exact Nat.zero_le _,λx hx=>?_,λi hi=>?_,h.np,λi hi=>?_,λx hx=>?_,λx hx=>?_,?_⟩
 .rw[rl] at hx;have:=h.g.g x hx;rw[rn];omega
 .rw[rl];exact h.ports Y
 .rw[rl];exact (h.tab Y).sub (h.adr l10)
 .rw[rl] at hx;have g:=h.g.g x hx;unfold pH;rw[h.opq (i:=M (lA x)) Y];rfl
 .rw[rh] at hx;cases hx
 .rw[rh];exact cx5
theorem am0{s}(h:bf s.2)(hg:kv (V s.1.1) s.1.2.1)(h0:0<V s.1.1)(hp:∀ x∈(oL s (V s.1.2.1)).1.1,ce x≠[]->0<V (aV x)):∀ i,i<=3->Lw (oL s (V s.1.2.1)).1.1 i (oC s i)
 | 0,_=>⟨(dZ (DL s h hg (fJ _)).2.1 4).1,⟨fJ _,fJ _⟩,dq _,λy hy=>(by cases hy),cx5⟩
 | i+1,hi=>by
  rw[Th];exact (am0 h hg h0 hp i Y).next Y (by rw[(DL s h hg (fJ _)).1.n];exact h0) hp
theorem RS.odd(h:RS s nn nl r)(n3:3<=nn)(n7:nn<=7)(l2:2<=nl)(l10:nl<=10):DN (tK r).1:=by
 have rn:=h.i.n.trans h.g.n
 have rl:=h.links
 have pre:=h.preO Y Y Y
 have ok:=DL r h.c pre.g (i:=V r.1.2.1) (fJ _)
 have inv:=SK h.np h.c pre.g h.lk (i:=V r.1.2.1) (dq _)
 have ag:=ok.1
 have e:(tK r).1=((oL r (V r.1.2.1)).1.1,(oL r (V r.1.2.1)).1.2,(oC r (M (oK r))).1):=by
  unfold tK oC oK oL oN;rfl
 have kk:=gh ok.2.1 (n:=4) Y
 have hp:∀ x∈(oL r (V r.1.2.1)).1.1,ce x≠[]->0<V (aV x):=λx hx hr=>by
  obtain⟨i,hi,rfl⟩:=HG hx;have q:=ag.e i (by rw[← ag.n];exact hi);rw[q.1];rw[q.2] at hr;exact (pre.p _ (sC (by rw[← ag.n];exact hi)) hr).1
 have oc:=am0 h.c pre.g pre.n0 hp (M (oK r)) (by unfold oK;omega)
 rw[e]
 have ln:=ag.n.trans rn
 have ll:(oL r (V r.1.2.1)).1.2.length=nl:=by rw[inv.lk.n,rl,h.g.l]
 refine⟨by rw[ln];exact n3,by rw[ln];exact n7,by rw[ll];exact l2,by rw[ll];exact l10,?_,λx hx=>?_,λi hi=>?_,inv.np,λi hi=>?_,λx hx=>?_,λx hx=>(oc.h x hx).1,oc.s⟩
 .have:=oc.n;have:M (oK r)<=3:=by unfold oK;omega
  dsimp only;omega
 .have ⟨l0,hl0,k⟩:=inv.lk.mem hx;rw[rl] at hl0;have g:=h.g.g l0 hl0;have ka:=k.a;have kb:=k.b;have kd:=k.d;have ks:=k.s;have kj:=k.j;have ko:=k.o;rw[ln,ka,kb,kd,ks];omega
 .dsimp only at hi ⊢;rw[(ag.e i Y).1,h.ports Y,inv.lk.portsF,rl]
 .dsimp only at hi ⊢;rw[(ag.e i Y).2];refine rF.sub (rF.lk inv.lk ?_) (h.adr l10);rw[rl];exact h.tab Y
 .dsimp only at hx ⊢;obtain⟨i,hi,rfl⟩:=HG hx;have hi':i<V r.1.2.1:=by rw[← inv.lk.n];exact hi
  have k:=inv.lk.k i hi';rw[ac3 k.a k.b];exact inv.df i hi'
theorem PF(h:bf c)(plain):DN (vl plain c):=by
 have hn:=Bt h
 have ⟨m,m2,m10,G⟩:=No h plain
 have R:=G.rs plain
 unfold vl Iy
 cases plain with
 | true=>exact R.dn Y Y m2 m10
 | false=>exact R.odd Y Y m2 m10
theorem bb5(h:bf c)(plain):bf (DE plain c):=by
 have ⟨m,m2,m10,G⟩:=No h plain
 have R:=G.rs plain
 unfold DE Iy
 cases plain with
 | true=>exact R.c
 | false =>
  have hn:=Bt h;have pre:=R.preO Y Y Y;exact (Pl _ R.c pre.g _).1
theorem bP2{l m}(h:∀ x∈l,0<=x/\x<=255):bf (if (V l:Int)<=m then l else l.take (M m),0):=by
 refine⟨⟨fJ _,by dsimp only;omega⟩,λx hx=>?_⟩
 dsimp only at hx
 split at hx
 .exact h x hx
 .exact h x (te hx)
variable{n:Net}
theorem DN.port(h:DN n)(hi:i<V n.1):q∈aV (T n.1 i cs5)↔∃ j,j<V n.2.1/\((lA (T n.2.1 j cs5)=i/\q=(iE j+1,(j:Int)))∨(lB (T n.2.1 j cs5)=i/\q=(iE j+2,(j:Int)))):=by
 rw[h.p i hi,Hd];simp only[gD]
variable{k:Int}
theorem DN.links(h:DN n)(hi:i<V n.1):k∈dc (T n.1 i cs5)↔lnk n.2.1 i k:=by
 unfold dc lnk
 rw[cv1]
 constructor
 .rintro⟨q,hq,rfl⟩;have ⟨j,hj,e⟩:=(h.port hi).1 hq;obtain⟨e,rfl⟩|⟨e,rfl⟩:=e
  .exact⟨by dsimp only;omega,by dsimp only;omega,.inl (by simpa using e)⟩
  .exact⟨by dsimp only;omega,by dsimp only;omega,.inr (by simpa using e)⟩
 .rintro⟨k0,k1,e⟩;have ek:((M k:Nat):Int)=k:=Y;obtain e|e:=e
  .exact⟨_,(h.port hi).2 ⟨M k,Y,.inl ⟨e,rfl⟩⟩,ek⟩
  .exact⟨_,(h.port hi).2 ⟨M k,Y,.inr ⟨e,rfl⟩⟩,ek⟩
theorem DN.uniq(h:DN n)(hi:i<V n.1)(hj:j<V n.1){p}(hq:q∈aV (T n.1 i cs5))(hp:p∈aV (T n.1 j cs5))(e:q.1=p.1):i=j/\q.2=p.2:=by
 have ⟨a,ha,ea⟩:=(h.port hi).1 hq
 have ⟨b,hb,eb⟩:=(h.port hj).1 hp
 unfold iE at ea eb
 obtain⟨ea,rfl⟩|⟨ea,rfl⟩:=ea <;> obtain⟨eb,rfl⟩|⟨eb,rfl⟩:=eb <;> dsimp only at e ⊢
 .have:a=b:=Y;subst this;omega
 .omega
 .omega
 .have:a=b:=Y;subst this;omega
theorem DN.padr(h:DN n)(hi:i<V n.1)(ha:a∈vq (T n.1 i cs5)):167837697<=a/\a<=167837734:=by
 obtain⟨q,hq,rfl⟩:=cv1.1 ha
 have ⟨b,hb,eb⟩:=(h.port hi).1 hq
 have:=h.l10
 unfold iE at eb
 obtain⟨eb,rfl⟩|⟨eb,rfl⟩:=eb <;> dsimp only <;> omega
theorem DN.loop(h:DN n)(hi:i<V n.1):kX (T n.1 i cs5)=0∨kX (T n.1 i cs5)=167903232+i:=(h.d i hi).loop
theorem aF4{x}:a∈gw x↔a∈vq x∨(kX x≠0/\a=kX x):=by
 unfold gw
 rw[dX]
 by_cases e:kX x=0
 .rw[ao e];simp[e]
 .rw[I e];simp[e]
theorem DN.apart(h:DN n)(hi:i<V n.1)(hj:j<V n.1)(ha:a∈gw (T n.1 i cs5))(hb:a∈gw (T n.1 j cs5)):i=j:=by
 rw[aF4] at ha hb
 have li:=h.loop hi
 have lj:=h.loop hj
 obtain ha|ha:=ha <;> obtain hb|hb:=hb
 .have ⟨q,hq,e⟩:=cv1.1 ha;have ⟨p,hp,e2⟩:=cv1.1 hb;exact (h.uniq hi hj hq hp (e.trans e2.symm)).1
 .have:=h.padr hi ha;omega
 .have:=h.padr hj hb;omega
 .omega
variable{i:Int}
theorem aj6(h:rF ls Jq i t):V t<=20:=SA h
theorem by5(k0:0<=k)(k1:k<V ls):kK ls k (lA (T ls (M k) cs5))=lB (T ls (M k) cs5):=by
 unfold kK;rw[I Y,ao rfl]
theorem b87(k0:0<=k)(k1:k<V ls)(hn:lA (T ls (M k) cs5)≠lB (T ls (M k) cs5)):kK ls k (lB (T ls (M k) cs5))=lA (T ls (M k) cs5):=by
 unfold kK;rw[I Y,I (λe=>hn e.symm),ao rfl]
theorem at7{l c r}(h:r∈jX l c):r=ig c∨r∈l:=by
 unfold jX at h
 split at h
 .exact .inr (cx9.1 h).1
 .obtain h|h:=Xm.1 h
  .exact .inl h
  .exact .inr h.1
variable{who:Int}
theorem a40{at'}(w0:0<=who)(w1:who<V n.1){P:Rt->Prop}(h0:∀ r∈ce (T n.1 (M who) cs5),P r)(hc:∀ c∈n.2.2,de c=who->P (ig c)):∀ r∈Qe n who at',P r:=by
 unfold Qe T7
 rw[I Y]
 have e:∀(l:List cJ)(t:List Rt),(∀ c∈l,de c=who->P (ig c))->(∀ r∈t,P r)→∀ r∈l.foldl (TN who at') t,P r:=by
  intro l
  induction l with
  | nil=>intro t _ h;exact h
  | cons c l ih =>
   intro t hl ht;rw[cx7];refine ih _ (λx hx=>hl x (eZ _ hx)) λr hr=>?_;unfold TN at hr;split at hr
   .rename_i q;obtain rfl|hr:=at7 hr
    .exact hl c dU q.1
    .exact ht r hr
   .exact ht r hr
 exact e _ _ (λc hc'=>hc c (te hc')) h0
theorem DN.next(h:DN n){at'}(w0:0<=who)(w1:who<V n.1):∀ r∈Qe n who at',∀ k∈r.2.1,lnk n.2.1 who k:=by
 have ew:((M who:Nat):Int)=who:=Y
 refine a40 w0 w1 (λr hr k hk=>?_) (λc hc hw k hk=>?_)
 .have:=((h.t (M who) Y).2 r hr).ln k hk;rw[ew] at this;exact this
 .have q:=(h.c c hc).x;rw[hw] at q;obtain e|⟨q,hq,e⟩:=q
  .rw[e] at hk;cases hk
  .rw[e] at hk;rw[iV.1 hk];have:=(h.links (i:=M who) Y).1 (cv1.2 ⟨q,hq,rfl⟩);rw[ew] at this;exact this
theorem DN.other(h:DN n)(hk:lnk n.2.1 who k):0<=kK n.2.1 k who/\kK n.2.1 k who<V n.1:=by
 have ⟨k0,k1,e⟩:=hk
 have g:=h.g _ (cW k0 k1)
 obtain e|e:=e
 .rw[← e,by5 k0 k1];exact g.2.1
 .rw[← e,b87 k0 k1 g.2.2.1];exact g.1
def nO(ls:List cz)(i:Int):Prop:=∃ l∈ls,lA l=i∨lB l=i
theorem nO.app(h:nO ls i)(m):nO (ls++m) i:=by
 have ⟨l,hl,e⟩:=h
 exact⟨l,gq _ hl,e⟩
theorem nO.link(h:nO s.1.2.1 i)(a b):nO (lp s a b).1.2.1 i:=h.app _
theorem aj4(s)(a b):nO (lp s a b).1.2.1 a:=⟨_,gU _ dU,.inl rfl⟩
theorem b04(s)(a b):nO (lp s a b).1.2.1 b:=⟨_,gU _ dU,.inr rfl⟩
theorem Uo(s):∀ k j,j<k->nO ((range k).foldl wN s).1.2.1 j
 | 0,j,h=>absurd h (Nat.not_lt_zero _)
 | k+1,j,h=>by
  rw[ni,lr];by_cases e:j<k
  .exact (Uo s k j e).link (s:=mZ ((range k).foldl wN s) ct2) _ _
  .have:j=k:=Y;subst this;exact aj4 _ _ _
variable{c:bj}
theorem aG6(h:bf c)(hj:j<M (cL c)+2):nO (rP c).2.1.2.1 j:=by
 have hn:=Bt h
 rw[Pn]
 by_cases e:j<M (cL c)
 .exact (Uo _ _ _ e).link (s:=mZ ((range (M (cL c))).foldl wN (A7 c)) cs8) _ _
 by_cases e2:j=M (cL c)
 .rw[show ((j:Nat):Int)=cL c by omega];exact aj4 _ _ _
 .rw[show ((j:Nat):Int)=cL c+1 by omega];exact b04 _ _ _
theorem ay4(h:nO s.1.2.1 i)(n):nO (yL n s).1.2.1 i:=by
 unfold yL
 dsimp only
 split
 .exact h
 .exact nO.app h _
theorem ar5{n i}:∀ k{s:bY},nO s.1.2.1 i->nO ((range k).foldl (λs _=>yL n s) s).1.2.1 i
 | 0,s,h=>h
 | k+1,s,h=>by
  rw[ni,lr];exact ay4 (ar5 k h) n
theorem a85(h:nO s.1.2.1 i)(plain)(n):nO (Fy plain n s).1.2.1 i:=by
 rw[Qb]
 dsimp only
 have h1:nO (wi plain n s (az s.2 4).1.toNat).1.2.1 i:=by
  unfold wi;split
  .exact ar5 _ h
  .exact h
 generalize wi plain n s (az s.2 4).1.toNat=t at h1 ⊢
 split
 .split
  .exact nO.app h1 _
  .exact h1
 .exact h1
theorem ci9{r}(h:RS s nn nl r)(n3:3<=nn)(n7:nn<=7)(l10:nl<=10)(ht:nO r.1.2.1 i):nO (tK r).1.2.1 i:=by
 have pre:=h.preO Y Y Y
 have inv:=SK h.np h.c pre.g h.lk (i:=V r.1.2.1) (dq _)
 have e:(tK r).1.2.1=(oL r (V r.1.2.1)).1.2:=by
  unfold tK oL oN;rfl
 rw[e]
 have ⟨l,hl,q⟩:=ht
 obtain⟨j,hj,rfl⟩:=HG hl
 have k:=inv.lk.k j hj
 refine⟨_,sC (by rw[inv.lk.n];exact hj),?_⟩
 rw[k.a,k.b];exact q
theorem aB4{r}(h:RS s nn nl r)(n3:3<=nn)(n7:nn<=7)(l10:nl<=10):(tK r).1.1.length=V r.1.1:=by
 have pre:=h.preO Y Y Y
 have ok:=DL r h.c pre.g (i:=V r.1.2.1) (fJ _)
 have e:(tK r).1.1=(oL r (V r.1.2.1)).1.1:=by
  unfold tK oL oN;rfl
 rw[e]
 exact ok.1.n
variable{i:Nat}
theorem cp0(h:bf c)(plain)(hi:i<(vl plain c).1.length):nO (vl plain c).2.1 i:=by
 have hn:=Bt h
 have ⟨m,m2,m10,G⟩:=No h plain
 have R:=G.rs plain
 have rn:=R.i.n.trans R.g.n
 have t:=λj=>λ(hj:j<M (cL c)+2)=>a85 (aG6 h hj) plain (rP c).1
 unfold vl Iy at hi ⊢
 dsimp only at hi ⊢
 cases plain with
 | true =>
  rw[ao rfl] at hi ⊢;rw[R.links];exact t i (by rw[← rn];exact hi)
 | false =>
  rw[I aD] at hi ⊢;have ol:=aB4 R Y Y m10;refine ci9 R Y Y m10 ?_;rw[R.links];exact t i (by rw[← rn];omega)
theorem YS(h:bf c)(plain)(hi:i<(vl plain c).1.length):0<V (aV ((vl plain c).1.getD i cs5)):=by
 have D:=PF h plain
 have ⟨l,hl,q⟩:=cp0 h plain hi
 obtain⟨j,hj,rfl⟩:=HG hl
 obtain q|q:=q
 .exact cz7 ((D.port hi).2 ⟨j,hj,.inl ⟨q,rfl⟩⟩)
 .exact cz7 ((D.port hi).2 ⟨j,hj,.inr ⟨q,rfl⟩⟩)
theorem WL(i):∀ k ls,(∀ l∈ls,lA l≠lB l)->(portsF i k ls).Pairwise (λa b=>a.2<b.2/\a.1<b.1)∧∀ q∈portsF i k ls,(k:Int)<=q.2/\iE k<q.1
 | _,[],_=>by simp[portsF]
 | k,l::r,h=>by
  obtain⟨h1,h2⟩:=WL i (k+1) r (λx hx=>h x (eZ _ hx));have hl:=h l dU;have e:u6 i k l=[]∨∃ a,(a=1∨a=2)/\u6 i k l=[(iE k+a,(k:Int))]:=by
   unfold u6;by_cases ha:lA l=i
   .rw[ao ha,I Y];exact .inr ⟨1,.inl rfl,rfl⟩
   .rw[I ha];by_cases hb:lB l=i
    .rw[ao hb];exact .inr ⟨2,.inr rfl,rfl⟩
    .rw[I hb];exact .inl rfl
  rw[portsF];unfold iE at *;obtain e|⟨a,ha,e⟩:=e <;> rw[e]
  .rw[x9];exact⟨h1,λq hq=>by have:=h2 q hq;omega⟩
  .rw[List.singleton_append];refine⟨cu1.2 ⟨λq hq=>?_,h1⟩,λq hq=>?_⟩
   .have:=h2 q hq;simp only;omega
   .obtain rfl|hq:=dm.1 hq
    .simp only;omega
    .have:=h2 q hq;omega
theorem YF{l}{q:tD->Bool}(hi:i<V l)(hq:q (T l i cs5)=cs8)(hn:∀ j:Nat,j<i->q (T l j cs5)=ct2):kC q l=i:=by
 have e:l.findIdx q=i:=by
  rw[List.findIdx_eq hi];refine⟨by rwa [cK,cT hi,jb] at hq,λj hj=>?_⟩;have:=hn j hj
  rwa [cK,cT Y,jb] at this
 unfold kC
 rw[e,ao hi]
theorem bi9{q l y}(hy:y∈l)(hq:q y=cs8):0<=kC q l:=by
 have hlt:=cJ5 ⟨y,hy,hq⟩
 unfold kC;rw[ao hlt];omega
theorem Xn [Inhabited α] {R} {l:List α} (h:l.Pairwise R) {k} (hk:k<j) (hj:j<V l):R (T l k cs5) (T l j cs5):=by
 rw[cK,cK,cT hj,cT Y,jb,jb]
 exact cM7.1 h _ _ _ _ hk
theorem J1(h:167837696<=a/\a<=167903300):gm a:=by
 right
 unfold jy
 have:a/16777216=10:=Y
 rw[I Y,I Y,ao (.inl this)]
theorem bo4{n}(h:n=32):oF (a,n)=true:=by
 subst h
 unfold oF
 have:sz 32=1:=aD
 rw[this]
 simp only[pJ]
 omega
theorem al3{links}:∀{l:List Rt}{q:Option fM},dY l->(∀ p,q=some p→∀ r∈l,cM p r.1)->(∀ r∈l,oF r.1=cs8/\pO r links)->chk links q l=0
 | [],_,_,_,_=>rfl
 | r::rs,q,hs,hq,hr=>by
  obtain⟨v,w⟩:=hr r dU;have ⟨s1,s2⟩:=cu1.1 hs;rw[chk,I (by rw[v];simp)];have e:q.any (λq=>cs7 (0<=jg q r.1))=false:=by
   cases q with
   | none=>rfl
   | some p =>
    have:=hq p rfl r dU;simp only[cS1,xZ];rw[TS];exact λk=>k this
  rw[I (by rw[e];simp),I (by simpa using w)];exact al3 s2 (λp hp x hx=>by cases hp;exact s1 x hx) (λx hx=>hr x (eZ _ hx))
structure GT (m:Nat) (links:Z) (l:List Rt):Prop where
 s:dY l
 n:V l<=m
 r:∀ r∈l,oF r.1=cs8/\pO r links
theorem GT.ok{m links l}(h:GT m links l)(hm:m<=64):jH l links=0:=by
 have:=h.n
 unfold jH
 rw[I Y]
 exact al3 h.s (λp hp=>by cases hp) h.r
variable{n:Net}
theorem DN.gt(h:DN n)(hi:i<V n.1):GT 20 (dc (T n.1 i cs5)) (ce (T n.1 i cs5)):=by
 have t:=h.t i hi
 refine⟨t.1,aj6 t,λr hr=>?_⟩
 have k:=t.2 r hr
 have l10:=h.l10
 have hl:=Qh k
 refine⟨bo4 k.len,⟨Y,λj hj=>⟨λh0=>?_,?_⟩⟩,k.w0,k.w1⟩
 .rw[cK,cK,cT hj,cT Y,jb,jb];exact cM7.1 k.pw _ _ _ _ Y
 .rw[(h.links hi)];rw[cK,cT hj,jb];exact k.ln _ (cv2 hj)
theorem DN.pw(h:DN n)(hi:i<V n.1):(aV (T n.1 i cs5)).Pairwise (λa b=>a.2<b.2/\a.1<b.1):=by
 rw[h.p i hi]
 exact (WL i 0 n.2.1 λl hl=>(h.g l hl).2.2.1).1
theorem DN.node(h:DN n)(hi:i<V n.1)(hp:0<V (aV (T n.1 i cs5))):iS (T n.1 i cs5)=0:=by
 have pw:=h.pw hi
 have d:=h.d i hi
 have n7:=h.n7
 have l10:=h.l10
 have hlen:V (aV (T n.1 i cs5))<=20:=by
  rw[h.p i hi];have:=IB i 0 n.2.1;omega
 have gt:=h.gt hi
 have ports:∀ j,j<V (aV (T n.1 i cs5))->lR (T n.1 i cs5) j=0:=λj hj=>by
  have hm:=sC hj;have hadr:=h.padr hi (si (f:=(·.1)) hm);have hlnk:=(h.links hi).1 (si (f:=(·.2)) hm);have ne:∀ k,k<j->(T (aV (T n.1 i cs5)) k cs5).2<(T (aV (T n.1 i cs5)) j cs5).2/\(T (aV (T n.1 i cs5)) k cs5).1<(T (aV (T n.1 i cs5)) j cs5).1:=λk hk=>Xn pw hk hj;have ea:pT (T n.1 i cs5) (T (aV (T n.1 i cs5)) j cs5).1=j:=YF hj (by simp[qb]) (λk hk=>by have:=ne k hk;simp only[qb,xZ];omega);have el:f8 (T n.1 i cs5) (T (aV (T n.1 i cs5)) j cs5).2=j:=YF hj (by simp[nN]) (λk hk=>by have:=ne k hk;simp only[nN,xZ];omega);have hu:gm (T (aV (T n.1 i cs5)) j cs5).1:=J1 Y;unfold lR;have:=hlnk.1;rw[ea,el,I (by rintro (k|k);exact k hu;omega),I Y]
 have hloop:¬ uo (T n.1 i cs5):=by
  rintro⟨k0,k⟩;have hl:=d.loop.resolve_left k0;obtain k|k:=k
  .exact k (J1 Y)
  .have:=h.padr hi (a89.1 k);omega
 have hform:¬ tw (T n.1 i cs5):=by
  have o:=d.own;have f:=d.first;unfold tw;rintro (k|k|⟨k1,k2⟩|⟨k1,k2⟩|⟨k1,k2⟩|k|k)
  .omega
  .obtain s|⟨s,-⟩|⟨s,-⟩:=d.src <;> omega
  .obtain s|⟨s,s2⟩|⟨s,-⟩:=d.src <;> omega
  .have:=d.fix.resolve_left k1;exact k2 (J1 Y)
  .obtain s|⟨s,s2⟩|⟨s,s2⟩:=d.src <;> omega
  .omega
  .omega
 have hid:rN (T n.1 i cs5)=0:=by
  unfold rN;rw[ao];have ⟨⟨a,b⟩,⟨c,e⟩,f,g⟩:=d.id;exact f7 ⟨a,b,c,e,f,g⟩
 have hb:jJ (nI (T n.1 i cs5))=0:=by
  unfold jJ;rw[ao];obtain k|k:=d.lim
  .exact .inl k
  .right;omega
 rw[ae3 Y (Nb ports) hloop hform,I (λk=>k hid),I (λk=>k hb)]
 exact gt.ok Y
theorem af9(ns)(a):∀ k,jm a (kY ns k)=cs8↔∃ j,j<k/\a∈gw (T ns j cs5)
 | 0=>by simp[kY,jm]
 | k+1=>by
  have e:kY ns (k+1)=uS k (gw (T ns k cs5)) (kY ns k):=by unfold kY;rw[ni,lr];rfl
  rw[e,PT.1,uJ,uq,af9 ns a k];constructor
  .rintro (h|⟨j,hj,h⟩)
   .exact⟨k,Y,h⟩
   .exact⟨j,Y,h⟩
  .rintro⟨j,hj,h⟩;by_cases e:j=k
   .subst e;exact .inl h
   .exact .inr ⟨j,Y,h⟩
theorem DN.tabs(h:DN n):∀ i,i<=V n.2.2→∀ k,k<V n.1->GT (20+i) (dc (T n.1 k cs5)) (T (gB n i) k cs5)
 | 0,_,k,hk=>by
  rw[gB,GR hk];exact h.gt hk
 | i+1,hi,k,hk=>by
  have ih:=h.tabs i Y;have hc:=h.c _ (sC (i:=i) (xs:=n.2.2) Y);rw[gB];by_cases e:M (de (T n.2.2 i cs5))=k
  .rw[e,kW (by rw[xG];omega)];have g:=ih k hk;have ⟨r,hr,p1,p2⟩:=hc.p;rw[e] at hr;have gr:=(h.gt hk).r r hr;have hx:=hc.x;rw[e] at hx;refine⟨?_,?_,λx hx'=>?_⟩
   .unfold jX;rw[I (by rw[hc.r];simp)];exact TJ g.s
   .unfold jX;rw[I (by rw[hc.r];simp)];have:=U7 (T (gB n i) k cs5) (ig (T n.2.2 i cs5));have:=g.n;omega
   .unfold jX at hx';rw[I (by rw[hc.r];simp)] at hx';obtain rfl|hx':=W9 hx'
    .refine⟨by rw[p1];exact gr.1,⟨?_,by rw[p2];exact gr.2.2⟩⟩;obtain q|⟨y,hy,q⟩:=hx <;> rw[q]
     .exact⟨aw,λj hj=>absurd hj aw⟩
     .refine⟨aw,λj hj=>?_⟩;have:j=0:=by simpa using hj
      subst this;exact⟨λk=>absurd k Y,si (f:=(·.2)) hy⟩
    .exact g.r x hx'
  .have g:=ih k hk;have e2:T ((gB n i).set (M (de (T n.2.2 i cs5))) (jX (T (gB n i) (M (de (T n.2.2 i cs5))) cs5) (T n.2.2 i cs5))) k cs5=T (gB n i) k default:=by
    exact qN e
   rw[e2];exact⟨g.s,by have:=g.n;omega,g.r⟩
theorem DN.right(h:DN n)(hp:∀ i:Nat,i<V n.1->0<V (aV (T n.1 i cs5))):jA n=0:=by
 have n3:=h.n3
 have n7:=h.n7
 have l10:=h.l10
 have h3:=h.h3
 have e1:wh n=0:=by unfold wh;rw[I Y]
 have e2:sW n=0:=by
  unfold sW;rw[ao];rw[cz6];intro l hl;have ⟨a,b,c,d,e,f,g⟩:=h.g l hl;refine f7 ?_;unfold pE;omega
 have e3:sG n=0:=Nb λi hi=>by
  unfold tE;rw[I (λk=>k (h.node hi (hp i hi))),I];rw[cw7];rintro⟨k,hk,hs⟩;have ⟨a,b,c⟩:=(h.links hi).1 hk;unfold AC at hs;simp only[uJ,sS,pJ,cI2,xZ] at hs;obtain hs|⟨s1,s2⟩:=hs
  .omega
  .obtain c|c:=c
   .exact s1 c
   .exact s2 c
 have e4:vA n=0:=by
  unfold vA;rw[I];rw[cw7];rintro⟨k,hk,hs⟩;have hk:=cx1.1 hk;obtain⟨⟨a0,a1⟩,⟨b0,b1⟩,-⟩:=h.g _ (sC hk);unfold Am at hs;simp only[uJ,pJ] at hs;have key:∀ i:Int,0<=i->i<V n.1->(lA (T n.2.1 k cs5)=i∨lB (T n.2.1 k cs5)=i)→¬ f8 (T n.1 (M i) cs5) k<0:=λi i0 i1 hq hlt=>by
   have hi:M i<V n.1:=Y;have:(k:Int)∈dc (T n.1 (M i) cs5):=(h.links hi).2 ⟨Y,Y,by rw[cv6];obtain q|q:=hq;left;omega;right;omega⟩;have ⟨y,hy,e⟩:=cv1.1 this;have:=bi9 (q:=nN k) hy (by simp[nN,e]);have e5:f8 (T n.1 (M i) cs5) k=kC (nN k) (aV (T n.1 (M i) cs5)):=rfl;omega
  obtain hs|hs:=hs
  .exact key _ a0 a1 (.inl rfl) hs
  .exact key _ b0 b1 (.inr rfl) hs
 have e5:y9 n=0:=by
  unfold y9;rw[I];unfold ag4;rw[cw7];rintro⟨i,hi,hs⟩;have hi:=cx1.1 hi;have ⟨a,ha,hm⟩:=cw7.1 hs;have ⟨j,hj,hb⟩:=(af9 n.1 a i).1 hm;have:=h.apart (i:=i) (j:=j) hi Y ha hb;omega
 have e6:xI n=0:=by
  unfold xI;rw[I];rw[cw7];rintro⟨l,hl,hs⟩;rw[h.o l hl] at hs;cases hs
 have e7:uR n=0:=Nb λi hi=>by
  have hc:=h.c _ (sC (i:=i) (xs:=n.2.2) hi);have ha:=hc.at';have hw:=hc.w;have hk:M (de (T n.2.2 i cs5))<V n.1:=Y;have hs:0<i->j8 (T n.2.2 (i-1) cs5)<=j8 (T n.2.2 i cs5):=λh0=>Xn h.s Y hi;have g:=h.tabs (i+1) Y _ hk;rw[gB,kW (by rw[xG];omega)] at g;unfold o5 uI;rw[I Y,I (by rintro⟨k0,k1⟩;have:=hs k0;omega),I Y,I (by rintro⟨k0,-⟩;rw[hc.r] at k0;cases k0)];exact g.ok Y
 unfold jA uL
 simp[e1,e2,e3,e4,e5,e6,e7]
def CE(ns:List ar)(i:Int):Int:=(T (aV (T ns (M i) cs5)) 0 cs5).1
def rD(ns:List ar):Nat->Int
 | 0=>0
 | i+1=>if qy (T ns (i+1) cs5)=cs8/\0<V (aV (T ns (i+1) cs5)) then ((i+1:Nat):Int) else rD ns i
def jp(n:Net):Int×Int:=if V n.1=0∨V (aV (T n.1 0 cs5))=0 then (0,0) else (CE n.1 0,CE n.1 (rD n.1 (V n.1-1)))
def ZB:Ct:=⟨[.agg mM],[.val dB,.val dB],λ_=>[],λd=>(((jp d.1).1,(jp d.1).2,()),())⟩
def cc4:bG ZB.ps->bL:=(λd=>{loops:=(bz 4 (λS=>{ι:=Int,μ:=λi=>M i,inv:=λi=>0<=i/\i+1<=V d.1.1/\rD d.1.1 (V d.1.1-1)=rD d.1.1 (M i),keep:=[1],slots:=λi=>[(4,.int .i64 i)],keepN:=[32]}) cm)})
def Ny(a:Int)(b:List ar):=am a (a+1<=O b) (rD b (V b -1)=rD b (M a))
theorem cd4:
 ∀ a b c,dN (gT a b c) (∀ d,d=aY (O a)->bN d/\( !d->um ( !d) (O a))/\cQ d (bN d) (kx d (br d (aY (O (N a 0).1))) (0=(jp (a,b,c)).1/\0=(jp (a,b,c)).2) ((∃ e,Ny e a/\ap (O a -1)=e/\a=a/\kH b c)/\ ∀ e,Ny e a->au (av 0 e) (am e (e<O a) (∀ f,f=(N a e).2.2.2.1->cB f f (iW f f e (e<O a)) (f->aK f) (fp f f (aK f) (f->f) (au (bq f (av 0 (O (N a e).1))) (am 0 (0<O a) (am 0 (0<O (N a 0).1) (am e (e<O a) (bP 0 (O (N a e).1) ((N (N a 0).1 0).1=(jp (a,b,c)).1) ((N (N a e).1 0).1=(jp (a,b,c)).2))))) (∃ g,Ny g a/\bZ g e/\ap (e -1)=g/\a=a/\kH b c))))) (am 0 (0<O a) (am 0 (0<O (N a 0).1) (am 0 (0<O a) (bP 0 (O (N a 0).1) ((N (N a 0).1 0).1=(jp (a,b,c)).1) ((N (N a 0).1 0).1=(jp
 (a,b,c)).2)))))))):= by
  delta N O ap aq aH gT nh dh dC bN aK cU aT jR cB br bq bZ am cQ bw bJ aY fp J iW kL av kH bP dN Ny nC kx um aF
  rintro ns ls hs ⟨⟨⟨hnl,-⟩,-⟩,-⟩ -
  simp only[cu5] at hnl
  intro b hb
  (repeat refine⟨λh_=>(by first|exact⟨λ_=>h_,Y,by rw[hb] at h_;have:=lz h_;omega,aQ⟩|(simp;done)|(simp[h_];done)|(simp_all;done)),?_⟩)
  rw[hb,Ok,show M (0:Int)=0 from rfl]
  rw[show (T ns 0 cs5).1=aV (T ns 0 cs5) from rfl]
  refine ay (λh=>?_) (λh=>?_)
  .have h:=aX h
   unfold jp
   rw[ao (by dsimp only;omega)];exact⟨rfl,rfl⟩
  have h:=bg h
  have eH:jp (ns,ls,hs)=(CE ns 0,CE ns (rD ns (V ns-1))):=by
   unfold jp;rw[I (by dsimp only;omega)]
  rw[eH,aJ (n:=(V ns:Int)-1) Y Y]
  refine⟨⟨(V ns:Int)-1,⟨Y,Y,by rw[show M ((V ns:Int)-1)=V ns-1 by omega]⟩,aI⟩,?_⟩
  rintro i ⟨i0,i1,hI⟩
  refine bT (λhi=>?_) (λhi=>?_)
  .have ei:M i=(M i-1)+1:=Y
   have e2:(((M i-1+1:Nat)):Int)=i:=Y
   refine⟨i0,Y,?_⟩
   intro b2 hb2
   (repeat refine⟨λh_=>(by first|exact⟨λ_=>h_,λ_=>h_,i0,Y,aQ⟩|(simp;done)|(simp[h_];done)|(simp_all;done)),?_⟩)
   have hI2:=hI
   rw[ei,rD,← ei] at hI2
   rw[show (T ns (M i) cs5).1=aV (T ns (M i) cs5) from rfl]
   refine uZ (λh1 h2=>?_) (λh1=>?_)
   .have h1:=hb2.symm.trans h1
    have h2:=aX h2
    rw[ao ⟨h1,Y⟩,show ((M i:Nat):Int)=i by omega] at hI2
    rw[hI2]
    exact⟨Y,Y,Y,Y,i0,Y,Y,h2,rfl,rfl⟩
   .rw[I] at hI2
    .exact⟨i-1,⟨Y,Y,by rw[hI2,show M (i-1)=M i-1 by omega]⟩,Y,aI⟩
    .rintro⟨k1,k2⟩
     obtain h1|h1:=h1
     .rw[hb2,show (T ns (M i) cs5).2.2.2.1=qy (T ns (M i) cs5) from rfl,k1] at h1;cases h1
     .have:=bg h1;omega
  .rw[show M i=0 by omega,rD] at hI
   rw[hI]
   exact⟨Y,Y,Y,Y,Y,Y,Y,Y,rfl,rfl⟩
theorem Q8:aB 22 ZB.spec:=aG Tryz.func22 aC cc4 cd4
end Go.RS
