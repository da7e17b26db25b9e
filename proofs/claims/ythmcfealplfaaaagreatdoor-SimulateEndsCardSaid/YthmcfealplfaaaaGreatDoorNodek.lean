/- Fib: forwarding tables. -/
import Derived.Test.YthmcfealplfaaaaGreatDoorReply
import Derived.Test.YthmcfealplfaaaaGreatDoorIdent
namespace Go.RS
open Go.SX Go.Proofs
set_option maxRecDepth 100000
set_option linter.unusedVariables false
abbrev cB:CT := .pair kq (.pair (.sl cI) cI)
abbrev Rt:Type:=cJ×List Int×Int
def aW(p q:cJ):Prop:=p.1<q.1∨p.1=q.1/\p.2<q.2
instance (p q:cJ):Decidable (aW p q):=by unfold aW;infer_instance
theorem Iw{a b:Int}(h:a<b):eG a b = -1:=by unfold eG;rw[if_pos h]
theorem Jb{a b:Int}(h:b<a):eG a b=1:=by unfold eG;rw[if_neg (by omega),if_pos h]
theorem Ed(a:Int):eG a a=0:=by unfold eG;simp
theorem FB(p q:cJ):(aW p q/\fa p q = -1)∨(p=q/\fa p q=0)∨(aW q p/\fa p q=1):=by
 obtain⟨a,b⟩:=p;obtain⟨c,e⟩:=q
 unfold fa aW
 rcases Int.lt_trichotomy a c with h|rfl|h
 ·left;simp[Iw h,h]
 ·rcases Int.lt_trichotomy b e with h|rfl|h
  ·left;simp[Ed,Iw h,h]
  ·right;left;simp[Ed]
  ·right;right;simp[Ed,Jb h,h]
 ·right;right;simp[Jb h,h]
theorem mY(p:cJ):¬ aW p p:=by unfold aW;omega
theorem w7{p q r:cJ}(h:aW p q)(k:aW q r):aW p r:=by unfold aW at *;omega
theorem tJ{p q:cJ}(h:aW p q):¬ aW q p:=by unfold aW at *;omega
theorem zR{p q:cJ}(h:¬ aW p q):p=q∨aW q p:=by rcases FB p q with⟨k,-⟩|⟨k,-⟩|⟨k,-⟩ <;> simp_all
theorem MG{p q r:cJ}(h:¬ aW p q)(k:aW p r):¬ aW r q:=fun e=>h (w7 k e)
theorem yC{p q:cJ}:fa p q<0↔aW p q:=by
 rcases FB p q with⟨h,e⟩|⟨rfl,e⟩|⟨h,e⟩ <;> rw[e]
 ·simp[h]
 ·simp[mY]
 ·simp[tJ h]
theorem BF{p q:cJ}:fa p q=0↔p=q:=by
 rcases FB p q with⟨h,e⟩|⟨h,e⟩|⟨h,e⟩ <;> rw[e]
 ·simp;rintro rfl;exact mY _ h
 ·simp[h]
 ·simp;rintro rfl;exact mY _ h
theorem EM{p q:cJ}:0<=fa p q↔¬ aW p q:=by rw[← yC];omega
def bI(l:List Rt):Prop:=l.Pairwise fun a b=>aW a.1 b.1
theorem WH{l:List Rt}{p:cJ}{h:Int}(hs:bI l)(h0:0<=h)(h1:h<l.length)(hl:aW (l.getD h.toNat default).1 p):∀ y∈l.take (h+1).toNat,aW y.1 p:=by
 intro y hy
 have hj:h.toNat<l.length:=by omega
 rcases Hw h0 h1 hy with hy|rfl
 ·obtain⟨k,hk,rfl⟩:=List.mem_iff_getElem.1 hy
  rw[List.getD_eq_getElem?_getD,List.getElem?_eq_getElem hj,Option.getD_some] at hl
  simp at hk ⊢
  exact w7 (List.pairwise_iff_getElem.1 hs k h.toNat (by omega) hj (by omega)) hl
 ·exact hl
theorem T6{l:List Rt}{p:cJ}{h:Int}(hs:bI l)(h0:0<=h)(h1:h<l.length)(hl:¬ aW (l.getD h.toNat default).1 p):∀ y∈l.drop h.toNat,¬ aW y.1 p:=by
 intro y hy
 have hj:h.toNat<l.length:=by omega
 rw[List.getD_eq_getElem?_getD,List.getElem?_eq_getElem hj,Option.getD_some] at hl
 rw[List.drop_eq_getElem_cons hj] at hy
 rcases List.mem_cons.1 hy with rfl|hy
 ·exact hl
 ·have hp:((l.drop h.toNat)).Pairwise fun a b=>aW a.1 b.1:=List.Pairwise.drop hs
  rw[List.drop_eq_getElem_cons hj] at hp
  exact MG hl (List.rel_of_pairwise_cons hp hy)
def G1:Ct:=⟨[.val (.sl cI)],[.own 3 cI],fun d=>[(d.1.length:Int)<=1099511627776],fun d=>((d.1,()),())⟩
def Yt:ao G1.ps->az:=(fun _=>{})
def mX :=
 (140737488355328:Nat)
theorem T8 :
 ∀(a:List Int),(a.length<=maxLen/\ ∀(b:Int),b∈a->ab b)/\True->(a.length:Int)<=1099511627776-> ∀(b:Bool),(b=true->a.length=(0:Nat))->ad b (([]:List Int)=a) (((0:Nat)+a.length)*(8:Nat)<=(mX)/\a=a):=by
  delta mX
  rintro x ⟨⟨hl,-⟩,-⟩ h b hb
  refine ae (fun h1=>?_) (fun h1=>⟨by simp;omega,by simp⟩)
  have:=hb h1
  exact (List.eq_nil_of_length_eq_zero this).symm
theorem uy:av Tryz.prog GL 94 G1.spec:=Ct.okH _ Tryz.func94 (by kernel_rfl) aC ar Yt (aD (by kernel_rfl) T8)
def Mv:Ct:=⟨[.agg cB],[.agg cB],fun d=>[(d.1.2.1.length:Int)<=1099511627776],fun d=>((d.1,()),())⟩
def YD:ao Mv.ps->az:=(fun _=>{})
theorem SN :
 ∀(a b:Int)(c:List Int)(d:Int),(((0<=a/\a<=4294967295)/\ab b)/\(c.length<=maxLen/\ ∀(e:Int),e∈c->ab e)/\ab d)/\True->(c.length:Int)<=1099511627776->(c.length:Int)<=1099511627776/\((a,b),c,d)=((a,b),c,d):=by
  rintro a b c e-h
  exact⟨h,rfl⟩
theorem N4:av Tryz.prog GL 153 Mv.spec:=Ct.okH _ Tryz.func153 (by kernel_rfl) (ai aC uy) ar YD (aD (by kernel_rfl) SN)
def GN:Ct:=⟨[.agg cB],[.agg cB],fun d=>[(d.1.2.1.length:Int)<=1099511627776],fun d=>((d.1,()),())⟩
def UC:ao GN.ps->az:=(fun _=>{})
theorem ah5 :
 ∀(a b:Int)(c:List Int)(d:Int),(((0<=a/\a<=4294967295)/\ab b)/\(c.length<=maxLen/\ ∀(e:Int),e∈c->ab e)/\ab d)/\True->(c.length:Int)<=1099511627776->c.length*(8:Nat)<=(mX)/\((a,b),c,d)=((a,b),c,d):=by
  delta mX
  rintro a b c e-h
  exact⟨by omega,rfl⟩
theorem LV:av Tryz.prog GL 113 GN.spec:=Ct.okH _ Tryz.func113 (by kernel_rfl) aC ar UC (aD (by kernel_rfl) ah5)
def OZ:Ct:=⟨[.agg cB,.agg kq],[.val cI],fun _=>[],fun d=>((fa d.1.1 d.2.1,()),())⟩
def at2:ao OZ.ps->az:=(fun _=>{})
theorem Y8 :
 ∀(a b:Int)(c:List Int)(d e f:Int),(((0<=a/\a<=4294967295)/\ab b)/\(c.length<=maxLen/\ ∀(g:Int),g∈c->ab g)/\ab d)/\((0<=e/\e<=4294967295)/\ab f)/\True->True->fa (a,b) (e,f)=fa (a,b) (e,f):=by
  intros;trivial
theorem au7:av Tryz.prog GL 202 OZ.spec:=Ct.okH _ Tryz.func202 (by kernel_rfl) (ai aC IE) ar at2 (aD (by kernel_rfl) Y8)
theorem O1{i j:Int}(h0:0<=i)(h1:i<=j)(h2:j<=9223372036854775807):IntKind.wrap IntKind.i64 (cP IntKind.u64 (IntKind.wrap IntKind.u64 (IntKind.wrap IntKind.i64 (i+j))) (1:Int))=(i+j)/2:=by
 have hw:IntKind.wrap IntKind.u64 (IntKind.wrap IntKind.i64 (i+j))=i+j:=by
  rw[IntKind.wrap_i64,IntKind.wrap_u64];omega
 rw[hw]
 have:cP IntKind.u64 (i+j) 1=(i+j)/2:=by
  unfold cP
  rw[Int.fdiv_eq_ediv_of_nonneg _ (by decide)]
  rfl
 rw[this,af (by omega) (by omega)]
theorem KO(l:List Rt)(p:cJ):∃ k:Int,0<=k/\k<=l.length/\(bI l->(∀ z∈l.take k.toNat,aW z.1 p)∧∀ z∈l.drop k.toNat,¬ aW z.1 p):=by
 induction l with
 | nil=>exact⟨0,by simp,by simp,by simp⟩
 | cons a l ih =>
  obtain⟨k,h0,h1,h2⟩:=ih
  by_cases ha:aW a.1 p
  ·refine⟨k+1,by omega,by simp;omega,fun hs=>?_⟩
   obtain⟨q1,q2⟩:=h2 (List.pairwise_cons.1 hs).2
   have e:(k+1).toNat=k.toNat+1:=by omega
   rw[e]
   refine⟨fun z hz=>?_,fun z hz=>q2 z (by simpa using hz)⟩
   rw[List.take_succ_cons] at hz
   rcases List.mem_cons.1 hz with rfl|hz
   ·exact ha
   ·exact q1 z hz
  ·refine⟨0,by omega,by simp only[List.length_cons];omega,fun hs=>⟨by simp,fun z hz=>?_⟩⟩
   rcases List.mem_cons.1 (show z∈a::l from hz) with rfl|hz
   ·exact ha
   ·exact MG ha ((List.pairwise_cons.1 hs).1 z hz)
def Jf:Cn:=⟨[.val (.sl cB),.agg kq,.fn 202 0],[.val cI,.val .bool],fun _=>[],fun d y=>0<=y.1.1/\y.1.1<=d.1.length/\(bI d.1->(∀ z∈d.1.take y.1.1.toNat,aW z.1 d.2.1)∧∀ z∈d.1.drop y.1.1.toNat,¬ aW z.1 d.2.1)/\y.1.2.1=decide (y.1.1<d.1.length/\(d.1.getD y.1.1.toNat default).1=d.2.1),fun d h=>let ⟨k,h0,h1,h2⟩:=KO d.1 d.2.1;⟨((k,decide (k<d.1.length/\(d.1.getD k.toNat default).1=d.2.1),()),()),h0,h1,h2,rfl⟩⟩
def au2:ao Jf.ps->az:=(fun d=>{loops:=(fun n=>match n with|3=>some (fun S=>{ι:=Int×Int,qn:=⟨fun k_=>∀(i:Int)(j:Int),k_ (i,j),fun k_ h_ i=>h_ i.1 i.2,fun k_=>∃ (i:Int) (j:Int),k_ (i,j),fun k_ ⟨i,j,h_⟩=>⟨_,h_⟩⟩,μ:=fun i=>(i.2-i.1).toNat,inv:=fun i=>0<=i.1/\i.1<=i.2/\i.2<=d.1.length/\(bI d.1->(∀ z∈d.1.take i.1.toNat,aW z.1 d.2.1)∧∀ z∈d.1.drop i.2.toNat,¬ aW z.1 d.2.1),keep:=[0,2,4,8],slots:=fun i=>[(9,.int .i64 i.1),(10,.int .i64 i.2)],keepN:=[80],names:=fun i=>[]})|_=>none)})
def aU(a:List aF) :=
 (a.length:Int)
def pM(a:List aF) :=
 a.length<=maxLen/\ ∀(d:aF),d∈a->((0<=d.1.1/\d.1.1<=4294967295)/\ab d.1.2)/\(d.2.1.length<=maxLen/\ ∀(e:Int),e∈d.2.1->ab e)/\ab d.2.2
def wb(d e:Int) :=
 cP IntKind.u64 (IntKind.wrap .u64 (IntKind.wrap .i64 (d+e))) (1:Int)
def Fp(a:List aF)(b c f g:Int) :=
 0<=f/\f<=g/\g<=(aU a)/\(bI a->(∀(h:aF),h∈List.take f.toNat a->aW h.1 (b,c))/\ ∀(h:aF),h∈List.drop g.toNat a-> ¬aW h.1 (b,c))
def FF(a:List aF)(b c d e:Int) :=
 d<=e/\e<=(aU a)/\(bI a->(∀(f:aF),f∈List.take d.toNat a->aW f.1 (b,c))/\ ∀(f:aF),f∈List.drop e.toNat a-> ¬aW f.1 (b,c))
theorem aj3 :
 ∀(a:List aF)(b c:Int),(pM a)/\((0<=b/\b<=4294967295)/\ab c)/\True/\True->True->(∃(d:Int) (e:Int),(0<=d/\(FF a b c d e))/\a=a/\(aU a)=(aU a)/\(0:Int)=d/\(aU a)=e/\b=b/\c=c/\True)/\ ∀(d e:Int),0<=d/\(FF a b c d e)->ad (decide (d<e)) ((0:Int)<=1/\0<=IntKind.wrap .i64 (wb d e)/\IntKind.wrap .i64 (wb d e)<(aU a)/\ad (decide (fa (a.getD (Int.toNat (IntKind.wrap .i64 (wb d e))) default).1 (b,c)<0)) (∃(f:Int) (g:Int),(Fp a b c f g)/\Int.toNat (g -f)<Int.toNat (e -d)/\a=a/\(aU a)=(aU a)/\IntKind.wrap .i64 (IntKind.wrap .i64 (wb d e)+(1:Int))=f/\e=g/\b=b/\c=c/\True) (∃(f:Int) (g:Int),(Fp a b c f g)/\Int.toNat (g -f)<Int.toNat (e -d)/\a=a/\(aU a)=(aU a)/\d=f/\IntKind.wrap .i64 (wb d e)=g/\b=b/\c=c/\True)) (∀(f:Bool),f=decide (d<(aU a))->(f->(f->f)/\(f->f)/\0<=d/\d<(aU
 a)/\True)/\(f->(f->f)/\True)/\(f->(f->f)/\(f->f)/\(f->f)/\True)/\(f->(f->f)/\True)/\(f->f)/\0<=d/\d<=(aU a)/\(bI a->(∀(g:aF),g∈List.take d.toNat a->aW g.1 (b,c))/\ ∀(g:aF),g∈List.drop d.toNat a-> ¬aW g.1 (b,c))/\(bif f then decide (fa (a.getD d.toNat default).1 (b,c)=0) else false)=decide (d<(aU a)/\(a.getD d.toNat default).1=(b,c))):=by
  delta aU pM wb Fp FF
  rintro x p q ⟨⟨hl,-⟩,-⟩ -
  simp only[maxLen] at hl
  refine⟨⟨0,x.length,⟨by omega,by omega,by omega,fun _=>by simp⟩,(by repeat' first|exact trivial|refine⟨trivial,?_⟩|refine⟨(by with_reducible rfl),?_⟩|refine⟨af (by omega) (by omega),?_⟩|refine⟨rfl,?_⟩)⟩,?_⟩
  rintro i j ⟨h0,h1,h2,h3⟩
  refine ae (fun hb=>?_) (fun hb=>?_)
  ·have hb:=of_decide_eq_true hb
   rw[O1 h0 h1 (by omega)]
   refine⟨by omega,by omega,by omega,ae (fun hc=>?_) (fun hc=>?_)⟩
   ·have hc:=yC.1 (of_decide_eq_true hc)
    rw[af (by omega) (by omega)]
    refine⟨(i+j)/2+1,j,⟨by omega,by omega,h2,fun hs=>⟨WH hs (by omega) (by omega) hc,(h3 hs).2⟩⟩,by omega,(by repeat' first|exact trivial|refine⟨trivial,?_⟩|refine⟨(by with_reducible rfl),?_⟩|refine⟨af (by omega) (by omega),?_⟩|refine⟨rfl,?_⟩)⟩
   ·have hc:¬ aW _ _:=fun h=>absurd (yC.2 h) (of_decide_eq_false hc)
    refine⟨i,(i+j)/2,⟨h0,by omega,by omega,fun hs=>⟨(h3 hs).1,T6 hs (by omega) (by omega) hc⟩⟩,by omega,(by repeat' first|exact trivial|refine⟨trivial,?_⟩|refine⟨(by with_reducible rfl),?_⟩|refine⟨af (by omega) (by omega),?_⟩|refine⟨rfl,?_⟩)⟩
  ·have hb:=of_decide_eq_false hb
   have:i=j:=by omega
   subst this
   (repeat (intro (b_:Bool) (hb_:b_=_);(repeat refine⟨(by first|(simp;done)|(rw[hb_];simp;done)|(rw[hb_];simp;omega)|(rw[hb_];simp;intros;omega)|(rw[hb_];simp +contextual;done)),?_⟩);subst hb_))
   refine⟨h0,h2,h3,?_⟩
   rw[Bool.cond_eq_ite]
   by_cases h:i<x.length <;> simp[h,BF]
theorem Wy:av Tryz.prog GL 201 Jf.spec:=Cn.okH _ Tryz.func201 (by kernel_rfl) (ai aC au7) ar au2 (aD (by kernel_rfl) aj3)
def Jt:Ct:=⟨[.nils,.val cI],[.own 97 cB],fun d=>[0<=d.2.1,d.2.1<=1073741824],fun d=>(([],()),())⟩
def VI:ao Jt.ps->az:=(fun _=>{})
def xT(a:Int) :=
 a -IntKind.wrap .i64 ((0:Int) -(0:Int))
def B1(a:Int) :=
 List.replicate (Int.toNat (IntKind.wrap .i64 (xT a))) (((0:Int),(0:Int)),([]:List Int),(0:Int))
theorem ZP :
 ∀(a:Int),True/\ab a/\True->0<=a/\a<=1073741824->ad (decide (a<0)) False (ad (decide (0<IntKind.wrap .i64 (xT a))) ((0:Int)=0/\(0:Int)=0/\0<=IntKind.wrap .i64 (xT a)/\IntKind.wrap .i64 (xT a)*(↑(48:Nat):Int)<=140737488355328/\(0:Int)<=0/\0<=((List.length (B1 a)):Int)/\List.take (Int.toNat (0:Int)) (B1 a)=([]:List aF)) (([]:List aF)=([]:List aF))):=by
  delta xT B1
  rintro x-⟨h0,h1⟩
  rw[af (n:=(0:Int)-0) (by omega) (by omega),af (by omega) (by omega)]
  refine ae (fun hb=>?_) (fun hb=>ae (fun hb=>?_) (fun hb=>rfl))
  ·have:=of_decide_eq_true hb;omega
  ·refine⟨rfl,rfl,by omega,by omega,by omega,by simp only[List.length_replicate];omega,by simp⟩
theorem Zg:av Tryz.prog GL 250 Jt.spec:=Ct.okH _ Tryz.func250 (by kernel_rfl) (B2 aC (d:=25)) ar VI (aD (by kernel_rfl) ZP)
theorem KC{α:Type}{l:List (List α)}{j:Int}(h0:0<=j)(h1:j<l.length):(l.take (j+1).toNat).flatten=(l.take j.toNat).flatten++l.getD j.toNat default:=by
 have hj:j.toNat<l.length:=by omega
 have e:(j+1).toNat=j.toNat+1:=by omega
 rw[e,List.take_succ_eq_append_getElem hj,List.flatten_append,List.getD_eq_getElem?_getD,List.getElem?_eq_getElem hj,Option.getD_some]
 simp
theorem Eg{α:Type}(l:List (List α))(k:Nat):(l.take k).flatten.length<=l.flatten.length:=by
 conv=>rhs;rw[← List.take_append_drop k l,List.flatten_append,List.length_append]
 omega
def IC:Ct:=⟨[.val (.sl (.sl cB))],[.own 97 cB],fun d=>[(d.1.flatten.length:Int)<=1073741824],fun d=>((d.1.flatten,()),())⟩
def TA:ao IC.ps->az:=(fun d=>{loops:=(fun n=>match n with|3=>some (fun S=>{ι:=Int×Int,qn:=⟨fun k_=>∀(j:Int)(s:Int),k_ (j,s),fun k_ h_ i=>h_ i.1 i.2,fun k_=>∃ (j:Int) (s:Int),k_ (j,s),fun k_ ⟨j,s,h_⟩=>⟨_,h_⟩⟩,μ:=fun i=>(d.1.length-i.1).toNat,inv:=fun i=>0<=i.1/\i.1<=d.1.length/\i.2=((d.1.take i.1.toNat).flatten.length:Int),keep:=[0,9,10],slots:=fun i=>[(3,.int .i64 i.2),(11,.int .i64 i.1)],names:=fun i=>[]})|11=>some (fun S=>{ι:=Int×(List Rt),qn:=⟨fun k_=>∀(j:Int)(ys:(List Rt)),k_ (j,ys),fun k_ h_ i=>h_ i.1 i.2,fun k_=>∃ (j:Int) (ys:(List Rt)),k_ (j,ys),fun k_ ⟨j,ys,h_⟩=>⟨_,h_⟩⟩,μ:=fun i=>(d.1.length-i.1).toNat,inv:=fun i=>0<=i.1/\i.1<=d.1.length/\i.2=(d.1.take i.1.toNat).flatten,keep:=[25,26],slots:=fun i=>[(6,.own 524288 4),(27,.int .i64 i.1)],names:=fun i=>[(524288,.live (.row 97 cB i.2))]})|_=>none)})
def vf(c:aF) :=
 ((0<=c.1.1/\c.1.1<=4294967295)/\ab c.1.2)/\(c.2.1.length<=maxLen/\ ∀(d:Int),d∈c.2.1->ab d)/\ab c.2.2
def hV(a:List (List aF)) :=
 (a.length:Int)
theorem U9 :
 ∀(a:List (List aF)),(a.length<=maxLen/\ ∀(b:List aF),b∈a->b.length<=maxLen/\ ∀(c:aF),c∈b->(vf c))/\True->((List.length (List.flatten a)):Int)<=1073741824->(∃(b:Int) (c:Int),(0<=b/\b<=(hV a)/\c=((List.length (List.flatten (List.take b.toNat a))):Int))/\a=a/\(0:Int)=c/\a=a/\(hV a)=(hV a)/\(0:Int)=b/\True)/\ ∀(b c:Int),0<=b/\b<=(hV a)/\c=((List.length (List.flatten (List.take b.toNat a))):Int)->ad (decide (b<(hV a))) (0<=b/\b<(hV a)/\ad (decide (IntKind.wrap .i64 (c+((List.length (a.getD b.toNat default)):Int))<0)) False (∃(d:Int) (e:Int),(0<=d/\d<=(hV a)/\e=((List.length (List.flatten (List.take d.toNat a))):Int))/\Int.toNat ((hV a) -d)<Int.toNat ((hV a) -b)/\a=a/\IntKind.wrap .i64 (c+((List.length (a.getD b.toNat default)):Int))=e/\a=a/\(hV a)=(hV a)/\IntKind.wrap .i64 (b+(1:Int))=d/\True)) (0<=c/\c<=1073741824/\(∃(d:Int) (e:List
 Rt),(0<=d/\d<=(hV a)/\e=List.flatten (List.take d.toNat a))/\a=a/\(hV a)=(hV a)/\(0:Int)=d/\([]:List aF)=e/\True)/\ ∀(d:Int)(e:List Rt),0<=d/\d<=(hV a)/\e=List.flatten (List.take d.toNat a)->ad (decide (d<(hV a))) (0<=d/\d<(hV a)/\(e.length+List.length (a.getD d.toNat default))*(48:Nat)<=(mX)/\ ∃(f:Int) (g:List Rt),(0<=f/\f<=(hV a)/\g=List.flatten (List.take f.toNat a))/\Int.toNat ((hV a) -f)<Int.toNat ((hV a) -d)/\a=a/\(hV a)=(hV a)/\IntKind.wrap .i64 (d+(1:Int))=f/\e++a.getD d.toNat default=g/\True) (e=List.flatten a)):=by
  delta vf hV mX
  rintro x ⟨⟨hl,-⟩,-⟩ ht
  simp only[maxLen] at hl
  refine⟨⟨0,0,⟨by omega,by omega,by simp⟩,(by repeat' first|exact trivial|refine⟨trivial,?_⟩|refine⟨(by with_reducible rfl),?_⟩|refine⟨af (by omega) (by omega),?_⟩|refine⟨rfl,?_⟩)⟩,?_⟩
  rintro j s ⟨h0,h1,h2⟩
  have hle:=Eg x j.toNat
  refine ae (fun hb=>?_) (fun hb=>?_)
  ·have hb:=of_decide_eq_true hb
   have e:=KC h0 hb
   have hle2:=Eg x (j+1).toNat
   have el:((x.take (j+1).toNat).flatten.length:Int)=s+(x.getD j.toNat default).length:=by rw[e,List.length_append];omega
   rw[af (n:=s+_) (by omega) (by omega)]
   refine⟨h0,hb,ae (fun hc=>?_) (fun hc=>?_)⟩
   ·have:=of_decide_eq_true hc;omega
   ·exact⟨j+1,_,⟨by omega,by omega,el.symm⟩,by omega,(by repeat' first|exact trivial|refine⟨trivial,?_⟩|refine⟨(by with_reducible rfl),?_⟩|refine⟨af (by omega) (by omega),?_⟩|refine⟨rfl,?_⟩)⟩
  ·refine⟨by omega,by omega,⟨0,[],⟨by omega,by omega,by simp⟩,(by repeat' first|exact trivial|refine⟨trivial,?_⟩|refine⟨(by with_reducible rfl),?_⟩|refine⟨af (by omega) (by omega),?_⟩|refine⟨rfl,?_⟩)⟩,?_⟩
   rintro k ys ⟨k0,k1,rfl⟩
   refine ae (fun hb=>?_) (fun hb=>?_)
   ·have hb:=of_decide_eq_true hb
    have e:=KC k0 hb
    have hle2:=Eg x (k+1).toNat
    refine⟨k0,hb,?_,k+1,_,⟨by omega,by omega,e.symm⟩,by omega,(by repeat' first|exact trivial|refine⟨trivial,?_⟩|refine⟨(by with_reducible rfl),?_⟩|refine⟨af (by omega) (by omega),?_⟩|refine⟨rfl,?_⟩)⟩
    rw[← List.length_append,← e];omega
   ·have hb:=of_decide_eq_false hb
    rw[List.take_of_length_le (by omega)]
theorem PG:av Tryz.prog GL 215 IC.spec:=Ct.okH _ Tryz.func215 (by kernel_rfl) (ai aC Zg) ar TA (aD (by kernel_rfl) U9)
theorem py{α:Type} [Inhabited α] {l:List α} {j:Int} (h0:0<=j) (h1:j<l.length):l.set j.toNat (l.getD j.toNat default)=l:=by
 have hj:j.toNat<l.length:=by omega
 rw[List.getD_eq_getElem?_getD,List.getElem?_eq_getElem hj,Option.getD_some,List.set_getElem_self]
def Ks:Ct:=⟨[.val (.sl cB),.val cI,.val cI,.val (.sl cB)],[.own 97 cB],fun d=>[0<=d.2.1,d.2.1<=d.1.length,0<=d.2.2.1,d.2.2.1<=d.1.length,(d.1.length:Int)<=134217728,(d.2.2.2.1.length:Int)<=134217728,∀ y∈d.1,(y.2.1.length:Int)<=1099511627776,∀ y∈d.2.2.2.1,(y.2.1.length:Int)<=1099511627776],fun d=>((d.1.take d.2.1.toNat++(d.2.2.2.1++d.1.drop d.2.2.1.toNat),()),())⟩
def aq4:ao Ks.ps->az:=(fun d=>{loops:=(fun n=>match n with|3=>some (fun S=>{ι:=Int,μ:=fun i=>(((d.1.take d.2.1.toNat++(d.2.2.2.1++d.1.drop d.2.2.1.toNat)).length:Int)-i).toNat,inv:=fun i=>0<=i/\i<=((d.1.take d.2.1.toNat++(d.2.2.2.1++d.1.drop d.2.2.1.toNat)).length:Int),keep:=[9,20,21],slots:=fun i=>[(22,.int .i64 i)],keepN:=[320],names:=fun i=>[]})|_=>none)})
def xl(a:List aF)(b c:Int)(d:List aF) :=
 List.flatten [bW a (Int.toNat (0:Int)) b.toNat,d,bW a c.toNat (Int.toNat (aU a))]
def wg(a:List aF)(b c:Int)(d:List aF) :=
 ((List.length (List.take b.toNat a++(d++List.drop c.toNat a))):Int)
def qI(a:List aF)(b c:Int)(d:List aF) :=
 ((List.length (xl a b c d)):Int)
def Ck(e:aF) :=
 ((0<=e.1.1/\e.1.1<=4294967295)/\ab e.1.2)/\(e.2.1.length<=maxLen/\ ∀(f:Int),f∈e.2.1->ab f)/\ab e.2.2
theorem ab8 :
 ∀(a:List aF)(b c:Int)(d:List aF),(a.length<=maxLen/\ ∀(e:aF),e∈a->(Ck e))/\ab b/\ab c/\(d.length<=maxLen/\ ∀(e:aF),e∈d->(Ck e))/\True->(0<=b/\b<=(aU a)/\0<=c/\c<=(aU a)/\(aU a)<=134217728/\(d.length:Int)<=134217728/\(∀(e:aF),e∈a->(e.2.1.length:Int)<=1099511627776)/\ ∀(e:aF),e∈d->(e.2.1.length:Int)<=1099511627776)->(0:Int)<=0/\0<=b/\b<=(aU a)/\0<=c/\c<=(aU a)/\(aU a)<=(aU a)/\(qI a b c d)<=1073741824/\(∃(e:Int),(0<=e/\e<=(wg a b c d))/\(qI a b c d)=(qI a b c d)/\(0:Int)=e/\List.flatten [bW a (Int.toNat (0:Int)) b.toNat,d,bW a c.toNat (Int.toNat (aU a))]=List.flatten [bW a (Int.toNat (0:Int)) b.toNat,d,bW a c.toNat (Int.toNat (aU a))]/\True)/\ ∀(e:Int),0<=e/\e<=(wg a b c d)->ad (decide (e<(qI a b c d))) (0<=e/\e<(qI a b c d)/\((List.length (List.getD (xl a b c d) e.toNat
 default).2.1):Int)<=1099511627776/\0<=e/\e<(qI a b c d)/\ ∃(f:Int),(0<=f/\f<=(wg a b c d))/\Int.toNat ((wg a b c d) -f)<Int.toNat ((wg a b c d) -e)/\(qI a b c d)=(qI a b c d)/\IntKind.wrap .i64 (e+(1:Int))=f/\List.set (xl a b c d) e.toNat (List.getD (xl a b c d) e.toNat default)=List.flatten [bW a (Int.toNat (0:Int)) b.toNat,d,bW a c.toNat (Int.toNat (aU a))]/\True) (List.flatten [bW a (Int.toNat (0:Int)) b.toNat,d,bW a c.toNat (Int.toNat (aU a))]=List.take b.toNat a++(d++List.drop c.toNat a)):=by
  delta xl aU wg qI Ck
  rintro l a b m-⟨h0,h1,h2,h3,h4,h5,h6,h7⟩
  have e:List.flatten [bW l (Int.toNat (0:Int)) (Int.toNat a),m,bW l (Int.toNat b) (Int.toNat (l.length:Int))]=l.take a.toNat++(m++l.drop b.toNat):=by
   simp[bW]
  rw[e]
  have hall:∀ y∈l.take a.toNat++(m++l.drop b.toNat),(y.2.1.length:Int)<=1099511627776:=by
   intro y hy
   simp only[List.mem_append] at hy
   rcases hy with hy|hy|hy
   ·exact h6 y (List.mem_of_mem_take hy)
   ·exact h7 y hy
   ·exact h6 y (List.mem_of_mem_drop hy)
  have hlen:(l.take a.toNat++(m++l.drop b.toNat)).length<=l.length+(m.length+l.length):=by
   simp only[List.length_append,List.length_take,List.length_drop];omega
  generalize l.take a.toNat++(m++l.drop b.toNat)=o at hall hlen ⊢
  refine⟨by omega,h0,h1,h2,h3,by omega,by omega,⟨0,⟨by omega,by omega⟩,(by repeat' first|exact trivial|refine⟨trivial,?_⟩|refine⟨(by with_reducible rfl),?_⟩|refine⟨af (by omega) (by omega),?_⟩|refine⟨rfl,?_⟩)⟩,?_⟩
  rintro j ⟨j0,j1⟩
  refine ae (fun hb=>?_) (fun hb=>rfl)
  have hb:=of_decide_eq_true hb
  refine⟨j0,hb,hall _ (bH j0 hb),j0,hb,j+1,⟨by omega,by omega⟩,by omega,rfl,af (by omega) (by omega),py j0 hb,trivial⟩
theorem Jo:av Tryz.prog GL 169 Ks.spec:=Ct.okH _ Tryz.func169 (by kernel_rfl) (ai (ai aC PG) N4) ar aq4 (aD (by kernel_rfl) ab8)
def Ib:Cn:=⟨[.val (.sl cB),.agg kq],[.val cI,.val .bool],fun _=>[],fun d y=>0<=y.1.1/\y.1.1<=d.1.length/\(bI d.1->(∀ z∈d.1.take y.1.1.toNat,aW z.1 d.2.1)∧∀ z∈d.1.drop y.1.1.toNat,¬ aW z.1 d.2.1)/\y.1.2.1=decide (y.1.1<d.1.length/\(d.1.getD y.1.1.toNat default).1=d.2.1),fun d h=>let ⟨k,h0,h1,h2⟩:=KO d.1 d.2.1;⟨((k,decide (k<d.1.length/\(d.1.getD k.toNat default).1=d.2.1),()),()),h0,h1,h2,rfl⟩⟩
def XP:ao Ib.ps->az:=(fun _=>{})
def yu(a:List aF)(b c d:Int)(e:Bool) :=
 d<=(aU a)/\(bI a->(∀(f:aF),f∈List.take d.toNat a->aW f.1 (b,c))/\ ∀(f:aF),f∈List.drop d.toNat a-> ¬aW f.1 (b,c))/\e=decide (d<(aU a)/\(a.getD d.toNat default).1=(b,c))
theorem ZC :
 ∀(a:List aF)(b c:Int),(pM a)/\((0<=b/\b<=4294967295)/\ab c)/\True->True-> ∀(d:Int)(e:Bool),0<=d/\(yu a b c d e)->0<=d/\(yu a b c d e):=by
  delta aU pM yu
  rintro l p q - - i b h
  exact h
theorem Gu:av Tryz.prog GL 151 Ib.spec:=Cn.okH _ Tryz.func151 (by kernel_rfl) (ai aC Wy) ar XP (aD (by kernel_rfl) ZC)
def dJ(l:List Rt)(r:Rt):List Rt:=l.filter (fun a=>decide (aW a.1 r.1))++r::l.filter (fun a=>decide (aW r.1 a.1))
def gB(l:List Rt)(p:cJ):List Rt:=l.filter (fun a=>decide (a.1≠p))
def okL(l:List Rt):Prop:=(l.length:Int)<=134217728∧∀ y∈l,(y.2.1.length:Int)<=1099511627776
def rE(a:Int)(b:Option Rt)(r:Rt):Option Rt:=if cS r.1 a then match b with|none=>some r|some q=>if q.1.2<r.1.2 then some r else some q else b
def ku(l:List Rt)(a:Int):Option Rt:=l.foldl (rE a) none
def bd(l:List Rt)(a:Int):Rt:=match ku l a with|none=>((0,0),[],0)|some r=>r
def mV(l:List Rt)(a:Int):Bool:=(ku l a).isSome
theorem I5{l:List Rt}{p:cJ}{k:Nat}(h1:∀ z∈l.take k,aW z.1 p)(h2:∀ z∈l.drop k,¬ aW z.1 p):l.take k=l.filter (fun a=>decide (aW a.1 p)):=by
 conv=>rhs;rw[← List.take_append_drop k l]
 rw[List.filter_append,List.filter_eq_self.2 (by simpa using h1),List.filter_eq_nil_iff.2 (by simpa using h2),List.append_nil]
theorem G7{l:List Rt}{i:Int}(h0:0<=i)(h1:i<l.length):l=l.take i.toNat++l.getD i.toNat default::l.drop (i+1).toNat:=by
 have hj:i.toNat<l.length:=by omega
 rw[List.getD_eq_getElem?_getD,List.getElem?_eq_getElem hj,Option.getD_some,show (i+1).toNat=i.toNat+1 from by omega,← List.drop_eq_getElem_cons hj,List.take_append_drop]
theorem Hb{l:List Rt}{p:cJ}{i:Int}(hs:bI l)(h0:0<=i)(hl:i<l.length)(h1:∀ z∈l.take i.toNat,aW z.1 p)(he:(l.getD i.toNat default).1=p):l.drop (i+1).toNat=l.filter (fun a=>decide (aW p a.1))/\l.take i.toNat++l.drop (i+1).toNat=gB l p:=by
 have hsp:=G7 h0 hl
 have hp:(l.getD i.toNat default::l.drop (i+1).toNat).Pairwise fun a b=>aW a.1 b.1:=by
  have:=hs;unfold bI at this;rw[hsp] at this;exact (List.pairwise_append.1 this).2.1
 have h3:∀ z∈l.drop (i+1).toNat,aW p z.1:=fun z hz=>by rw[← he];exact (List.pairwise_cons.1 hp).1 z hz
 generalize l.getD i.toNat default=r at *
 generalize l.take i.toNat=A at *
 generalize l.drop (i+1).toNat=B at *
 subst hsp
 subst he
 constructor
 ·rw[List.filter_append,List.filter_cons,if_neg (by simp[mY]),List.filter_eq_nil_iff.2 (by simpa using fun z hz=>tJ (h1 z hz)),List.nil_append,List.filter_eq_self.2 (by simpa using h3)]
 ·rw[gB,List.filter_append,List.filter_cons,if_neg (by simp),List.filter_eq_self.2 (fun z hz=>decide_eq_true (fun (e:z.1=r.1)=>mY _ (e▸h1 z hz))),List.filter_eq_self.2 (fun z hz=>decide_eq_true (fun (e:z.1=r.1)=>mY _ (e▸h3 z hz)))]
theorem Hu{l:List Rt}{p:cJ}{i:Int}(hs:bI l)(h0:0<=i)(h1:∀ z∈l.take i.toNat,aW z.1 p)(h2:∀ z∈l.drop i.toNat,¬ aW z.1 p)(he:¬ (i<l.length/\(l.getD i.toNat default).1=p)):l.drop i.toNat=l.filter (fun a=>decide (aW p a.1))/\l=gB l p:=by
 have h3:∀ z∈l.drop i.toNat,aW p z.1:=by
  intro z hz
  rcases zR (h2 z hz) with e|h
  ·exfalso
   by_cases hl:i<l.length
   ·have hj:i.toNat<l.length:=by omega
    have hne:(l.getD i.toNat default).1≠p:=fun e=>he ⟨hl,e⟩
    rw[List.getD_eq_getElem?_getD,List.getElem?_eq_getElem hj,Option.getD_some] at hne
    have hp:(l.drop i.toNat).Pairwise fun a b=>aW a.1 b.1:=List.Pairwise.drop hs
    rw[List.drop_eq_getElem_cons hj] at hz hp h2
    rcases List.mem_cons.1 hz with rfl|hz
    ·exact hne e
    ·exact h2 _ (List.mem_cons_self) (e▸(List.pairwise_cons.1 hp).1 z hz)
   ·rw[List.drop_eq_nil_of_le (by omega)] at hz;simp at hz
  ·exact h
 have hsp:=List.take_append_drop i.toNat l
 constructor
 ·conv=>rhs;rw[← hsp]
  rw[List.filter_append,List.filter_eq_nil_iff.2 (by simpa using fun z hz=>tJ (h1 z hz)),List.nil_append,List.filter_eq_self.2 (by simpa using h3)]
 ·symm
  apply List.filter_eq_self.2
  intro z hz
  rw[← hsp] at hz
  apply decide_eq_true
  rcases List.mem_append.1 hz with hz|hz
  ·exact fun e=>mY _ (e▸h1 z hz)
  ·exact fun e=>mY _ (e▸h3 z hz)
def GM:Ct:=⟨[.val (.sl cB),.agg cB],[.own 97 cB],fun d=>[bI d.1,okL d.1,(d.2.1.2.1.length:Int)<=1099511627776],fun d=>((dJ d.1 d.2.1,()),())⟩
def TD:ao GM.ps->az:=(fun _=>{})
def yT(a:List aF) :=
 a.length<=maxLen/\ ∀(f:aF),f∈a->((0<=f.1.1/\f.1.1<=4294967295)/\ab f.1.2)/\(f.2.1.length<=maxLen/\ ∀(g:Int),g∈f.2.1->ab g)/\ab f.2.2
theorem W9 :
 ∀(a:List aF)(b c:Int)(d:List Int)(e:Int),(yT a)/\(((0<=b/\b<=4294967295)/\ab c)/\(d.length<=maxLen/\ ∀(f:Int),f∈d->ab f)/\ab e)/\True->bI a/\okL a/\(d.length:Int)<=1099511627776-> ∀(f:Int)(g:Bool),0<=f/\f<=(aU a)/\(bI a->(∀(h:aF),h∈List.take f.toNat a->aW h.1 (b,c))/\ ∀(h:aF),h∈List.drop f.toNat a-> ¬aW h.1 (b,c))/\g=decide (f<(aU a)/\(a.getD f.toNat default).1=(b,c))->ad g (0<=f/\f<=(aU a)/\0<=IntKind.wrap .i64 (f+(1:Int))/\IntKind.wrap .i64 (f+(1:Int))<=(aU a)/\(aU a)<=134217728/\((List.length [((b,c),d,e)]):Int)<=134217728/\(∀(h:aF),h∈a->(h.2.1.length:Int)<=1099511627776)/\(∀(h:aF),h∈[((b,c),d,e)]->(h.2.1.length:Int)<=1099511627776)/\List.take f.toNat a++([((b,c),d,e)]++List.drop (Int.toNat (IntKind.wrap .i64 (f+(1:Int)))) a)=dJ a ((b,c),d,e)) (0<=f/\f<=(aU a)/\0<=f/\f<=(aU a)/\(aU a)<=134217728/\((List.length
 [((b,c),d,e)]):Int)<=134217728/\(∀(h:aF),h∈a->(h.2.1.length:Int)<=1099511627776)/\(∀(h:aF),h∈[((b,c),d,e)]->(h.2.1.length:Int)<=1099511627776)/\List.take f.toNat a++([((b,c),d,e)]++List.drop f.toNat a)=dJ a ((b,c),d,e)):=by
  delta aU yT
  rintro l a n nx b-⟨hs,⟨hl,hx⟩,hn⟩ i f ⟨h0,h1,h2,rfl⟩
  obtain⟨h2,h3⟩:=h2 hs
  refine ae (fun hf=>?_) (fun hf=>?_)
  ·obtain⟨f1,f2⟩:=of_decide_eq_true hf
   rw[af (by omega) (by omega)]
   refine⟨h0,h1,by omega,by omega,hl,by simp,hx,by simpa using hn,?_⟩
   rw[(Hb hs h0 f1 h2 f2).1,I5 h2 h3];rfl
  ·have hf:=of_decide_eq_false hf
   refine⟨h0,h1,h0,h1,hl,by simp,hx,by simpa using hn,?_⟩
   rw[(Hu hs h0 h2 h3 hf).1,I5 h2 h3];rfl
theorem H9:av Tryz.prog GL 103 GM.spec:=Ct.okH _ Tryz.func103 (by kernel_rfl) (ai (ai aC Gu) Jo) ar TD (aD (by kernel_rfl) W9)
def MC:Ct:=⟨[.val (.sl cB),.agg kq],[.own 97 cB],fun d=>[bI d.1,okL d.1],fun d=>((gB d.1 d.2.1,()),())⟩
def Ta:ao MC.ps->az:=(fun _=>{})
def vK(a:List aF) :=
 (aU a)<=134217728/\ ∀(d:Rt),d∈a->(d.2.1.length:Int)<=1099511627776
theorem Vm :
 ∀(a:List aF)(b c:Int),(pM a)/\((0<=b/\b<=4294967295)/\ab c)/\True->(bI a/\(vK a))-> ∀(d:Int)(e:Bool),0<=d/\(yu a b c d e)->ad e (0<=d/\d<=(aU a)/\0<=IntKind.wrap .i64 (d+(1:Int))/\IntKind.wrap .i64 (d+(1:Int))<=(aU a)/\(aU a)<=134217728/\(↑(0:Nat):Int)<=134217728/\(∀(f:aF),f∈a->(f.2.1.length:Int)<=1099511627776)/\(∀(f:aF),f∈([]:List aF)->(f.2.1.length:Int)<=1099511627776)/\List.take d.toNat a++List.drop (Int.toNat (IntKind.wrap .i64 (d+(1:Int)))) a=gB a (b,c)) (0<=d/\d<=(aU a)/\0<=d/\d<=(aU a)/\(aU a)<=134217728/\(↑(0:Nat):Int)<=134217728/\(∀(f:aF),f∈a->(f.2.1.length:Int)<=1099511627776)/\(∀(f:aF),f∈([]:List aF)->(f.2.1.length:Int)<=1099511627776)/\List.take d.toNat a++List.drop d.toNat a=gB a (b,c)):=by
  delta aU pM yu vK
  rintro l a n-⟨hs,hl,hx⟩ i f ⟨h0,h1,h2,rfl⟩
  obtain⟨h2,h3⟩:=h2 hs
  refine ae (fun hf=>?_) (fun hf=>?_)
  ·obtain⟨f1,f2⟩:=of_decide_eq_true hf
   rw[af (by omega) (by omega)]
   exact⟨h0,h1,by omega,by omega,hl,by simp,hx,by simp,(Hb hs h0 f1 h2 f2).2⟩
  ·have hf:=of_decide_eq_false hf
   refine⟨h0,h1,h0,h1,hl,by simp,hx,by simp,?_⟩
   rw[List.take_append_drop];exact (Hu hs h0 h2 h3 hf).2
theorem Id:av Tryz.prog GL 102 MC.spec:=Ct.okH _ Tryz.func102 (by kernel_rfl) (ai (ai aC Gu) Jo) ar Ta (aD (by kernel_rfl) Vm)
theorem QK{l:List Rt}{a i:Int}(h0:0<=i)(h1:i<l.length):ku (l.take (i+1).toNat) a=rE a (ku (l.take i.toNat) a) (l.getD i.toNat default):=by
 have hj:i.toNat<l.length:=by omega
 rw[show (i+1).toNat=i.toNat+1 from by omega,List.take_succ_eq_append_getElem hj,ku,List.foldl_append,List.getD_eq_getElem?_getD,List.getElem?_eq_getElem hj,Option.getD_some]
 rfl
theorem WR{l:List Rt}{a b i:Int}(h0:0<=i)(h1:i<l.length)(h:ku (l.take i.toNat) a=if b<0 then none else some (l.getD b.toNat default))(c:Bool)
  (hc:c=(bif cS (l.getD i.toNat default).1 a then bif decide (b<0) then true else decide ((l.getD b.toNat default).1.2<(l.getD i.toNat default).1.2) else false)) :
  ku (l.take (i+1).toNat) a=if (if c then i else b)<0 then none else some (l.getD (if c then i else b).toNat default):=by
 rw[QK h0 h1,h]
 unfold rE
 subst hc
 cases hx:cS (l.getD i.toNat default).1 a with
 | false=>simp
 | true =>
  by_cases hb:b<0
  ·simp[hb,show ¬ i<0 from by omega]
  ·by_cases hl:(l.getD b.toNat default).1.2<(l.getD i.toNat default).1.2
   ·simp only[List.getD_eq_getElem?_getD] at hl
    simp[hb,hl,show ¬ i<0 from by omega]
   ·simp only[List.getD_eq_getElem?_getD] at hl
    simp[hb,hl]
theorem Vc{l:List Rt}{a:Int}{k:Nat}(h:∀ z∈l.drop k,cS z.1 a=false):ku l a=ku (l.take k) a:=by
 conv=>lhs;rw[← List.take_append_drop k l]
 unfold ku
 rw[List.foldl_append]
 generalize List.foldl (rE a) none (l.take k)=s
 generalize l.drop k=m at h
 induction m generalizing s with
 | nil=>rfl
 | cons z r ih =>
  rw[List.foldl_cons,show rE a s z=s from by rw[rE.eq_def,if_neg (by simp[h z List.mem_cons_self])]]
  exact ih (s:=s) (fun y hy=>h y (List.mem_cons_of_mem _ hy))
theorem QP{p:cJ}{a:Int}(h:¬ aW p (a,33)):cS p a=false:=by
 unfold cS jb
 unfold aW at h
 rw[Bool.and_eq_false_iff]
 simp only[decide_eq_false_iff_not]
 simp only at h
 omega
def I0:Ct:=⟨[.val (.sl cB),.val ce],[.agg cB,.val .bool],fun d=>[bI d.1,okL d.1],fun d=>((bd d.1 d.2.1,mV d.1 d.2.1,()),())⟩
def al5:ao I0.ps->az:=(fun d=>{loops:=(fun n=>match n with|4=>some (fun S=>{ι:=Int×Int×Int,qn:=⟨fun k_=>∀(i:Int)(b:Int)(n:Int),k_ (i,b,n),fun k_ h_ i=>h_ i.1 i.2.1 i.2.2,fun k_=>∃ (i:Int) (b:Int) (n:Int),k_ (i,b,n),fun k_ ⟨i,b,n,h_⟩=>⟨_,h_⟩⟩,μ:=fun i=>(i.2.2-i.1).toNat,inv:=fun i=>0<=i.1/\i.1<=i.2.2/\i.2.2<=d.1.length ∧ -1<=i.2.1/\i.2.1<i.1/\ku (d.1.take i.1.toNat) d.2.1=(if i.2.1<0 then none else some (d.1.getD i.2.1.toNat default))/\(bI d.1→∀ z∈d.1.drop i.2.2.toNat,¬ aW z.1 (d.2.1,33)),keep:=[0,1,4],slots:=fun i=>[(8,.int .i64 i.2.1),(17,.int .i64 i.2.2),(18,.int .i64 i.1)],keepN:=[80],names:=fun i=>[]})|_=>none)})
def tv(h i:Bool) :=
 (h&& ! i)->((h&& ! i)->(h&& ! i))/\True
def Gp(a:List aF)(b j k l:Int) :=
 0<=j/\j<=l/\l<=(aU a)/\ -1<=k/\k<j/\(ku (List.take j.toNat a) b=if k<0 then none else some (a.getD k.toNat default))/\(bI a-> ∀(m:aF),m∈List.drop l.toNat a-> ¬aW m.1 (b,(33:Int)))
def GC(a:List aF)(b e f g:Int) :=
 e<=g/\g<=(aU a)/\ -1<=f/\f<e/\(ku (List.take e.toNat a) b=if f<0 then none else some (a.getD f.toNat default))/\(bI a-> ∀(h:aF),h∈List.drop g.toNat a-> ¬aW h.1 (b,(33:Int)))
theorem Xo :
 ∀(a:List aF)(b:Int),(a.length<=maxLen/\ ∀(c:aF),c∈a->(vf c))/\(0<=b/\b<=4294967295)/\True->(bI a/\(aU a)<=134217728/\ ∀(c:Rt),c∈a->(c.2.1.length:Int)<=1099511627776)-> ∀(c:Int)(d:Bool),0<=c/\c<=(aU a)/\(bI a->(∀(e:aF),e∈List.take c.toNat a->aW e.1 (b,(33:Int)))/\ ∀(e:aF),e∈List.drop c.toNat a-> ¬aW e.1 (b,(33:Int)))/\d=decide (c<(aU a)/\(a.getD c.toNat default).1=(b,(33:Int)))->(∃(e:Int) (f:Int),∃(g:Int),(0<=e/\(GC a b e f g))/\a=a/\b=b/\(-1:Int)=f/\c=g/\(0:Int)=e/\(0:Int)=0/\(0:Int)=0/\(0:Int)=0/\True)/\ ∀(e f g:Int),0<=e/\(GC a b e f g)->ad (decide (e<g)) (0<=e/\e<(aU a)/\ ∀(h:Bool),h=cS (a.getD e.toNat default).1 b->(h->(h->h)/\True)/\(h->(h->h)/\True)/\ ∀(i:Bool),i=decide (f<0)->((h&& ! i)->((h&& ! i)->(h&& ! i))/\((h&& ! i)->(h&& ! i))/\0<=e/\e<(aU a)/\True)/\(tv h i)/\(tv h i)/\(tv h i)/\((h&& ! i)->((h&& ! i)->(h&& !
 i))/\((h&& ! i)->(h&& ! i))/\0<=f/\f<(aU a)/\True)/\(tv h i)/\(tv h i)/\(tv h i)/\((h&& ! i)->((h&& ! i)->(h&& ! i))/\((h&& ! i)->(h&& ! i))/\True)/\(h->(h->h)/\(i=false->(h&& ! i))/\True)/\(h->h)/\ad (bif h then bif i then true else decide ((a.getD f.toNat default).1.2<(a.getD e.toNat default).1.2) else false) (∃(j:Int) (k:Int),∃(l:Int),(Gp a b j k l)/\Int.toNat (l -j)<Int.toNat (g -e)/\a=a/\b=b/\e=k/\g=l/\IntKind.wrap .i64 (e+(1:Int))=j/\(0:Int)=0/\(0:Int)=0/\(0:Int)=0/\True) (∃(j:Int) (k:Int),∃(l:Int),(Gp a b j k l)/\Int.toNat (l -j)<Int.toNat (g -e)/\a=a/\b=b/\f=k/\g=l/\IntKind.wrap .i64 (e+(1:Int))=j/\(0:Int)=0/\(0:Int)=0/\(0:Int)=0/\True)) (ad (decide (f<0)) ((((0:Int),(0:Int)),([]:List Int),(0:Int))=bd a b/\false=mV a b) (0<=f/\f<(aU a)/\((List.length (a.getD f.toNat default).2.1):Int)<=1099511627776/\a.getD f.toNat default=bd a b/\true=mV a b)):=by
  delta aU vf tv Gp GC
  rintro l a ⟨⟨hl,-⟩,-⟩⟨hs,hk,hx⟩ n f ⟨n0,n1,n2,-⟩
  simp only[maxLen] at hl
  refine⟨⟨0,-1,n,⟨by omega,by omega,by omega,by omega,by omega,by simp[ku],fun _=>(n2 hs).2⟩,(by repeat' first|exact trivial|refine⟨trivial,?_⟩|refine⟨(by with_reducible rfl),?_⟩|refine⟨af (by omega) (by omega),?_⟩|refine⟨rfl,?_⟩)⟩,?_⟩
  rintro i b n ⟨h0,h1,h2,h3,h4,h5,h6⟩
  refine ae (fun hi=>?_) (fun hi=>?_)
  ·have hi:=of_decide_eq_true hi
   have hst:=WR h0 (by omega) h5
   refine⟨h0,by omega,?_⟩
   (repeat (intro (b_:Bool) (hb_:b_=_);(repeat refine⟨(by first|(simp;done)|(rw[hb_];simp;done)|(rw[hb_];simp;omega)|(rw[hb_];simp;intros;omega)|(rw[hb_];simp +contextual;done)),?_⟩);subst hb_))
   refine ae (fun hc=>?_) (fun hc=>?_)
   ·have hst:=hst true hc.symm
    refine⟨i+1,i,n,⟨by omega,by omega,h2,by omega,by omega,by simpa using hst,h6⟩,by omega,(by repeat' first|exact trivial|refine⟨trivial,?_⟩|refine⟨(by with_reducible rfl),?_⟩|refine⟨af (by omega) (by omega),?_⟩|refine⟨rfl,?_⟩)⟩
   ·have hst:=hst false hc.symm
    refine⟨i+1,b,n,⟨by omega,by omega,h2,by omega,by omega,by simpa using hst,h6⟩,by omega,(by repeat' first|exact trivial|refine⟨trivial,?_⟩|refine⟨(by with_reducible rfl),?_⟩|refine⟨af (by omega) (by omega),?_⟩|refine⟨rfl,?_⟩)⟩
  ·have hi:=of_decide_eq_false hi
   have e:i=n:=by omega
   subst e
   have hlook:ku l a=ku (l.take i.toNat) a:=Vc (fun z hz=>QP (h6 hs z hz))
   rw[h5] at hlook
   refine ae (fun hb=>?_) (fun hb=>?_)
   ·rw[if_pos (of_decide_eq_true hb)] at hlook
    simp[bd,mV,hlook]
   ·have hb:=of_decide_eq_false hb
    rw[if_neg hb] at hlook
    refine⟨by omega,by omega,hx _ (bH (by omega) (by omega)),?_,?_⟩
    ·rw[bd,hlook]
    ·rw[mV,hlook];rfl
theorem WO:av Tryz.prog GL 80 I0.spec:=Ct.okH _ Tryz.func80 (by kernel_rfl) (ai (ai (ai aC Gu) N4) HM) ar al5 (aD (by kernel_rfl) Xo)
def mv(l links:List Int)(j:Nat):Prop:=(0<j->l.getD (j-1) default<l.getD j default)/\l.getD j default∈links
instance (l links:List Int) (j:Nat):Decidable (mv l links j):=by unfold mv;infer_instance
def Ge(l links:List Int):Prop:=l.length<=16∧∀ j:Nat,j<l.length->mv l links j
instance (l links:List Int):Decidable (Ge l links):=by unfold Ge;infer_instance
def jS(r:Rt)(links:List Int):Prop:=Ge r.2.1 links/\1<=r.2.2/\r.2.2<=3
instance (r:Rt) (links:List Int):Decidable (jS r links):=by unfold jS;infer_instance
def chk(links:List Int):Option cJ->List Rt->Int
 | _,[]=>0
 | q,r::rs=>if jb r.1=false then 10 else if q.any (fun q=>decide (0<=fa q r.1)) then 6 else if ¬ jS r links then 12 else chk links (some r.1) rs
def dj(l:List Rt)(links:List Int):Int:=if (64:Int)<l.length then 5 else chk links none l
def tB(l:List Rt)(i:Int):Option cJ:=if i=0 then none else some (l.getD (i-1).toNat default).1
theorem YB{l links:List Int}{i:Int}(h0:0<=i)(h:0<i->l.getD (i.toNat-1) default<l.getD i.toNat default)(h2:l.getD i.toNat default∈links):mv l links i.toNat :=
 ⟨fun hi=>h (by omega),h2⟩
theorem V4{l links:List Int}{i:Int}(h0:0<=i)(h:∀ j:Nat,(j:Int)<i->mv l links j)(h2:mv l links i.toNat):∀ j:Nat,(j:Int)<i+1->mv l links j:=by
 intro j hj
 by_cases e:(j:Int)<i
 ·exact h j e
 ·rw[show j=i.toNat from by omega];exact h2
theorem WY{l:List Rt}{links:List Int}{i:Int}{q:Option cJ}(h0:0<=i)(h1:i<l.length):chk links q (l.drop i.toNat)=if jb (l.getD i.toNat default).1=false then 10 else if q.any (fun q=>decide (0<=fa q (l.getD i.toNat default).1)) then 6 else if ¬ jS (l.getD i.toNat default) links then 12 else chk links (some (l.getD i.toNat default).1) (l.drop (i+1).toNat):=by
 have hj:i.toNat<l.length:=by omega
 have e:(i+1).toNat=i.toNat+1:=by omega
 rw[List.drop_eq_getElem_cons hj,chk,List.getD_eq_getElem?_getD,List.getElem?_eq_getElem hj,Option.getD_some,e]
def Kd:Ct:=⟨[.agg cB,.val (.sl cI)],[.val .bool],fun _=>[],fun d=>((decide (jS d.1 d.2.1),()),())⟩
def WW:ao Kd.ps->az:=(fun d=>{loops:=(fun n=>match n with|4=>some (fun S=>{ι:=Int,μ:=fun i=>(d.1.2.1.length-i).toNat,inv:=fun i=>0<=i/\i<=d.1.2.1.length∧∀ j:Nat,(j:Int)<i->mv d.1.2.1 d.2.1 j,keep:=[1,2,22,23],slots:=fun i=>[(24,.int .i64 i)],keepN:=[48],names:=fun i=>[]})|_=>none)})
theorem Ty :
 ∀(a b:Int)(c:List Int)(d:Int)(e:List Int),(((0<=a/\a<=4294967295)/\ab b)/\(c.length<=maxLen/\ ∀(f:Int),f∈c->ab f)/\ab d)/\(e.length<=maxLen/\ ∀(f:Int),f∈e->ab f)/\True->True-> ∀(f:Bool),f=decide (16<(c.length:Int))->((! f)->((! f)->(! f))/\True)/\((! f)->((! f)->(! f))/\True)/\(f=false->(! f))/\ ∀(g:Bool),(g=bif f then true else decide (d<1))->((! g)->((! g)->(! g))/\True)/\((! g)->((! g)->(! g))/\True)/\(g=false->(! g))/\ad (bif g then true else decide (3<d)) (false=decide (jS ((a,b),c,d) e)) ((∃(h:Int),(0<=h/\h<=(c.length:Int)/\ ∀(i:Nat),(↑i:Int)<h->mv c e i)/\e=e/\c=c/\(c.length:Int)=(c.length:Int)/\(0:Int)=h/\a=a/\b=b/\c=c/\d=d/\True)/\ ∀(h:Int),(0<=h/\h<=(c.length:Int)/\ ∀(i:Nat),(↑i:Int)<h->mv c e i)->ad (decide (h<(c.length:Int))) (0<=h/\h<(c.length:Int)/\ ∀(i:Bool),i=decide (0<h)->(i->(i->i)/\True)/\(i->(i->i)/\True)/\(i->(i->i)/\(i->i)/\0<=IntKind.wrap .i64
 (h -(1:Int))/\IntKind.wrap .i64 (h -(1:Int))<(c.length:Int)/\True)/\(i->(i->i)/\True)/\(i->(i->i)/\(i->i)/\True)/\(i->i)/\ ∀(j:Bool),(j=bif i then decide (c.getD h.toNat default<=c.getD (Int.toNat (IntKind.wrap .i64 (h -(1:Int)))) default) else false)->((! j)->((! j)->(! j))/\((! j)->(! j))/\True)/\((! j)->((! j)->(! j))/\True)/\(j=false->(! j))/\ad (bif j then true else ! decide (c.getD h.toNat default∈e)) (false=decide (jS ((a,b),c,d) e)) (∃(k:Int),(0<=k/\k<=(c.length:Int)/\ ∀(l:Nat),(↑l:Int)<k->mv c e l)/\Int.toNat ((c.length:Int) -k)<Int.toNat ((c.length:Int) -h)/\e=e/\c=c/\(c.length:Int)=(c.length:Int)/\IntKind.wrap .i64 (h+(1:Int))=k/\a=a/\b=b/\c=c/\d=d/\True)) (true=decide (jS ((a,b),c,d) e))):=by
  rintro a n l b ks ⟨⟨⟨-,-⟩,⟨hl,-⟩,-⟩,-⟩ -
  simp only[maxLen] at hl
  (repeat (intro (b_:Bool) (hb_:b_=_);(repeat refine⟨(by first|(simp;done)|(rw[hb_];simp;done)|(rw[hb_];simp;omega)|(rw[hb_];simp;intros;omega)|(rw[hb_];simp +contextual;done)),?_⟩);subst hb_))
  refine ae (fun hb=>?_) (fun hb=>?_)
  ·have hb:¬ (l.length<=16/\1<=b/\b<=3):=by simp[-List.getD_eq_getElem?_getD,-Int.default_eq_zero,Bool.cond_eq_ite] at hb;omega
   symm;apply decide_eq_false
   rintro⟨⟨h1,-⟩,h2⟩;exact hb ⟨h1,h2⟩
  ·have hb:l.length<=16/\1<=b/\b<=3:=by simp[-List.getD_eq_getElem?_getD,-Int.default_eq_zero,Bool.cond_eq_ite] at hb;omega
   refine⟨⟨0,⟨by omega,by omega,by omega⟩,(by repeat' first|exact trivial|refine⟨trivial,?_⟩|refine⟨(by with_reducible rfl),?_⟩|refine⟨af (by omega) (by omega),?_⟩|refine⟨rfl,?_⟩)⟩,?_⟩
   rintro i ⟨h0,h1,h2⟩
   refine ae (fun hi=>?_) (fun hi=>?_)
   ·have hi:=of_decide_eq_true hi
    refine⟨h0,hi,?_⟩
    rw[af (n:=i-1) (by omega) (by omega)]
    (repeat (intro (b_:Bool) (hb_:b_=_);(repeat refine⟨(by first|(simp;done)|(rw[hb_];simp;done)|(rw[hb_];simp;omega)|(rw[hb_];simp;intros;omega)|(rw[hb_];simp +contextual;done)),?_⟩);subst hb_))
    refine ae (fun hc=>?_) (fun hc=>?_)
    ·have hc:¬ mv l ks i.toNat:=by
      rintro⟨k1,k2⟩
      simp[-List.getD_eq_getElem?_getD,-Int.default_eq_zero,Bool.cond_eq_ite,k2] at hc
      have:=k1 (by omega);omega
     symm;apply decide_eq_false
     rintro⟨⟨-,h3⟩,-⟩;exact hc (h3 _ (show i.toNat<l.length by omega))
    ·have hc:mv l ks i.toNat:=by
      simp[-List.getD_eq_getElem?_getD,-Int.default_eq_zero,Bool.cond_eq_ite] at hc
      refine YB h0 (fun hp=>?_) hc.2
      have:=hc.1 hp;omega
     exact⟨i+1,⟨by omega,by omega,V4 h0 h2 hc⟩,by omega,rfl,rfl,rfl,af (by omega) (by omega),(by repeat' first|exact trivial|refine⟨trivial,?_⟩|refine⟨(by with_reducible rfl),?_⟩|refine⟨af (by omega) (by omega),?_⟩|refine⟨rfl,?_⟩)⟩
   ·have hi:=of_decide_eq_false hi
    symm;apply decide_eq_true
    exact⟨⟨hb.1,fun j hj=>h2 j (by simp only at hj;omega)⟩,hb.2⟩
theorem XQ:av Tryz.prog GL 222 Kd.spec:=Ct.okH _ Tryz.func222 (by kernel_rfl) (ai aC RL) ar WW (aD (by kernel_rfl) Ty)
def Hx:Ct:=⟨[.val (.sl cB),.val (.sl cI)],[.val cI],fun _=>[],fun d=>((dj d.1 d.2.1,()),())⟩
def WS:ao Hx.ps->az:=(fun d=>{loops:=(fun n=>match n with|4=>some (fun S=>{ι:=Int,μ:=fun i=>(d.1.length-i).toNat,inv:=fun i=>0<=i/\i<=d.1.length/\dj d.1 d.2.1=chk d.2.1 (tB d.1 i) (d.1.drop i.toNat),keep:=[0,1,10,11],slots:=fun i=>[(12,.int .i64 i)],names:=fun i=>[]})|_=>none)})
theorem TN :
 ∀(a:List aF)(b:List Int),(a.length<=maxLen/\ ∀(c:aF),c∈a->(vf c))/\(b.length<=maxLen/\ ∀(c:Int),c∈b->ab c)/\True->True->ad (decide (64<(aU a))) ((5:Int)=dj a b) ((∃(c:Int),(0<=c/\c<=(aU a)/\dj a b=chk b (tB a c) (List.drop c.toNat a))/\a=a/\b=b/\a=a/\(aU a)=(aU a)/\(0:Int)=c/\True)/\ ∀(c:Int),0<=c/\c<=(aU a)/\dj a b=chk b (tB a c) (List.drop c.toNat a)->ad (decide (c<(aU a))) (0<=c/\c<(aU a)/\ad (! jb (a.getD c.toNat default).1) ((10:Int)=dj a b) (∀(d:Bool),d=decide (0<c)->(d->(d->d)/\True)/\(d->(d->d)/\(d->d)/\0<=IntKind.wrap .i64 (c -(1:Int))/\IntKind.wrap .i64 (c -(1:Int))<(aU a)/\True)/\(d->(d->d)/\True)/\(d->(d->d)/\True)/\(d->(d->d)/\True)/\(d->(d->d)/\(d->d)/\True)/\(d->(d->d)/\True)/\(d->d)/\ad (bif d then decide (0<=fa (a.getD (Int.toNat (IntKind.wrap .i64 (c -(1:Int)))) default).1 (a.getD c.toNat default).1) else false)
 ((6:Int)=dj a b) (ad (! decide (jS (a.getD c.toNat default) b)) ((12:Int)=dj a b) (∃(e:Int),(0<=e/\e<=(aU a)/\dj a b=chk b (tB a e) (List.drop e.toNat a))/\Int.toNat ((aU a) -e)<Int.toNat ((aU a) -c)/\a=a/\b=b/\a=a/\(aU a)=(aU a)/\IntKind.wrap .i64 (c+(1:Int))=e/\True)))) ((0:Int)=dj a b)):=by
  delta aU vf
  rintro l ks ⟨⟨hl,-⟩,-⟩ -
  simp only[maxLen] at hl
  refine ae (fun hb=>?_) (fun hb=>?_)
  ·rw[dj,if_pos (of_decide_eq_true hb)]
  ·have hb:=of_decide_eq_false hb
   refine⟨⟨0,⟨by omega,by omega,by rw[dj,if_neg hb];rfl⟩,(by repeat' first|exact trivial|refine⟨trivial,?_⟩|refine⟨(by with_reducible rfl),?_⟩|refine⟨af (by omega) (by omega),?_⟩|refine⟨rfl,?_⟩)⟩,?_⟩
   rintro i ⟨h0,h1,h2⟩
   rw[h2]
   refine ae (fun hi=>?_) (fun hi=>?_)
   ·have hi:=of_decide_eq_true hi
    rw[WY h0 hi,af (n:=i-1) (by omega) (by omega)]
    refine⟨h0,hi,ae (fun hc=>?_) (fun hc=>?_)⟩
    ·simp only[Bool.not_eq_true'] at hc
     rw[if_pos hc]
    ·simp only[Bool.not_eq_false'] at hc
     rw[if_neg (by simp[-List.getD_eq_getElem?_getD,-Int.default_eq_zero,hc])]
     (repeat (intro (b_:Bool) (hb_:b_=_);(repeat refine⟨(by first|(simp;done)|(rw[hb_];simp;done)|(rw[hb_];simp;omega)|(rw[hb_];simp;intros;omega)|(rw[hb_];simp +contextual;done)),?_⟩);subst hb_))
     have he:(Option.any (fun q=>decide (0<=fa q (l.getD i.toNat default).1)) (tB l i))=(bif decide (0<i) then decide (0<=fa (l.getD (i-1).toNat default).1 (l.getD i.toNat default).1) else false):=by
      unfold tB
      by_cases e:i=0
      ·simp[e]
      ·rw[if_neg e,Option.any_some];simp[show 0<i from by omega]
     rw[he]
     refine ae (fun hd=>?_) (fun hd=>?_)
     ·rw[if_pos hd]
     ·rw[if_neg (by rw[hd];decide)]
      refine ae (fun hr=>?_) (fun hr=>?_)
      ·simp only[Bool.not_eq_true',decide_eq_false_iff_not] at hr
       rw[if_pos hr]
      ·simp only[Bool.not_eq_false',decide_eq_true_eq] at hr
       rw[if_neg (fun h=>h hr)]
       refine⟨i+1,⟨by omega,by omega,?_⟩,by omega,(by repeat' first|exact trivial|refine⟨trivial,?_⟩|refine⟨(by with_reducible rfl),?_⟩|refine⟨af (by omega) (by omega),?_⟩|refine⟨rfl,?_⟩)⟩
       rw[tB,if_neg (by omega),show i+1-1=i from by omega]
   ·have hi:=of_decide_eq_false hi
    rw[List.drop_eq_nil_of_le (by omega),chk]
theorem Lw:av Tryz.prog GL 179 Hx.spec:=Ct.okH _ Tryz.func179 (by kernel_rfl) (ai (ai (ai aC XQ) Jm) IE) ar WS (aD (by kernel_rfl) TN)
theorem IR{l:List Rt}{i:Int}(h0:0<=i)(h1:i<l.length):l.take (i+1).toNat=l.take i.toNat++[l.getD i.toNat default]:=by
 have hj:i.toNat<l.length:=by omega
 rw[show (i+1).toNat=i.toNat+1 from by omega,List.take_succ_eq_append_getElem hj,List.getD_eq_getElem?_getD,List.getElem?_eq_getElem hj,Option.getD_some]
theorem FJ{m:List Rt}{r:Rt}(h:∀ z∈m,aW z.1 r.1):dJ m r=m++[r]:=by
 rw[dJ,List.filter_eq_self.2 (fun z hz=>decide_eq_true (h z hz)),List.filter_eq_nil_iff.2 (fun z hz=>by simpa using tJ (h z hz))]
theorem DC{m:List Rt}{r e:Rt}(h:aW r.1 e.1):dJ (m++[e]) r=dJ m r++[e]:=by
 rw[dJ,dJ,List.filter_append,List.filter_append,List.filter_cons,if_neg (by simpa using tJ h),List.filter_cons,if_pos (by simpa using h)]
 simp
theorem OP{m:List Rt}{r e:Rt}(h:∀ z∈m,aW z.1 r.1)(he:e.1=r.1):dJ (m++[e]) r=m++[r]:=by
 have hi:¬ aW e.1 r.1:=by rw[he];exact mY _
 have hj:¬ aW r.1 e.1:=by rw[he];exact mY _
 have f1:m.filter (fun a=>decide (aW a.1 r.1))=m:=List.filter_eq_self.2 (fun z hz=>decide_eq_true (h z hz))
 have f2:m.filter (fun a=>decide (aW r.1 a.1))=[]:=List.filter_eq_nil_iff.2 (fun z hz=>by simpa using tJ (h z hz))
 simp[dJ,f1,f2,hi,hj]
theorem later{l:List Rt}{p:cJ}{i:Int}(hs:bI l)(h0:0<=i)(h1:i<l.length){z:Rt}(hz:z∈l.take i.toNat)(hp:¬ aW z.1 p):aW p (l.getD i.toNat default).1:=by
 have hsp:=G7 h0 h1
 unfold bI at hs
 rw[hsp] at hs
 have:=(List.pairwise_append.1 hs).2.2 z hz _ List.mem_cons_self
 rcases zR hp with e|h
 ·rw[← e];exact this
 ·exact w7 h this
def N8:Ct:=⟨[.val (.sl cB),.agg cB],[.own 97 cB],fun d=>[bI d.1,okL d.1,(d.2.1.2.1.length:Int)<=1099511627776],fun d=>((dJ d.1 d.2.1,()),())⟩
def ac8:ao N8.ps->az:=(fun d=>{loops:=(fun n=>match n with|4=>some (fun S=>{ι:=Int×Bool×(List Rt),qn:=⟨fun k_=>∀(i:Int)(dn:Bool)(ys:(List Rt)),k_ (i,dn,ys),fun k_ h_ i=>h_ i.1 i.2.1 i.2.2,fun k_=>∃ (i:Int) (dn:Bool) (ys:(List Rt)),k_ (i,dn,ys),fun k_ ⟨i,dn,ys,h_⟩=>⟨_,h_⟩⟩,μ:=fun i=>(d.1.length-i.1).toNat,inv:=fun i=>0<=i.1/\i.1<=d.1.length/\(i.2.2.length:Int)<=i.1+1/\(i.2.1=false->(∀ z∈d.1.take i.1.toNat,aW z.1 d.2.1.1)/\i.2.2=d.1.take i.1.toNat)/\(i.2.1=true->(∃ z∈d.1.take i.1.toNat,¬ aW z.1 d.2.1.1)/\i.2.2=dJ (d.1.take i.1.toNat) d.2.1),keep:=[0,3],slots:=fun i=>[(5,.own 524288 4),(6,.bool i.2.1),(7,.int .i64 i.1)],keepN:=[64],names:=fun i=>[(524288,.live (.row 97 cB i.2.2))]})|_=>none)})
def ym(a:List aF)(b c:Int)(d:List Int)(e j:Int)(k:Bool)(l:List Rt) :=
 0<=j/\j<=(aU a)/\(l.length:Int)<=j+(1:Int)/\(k=false->(∀(m:aF),m∈List.take j.toNat a->aW m.1 (b,c))/\l=List.take j.toNat a)/\(k=true->(∃(m:aF),m∈List.take j.toNat a/\ ¬aW m.1 (b,c))/\l=dJ (List.take j.toNat a) ((b,c),d,e))
def FX(a:List aF)(b c:Int)(d:List Int)(e f:Int)(g:Bool)(h:List Rt) :=
 f<=(aU a)/\(h.length:Int)<=f+(1:Int)/\(g=false->(∀(i:aF),i∈List.take f.toNat a->aW i.1 (b,c))/\h=List.take f.toNat a)/\(g=true->(∃(i:aF),i∈List.take f.toNat a/\ ¬aW i.1 (b,c))/\h=dJ (List.take f.toNat a) ((b,c),d,e))
theorem Ti :
 ∀(a:List aF)(b c:Int)(d:List Int)(e:Int),(yT a)/\(((0<=b/\b<=4294967295)/\ab c)/\(d.length<=maxLen/\ ∀(f:Int),f∈d->ab f)/\ab e)/\True->bI a/\okL a/\(d.length:Int)<=1099511627776->(∃(f:Int) (g:Bool),∃(h:List Rt),(0<=f/\(FX a b c d e f g h))/\a=a/\false=g/\(0:Int)=f/\b=b/\c=c/\d=d/\e=e/\h=([]:List aF)/\True)/\ ∀(f:Int)(g:Bool)(h:List Rt),0<=f/\(FX a b c d e f g h)->ad (decide (f<(aU a))) (0<=f/\f<(aU a)/\ ∀(i:Bool),i=decide (0<=fa (a.getD f.toNat default).1 (b,c))->(i->(i->i)/\True)/\(i->i)/\ad (bif i then ! g else false) ((d.length:Int)<=1099511627776/\(h.length+List.length [((b,c),d,e)])*(48:Nat)<=(mX)/\ad (! decide (fa (a.getD f.toNat default).1 (b,c)=0)) (0<=f/\f<(aU a)/\((List.length (a.getD f.toNat default).2.1):Int)<=1099511627776/\(List.length (h++[((b,c),d,e)])+List.length [a.getD f.toNat default])*(48:Nat)<=(mX)/\ ∃(j:Int)
 (k:Bool),∃(l:List Rt),(ym a b c d e j k l)/\Int.toNat ((aU a) -j)<Int.toNat ((aU a) -f)/\a=a/\true=k/\IntKind.wrap .i64 (f+(1:Int))=j/\b=b/\c=c/\d=d/\e=e/\h++[((b,c),d,e)]++[a.getD f.toNat default]=l/\True) (∃(j:Int) (k:Bool),∃(l:List Rt),(ym a b c d e j k l)/\Int.toNat ((aU a) -j)<Int.toNat ((aU a) -f)/\a=a/\true=k/\IntKind.wrap .i64 (f+(1:Int))=j/\b=b/\c=c/\d=d/\e=e/\h++[((b,c),d,e)]=l/\True)) (ad (! decide (fa (a.getD f.toNat default).1 (b,c)=0)) (0<=f/\f<(aU a)/\((List.length (a.getD f.toNat default).2.1):Int)<=1099511627776/\(h.length+List.length [a.getD f.toNat default])*(48:Nat)<=(mX)/\ ∃(j:Int) (k:Bool),∃(l:List Rt),(ym a b c d e j k l)/\Int.toNat ((aU a) -j)<Int.toNat ((aU a) -f)/\a=a/\g=k/\IntKind.wrap .i64 (f+(1:Int))=j/\b=b/\c=c/\d=d/\e=e/\h++[a.getD f.toNat default]=l/\True) (∃(j:Int) (k:Bool),∃(l:List Rt),(ym a b c d e j k l)/\Int.toNat ((aU a)
 -j)<Int.toNat ((aU a) -f)/\a=a/\g=k/\IntKind.wrap .i64 (f+(1:Int))=j/\b=b/\c=c/\d=d/\e=e/\h=l/\True))) (ad (! g) ((d.length:Int)<=1099511627776/\(h.length+List.length [((b,c),d,e)])*(48:Nat)<=(mX)/\h++[((b,c),d,e)]=dJ a ((b,c),d,e)) (h=dJ a ((b,c),d,e))):=by
  delta ym aU FX yT mX
  rintro l a n nx b ⟨⟨hl0,-⟩,-⟩⟨hs,⟨hl,hx⟩,hn⟩
  refine⟨⟨0,false,[],⟨by omega,by omega,by simp,fun _=>by simp,fun h=>by simp at h⟩,(by repeat' first|exact trivial|refine⟨trivial,?_⟩|refine⟨(by with_reducible rfl),?_⟩|refine⟨af (by omega) (by omega),?_⟩|refine⟨rfl,?_⟩)⟩,?_⟩
  rintro i dn ys ⟨h0,h1,h2,h3,h4⟩
  refine ae (fun hi=>?_) (fun hi=>?_)
  ·have hi:=of_decide_eq_true hi
   have ht:=IR h0 hi
   have hxi:=hx _ (bH h0 hi)
   have hlt:∀(z:Rt),z∈l.take i.toNat->z∈l.take (i+1).toNat:=fun z hz=>by rw[ht];exact List.mem_append_left _ hz
   have hsi:l.getD i.toNat default∈l.take (i+1).toNat:=by rw[ht];simp[-List.getD_eq_getElem?_getD,-Int.default_eq_zero]
   have hlater:=fun z hz hp=>later (p:=(a,n)) (z:=z) hs h0 hi hz hp
   generalize l.getD i.toNat default=e at *
   refine⟨h0,hi,?_⟩
   (repeat (intro (b_:Bool) (hb_:b_=_);(repeat refine⟨(by first|(simp;done)|(rw[hb_];simp;done)|(rw[hb_];simp;omega)|(rw[hb_];simp;intros;omega)|(rw[hb_];simp +contextual;done)),?_⟩);subst hb_))
   refine ae (fun hc=>?_) (fun hc=>?_)
   ·have hq:¬ aW e.1 (a,n)/\dn=false:=by rw[← EM];simpa[Bool.cond_eq_ite] using hc
    clear hc
    obtain⟨hc,rfl⟩:=hq
    obtain⟨k1,rfl⟩:=h3 rfl
    refine⟨hn,by simp only[List.length_singleton];omega,ae (fun hz=>?_) (fun hz=>?_)⟩
    ·have hz:¬ fa e.1 (a,n)=0:=by simpa using hz
     have hgt:aW (a,n) e.1:=by
      rcases zR hc with h|h
      ·exact absurd (BF.2 h) hz
      ·exact h
     refine⟨h0,hi,hxi,by simp only[List.length_append,List.length_singleton];omega,i+1,true,_,⟨by omega,by omega,?_,by simp,fun _=>⟨⟨e,hsi,hc⟩,rfl⟩⟩,by omega,rfl,rfl,af (by omega) (by omega),rfl,rfl,rfl,rfl,?_,trivial⟩
     ·rw[ht,DC hgt,FJ k1];simp only[List.length_append,List.length_singleton,List.length_take];omega
     ·rw[ht,DC hgt,FJ k1]
    ·have hz:fa e.1 (a,n)=0:=by simpa using hz
     have hz:=BF.1 hz
     refine⟨i+1,true,_,⟨by omega,by omega,?_,by simp,fun _=>⟨⟨e,hsi,hc⟩,rfl⟩⟩,by omega,rfl,rfl,af (by omega) (by omega),rfl,rfl,rfl,rfl,?_,trivial⟩
     ·rw[ht,OP k1 hz];simp only[List.length_append,List.length_singleton,List.length_take];omega
     ·rw[ht,OP k1 hz]
   ·have hc:¬ (¬ aW e.1 (a,n)/\dn=false):=by rw[← EM];simpa[Bool.cond_eq_ite] using hc
    cases dn with
    | false =>
     have hc:aW e.1 (a,n):=Classical.byContradiction fun h=>hc ⟨h,rfl⟩
     obtain⟨k1,rfl⟩:=h3 rfl
     have hz:¬ fa e.1 (a,n)=0:=by have:=yC.2 hc;omega
     rw[decide_eq_false hz]
     refine⟨h0,hi,hxi,by simp only[List.length_singleton];omega,i+1,false,_,⟨by omega,by omega,?_,fun _=>⟨?_,rfl⟩,by simp⟩,by omega,rfl,rfl,af (by omega) (by omega),rfl,rfl,rfl,rfl,ht.symm,trivial⟩
     ·simp only[List.length_take];omega
     ·rw[ht];intro z hz
      rcases List.mem_append.1 hz with hz|hz
      ·exact k1 z hz
      ·rw[List.mem_singleton.1 hz];exact hc
    | true =>
     obtain⟨⟨z,z1,z2⟩,rfl⟩:=h4 rfl
     have hgt:=hlater z z1 z2
     have hz:¬ fa e.1 (a,n)=0:=fun h=>by have h:=BF.1 h;rw[h] at hgt;exact mY _ hgt
     rw[decide_eq_false hz]
     have hp:=DC (m:=l.take i.toNat) (r:=((a,n),nx,b)) hgt
     refine⟨h0,hi,hxi,by simp only[List.length_singleton];omega,i+1,true,_,⟨by omega,by omega,?_,by simp,fun _=>⟨⟨z,hlt z z1,z2⟩,rfl⟩⟩,by omega,rfl,rfl,af (by omega) (by omega),rfl,rfl,rfl,rfl,?_,trivial⟩
     ·rw[ht,hp,List.length_append,List.length_singleton];omega
     ·rw[ht,hp]
  ·have hi:=of_decide_eq_false hi
   rw[List.take_of_length_le (by omega)] at h3 h4
   refine ae (fun hd=>?_) (fun hd=>?_)
   ·obtain⟨k1,rfl⟩:=h3 (by simpa using hd)
    exact⟨hn,by simp only[List.length_singleton];omega,(FJ k1).symm⟩
   ·exact (h4 (by simpa using hd)).2
theorem ab5:av Tryz.prog GL 173 N8.spec:=Ct.okH _ Tryz.func173 (by kernel_rfl) (ai (ai aC LV) X7) ar ac8 (aD (by kernel_rfl) Ti)
theorem MD{m:List Rt}{p:cJ}{e:Rt}:gB (m++[e]) p=gB m p++(if e.1=p then [] else [e]):=by
 rw[gB,gB,List.filter_append,List.filter_cons,List.filter_nil]
 by_cases h:e.1=p <;> simp[h]
theorem H4(m:List Rt)(p:cJ):(gB m p).length<=m.length:=List.length_filter_le _ _
def Ow:Ct:=⟨[.val (.sl cB),.agg kq],[.own 97 cB],fun d=>[okL d.1],fun d=>((gB d.1 d.2.1,()),())⟩
def Ui:ao Ow.ps->az:=(fun d=>{loops:=(fun n=>match n with|3=>some (fun S=>{ι:=Int×(List Rt),qn:=⟨fun k_=>∀(i:Int)(ys:(List Rt)),k_ (i,ys),fun k_ h_ i=>h_ i.1 i.2,fun k_=>∃ (i:Int) (ys:(List Rt)),k_ (i,ys),fun k_ ⟨i,ys,h_⟩=>⟨_,h_⟩⟩,μ:=fun i=>(d.1.length-i.1).toNat,inv:=fun i=>0<=i.1/\i.1<=d.1.length/\i.2=gB (d.1.take i.1.toNat) d.2.1,keep:=[0,3],slots:=fun i=>[(5,.own 524288 4),(6,.int .i64 i.1)],keepN:=[64],names:=fun i=>[(524288,.live (.row 97 cB i.2))]})|_=>none)})
theorem ar3 :
 ∀(a:List aF)(b c:Int),(pM a)/\((0<=b/\b<=4294967295)/\ab c)/\True->(vK a)->(∃(d:Int) (e:List Rt),(0<=d/\d<=(aU a)/\e=gB (List.take d.toNat a) (b,c))/\a=a/\(0:Int)=d/\b=b/\c=c/\e=([]:List aF)/\True)/\ ∀(d:Int)(e:List Rt),0<=d/\d<=(aU a)/\e=gB (List.take d.toNat a) (b,c)->ad (decide (d<(aU a))) (0<=d/\d<(aU a)/\ad (! (decide ((a.getD d.toNat default).1.1=b)&&(decide ((a.getD d.toNat default).1.2=c)&&true))) (0<=d/\d<(aU a)/\((List.length (a.getD d.toNat default).2.1):Int)<=1099511627776/\(e.length+List.length [a.getD d.toNat default])*(48:Nat)<=(mX)/\ ∃(f:Int) (g:List Rt),(0<=f/\f<=(aU a)/\g=gB (List.take f.toNat a) (b,c))/\Int.toNat ((aU a) -f)<Int.toNat ((aU a) -d)/\a=a/\IntKind.wrap .i64 (d+(1:Int))=f/\b=b/\c=c/\e++[a.getD d.toNat default]=g/\True) (∃(f:Int) (g:List Rt),(0<=f/\f<=(aU a)/\g=gB (List.take f.toNat a) (b,c))/\Int.toNat
 ((aU a) -f)<Int.toNat ((aU a) -d)/\a=a/\IntKind.wrap .i64 (d+(1:Int))=f/\b=b/\c=c/\e=g/\True)) (e=gB a (b,c)):=by
  delta aU pM vK mX
  rintro l a n ⟨⟨hl0,-⟩,-⟩⟨hl,hx⟩
  refine⟨⟨0,[],⟨by omega,by omega,by simp[gB]⟩,(by repeat' first|exact trivial|refine⟨trivial,?_⟩|refine⟨(by with_reducible rfl),?_⟩|refine⟨af (by omega) (by omega),?_⟩|refine⟨rfl,?_⟩)⟩,?_⟩
  rintro i ys ⟨h0,h1,rfl⟩
  refine ae (fun hi=>?_) (fun hi=>?_)
  ·have hi:=of_decide_eq_true hi
   have ht:=IR h0 hi
   have hxi:=hx _ (bH h0 hi)
   have hle:=H4 (l.take i.toNat) (a,n)
   have hle2:(l.take i.toNat).length<=l.length:=by simp only[List.length_take];omega
   generalize l.getD i.toNat default=e at *
   obtain⟨⟨c,f⟩,g⟩:=e
   refine⟨h0,hi,ae (fun hc=>?_) (fun hc=>?_)⟩
   ·have hc:¬ (c,f)=(a,n):=by
     intro h;cases h;simp at hc
    refine⟨h0,hi,hxi,by simp only[List.length_singleton];omega,i+1,_,⟨by omega,by omega,rfl⟩,by omega,rfl,af (by omega) (by omega),rfl,rfl,?_,trivial⟩
    rw[ht,MD,if_neg hc]
   ·have hc:(c,f)=(a,n):=by
     simp at hc;rw[hc.1,hc.2]
    refine⟨i+1,_,⟨by omega,by omega,rfl⟩,by omega,rfl,af (by omega) (by omega),rfl,rfl,?_,trivial⟩
    rw[ht,MD,if_pos hc,List.append_nil]
  ·have hi:=of_decide_eq_false hi
   rw[List.take_of_length_le (by omega)]
theorem Va:av Tryz.prog GL 184 Ow.spec:=Ct.okH _ Tryz.func184 (by kernel_rfl) (ai aC LV) ar Ui (aD (by kernel_rfl) ar3)
def mj(l:List Rt)(p:cJ):Bool:=decide ((gB l p).length<l.length)
def M6:Ct:=⟨[.val (.sl cB),.agg kq],[.val .bool],fun d=>[okL d.1],fun d=>((mj d.1 d.2.1,()),())⟩
def U4:ao M6.ps->az:=(fun _=>{})
theorem W2 :
 ∀(a:List aF)(b c:Int),(pM a)/\((0<=b/\b<=4294967295)/\ab c)/\True->(vK a)->okL a/\decide (((List.length (gB a (b,c))):Int)<(aU a))=mj a (b,c):=by
  delta aU pM vK
  rintro l a n-h
  exact⟨h,decide_eq_decide.2 Int.ofNat_lt⟩
theorem ak1:av Tryz.prog GL 132 M6.spec:=Ct.okH _ Tryz.func132 (by kernel_rfl) (ai aC Va) ar U4 (aD (by kernel_rfl) W2)
end Go.RS

/- Law09: the laws of forwarding tables. -/
namespace Go.RS
open Go.SX Go.Proofs
set_option maxRecDepth 100000
set_option linter.unusedVariables false
theorem Mc{l:List Rt}{r z:Rt}:z∈dJ l r↔z=r∨(z∈l/\z.1≠r.1):=by
 unfold dJ
 simp only[List.mem_append,List.mem_cons,List.mem_filter,decide_eq_true_eq]
 constructor
 ·rintro (⟨h,k⟩|h|⟨h,k⟩)
  ·exact .inr ⟨h,fun e=>mY _ (e▸k)⟩
  ·exact .inl h
  ·exact .inr ⟨h,fun e=>mY _ (e▸k)⟩
 ·rintro (h|⟨h,k⟩)
  ·exact .inr (.inl h)
  ·by_cases hp:aW z.1 r.1
   ·exact .inl ⟨h,hp⟩
   ·rcases zR hp with e|e
    ·exact absurd e k
    ·exact .inr (.inr ⟨h,e⟩)
theorem FC{l:List Rt}{r:Rt}(hs:bI l):bI (dJ l r):=by
 unfold bI dJ
 refine List.pairwise_append.2 ⟨List.Pairwise.filter _ hs,List.pairwise_cons.2 ⟨fun z hz=>?_,List.Pairwise.filter _ hs⟩,fun x hx y hy=>?_⟩
 ·simpa using (List.mem_filter.1 hz).2
 ·have hx:aW x.1 r.1:=by simpa using (List.mem_filter.1 hx).2
  rcases List.mem_cons.1 hy with rfl|hy
  ·exact hx
  ·exact w7 hx (by simpa using (List.mem_filter.1 hy).2)
theorem Mt(l:List Rt)(r:Rt):(dJ l r).length<=l.length+1:=by
 unfold dJ
 rw[List.length_append,List.length_cons]
 suffices h:(l.filter (fun a=>decide (aW a.1 r.1))).length+(l.filter (fun a=>decide (aW r.1 a.1))).length<=l.length by omega
 induction l with
 | nil=>simp
 | cons a l ih =>
  simp only[List.filter_cons]
  by_cases h1:aW a.1 r.1
  ·have h2:=tJ h1
   simp only[h1,h2,decide_true,decide_false,if_true,List.length_cons]
   simp;omega
  ·by_cases h2:aW r.1 a.1
   ·simp[h1,h2];omega
   ·simp[h1,h2];omega
theorem Xp(l:List Rt)(p:cJ):mj l p=decide (∃ z∈l,z.1=p):=by
 unfold mj gB
 apply decide_eq_decide.2
 rw[List.length_filter_lt_length_iff_exists]
 simp
end Go.RS

/- Bucket: buckets and their laws' times. -/
namespace Go.RS
open Go.SX Go.Proofs
set_option maxRecDepth 100000
set_option linter.unusedVariables false
abbrev w(n:Int):Int:=IntKind.i64.wrap n
def yy(b:Int×Int)(at':Int):Int×Int:=(w (b.1*b.2),at')
def pL(b t:Int×Int)(at':Int):Int:=min (w (t.1+w (at'-t.2))) (w (b.1*b.2))
def ik(b t:Int×Int)(at':Int):(Int×Int)×Bool :=
 if b=(0,0) then ((0,max at' t.2),true) else
  if pL b t (max at' t.2)<b.2 then ((pL b t (max at' t.2),max at' t.2),false) else ((w (pL b t (max at' t.2)-b.2),max at' t.2),true)
def J8:Ct:=⟨[.agg ve],[.val .bool],fun _=>[],fun d=>((decide (d.1=(0,0)),()),())⟩
def PL:ao J8.ps->az:=(fun _=>{})
theorem YC :
 ∀(a b:Int),(ab a/\ab b)/\True->True->(decide (a=0)&&(decide (b=0)&&true))=decide ((a,b)=((0:Int),(0:Int))):=by
  rintro x y - -
  simp
theorem HF:av Tryz.prog GL 253 J8.spec:=Ct.okH _ Tryz.func253 (by kernel_rfl) aC ar PL (aD (by kernel_rfl) YC)
def Oq:Ct:=⟨[.agg ve,.agg rK,.val cI],[.val cI],fun _=>[],fun d=>((pL d.1 d.2.1 d.2.2.1,()),())⟩
def al3:ao Oq.ps->az:=(fun _=>{})
theorem Tj :
 ∀(a b c d e:Int),(ab a/\ab b)/\(ab c/\ab d)/\ab e/\True->True->min (IntKind.wrap .i64 (c+IntKind.wrap .i64 (e -d))) (IntKind.wrap .i64 (a*b))=pL (a,b) (c,d) e:=by
  rintro x y a b c - -
  rfl
theorem VR:av Tryz.prog GL 286 Oq.spec:=Ct.okH _ Tryz.func286 (by kernel_rfl) aC ar al3 (aD (by kernel_rfl) Tj)
def K5:Ct:=⟨[.agg ve,.val cI],[.agg rK],fun _=>[],fun d=>((yy d.1 d.2.1,()),())⟩
def ab7:ao K5.ps->az:=(fun _=>{})
theorem Rg :
 ∀(a b c:Int),(ab a/\ab b)/\ab c/\True->True->(IntKind.wrap .i64 (a*b),c)=(w (a*b),c):=by
  rintro x y a - -
  rfl
theorem ZH:av Tryz.prog GL 125 K5.spec:=Ct.okH _ Tryz.func125 (by kernel_rfl) aC ar ab7 (aD (by kernel_rfl) Rg)
def L5:Ct:=⟨[.agg ve,.agg rK,.val cI],[.agg rK,.val .bool],fun _=>[],fun d=>(((ik d.1 d.2.1 d.2.2.1).1,(ik d.1 d.2.1 d.2.2.1).2,()),())⟩
def X8:ao L5.ps->az:=(fun _=>{})
theorem ad2 :
 ∀(a b c d e:Int),(ab a/\ab b)/\(ab c/\ab d)/\ab e/\True->True->ad (decide ((a,b)=((0:Int),(0:Int)))) (((0:Int),max e d)=(ik (a,b) (c,d) e).1/\true=(ik (a,b) (c,d) e).2) (ad (decide (pL (a,b) (c,d) (max e d)<b)) ((pL (a,b) (c,d) (max e d),max e d)=(ik (a,b) (c,d) e).1/\false=(ik (a,b) (c,d) e).2) ((IntKind.wrap .i64 (pL (a,b) (c,d) (max e d) -b),max e d)=(ik (a,b) (c,d) e).1/\true=(ik (a,b) (c,d) e).2)):=by
  rintro x y a b c - -
  simp only[ik]
  refine ae (fun hb=>?_) (fun hb=>?_)
  ·have hb:=of_decide_eq_true hb
   rw[if_pos hb];exact⟨rfl,rfl⟩
  ·have hb:=of_decide_eq_false hb
   rw[if_neg hb]
   refine ae (fun h=>?_) (fun h=>?_)
   ·rw[if_pos (of_decide_eq_true h)];exact⟨rfl,rfl⟩
   ·rw[if_neg (of_decide_eq_false h)];exact⟨rfl,rfl⟩
theorem HW:av Tryz.prog GL 274 L5.spec:=Ct.okH _ Tryz.func274 (by kernel_rfl) (ai (ai aC HF) VR) ar X8 (aD (by kernel_rfl) ad2)
end Go.RS

/- Nodec: the parts and the errors of a node. -/
namespace Go.RS
open Go.SX Go.Proofs
set_option maxRecDepth 100000
set_option linter.unusedVariables false
def gD(b:Int×Int):Int:=if b=(0,0)∨(1<=b.1/\b.1<=65536/\1<=b.2/\b.2<=1073741824) then 0 else 1
def br(x:ac):List Int:=(aA x).map (·.2)
def nR(x:ac):List Int:=(aA x).map (·.1)
def fM(q:Int×Int->Bool)(l:List (Int×Int)):Int:=if l.findIdx q<l.length then (l.findIdx q:Int) else -1
def iX(a:Int)(p:Int×Int):Bool:=decide (p.1=a)
def gG(k:Int)(p:Int×Int):Bool:=decide (p.2=k)
def jQ(x:ac)(a:Int):Int:=fM (iX a) (aA x)
def cF(x:ac)(k:Int):Int:=fM (gG k) (aA x)
def j5(x:ac)(a:Int):Bool:=decide (0<=jQ x a)||(!decide (ga x=0)&&decide (ga x=a))
theorem AM{α:Type} [Inhabited α] {l:List α} {k:Int} (h0:0<=k) (h1:k<l.length):l.take (k+1).toNat=l.take k.toNat++[l.getD k.toNat default]:=by
 rw[show (k+1).toNat=k.toNat+1 by omega,List.take_add_one,List.getElem?_eq_getElem (by omega),List.getD_eq_getElem?_getD,List.getElem?_eq_getElem (by omega)];rfl
def He:Ct:=⟨[.agg ve],[.val cI],fun _=>[],fun d=>((gD d.1,()),())⟩
def T1:ao He.ps->az:=(fun _=>{})
theorem VA :
 ∀(a b:Int),(ab a/\ab b)/\True->True-> ∀(c:Bool),c= ! decide ((a,b)=((0:Int),(0:Int)))->(c->(c->c)/\True)/\(c->(c->c)/\True)/\(c->(c->c)/\True)/\ ∀(d:Bool),d=decide (a<1)->((c&& ! d)->((c&& ! d)->(c&& ! d))/\True)/\((c&& ! d)->((c&& ! d)->(c&& ! d))/\True)/\(c->(c->c)/\(d=false->(c&& ! d))/\True)/\(c->(c->c)/\True)/\ ∀(e:Bool),(e=bif d then true else decide (65536<a))->((c&& ! e)->((c&& ! e)->(c&& ! e))/\True)/\((c&& ! e)->((c&& ! e)->(c&& ! e))/\True)/\(c->(c->c)/\(e=false->(c&& ! e))/\True)/\(c->(c->c)/\True)/\ ∀(f:Bool),(f=bif e then true else decide (b<1))->((c&& ! f)->((c&& ! f)->(c&& ! f))/\True)/\((c&& ! f)->((c&& ! f)->(c&& ! f))/\True)/\(c->(c->c)/\(f=false->(c&& ! f))/\True)/\(c->c)/\ad (bif c then bif f then true else decide (1073741824<b) else false) ((1:Int)=gD (a,b)) ((0:Int)=gD (a,b)):=by
  rintro a b - -
  (repeat (intro (b_:Bool) (hb_:b_=_);(repeat refine⟨(by first|(simp;done)|(rw[hb_];simp;done)|(rw[hb_];simp;omega)|(rw[hb_];simp;intros;omega)|(rw[hb_];simp +contextual;done)),?_⟩);subst hb_))
  unfold gD
  refine ae (fun h=>?_) (fun h=>?_)
  ·simp at h
   rw[if_neg (by simp;omega)]
  ·simp at h
   rw[if_pos (by simp;omega)]
theorem RZ:av Tryz.prog GL 219 He.spec:=Ct.okH _ Tryz.func219 (by kernel_rfl) (ai aC HF) ar T1 (aD (by kernel_rfl) VA)
def OS:Ct:=⟨[.val ce],[.val .bool],fun d=>[],fun d=>((decide (fg d.1),()),())⟩
def WC:ao OS.ps->az:=(fun _=>{})
theorem Zm :
 ∀(a:Int),(0<=a/\a<=4294967295)/\True->True-> ∀(b:Bool),b=decide (fJ a=0)->((! b)->((! b)->(! b))/\True)/\(b=false->(! b))/\(bif b then true else decide (fJ a=3))=decide (fg a):=by
  rintro a - -
  (repeat (intro (b_:Bool) (hb_:b_=_);(repeat refine⟨(by first|(simp;done)|(rw[hb_];simp;done)|(rw[hb_];simp;omega)|(rw[hb_];simp;intros;omega)|(rw[hb_];simp +contextual;done)),?_⟩);subst hb_))
  rw[Bool.eq_iff_iff,decide_eq_true_iff];simp[fg,Bool.cond_eq_ite]
theorem ad7:av Tryz.prog GL 217 OS.spec:=Ct.okH _ Tryz.func217 (by kernel_rfl) (ai aC JM) ar WC (aD (by kernel_rfl) Zm)
def Lq:Ct:=⟨[.agg px,.box 65 ce],[.val .bool],fun d=>[],fun d=>((iX d.2.1 d.1,()),(d.2.1,()))⟩
def Vq:ao Lq.ps->az:=(fun _=>{})
theorem aj8 :
 ∀(a b c:Int),((0<=a/\a<=4294967295)/\ab b)/\(0<=c/\c<=4294967295)/\True->True->decide (a=c)=iX c (a,b)/\c=c:=by
  rintro a b c - -
  exact⟨rfl,rfl⟩
theorem P8:av Tryz.prog GL 206 Lq.spec:=Ct.okH _ Tryz.func206 (by kernel_rfl) aC ar Vq (aD (by kernel_rfl) aj8)
def LF:Ct:=⟨[.agg px,.box 3 cI],[.val .bool],fun d=>[],fun d=>((gG d.2.1 d.1,()),(d.2.1,()))⟩
def VL:ao LF.ps->az:=(fun _=>{})
theorem P1 :
 ∀(a b c:Int),((0<=a/\a<=4294967295)/\ab b)/\ab c/\True->True->decide (b=c)=gG c (a,b)/\c=c:=by
  rintro a b c - -
  exact⟨rfl,rfl⟩
theorem Xl:av Tryz.prog GL 160 LF.spec:=Ct.okH _ Tryz.func160 (by kernel_rfl) aC ar VL (aD (by kernel_rfl) P1)
def HU:Ct:=⟨[.val (.sl px),.fn 206 1,.box 65 ce],[.val cI],fun d=>[],fun d=>((fM (iX d.2.2.1) d.1,()),(d.2.2.1,()))⟩
def Vx:ao HU.ps->az:=(fun d=>{loops:=(fun n=>match n with|2=>some (fun S=>{ι:=Int,μ:=fun i=>(d.1.length-i).toNat,inv:=fun i=>0<=i/\i<=d.1.length∧∀ x∈d.1.take i.toNat,iX d.2.2.1 x=false,keep:=[0,1,6,7],slots:=fun i=>[(8,.int .i64 i)],keepN:=[1048576],names:=fun i=>[]})|_=>none)})
def gY(a:List (Int×Int)) :=
 (a.length:Int)
theorem Yx :
 ∀(a:List (Int×Int))(b:Int),(a.length<=maxLen/\ ∀(c:Int×Int),c∈a->(0<=c.1/\c.1<=4294967295)/\ab c.2)/\True/\(0<=b/\b<=4294967295)/\True->True->(∃(c:Int),(0<=c/\c<=(gY a)/\ ∀(d:Int×Int),d∈List.take c.toNat a->iX b d=false)/\a=a/\a=a/\(gY a)=(gY a)/\(0:Int)=c/\b=b/\True)/\ ∀(c:Int),(0<=c/\c<=(gY a)/\ ∀(d:Int×Int),d∈List.take c.toNat a->iX b d=false)->ad (decide (c<(gY a))) (0<=c/\c<(gY a)/\ad (iX b (a.getD c.toNat default)) (c=fM (iX b) a/\b=b) (∃(d:Int),(0<=d/\d<=(gY a)/\ ∀(e:Int×Int),e∈List.take d.toNat a->iX b e=false)/\Int.toNat ((gY a) -d)<Int.toNat ((gY a) -c)/\a=a/\a=a/\(gY a)=(gY a)/\IntKind.wrap .i64 (c+(1:Int))=d/\b=b/\True)) ((-1:Int)=fM (iX b) a/\b=b):=by
  delta gY
  rintro l a ⟨⟨hl,-⟩,-⟩ -
  simp only[maxLen] at hl
  refine⟨⟨0,⟨by omega,by omega,by simp⟩,(by repeat' first|exact trivial|refine⟨trivial,?_⟩|refine⟨(by with_reducible rfl),?_⟩|refine⟨af (by omega) (by omega),?_⟩|refine⟨rfl,?_⟩)⟩,?_⟩
  rintro j ⟨j0,j1,hj⟩
  refine ae (fun hk=>?_) (fun hk=>?_)
  ·have hk:=of_decide_eq_true hk
   refine⟨j0,hk,ae (fun hm=>?_) (fun hm=>?_)⟩
   ·exact⟨Aj j0 hk hj hm,rfl⟩
   ·exact⟨j+1,⟨by omega,by omega,r5 j0 hk hj hm⟩,by omega,(by repeat' first|exact trivial|refine⟨trivial,?_⟩|refine⟨(by with_reducible rfl),?_⟩|refine⟨af (by omega) (by omega),?_⟩|refine⟨rfl,?_⟩)⟩
  ·exact⟨EE (of_decide_eq_false hk) hj,rfl⟩
theorem an6:av Tryz.prog GL 159 HU.spec:=Ct.okH _ Tryz.func159 (by kernel_rfl) (ai aC P8) ar Vx (aD (by kernel_rfl) Yx)
def Pf:Ct:=⟨[.val (.sl px),.fn 160 1,.box 3 cI],[.val cI],fun d=>[],fun d=>((fM (gG d.2.2.1) d.1,()),(d.2.2.1,()))⟩
def TL:ao Pf.ps->az:=(fun d=>{loops:=(fun n=>match n with|2=>some (fun S=>{ι:=Int,μ:=fun i=>(d.1.length-i).toNat,inv:=fun i=>0<=i/\i<=d.1.length∧∀ x∈d.1.take i.toNat,gG d.2.2.1 x=false,keep:=[0,1,6,7],slots:=fun i=>[(8,.int .i64 i)],keepN:=[1048576],names:=fun i=>[]})|_=>none)})
theorem XF :
 ∀(a:List (Int×Int))(b:Int),(a.length<=maxLen/\ ∀(c:Int×Int),c∈a->(0<=c.1/\c.1<=4294967295)/\ab c.2)/\True/\ab b/\True->True->(∃(c:Int),(0<=c/\c<=(gY a)/\ ∀(d:Int×Int),d∈List.take c.toNat a->gG b d=false)/\a=a/\a=a/\(gY a)=(gY a)/\(0:Int)=c/\b=b/\True)/\ ∀(c:Int),(0<=c/\c<=(gY a)/\ ∀(d:Int×Int),d∈List.take c.toNat a->gG b d=false)->ad (decide (c<(gY a))) (0<=c/\c<(gY a)/\ad (gG b (a.getD c.toNat default)) (c=fM (gG b) a/\b=b) (∃(d:Int),(0<=d/\d<=(gY a)/\ ∀(e:Int×Int),e∈List.take d.toNat a->gG b e=false)/\Int.toNat ((gY a) -d)<Int.toNat ((gY a) -c)/\a=a/\a=a/\(gY a)=(gY a)/\IntKind.wrap .i64 (c+(1:Int))=d/\b=b/\True)) ((-1:Int)=fM (gG b) a/\b=b):=by
  delta gY
  rintro l a ⟨⟨hl,-⟩,-⟩ -
  simp only[maxLen] at hl
  refine⟨⟨0,⟨by omega,by omega,by simp⟩,(by repeat' first|exact trivial|refine⟨trivial,?_⟩|refine⟨(by with_reducible rfl),?_⟩|refine⟨af (by omega) (by omega),?_⟩|refine⟨rfl,?_⟩)⟩,?_⟩
  rintro j ⟨j0,j1,hj⟩
  refine ae (fun hk=>?_) (fun hk=>?_)
  ·have hk:=of_decide_eq_true hk
   refine⟨j0,hk,ae (fun hm=>?_) (fun hm=>?_)⟩
   ·exact⟨Aj j0 hk hj hm,rfl⟩
   ·exact⟨j+1,⟨by omega,by omega,r5 j0 hk hj hm⟩,by omega,(by repeat' first|exact trivial|refine⟨trivial,?_⟩|refine⟨(by with_reducible rfl),?_⟩|refine⟨af (by omega) (by omega),?_⟩|refine⟨rfl,?_⟩)⟩
  ·exact⟨EE (of_decide_eq_false hk) hj,rfl⟩
theorem Zz:av Tryz.prog GL 159 Pf.spec:=Ct.okH _ Tryz.func159 (by kernel_rfl) (ai aC Xl) ar TL (aD (by kernel_rfl) XF)
def Ij:Ct:=⟨[.agg bw,.val ce],[.val cI],fun d=>[],fun d=>((jQ d.1 d.2.1,()),())⟩
def UP:ao Ij.ps->az:=(fun _=>{})
theorem aq9 :
 ∀(a:ac)(b:Int),CT.wf bw a/\(0<=b/\b<=4294967295)/\True->True->fM (iX b) a.1=jQ a b:=by
  rintro d x - -
  rfl
theorem GH:av Tryz.prog GL 157 Ij.spec:=Ct.okH _ Tryz.func157 (by kernel_rfl) (ai aC an6) ar UP (aD (by kernel_rfl) aq9)
def ID:Ct:=⟨[.agg bw,.val cI],[.val cI],fun d=>[],fun d=>((cF d.1 d.2.1,()),())⟩
def YR:ao ID.ps->az:=(fun _=>{})
theorem S0 :
 ∀(a:ac)(b:Int),CT.wf bw a/\ab b/\True->True->fM (gG b) a.1=cF a b:=by
  rintro d x - -
  rfl
theorem yY:av Tryz.prog GL 87 ID.spec:=Ct.okH _ Tryz.func87 (by kernel_rfl) (ai aC Zz) ar YR (aD (by kernel_rfl) S0)
def Jw:Ct:=⟨[.agg bw,.val ce],[.val .bool],fun d=>[],fun d=>((j5 d.1 d.2.1,()),())⟩
def YM:ao Jw.ps->az:=(fun _=>{})
theorem ap4 :
 ∀(a:ac)(b:Int),CT.wf bw a/\(0<=b/\b<=4294967295)/\True->True-> ∀(c:Int),c=jQ a b-> ∀(d:Bool),d=decide (0<=c)->((! d)->((! d)->(! d))/\True)/\((! d)->((! d)->(! d))/\True)/\((! d)->((! d)->(! d))/\True)/\ ∀(e:Bool),e= ! decide (a.2.1=0)->((! d&&e)->((! d&&e)->(! d&&e))/\True)/\((! d&&e)->((! d&&e)->(! d&&e))/\((! d&&e)->(! d&&e))/\True)/\((! d)->((! d)->(! d))/\(e->(! d&&e))/\True)/\(d=false->(! d))/\(bif d then true else bif e then decide (a.2.1=b) else false)=j5 a b:=by
  rintro d x - - q hq
  unfold j5
  rw[show ga d=d.2.1 from rfl,← hq]
  generalize d.2.1=z
  intro b hb
  refine⟨by simp,by simp,by simp,?_⟩
  intro b1 hb1
  (repeat refine⟨(by cases b <;> cases b1 <;> simp),?_⟩)
  rw[hb,hb1]
  cases decide (0<=q) <;> cases decide (z=0) <;> cases decide (z=x) <;> rfl
theorem PT:av Tryz.prog GL 82 Jw.spec:=Ct.okH _ Tryz.func82 (by kernel_rfl) (ai aC (Ct.named GH)) ar YM (aD (by kernel_rfl) ap4)
def HD:Ct:=⟨[.agg bw],[.own 3 cI],fun d=>[(aA d.1).length<=100000],fun d=>((br d.1,()),())⟩
def UX:ao HD.ps->az:=(fun d=>{loops:=(fun n=>match n with|3=>some (fun S=>{ι:=Int×(List Int),qn:=⟨fun k_=>∀(j:Int)(l:(List Int)),k_ (j,l),fun k_ h_ i=>h_ i.1 i.2,fun k_=>∃ (j:Int) (l:(List Int)),k_ (j,l),fun k_ ⟨j,l,h_⟩=>⟨_,h_⟩⟩,μ:=fun i=>((aA d.1).length-i.1).toNat,inv:=fun i=>0<=i.1/\i.1<=(aA d.1).length/\i.2=(br d.1).take i.1.toNat,keep:=[1,7,8],slots:=fun i=>[(3,.own 524288 1),(9,.int .i64 i.1)],keepN:=[32],names:=fun i=>[(524288,.live (.row 3 cI i.2))]})|_=>none)})
def uz(a:ac) :=
 ((List.length (aA a)):Int)
theorem PA :
 ∀(a:ac),CT.wf bw a/\True->List.length (aA a)<=(100000:Nat)->(∃(b:Int) (c:List Int),(0<=b/\b<=(uz a)/\c=List.take b.toNat (br a))/\a.1=a.1/\(a.1.length:Int)=(a.1.length:Int)/\(0:Int)=b/\a.1=a.1/\a.2.1=a.2.1/\a.2.2.1=a.2.2.1/\a.2.2.2.1=a.2.2.2.1/\a.2.2.2.2.1=a.2.2.2.2.1/\a.2.2.2.2.2.1=a.2.2.2.2.2.1/\a.2.2.2.2.2.2.1=a.2.2.2.2.2.2.1/\a.2.2.2.2.2.2.2.1=a.2.2.2.2.2.2.2.1/\a.2.2.2.2.2.2.2.2.1=a.2.2.2.2.2.2.2.2.1/\a.2.2.2.2.2.2.2.2.2.1=a.2.2.2.2.2.2.2.2.2.1/\a.2.2.2.2.2.2.2.2.2.2.1.1=a.2.2.2.2.2.2.2.2.2.2.1.1/\a.2.2.2.2.2.2.2.2.2.2.1.2=a.2.2.2.2.2.2.2.2.2.2.1.2/\a.2.2.2.2.2.2.2.2.2.2.2.1=a.2.2.2.2.2.2.2.2.2.2.2.1/\a.2.2.2.2.2.2.2.2.2.2.2.2.1=a.2.2.2.2.2.2.2.2.2.2.2.2.1/\a.2.2.2.2.2.2.2.2.2.2.2.2.2.1=a.2.2.2.2.2.2.2.2.2.2.2.2.2.1/\a.2.2.2.2.2.2.2.2.2.2.2.2.2.2=a.2.2.2.2.2.2.2.2.2.2.2.2.2.2/\c=([]:List Int)/\True)/\ ∀(b:Int)(c:List Int),0<=b/\b<=(uz a)/\c=List.take b.toNat (br
 a)->ad (decide (b<(a.1.length:Int))) (0<=b/\b<(a.1.length:Int)/\(c.length+List.length [(List.getD a.1 b.toNat default).2])*(8:Nat)<=(140737488355328:Nat)/\ ∃(d:Int) (e:List Int),(0<=d/\d<=(uz a)/\e=List.take d.toNat (br a))/\Int.toNat ((uz a) -d)<Int.toNat ((uz a) -b)/\a.1=a.1/\(a.1.length:Int)=(a.1.length:Int)/\IntKind.wrap .i64
 (b+(1:Int))=d/\a.1=a.1/\a.2.1=a.2.1/\a.2.2.1=a.2.2.1/\a.2.2.2.1=a.2.2.2.1/\a.2.2.2.2.1=a.2.2.2.2.1/\a.2.2.2.2.2.1=a.2.2.2.2.2.1/\a.2.2.2.2.2.2.1=a.2.2.2.2.2.2.1/\a.2.2.2.2.2.2.2.1=a.2.2.2.2.2.2.2.1/\a.2.2.2.2.2.2.2.2.1=a.2.2.2.2.2.2.2.2.1/\a.2.2.2.2.2.2.2.2.2.1=a.2.2.2.2.2.2.2.2.2.1/\a.2.2.2.2.2.2.2.2.2.2.1.1=a.2.2.2.2.2.2.2.2.2.2.1.1/\a.2.2.2.2.2.2.2.2.2.2.1.2=a.2.2.2.2.2.2.2.2.2.2.1.2/\a.2.2.2.2.2.2.2.2.2.2.2.1=a.2.2.2.2.2.2.2.2.2.2.2.1/\a.2.2.2.2.2.2.2.2.2.2.2.2.1=a.2.2.2.2.2.2.2.2.2.2.2.2.1/\a.2.2.2.2.2.2.2.2.2.2.2.2.2.1=a.2.2.2.2.2.2.2.2.2.2.2.2.2.1/\a.2.2.2.2.2.2.2.2.2.2.2.2.2.2=a.2.2.2.2.2.2.2.2.2.2.2.2.2.2/\c++[(List.getD a.1 b.toNat default).2]=e/\True) (c=br a):=by
  delta uz
  rintro d-hl
  have hlen:(br d).length=(aA d).length:=by simp[br]
  refine⟨⟨0,[],⟨by omega,by omega,rfl⟩,(by repeat' first|exact trivial|refine⟨trivial,?_⟩|refine⟨(by with_reducible rfl),?_⟩|refine⟨af (by omega) (by omega),?_⟩|refine⟨rfl,?_⟩)⟩,?_⟩
  rintro j l ⟨j0,j1,rfl⟩
  have hd:d.1=aA d:=rfl
  rw[hd]
  refine ae (fun hk=>?_) (fun hk=>?_)
  ·have hk:=of_decide_eq_true hk
   refine⟨j0,hk,by simp only[List.length_take,List.length_cons,List.length_nil];omega,j+1,_,⟨by omega,by omega,rfl⟩,by omega,?_⟩
   (repeat first|refine⟨trivial,?_⟩|refine⟨(by with_reducible rfl),?_⟩|refine⟨af (by omega) (by omega),?_⟩)
   refine⟨?_,trivial⟩
   rw[AM j0 (by rw[hlen];exact hk)]
   unfold br
   rw[List.getD_eq_getElem?_getD,List.getD_eq_getElem?_getD,List.getElem?_map,List.getElem?_eq_getElem (by omega)]
   rfl
  ·have hk:=of_decide_eq_false hk
   rw[List.take_of_length_le (by omega)]
theorem UA:av Tryz.prog GL 220 HD.spec:=Ct.okH _ Tryz.func220 (by kernel_rfl) aC ar UX (aD (by kernel_rfl) PA)
end Go.RS

/- Nodek: the first error of a node, in the program and in the reference; the reference's parts of a node. -/
namespace Go.RS
open Go.SX Go.Proofs
set_option maxRecDepth 100000
set_option linter.unusedVariables false
def first(f:Nat->Int):Nat->Int
 | 0=>0
 | n+1=>if first f n≠0 then first f n else f n
theorem Au{f:Nat->Int}{i:Int}(h0:0<=i)(h:first f i.toNat=0)(hf:f i.toNat=0):first f (i+1).toNat=0:=by
 rw[show (i+1).toNat=i.toNat+1 by omega,first,if_neg (by simp[h]),hf]
theorem D7{f:Nat->Int}{a:Nat}(h:first f a≠0):∀ k,first f (a+k)=first f a
 | 0=>rfl
 | k+1=>by rw[← Nat.add_assoc,first,if_pos (by rw[D7 h k];exact h),D7 h k]
theorem CB{f:Nat->Int}{i:Int}{n:Nat}(h0:0<=i)(h1:i<n)(h:first f i.toNat=0)(hf:f i.toNat≠0):f i.toNat=first f n:=by
 have e:first f (i.toNat+1)=f i.toNat:=by rw[first,if_neg (by simp[h])]
 have k:=D7 (a:=i.toNat+1) (by rw[e];exact hf) (n-(i.toNat+1))
 rw[show i.toNat+1+(n-(i.toNat+1))=n by omega] at k
 rw[k,e]
theorem rz{f:Nat->Int}:∀{n:Nat},first f n=0→∀ i,i<n->f i=0
 | 0,_,i,hi=>by omega
 | n+1,h,i,hi=>by
  by_cases k:first f n=0
  ·rw[first,if_neg (by simp[k])] at h
   by_cases e:i=n
   ·rw[e];exact h
   ·exact rz k i (by omega)
  ·rw[first,if_pos k] at h;exact absurd h k
theorem BM{f:Nat->Int}:∀{n:Nat},(∀ i,i<n->f i=0)->first f n=0
 | 0,_=>rfl
 | n+1,h=>by rw[first,if_neg (by rw[BM fun i hi=>h i (by omega)];simp),h n (by omega)]
def fN(x:ac)(i:Nat):Int :=
 if ¬ fg ((aA x).getD i default).1∨jQ x ((aA x).getD i default).1<i then 10
 else if ((aA x).getD i default).2<0∨cF x ((aA x).getD i default).2<i then 11 else 0
def mb(x:ac):Prop:=ga x≠0/\(¬ fg (ga x)∨0<=jQ x (ga x))
instance (x:ac):Decidable (mb x):=by unfold mb;infer_instance
def kL(x:ac):Prop:=IU x<0∨(jG x<1∨4<jG x)∨(jG x=3/\ga x=0)∨(ng x≠0∧¬ fg (ng x))∨(jG x=4/\ng x=0)∨(gH x<1∨255<gH x)∨(aA x).length=0
instance (x:ac):Decidable (kL x):=by unfold kL;infer_instance
def eh(x:ac):Int :=
 if 32<(aA x).length then 5
 else if first (fN x) (aA x).length≠0 then first (fN x) (aA x).length
 else if mb x then 10
 else if kL x then 13
 else if iw x≠0 then iw x
 else if gD (io x)≠0 then gD (io x)
 else dj (aQ x) (br x)
theorem uP{c:Bool}{y n m:Prop}(hy:c=true->y)(hm:c=false->m):ad c (ad c y n) m:=by
 cases c with
 | true=>exact hy rfl
 | false=>exact hm rfl
theorem Kr{x:ac}(h:(aA x).length<=32){i:Int}(h0:0<=i)(h1:i<(aA x).length)(hf:first (fN x) i.toNat=0)(hb:fN x i.toNat≠0):fN x i.toNat=eh x:=by
 have e:=CB h0 h1 hf hb
 unfold eh
 rw[if_neg (by omega),← e,if_pos hb]
theorem Q4{x:ac}(h:(aA x).length<=32)(hf:first (fN x) (aA x).length=0)(hl:mb x):10=eh x:=by
 unfold eh
 rw[if_neg (by omega),if_neg (by simp[hf]),if_pos hl]
theorem YA{x:ac}(h:(aA x).length<=32)(hf:first (fN x) (aA x).length=0)(hl:¬ mb x)(hb:kL x):13=eh x:=by
 unfold eh
 rw[if_neg (by omega),if_neg (by simp[hf]),if_neg hl,if_pos hb]
theorem LM{x:ac}(h:(aA x).length<=32)(hf:first (fN x) (aA x).length=0)(hl:¬ mb x)(hb:¬ kL x):eh x=if iw x≠0 then iw x else if gD (io x)≠0 then gD (io x) else dj (aQ x) (br x):=by
 unfold eh
 rw[if_neg (by omega),if_neg (by simp[hf]),if_neg hl,if_neg hb]
theorem Ut{x:ac}{i:Int}(h0:0<=i)(h:¬ fg ((aA x).getD i.toNat default).1∨jQ x ((aA x).getD i.toNat default).1<i):fN x i.toNat=10:=by
 unfold fN
 rw[show ((i.toNat:Nat):Int)=i by omega,if_pos h]
theorem ah9{x:ac}{i:Int}(h0:0<=i)(h:¬ (¬ fg ((aA x).getD i.toNat default).1∨jQ x ((aA x).getD i.toNat default).1<i))(k:((aA x).getD i.toNat default).2<0∨cF x ((aA x).getD i.toNat default).2<i):fN x i.toNat=11:=by
 unfold fN
 rw[show ((i.toNat:Nat):Int)=i by omega,if_neg h,if_pos k]
theorem ai4{x:ac}{i:Int}(h0:0<=i)(h:¬ (¬ fg ((aA x).getD i.toNat default).1∨jQ x ((aA x).getD i.toNat default).1<i))(k:¬ (((aA x).getD i.toNat default).2<0∨cF x ((aA x).getD i.toNat default).2<i)):fN x i.toNat=0:=by
 unfold fN
 rw[show ((i.toNat:Nat):Int)=i by omega,if_neg h,if_neg k]
def Jh:Ct:=⟨[.agg bw],[.val cI],fun d=>[],fun d=>((eh d.1,()),())⟩
def Xq:ao Jh.ps->az:=(fun d=>{loops:=(fun n=>match n with|4=>some (fun S=>{ι:=Int,μ:=fun i=>((aA d.1).length-i).toNat,inv:=fun i=>0<=i/\i<=(aA d.1).length/\first (fN d.1) i.toNat=0,keep:=[1,12,13],slots:=fun i=>[(14,.int .i64 i)],keepN:=[32],names:=fun i=>[]})|_=>none),cuts:=(fun n=>match n with|21=>some (fun S=>{ι:=Unit,inv:=fun i=>(aA d.1).length<=32/\first (fN d.1) (aA d.1).length=0∧¬ mb d.1∧¬ kL d.1,keep:=[1],slots:=fun i=>[],keepN:=[32],names:=fun i=>[]})|_=>none),unr:=fun n=>match n with|22=>4|_=>0})
def zg(a:ac) :=
 a.1=a.1/\a.2.1=a.2.1/\a.2.2.1=a.2.2.1/\a.2.2.2.1=a.2.2.2.1/\a.2.2.2.2.1=a.2.2.2.2.1/\a.2.2.2.2.2.1=a.2.2.2.2.2.1/\a.2.2.2.2.2.2.1=a.2.2.2.2.2.2.1/\a.2.2.2.2.2.2.2.1=a.2.2.2.2.2.2.2.1/\a.2.2.2.2.2.2.2.2.1=a.2.2.2.2.2.2.2.2.1/\a.2.2.2.2.2.2.2.2.2.1=a.2.2.2.2.2.2.2.2.2.1/\a.2.2.2.2.2.2.2.2.2.2.1.1=a.2.2.2.2.2.2.2.2.2.2.1.1/\a.2.2.2.2.2.2.2.2.2.2.1.2=a.2.2.2.2.2.2.2.2.2.2.1.2/\a.2.2.2.2.2.2.2.2.2.2.2.1=a.2.2.2.2.2.2.2.2.2.2.2.1/\a.2.2.2.2.2.2.2.2.2.2.2.2.1=a.2.2.2.2.2.2.2.2.2.2.2.2.1/\a.2.2.2.2.2.2.2.2.2.2.2.2.2.1=a.2.2.2.2.2.2.2.2.2.2.2.2.2.1/\a.2.2.2.2.2.2.2.2.2.2.2.2.2.2=a.2.2.2.2.2.2.2.2.2.2.2.2.2.2/\True
def sk(a:ac) :=
 (List.length (aA a)<=(32:Nat)/\first (fN a) (List.length (aA a))=0/\ ¬mb a/\ ¬kL a)/\(zg a)
def yU(a:ac) :=
 ((List.length [iw a,gD a.2.2.2.2.2.2.2.2.2.2.1,dj a.2.2.2.2.1 (br a)]):Int)
def xh :=
 IntKind.wrap .i64 ((0:Int)+(1:Int))+(1:Int)
def wF(a:ac) :=
 ((List.length (aA a)):Int)
theorem au4 :
 ∀(a:ac),CT.wf bw a/\True->True->ad (decide (32<(a.1.length:Int))) ((5:Int)=eh a) ((∃(b:Int),(0<=b/\b<=(wF a)/\first (fN a) b.toNat=0)/\a.1=a.1/\(a.1.length:Int)=(a.1.length:Int)/\(0:Int)=b/\(zg a))/\ ∀(b:Int),0<=b/\b<=(wF a)/\first (fN a) b.toNat=0->ad (decide (b<(a.1.length:Int))) (0<=b/\b<(a.1.length:Int)/\ ∀(c:Bool),c= ! decide (fg (List.getD a.1 b.toNat default).1)->((! c)->((! c)->(! c))/\True)/\((! c)->((! c)->(! c))/\((! c)->(! c))/\True)/\((! c)->((! c)->(! c))/\((! c)->(! c))/\True)/\(c=false->(! c))/\ad (bif c then true else decide (jQ a (List.getD a.1 b.toNat default).1<b)) ((10:Int)=eh a) (∀(d:Bool),d=decide ((List.getD a.1 b.toNat default).2<0)->((! d)->((! d)->(! d))/\True)/\((! d)->((! d)->(! d))/\((! d)->(! d))/\True)/\((! d)->((! d)->(! d))/\((! d)->(! d))/\True)/\(d=false->(! d))/\ad (bif d then true else decide (cF a (List.getD
 a.1 b.toNat default).2<b)) ((11:Int)=eh a) (∃(e:Int),(0<=e/\e<=(wF a)/\first (fN a) e.toNat=0)/\Int.toNat ((wF a) -e)<Int.toNat ((wF a) -b)/\a.1=a.1/\(a.1.length:Int)=(a.1.length:Int)/\IntKind.wrap .i64 (b+(1:Int))=e/\(zg a)))) (∀(c:Bool),c= ! decide (a.2.1=0)->(c->(c->c)/\True)/\(c->(c->c)/\True)/\(c->(c->c)/\True)/\(c->(c->c)/\True)/\ ∀(d:Bool),d= ! decide (fg a.2.1)->((c&& ! d)->((c&& ! d)->(c&& ! d))/\True)/\((c&& ! d)->((c&& ! d)->(c&& ! d))/\((c&& ! d)->(c&& ! d))/\True)/\((c&& ! d)->((c&& ! d)->(c&& ! d))/\True)/\(c->(c->c)/\(d=false->(c&& ! d))/\True)/\(c->c)/\ad (bif c then bif d then true else decide (0<=jQ a a.2.1) else false) ((10:Int)=eh a) (ad (decide (a.2.2.1<0)) (ad (decide (a.2.2.1<0)) ((13:Int)=eh a) (∃(e:Unit),(sk a))) (∀(e:Bool),e=decide (a.2.2.2.2.2.1<1)->((! e)->((! e)->(! e))/\True)/\((! e)->((! e)->(! e))/\True)/\(e=false->(!
 e))/\ad (bif e then true else decide (4<a.2.2.2.2.2.1)) (ad (bif e then true else decide (4<a.2.2.2.2.2.1)) ((13:Int)=eh a) (∃(f:Unit),(sk a))) (∀(f:Bool),f=decide (a.2.2.2.2.2.1=3)->(f->(f->f)/\True)/\(f->(f->f)/\True)/\(f->f)/\ad (bif f then decide (a.2.1=0) else false) (ad (bif f then decide (a.2.1=0) else false) ((13:Int)=eh a) (∃(g:Unit),(sk a))) (∀(g:Bool),g= ! decide (a.2.2.2.2.2.2.1=0)->(g->(g->g)/\True)/\(g->(g->g)/\True)/\(g->(g->g)/\True)/\(g->g)/\ad (bif g then ! decide (fg a.2.2.2.2.2.2.1) else false) (ad (bif g then ! decide (fg a.2.2.2.2.2.2.1) else false) ((13:Int)=eh a) (∃(h:Unit),(sk a))) (∀(h:Bool),h=decide (a.2.2.2.2.2.1=4)->(h->(h->h)/\True)/\(h->(h->h)/\True)/\(h->h)/\ad (bif h then decide (a.2.2.2.2.2.2.1=0) else false) (ad (bif h then decide (a.2.2.2.2.2.2.1=0) else false) ((13:Int)=eh a) (∃(i:Unit),(sk a))) (∀(i:Bool),i=decide
 (a.2.2.2.2.2.2.2.2.2.2.2.2.2.1<1)->((! i)->((! i)->(! i))/\True)/\((! i)->((! i)->(! i))/\True)/\(i=false->(! i))/\ad (bif i then true else decide (255<a.2.2.2.2.2.2.2.2.2.2.2.2.2.1)) (ad (bif i then true else decide (255<a.2.2.2.2.2.2.2.2.2.2.2.2.2.1)) ((13:Int)=eh a) (∃(j:Unit),(sk a))) (ad (decide ((a.1.length:Int)=0)) ((13:Int)=eh a) (∃(j:Unit),(sk a))))))))/\ ∀(e:Unit),List.length (aA a)<=(32:Nat)/\first (fN a) (List.length (aA a))=0/\ ¬mb a/\ ¬kL a->List.length (aA a)<=(100000:Nat)/\(0:Int)<=0/\0<(yU a)/\ad (! decide (List.getD [iw a,gD a.2.2.2.2.2.2.2.2.2.2.1,dj a.2.2.2.2.1 (br a)] (Int.toNat (0:Int)) default=0)) (List.getD [iw a,gD a.2.2.2.2.2.2.2.2.2.2.1,dj a.2.2.2.2.1 (br a)] (Int.toNat (0:Int)) default=eh a) (0<=IntKind.wrap .i64 ((0:Int)+(1:Int))/\IntKind.wrap .i64 ((0:Int)+(1:Int))<(yU a)/\ad (!
 decide (List.getD [iw a,gD a.2.2.2.2.2.2.2.2.2.2.1,dj a.2.2.2.2.1 (br a)] (Int.toNat (IntKind.wrap .i64 ((0:Int)+(1:Int)))) default=0)) (List.getD [iw a,gD a.2.2.2.2.2.2.2.2.2.2.1,dj a.2.2.2.2.1 (br a)] (Int.toNat (IntKind.wrap .i64 ((0:Int)+(1:Int)))) default=eh a) (0<=IntKind.wrap .i64 (xh)/\IntKind.wrap .i64 (xh)<(yU a)/\ad (! decide (List.getD [iw a,gD a.2.2.2.2.2.2.2.2.2.2.1,dj a.2.2.2.2.1 (br a)] (Int.toNat (IntKind.wrap .i64 (xh))) default=0)) (List.getD [iw a,gD a.2.2.2.2.2.2.2.2.2.2.1,dj a.2.2.2.2.1 (br a)] (Int.toNat (IntKind.wrap .i64 (xh))) default=eh a) ((0:Int)=eh a)))))):=by
  delta zg sk yU xh wF
  rintro d - -
  have hd:d.1=aA d:=rfl
  rw[hd]
  refine ae (fun h=>?_) (fun h=>?_)
  ·unfold eh;rw[if_pos (by have:=of_decide_eq_true h;omega)]
  have h32:(aA d).length<=32:=by have:=of_decide_eq_false h;omega
  clear h
  refine⟨⟨0,⟨by omega,by omega,rfl⟩,(by repeat' first|exact trivial|refine⟨trivial,?_⟩|refine⟨(by with_reducible rfl),?_⟩|refine⟨af (by omega) (by omega),?_⟩|refine⟨rfl,?_⟩)⟩,?_⟩
  rintro x ⟨x0,x1,hf⟩
  refine ae (fun hx=>?_) (fun hx=>?_)
  ·have hx:=of_decide_eq_true hx
   refine⟨x0,hx,?_⟩
   (repeat (intro (b_:Bool) (hb_:b_=_);(repeat refine⟨(by first|(simp;done)|(rw[hb_];simp;done)|(rw[hb_];simp;omega)|(rw[hb_];simp;intros;omega)|(rw[hb_];simp +contextual;done)),?_⟩);subst hb_))
   refine pe (fun ho=>?_) (fun h1 h2=>?_)
   ·have e:=Ut (x:=d) x0 (ho.imp gn of_decide_eq_true)
    rw[← Kr h32 x0 hx hf (by rw[e];decide),e]
   have hn:¬ (¬ fg ((aA d).getD x.toNat default).1∨jQ d ((aA d).getD x.toNat default).1<x):=by
    rintro (k|k)
    ·exact k (gQ h1)
    ·exact of_decide_eq_false h2 k
   (repeat (intro (b_:Bool) (hb_:b_=_);(repeat refine⟨(by first|(simp;done)|(rw[hb_];simp;done)|(rw[hb_];simp;omega)|(rw[hb_];simp;intros;omega)|(rw[hb_];simp +contextual;done)),?_⟩);subst hb_))
   refine pe (fun ho=>?_) (fun h1 h2=>?_)
   ·have e:=ah9 (x:=d) x0 hn (ho.imp of_decide_eq_true of_decide_eq_true)
    rw[← Kr h32 x0 hx hf (by rw[e];decide),e]
   ·have e:=ai4 (x:=d) x0 hn (by
     rintro (k|k)
     ·exact of_decide_eq_false h1 k
     ·exact of_decide_eq_false h2 k)
    exact⟨x+1,⟨by omega,by omega,Au x0 hf e⟩,by omega,(by repeat' first|exact trivial|refine⟨trivial,?_⟩|refine⟨(by with_reducible rfl),?_⟩|refine⟨af (by omega) (by omega),?_⟩|refine⟨rfl,?_⟩)⟩
  have hx:=of_decide_eq_false hx
  rw[show x.toNat=(aA d).length by omega] at hf
  rw[show d.2.1=ga d from rfl]
  intro b hb
  refine⟨by simp,by simp,by simp,by simp,?_⟩
  intro b1 hb1
  (repeat refine⟨(by cases b <;> cases b1 <;> simp),?_⟩)
  have hL:(bif b then bif b1 then true else decide (0<=jQ d (ga d)) else false)=decide (mb d):=by
   rw[hb,hb1]
   unfold mb
   by_cases k1:ga d=0 <;> by_cases k2:fg (ga d) <;> by_cases k3:0<=jQ d (ga d) <;> simp[k1,k2,k3]
  rw[hL]
  refine ae (fun h=>Q4 h32 hf (of_decide_eq_true h)) (fun hl=>?_)
  have hl:=of_decide_eq_false hl
  clear hL hb hb1
  refine⟨?_,?_⟩
  ·have bad:=fun h=>YA (x:=d) h32 hf hl h
   refine uP (fun h=>bad (.inl (of_decide_eq_true h))) (fun c1=>?_)
   (repeat (intro (b_:Bool) (hb_:b_=_);(repeat refine⟨(by first|(simp;done)|(rw[hb_];simp;done)|(rw[hb_];simp;omega)|(rw[hb_];simp;intros;omega)|(rw[hb_];simp +contextual;done)),?_⟩);subst hb_))
   rw[ET]
   refine uP (fun h=>bad (.inr (.inl (of_decide_eq_true h)))) (fun c2=>?_)
   (repeat (intro (b_:Bool) (hb_:b_=_);(repeat refine⟨(by first|(simp;done)|(rw[hb_];simp;done)|(rw[hb_];simp;omega)|(rw[hb_];simp;intros;omega)|(rw[hb_];simp +contextual;done)),?_⟩);subst hb_))
   rw[EA]
   refine uP (fun h=>bad (.inr (.inr (.inl (of_decide_eq_true h))))) (fun c3=>?_)
   (repeat (intro (b_:Bool) (hb_:b_=_);(repeat refine⟨(by first|(simp;done)|(rw[hb_];simp;done)|(rw[hb_];simp;omega)|(rw[hb_];simp;intros;omega)|(rw[hb_];simp +contextual;done)),?_⟩);subst hb_))
   rw[XR]
   refine uP (fun h=>bad (.inr (.inr (.inr (.inl (of_decide_eq_true h)))))) (fun c4=>?_)
   (repeat (intro (b_:Bool) (hb_:b_=_);(repeat refine⟨(by first|(simp;done)|(rw[hb_];simp;done)|(rw[hb_];simp;omega)|(rw[hb_];simp;intros;omega)|(rw[hb_];simp +contextual;done)),?_⟩);subst hb_))
   rw[EA]
   refine uP (fun h=>bad (.inr (.inr (.inr (.inr (.inl (of_decide_eq_true h))))))) (fun c5=>?_)
   (repeat (intro (b_:Bool) (hb_:b_=_);(repeat refine⟨(by first|(simp;done)|(rw[hb_];simp;done)|(rw[hb_];simp;omega)|(rw[hb_];simp;intros;omega)|(rw[hb_];simp +contextual;done)),?_⟩);subst hb_))
   rw[ET]
   refine uP (fun h=>bad (.inr (.inr (.inr (.inr (.inr (.inl (of_decide_eq_true h)))))))) (fun c6=>?_)
   refine ae (fun h=>bad (.inr (.inr (.inr (.inr (.inr (.inr ?_))))))) (fun c7=>?_)
   ·have:=of_decide_eq_true h;omega
   refine⟨(),⟨h32,hf,hl,?_⟩,(by repeat' first|exact trivial|refine⟨trivial,?_⟩|refine⟨(by with_reducible rfl),?_⟩|refine⟨af (by omega) (by omega),?_⟩|refine⟨rfl,?_⟩)⟩
   rintro (k|k|k|k|k|k|k)
   ·exact of_decide_eq_false c1 k
   ·exact of_decide_eq_false c2 k
   ·exact of_decide_eq_false c3 k
   ·exact of_decide_eq_false c4 k
   ·exact of_decide_eq_false c5 k
   ·exact of_decide_eq_false c6 k
   ·have:=of_decide_eq_false c7;omega
  rintro-⟨-,-,-,hb⟩
  have e:=LM h32 hf hl hb
  rw[show IntKind.wrap IntKind.i64 (IntKind.wrap IntKind.i64 ((0:Int)+1)+1)=2 by decide,show IntKind.wrap IntKind.i64 ((0:Int)+1)=1 by decide,e]
  refine⟨by omega,by omega,by simp,ae (fun h=>?_) (fun h=>?_)⟩
  ·rw[if_pos (show iw d≠0 from gn h)];rfl
  rw[if_neg (show ¬ iw d≠0 from fun k=>k (gQ h))]
  refine⟨by omega,by simp,ae (fun h=>?_) (fun h=>?_)⟩
  ·rw[if_pos (show gD (io d)≠0 from gn h)];rfl
  rw[if_neg (show ¬ gD (io d)≠0 from fun k=>k (gQ h))]
  refine⟨by omega,by simp,ae (fun h=>?_) (fun h=>?_)⟩
  ·rfl
  ·exact (show dj (aQ d) (br d)=0 from gQ h).symm
theorem W5:av Tryz.prog GL 174 Jh.spec:=Ct.okH _ Tryz.func174 (by kernel_rfl) (ai (ai (ai (ai (ai (ai (ai aC ad7) GH) yY) QU) RZ) Lw) UA) ar Xq (aD (by kernel_rfl) au4)
end Go.RS
