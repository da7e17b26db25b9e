/- Fib: forwarding tables. -/
import Derived.Test.YthmcfealplfaaaaGreatDoorReply
import Derived.Test.YthmcfealplfaaaaGreatDoorIdent
namespace Go.RS
open Go.SX Go.Proofs
set_option maxRecDepth 100000
set_option linter.unusedVariables false
abbrev cG:CT := .pair kr (.pair (.sl cI) cI)
abbrev Rt:Type:=cO×List Int×Int
def aW(p q:cO):Prop:=p.1<q.1∨p.1=q.1/\p.2<q.2
instance (p q:cO):Decidable (aW p q):=by unfold aW;infer_instance
theorem Lz{a b:Int}(h:a<b):eT a b = -1:=by unfold eT;rw[if_pos h]
theorem NZ{a b:Int}(h:b<a):eT a b=1:=by unfold eT;rw[if_neg (by omega),if_pos h]
theorem Ft(a:Int):eT a a=0:=by unfold eT;simp
theorem Df(p q:cO):(aW p q/\fj p q = -1)∨(p=q/\fj p q=0)∨(aW q p/\fj p q=1):=by
 obtain⟨a,b⟩:=p;obtain⟨c,e⟩:=q
 unfold fj aW
 rcases Int.lt_trichotomy a c with h|rfl|h
 ·left;simp[Lz h,h]
 ·rcases Int.lt_trichotomy b e with h|rfl|h
  ·left;simp[Ft,Lz h,h]
  ·right;left;simp[Ft]
  ·right;right;simp[Ft,NZ h,h]
 ·right;right;simp[NZ h,h]
theorem m4(p:cO):¬ aW p p:=by unfold aW;omega
theorem xU{p q r:cO}(h:aW p q)(k:aW q r):aW p r:=by unfold aW at *;omega
theorem tQ{p q:cO}(h:aW p q):¬ aW q p:=by unfold aW at *;omega
theorem Bh{p q:cO}(h:¬ aW p q):p=q∨aW q p:=by rcases Df p q with⟨k,-⟩|⟨k,-⟩|⟨k,-⟩ <;> simp_all
theorem Iu{p q r:cO}(h:¬ aW p q)(k:aW p r):¬ aW r q:=fun e=>h (xU k e)
theorem wQ{p q:cO}:fj p q<0↔aW p q:=by
 rcases Df p q with⟨h,e⟩|⟨rfl,e⟩|⟨h,e⟩ <;> rw[e]
 ·simp[h]
 ·simp[m4]
 ·simp[tQ h]
theorem AR{p q:cO}:fj p q=0↔p=q:=by
 rcases Df p q with⟨h,e⟩|⟨h,e⟩|⟨h,e⟩ <;> rw[e]
 ·simp;rintro rfl;exact m4 _ h
 ·simp[h]
 ·simp;rintro rfl;exact m4 _ h
theorem Gm{p q:cO}:0<=fj p q↔¬ aW p q:=by rw[← wQ];omega
def bM(l:List Rt):Prop:=l.Pairwise fun a b=>aW a.1 b.1
theorem ZQ{l:List Rt}{p:cO}{h:Int}(hs:bM l)(h0:0<=h)(h1:h<l.length)(hl:aW (l.getD h.toNat default).1 p):∀ y∈l.take (h+1).toNat,aW y.1 p:=by
 intro y hy
 have hj:h.toNat<l.length:=by omega
 rcases KC h0 h1 hy with hy|rfl
 ·obtain⟨k,hk,rfl⟩:=List.mem_iff_getElem.1 hy
  rw[List.getD_eq_getElem?_getD,List.getElem?_eq_getElem hj,Option.getD_some] at hl
  simp at hk ⊢
  exact xU (List.pairwise_iff_getElem.1 hs k h.toNat (by omega) hj (by omega)) hl
 ·exact hl
theorem ar9{l:List Rt}{p:cO}{h:Int}(hs:bM l)(h0:0<=h)(h1:h<l.length)(hl:¬ aW (l.getD h.toNat default).1 p):∀ y∈l.drop h.toNat,¬ aW y.1 p:=by
 intro y hy
 have hj:h.toNat<l.length:=by omega
 rw[List.getD_eq_getElem?_getD,List.getElem?_eq_getElem hj,Option.getD_some] at hl
 rw[List.drop_eq_getElem_cons hj] at hy
 rcases List.mem_cons.1 hy with rfl|hy
 ·exact hl
 ·have hp:((l.drop h.toNat)).Pairwise fun a b=>aW a.1 b.1:=List.Pairwise.drop hs
  rw[List.drop_eq_getElem_cons hj] at hp
  exact Iu hl (List.rel_of_pairwise_cons hp hy)
def HW:Ct:=⟨[.val (.sl cI)],[.own 3 cI],fun d=>[(d.1.length:Int)<=1099511627776],fun d=>((d.1,()),())⟩
def UQ:ar HW.ps->az:=(fun _=>{})
def m5 :=
 (140737488355328:Nat)
theorem Yq :
 ∀(a:List Int),(a.length<=maxLen/\ ∀(b:Int),b∈a->ab b)/\True->(a.length:Int)<=1099511627776-> ∀(b:Bool),(b=true->a.length=(0:Nat))->ad b (([]:List Int)=a) (((0:Nat)+a.length)*(8:Nat)<=(m5)/\a=a):=by
  delta m5
  rintro x ⟨⟨hl,-⟩,-⟩ h b hb
  refine ae (fun h1=>?_) (fun h1=>⟨by simp;omega,by simp⟩)
  have:=hb h1
  exact (List.eq_nil_of_length_eq_zero this).symm
theorem wG:ax Tryz.prog GL 94 HW.spec:=Ct.okH _ Tryz.func94 (by kernel_rfl) aD av UQ (aC (by kernel_rfl) Yq)
def Kg:Ct:=⟨[.agg cG],[.agg cG],fun d=>[(d.1.2.1.length:Int)<=1099511627776],fun d=>((d.1,()),())⟩
def SW:ar Kg.ps->az:=(fun _=>{})
theorem al7 :
 ∀(a b:Int)(c:List Int)(d:Int),(((0<=a/\a<=4294967295)/\ab b)/\(c.length<=maxLen/\ ∀(e:Int),e∈c->ab e)/\ab d)/\True->(c.length:Int)<=1099511627776->(c.length:Int)<=1099511627776/\((a,b),c,d)=((a,b),c,d):=by
  rintro a b c e-h
  exact⟨h,rfl⟩
theorem OQ:ax Tryz.prog GL 153 Kg.spec:=Ct.okH _ Tryz.func153 (by kernel_rfl) (ah aD wG) av SW (aC (by kernel_rfl) al7)
def Kb:Ct:=⟨[.agg cG],[.agg cG],fun d=>[(d.1.2.1.length:Int)<=1099511627776],fun d=>((d.1,()),())⟩
def ZC:ar Kb.ps->az:=(fun _=>{})
theorem X6 :
 ∀(a b:Int)(c:List Int)(d:Int),(((0<=a/\a<=4294967295)/\ab b)/\(c.length<=maxLen/\ ∀(e:Int),e∈c->ab e)/\ab d)/\True->(c.length:Int)<=1099511627776->c.length*(8:Nat)<=(m5)/\((a,b),c,d)=((a,b),c,d):=by
  delta m5
  rintro a b c e-h
  exact⟨by omega,rfl⟩
theorem NC:ax Tryz.prog GL 113 Kb.spec:=Ct.okH _ Tryz.func113 (by kernel_rfl) aD av ZC (aC (by kernel_rfl) X6)
def Ku:Ct:=⟨[.agg cG,.agg kr],[.val cI],fun _=>[],fun d=>((fj d.1.1 d.2.1,()),())⟩
def SC:ar Ku.ps->az:=(fun _=>{})
theorem TG :
 ∀(a b:Int)(c:List Int)(d e f:Int),(((0<=a/\a<=4294967295)/\ab b)/\(c.length<=maxLen/\ ∀(g:Int),g∈c->ab g)/\ab d)/\((0<=e/\e<=4294967295)/\ab f)/\True->True->fj (a,b) (e,f)=fj (a,b) (e,f):=by
  intros;trivial
theorem am3:ax Tryz.prog GL 202 Ku.spec:=Ct.okH _ Tryz.func202 (by kernel_rfl) (ah aD Ok) av SC (aC (by kernel_rfl) TG)
theorem Hv{i j:Int}(h0:0<=i)(h1:i<=j)(h2:j<=9223372036854775807):IntKind.wrap IntKind.i64 (cT IntKind.u64 (IntKind.wrap IntKind.u64 (IntKind.wrap IntKind.i64 (i+j))) (1:Int))=(i+j)/2:=by
 have hw:IntKind.wrap IntKind.u64 (IntKind.wrap IntKind.i64 (i+j))=i+j:=by
  rw[IntKind.wrap_i64,IntKind.wrap_u64];omega
 rw[hw]
 have:cT IntKind.u64 (i+j) 1=(i+j)/2:=by
  unfold cT
  rw[Int.fdiv_eq_ediv_of_nonneg _ (by decide)]
  rfl
 rw[this,ai (by omega) (by omega)]
theorem Pd(l:List Rt)(p:cO):∃ k:Int,0<=k/\k<=l.length/\(bM l->(∀ z∈l.take k.toNat,aW z.1 p)∧∀ z∈l.drop k.toNat,¬ aW z.1 p):=by
 induction l with
 | nil=>exact⟨0,by simp,by simp,by simp⟩
 | cons a l ih =>
  obtain⟨k,h0,h1,h2⟩:=ih
  by_cases ha:aW a.1 p
  ·refine⟨k+1,by omega,by simp;omega,fun hs=>?_⟩
   obtain⟨q1,q2⟩:=h2 (List.pairwise_cons.1 hs).2
   have e:(k+1).toNat=k.toNat+1:=by omega
   rw[e]
   refine⟨fun z hz=>?_,fun z hz=>q2 z (by simpa using hz)⟩
   rw[List.take_succ_cons] at hz
   rcases List.mem_cons.1 hz with rfl|hz
   ·exact ha
   ·exact q1 z hz
  ·refine⟨0,by omega,by simp only[List.length_cons];omega,fun hs=>⟨by simp,fun z hz=>?_⟩⟩
   rcases List.mem_cons.1 (show z∈a::l from hz) with rfl|hz
   ·exact ha
   ·exact Iu ha ((List.pairwise_cons.1 hs).1 z hz)
def Mv:Cn:=⟨[.val (.sl cG),.agg kr,.fn 202 0],[.val cI,.val .bool],fun _=>[],fun d y=>0<=y.1.1/\y.1.1<=d.1.length/\(bM d.1->(∀ z∈d.1.take y.1.1.toNat,aW z.1 d.2.1)∧∀ z∈d.1.drop y.1.1.toNat,¬ aW z.1 d.2.1)/\y.1.2.1=decide (y.1.1<d.1.length/\(d.1.getD y.1.1.toNat default).1=d.2.1),fun d h=>let ⟨k,h0,h1,h2⟩:=Pd d.1 d.2.1;⟨((k,decide (k<d.1.length/\(d.1.getD k.toNat default).1=d.2.1),()),()),h0,h1,h2,rfl⟩⟩
def Wt:ar Mv.ps->az:=(fun d=>{loops:=(fun n=>match n with|3=>some (fun S=>{ι:=Int×Int,qn:=⟨fun k_=>∀(i:Int)(j:Int),k_ (i,j),fun k_ h_ i=>h_ i.1 i.2,fun k_=>∃ (i:Int) (j:Int),k_ (i,j),fun k_ ⟨i,j,h_⟩=>⟨_,h_⟩⟩,μ:=fun i=>(i.2-i.1).toNat,inv:=fun i=>0<=i.1/\i.1<=i.2/\i.2<=d.1.length/\(bM d.1->(∀ z∈d.1.take i.1.toNat,aW z.1 d.2.1)∧∀ z∈d.1.drop i.2.toNat,¬ aW z.1 d.2.1),keep:=[0,2,4,8],slots:=fun i=>[(9,.int .i64 i.1),(10,.int .i64 i.2)],keepN:=[80],names:=fun i=>[]})|_=>none)})
def aU(a:List aF) :=
 (a.length:Int)
def qc(a:List aF) :=
 a.length<=maxLen/\ ∀(d:aF),d∈a->((0<=d.1.1/\d.1.1<=4294967295)/\ab d.1.2)/\(d.2.1.length<=maxLen/\ ∀(e:Int),e∈d.2.1->ab e)/\ab d.2.2
def vM(d e:Int) :=
 cT IntKind.u64 (IntKind.wrap .u64 (IntKind.wrap .i64 (d+e))) (1:Int)
def DF(a:List aF)(b c f g:Int) :=
 0<=f/\f<=g/\g<=(aU a)/\(bM a->(∀(h:aF),h∈List.take f.toNat a->aW h.1 (b,c))/\ ∀(h:aF),h∈List.drop g.toNat a-> ¬aW h.1 (b,c))
def Gx(a:List aF)(b c d e:Int) :=
 d<=e/\e<=(aU a)/\(bM a->(∀(f:aF),f∈List.take d.toNat a->aW f.1 (b,c))/\ ∀(f:aF),f∈List.drop e.toNat a-> ¬aW f.1 (b,c))
theorem Tp :
 ∀(a:List aF)(b c:Int),(qc a)/\((0<=b/\b<=4294967295)/\ab c)/\True/\True->True->(∃(d:Int) (e:Int),(0<=d/\(Gx a b c d e))/\a=a/\(aU a)=(aU a)/\(0:Int)=d/\(aU a)=e/\b=b/\c=c/\True)/\ ∀(d e:Int),0<=d/\(Gx a b c d e)->ad (decide (d<e)) ((0:Int)<=1/\0<=IntKind.wrap .i64 (vM d e)/\IntKind.wrap .i64 (vM d e)<(aU a)/\ad (decide (fj (a.getD (Int.toNat (IntKind.wrap .i64 (vM d e))) default).1 (b,c)<0)) (∃(f:Int) (g:Int),(DF a b c f g)/\Int.toNat (g -f)<Int.toNat (e -d)/\a=a/\(aU a)=(aU a)/\IntKind.wrap .i64 (IntKind.wrap .i64 (vM d e)+(1:Int))=f/\e=g/\b=b/\c=c/\True) (∃(f:Int) (g:Int),(DF a b c f g)/\Int.toNat (g -f)<Int.toNat (e -d)/\a=a/\(aU a)=(aU a)/\d=f/\IntKind.wrap .i64 (vM d e)=g/\b=b/\c=c/\True)) (∀(f:Bool),f=decide (d<(aU a))->(f->(f->f)/\(f->f)/\0<=d/\d<(aU
 a)/\True)/\(f->(f->f)/\True)/\(f->(f->f)/\(f->f)/\(f->f)/\True)/\(f->(f->f)/\True)/\(f->f)/\0<=d/\d<=(aU a)/\(bM a->(∀(g:aF),g∈List.take d.toNat a->aW g.1 (b,c))/\ ∀(g:aF),g∈List.drop d.toNat a-> ¬aW g.1 (b,c))/\(bif f then decide (fj (a.getD d.toNat default).1 (b,c)=0) else false)=decide (d<(aU a)/\(a.getD d.toNat default).1=(b,c))):=by
  delta aU qc vM DF Gx
  rintro x p q ⟨⟨hl,-⟩,-⟩ -
  simp only[maxLen] at hl
  refine⟨⟨0,x.length,⟨by omega,by omega,by omega,fun _=>by simp⟩,(by repeat' first|exact trivial|refine⟨trivial,?_⟩|refine⟨(by with_reducible rfl),?_⟩|refine⟨ai (by omega) (by omega),?_⟩|refine⟨rfl,?_⟩)⟩,?_⟩
  rintro i j ⟨h0,h1,h2,h3⟩
  refine ae (fun hb=>?_) (fun hb=>?_)
  ·have hb:=of_decide_eq_true hb
   rw[Hv h0 h1 (by omega)]
   refine⟨by omega,by omega,by omega,ae (fun hc=>?_) (fun hc=>?_)⟩
   ·have hc:=wQ.1 (of_decide_eq_true hc)
    rw[ai (by omega) (by omega)]
    refine⟨(i+j)/2+1,j,⟨by omega,by omega,h2,fun hs=>⟨ZQ hs (by omega) (by omega) hc,(h3 hs).2⟩⟩,by omega,(by repeat' first|exact trivial|refine⟨trivial,?_⟩|refine⟨(by with_reducible rfl),?_⟩|refine⟨ai (by omega) (by omega),?_⟩|refine⟨rfl,?_⟩)⟩
   ·have hc:¬ aW _ _:=fun h=>absurd (wQ.2 h) (of_decide_eq_false hc)
    refine⟨i,(i+j)/2,⟨h0,by omega,by omega,fun hs=>⟨(h3 hs).1,ar9 hs (by omega) (by omega) hc⟩⟩,by omega,(by repeat' first|exact trivial|refine⟨trivial,?_⟩|refine⟨(by with_reducible rfl),?_⟩|refine⟨ai (by omega) (by omega),?_⟩|refine⟨rfl,?_⟩)⟩
  ·have hb:=of_decide_eq_false hb
   have:i=j:=by omega
   subst this
   (repeat (intro (b_:Bool) (hb_:b_=_);(repeat refine⟨(by first|(simp;done)|(rw[hb_];simp;done)|(rw[hb_];simp;omega)|(rw[hb_];simp;intros;omega)|(rw[hb_];simp +contextual;done)),?_⟩);subst hb_))
   refine⟨h0,h2,h3,?_⟩
   rw[Bool.cond_eq_ite]
   by_cases h:i<x.length <;> simp[h,AR]
theorem Qf:ax Tryz.prog GL 201 Mv.spec:=Cn.okH _ Tryz.func201 (by kernel_rfl) (ah aD am3) av Wt (aC (by kernel_rfl) Tp)
def HD:Ct:=⟨[.nils,.val cI],[.own 97 cG],fun d=>[0<=d.2.1,d.2.1<=1073741824],fun d=>(([],()),())⟩
def PF:ar HD.ps->az:=(fun _=>{})
def yl(a:Int) :=
 a -IntKind.wrap .i64 ((0:Int) -(0:Int))
def DC(a:Int) :=
 List.replicate (Int.toNat (IntKind.wrap .i64 (yl a))) (((0:Int),(0:Int)),([]:List Int),(0:Int))
theorem at8 :
 ∀(a:Int),True/\ab a/\True->0<=a/\a<=1073741824->ad (decide (a<0)) False (ad (decide (0<IntKind.wrap .i64 (yl a))) ((0:Int)=0/\(0:Int)=0/\0<=IntKind.wrap .i64 (yl a)/\IntKind.wrap .i64 (yl a)*(↑(48:Nat):Int)<=140737488355328/\(0:Int)<=0/\0<=((List.length (DC a)):Int)/\List.take (Int.toNat (0:Int)) (DC a)=([]:List aF)) (([]:List aF)=([]:List aF))):=by
  delta yl DC
  rintro x-⟨h0,h1⟩
  rw[ai (n:=(0:Int)-0) (by omega) (by omega),ai (by omega) (by omega)]
  refine ae (fun hb=>?_) (fun hb=>ae (fun hb=>?_) (fun hb=>rfl))
  ·have:=of_decide_eq_true hb;omega
  ·refine⟨rfl,rfl,by omega,by omega,by omega,by simp only[List.length_replicate];omega,by simp⟩
theorem Zh:ax Tryz.prog GL 250 HD.spec:=Ct.okH _ Tryz.func250 (by kernel_rfl) (F7 aD (d:=25)) av PF (aC (by kernel_rfl) at8)
theorem I7{α:Type}{l:List (List α)}{j:Int}(h0:0<=j)(h1:j<l.length):(l.take (j+1).toNat).flatten=(l.take j.toNat).flatten++l.getD j.toNat default:=by
 have hj:j.toNat<l.length:=by omega
 have e:(j+1).toNat=j.toNat+1:=by omega
 rw[e,List.take_succ_eq_append_getElem hj,List.flatten_append,List.getD_eq_getElem?_getD,List.getElem?_eq_getElem hj,Option.getD_some]
 simp
theorem Cj{α:Type}(l:List (List α))(k:Nat):(l.take k).flatten.length<=l.flatten.length:=by
 conv=>rhs;rw[← List.take_append_drop k l,List.flatten_append,List.length_append]
 omega
def LQ:Ct:=⟨[.val (.sl (.sl cG))],[.own 97 cG],fun d=>[(d.1.flatten.length:Int)<=1073741824],fun d=>((d.1.flatten,()),())⟩
def SP:ar LQ.ps->az:=(fun d=>{loops:=(fun n=>match n with|3=>some (fun S=>{ι:=Int×Int,qn:=⟨fun k_=>∀(j:Int)(s:Int),k_ (j,s),fun k_ h_ i=>h_ i.1 i.2,fun k_=>∃ (j:Int) (s:Int),k_ (j,s),fun k_ ⟨j,s,h_⟩=>⟨_,h_⟩⟩,μ:=fun i=>(d.1.length-i.1).toNat,inv:=fun i=>0<=i.1/\i.1<=d.1.length/\i.2=((d.1.take i.1.toNat).flatten.length:Int),keep:=[0,9,10],slots:=fun i=>[(3,.int .i64 i.2),(11,.int .i64 i.1)],names:=fun i=>[]})|11=>some (fun S=>{ι:=Int×(List Rt),qn:=⟨fun k_=>∀(j:Int)(ys:(List Rt)),k_ (j,ys),fun k_ h_ i=>h_ i.1 i.2,fun k_=>∃ (j:Int) (ys:(List Rt)),k_ (j,ys),fun k_ ⟨j,ys,h_⟩=>⟨_,h_⟩⟩,μ:=fun i=>(d.1.length-i.1).toNat,inv:=fun i=>0<=i.1/\i.1<=d.1.length/\i.2=(d.1.take i.1.toNat).flatten,keep:=[25,26],slots:=fun i=>[(6,.own 524288 4),(27,.int .i64 i.1)],names:=fun i=>[(524288,.live (.row 97 cG i.2))]})|_=>none)})
def vm(c:aF) :=
 ((0<=c.1.1/\c.1.1<=4294967295)/\ab c.1.2)/\(c.2.1.length<=maxLen/\ ∀(d:Int),d∈c.2.1->ab d)/\ab c.2.2
def iB(a:List (List aF)) :=
 (a.length:Int)
theorem Vr :
 ∀(a:List (List aF)),(a.length<=maxLen/\ ∀(b:List aF),b∈a->b.length<=maxLen/\ ∀(c:aF),c∈b->(vm c))/\True->((List.length (List.flatten a)):Int)<=1073741824->(∃(b:Int) (c:Int),(0<=b/\b<=(iB a)/\c=((List.length (List.flatten (List.take b.toNat a))):Int))/\a=a/\(0:Int)=c/\a=a/\(iB a)=(iB a)/\(0:Int)=b/\True)/\ ∀(b c:Int),0<=b/\b<=(iB a)/\c=((List.length (List.flatten (List.take b.toNat a))):Int)->ad (decide (b<(iB a))) (0<=b/\b<(iB a)/\ad (decide (IntKind.wrap .i64 (c+((List.length (a.getD b.toNat default)):Int))<0)) False (∃(d:Int) (e:Int),(0<=d/\d<=(iB a)/\e=((List.length (List.flatten (List.take d.toNat a))):Int))/\Int.toNat ((iB a) -d)<Int.toNat ((iB a) -b)/\a=a/\IntKind.wrap .i64 (c+((List.length (a.getD b.toNat default)):Int))=e/\a=a/\(iB a)=(iB a)/\IntKind.wrap .i64 (b+(1:Int))=d/\True)) (0<=c/\c<=1073741824/\(∃(d:Int) (e:List
 Rt),(0<=d/\d<=(iB a)/\e=List.flatten (List.take d.toNat a))/\a=a/\(iB a)=(iB a)/\(0:Int)=d/\([]:List aF)=e/\True)/\ ∀(d:Int)(e:List Rt),0<=d/\d<=(iB a)/\e=List.flatten (List.take d.toNat a)->ad (decide (d<(iB a))) (0<=d/\d<(iB a)/\(e.length+List.length (a.getD d.toNat default))*(48:Nat)<=(m5)/\ ∃(f:Int) (g:List Rt),(0<=f/\f<=(iB a)/\g=List.flatten (List.take f.toNat a))/\Int.toNat ((iB a) -f)<Int.toNat ((iB a) -d)/\a=a/\(iB a)=(iB a)/\IntKind.wrap .i64 (d+(1:Int))=f/\e++a.getD d.toNat default=g/\True) (e=List.flatten a)):=by
  delta vm iB m5
  rintro x ⟨⟨hl,-⟩,-⟩ ht
  simp only[maxLen] at hl
  refine⟨⟨0,0,⟨by omega,by omega,by simp⟩,(by repeat' first|exact trivial|refine⟨trivial,?_⟩|refine⟨(by with_reducible rfl),?_⟩|refine⟨ai (by omega) (by omega),?_⟩|refine⟨rfl,?_⟩)⟩,?_⟩
  rintro j s ⟨h0,h1,h2⟩
  have hle:=Cj x j.toNat
  refine ae (fun hb=>?_) (fun hb=>?_)
  ·have hb:=of_decide_eq_true hb
   have e:=I7 h0 hb
   have hle2:=Cj x (j+1).toNat
   have el:((x.take (j+1).toNat).flatten.length:Int)=s+(x.getD j.toNat default).length:=by rw[e,List.length_append];omega
   rw[ai (n:=s+_) (by omega) (by omega)]
   refine⟨h0,hb,ae (fun hc=>?_) (fun hc=>?_)⟩
   ·have:=of_decide_eq_true hc;omega
   ·exact⟨j+1,_,⟨by omega,by omega,el.symm⟩,by omega,(by repeat' first|exact trivial|refine⟨trivial,?_⟩|refine⟨(by with_reducible rfl),?_⟩|refine⟨ai (by omega) (by omega),?_⟩|refine⟨rfl,?_⟩)⟩
  ·refine⟨by omega,by omega,⟨0,[],⟨by omega,by omega,by simp⟩,(by repeat' first|exact trivial|refine⟨trivial,?_⟩|refine⟨(by with_reducible rfl),?_⟩|refine⟨ai (by omega) (by omega),?_⟩|refine⟨rfl,?_⟩)⟩,?_⟩
   rintro k ys ⟨k0,k1,rfl⟩
   refine ae (fun hb=>?_) (fun hb=>?_)
   ·have hb:=of_decide_eq_true hb
    have e:=I7 k0 hb
    have hle2:=Cj x (k+1).toNat
    refine⟨k0,hb,?_,k+1,_,⟨by omega,by omega,e.symm⟩,by omega,(by repeat' first|exact trivial|refine⟨trivial,?_⟩|refine⟨(by with_reducible rfl),?_⟩|refine⟨ai (by omega) (by omega),?_⟩|refine⟨rfl,?_⟩)⟩
    rw[← List.length_append,← e];omega
   ·have hb:=of_decide_eq_false hb
    rw[List.take_of_length_le (by omega)]
theorem Qs:ax Tryz.prog GL 215 LQ.spec:=Ct.okH _ Tryz.func215 (by kernel_rfl) (ah aD Zh) av SP (aC (by kernel_rfl) Vr)
theorem qh{α:Type} [Inhabited α] {l:List α} {j:Int} (h0:0<=j) (h1:j<l.length):l.set j.toNat (l.getD j.toNat default)=l:=by
 have hj:j.toNat<l.length:=by omega
 rw[List.getD_eq_getElem?_getD,List.getElem?_eq_getElem hj,Option.getD_some,List.set_getElem_self]
def Km:Ct:=⟨[.val (.sl cG),.val cI,.val cI,.val (.sl cG)],[.own 97 cG],fun d=>[0<=d.2.1,d.2.1<=d.1.length,0<=d.2.2.1,d.2.2.1<=d.1.length,(d.1.length:Int)<=134217728,(d.2.2.2.1.length:Int)<=134217728,∀ y∈d.1,(y.2.1.length:Int)<=1099511627776,∀ y∈d.2.2.2.1,(y.2.1.length:Int)<=1099511627776],fun d=>((d.1.take d.2.1.toNat++(d.2.2.2.1++d.1.drop d.2.2.1.toNat),()),())⟩
def ao7:ar Km.ps->az:=(fun d=>{loops:=(fun n=>match n with|3=>some (fun S=>{ι:=Int,μ:=fun i=>(((d.1.take d.2.1.toNat++(d.2.2.2.1++d.1.drop d.2.2.1.toNat)).length:Int)-i).toNat,inv:=fun i=>0<=i/\i<=((d.1.take d.2.1.toNat++(d.2.2.2.1++d.1.drop d.2.2.1.toNat)).length:Int),keep:=[9,20,21],slots:=fun i=>[(22,.int .i64 i)],keepN:=[320],names:=fun i=>[]})|_=>none)})
def xp(a:List aF)(b c:Int)(d:List aF) :=
 List.flatten [cf a (Int.toNat (0:Int)) b.toNat,d,cf a c.toNat (Int.toNat (aU a))]
def wN(a:List aF)(b c:Int)(d:List aF) :=
 ((List.length (List.take b.toNat a++(d++List.drop c.toNat a))):Int)
def qD(a:List aF)(b c:Int)(d:List aF) :=
 ((List.length (xp a b c d)):Int)
def Cb(e:aF) :=
 ((0<=e.1.1/\e.1.1<=4294967295)/\ab e.1.2)/\(e.2.1.length<=maxLen/\ ∀(f:Int),f∈e.2.1->ab f)/\ab e.2.2
theorem aa4 :
 ∀(a:List aF)(b c:Int)(d:List aF),(a.length<=maxLen/\ ∀(e:aF),e∈a->(Cb e))/\ab b/\ab c/\(d.length<=maxLen/\ ∀(e:aF),e∈d->(Cb e))/\True->(0<=b/\b<=(aU a)/\0<=c/\c<=(aU a)/\(aU a)<=134217728/\(d.length:Int)<=134217728/\(∀(e:aF),e∈a->(e.2.1.length:Int)<=1099511627776)/\ ∀(e:aF),e∈d->(e.2.1.length:Int)<=1099511627776)->(0:Int)<=0/\0<=b/\b<=(aU a)/\0<=c/\c<=(aU a)/\(aU a)<=(aU a)/\(qD a b c d)<=1073741824/\(∃(e:Int),(0<=e/\e<=(wN a b c d))/\(qD a b c d)=(qD a b c d)/\(0:Int)=e/\List.flatten [cf a (Int.toNat (0:Int)) b.toNat,d,cf a c.toNat (Int.toNat (aU a))]=List.flatten [cf a (Int.toNat (0:Int)) b.toNat,d,cf a c.toNat (Int.toNat (aU a))]/\True)/\ ∀(e:Int),0<=e/\e<=(wN a b c d)->ad (decide (e<(qD a b c d))) (0<=e/\e<(qD a b c d)/\((List.length (List.getD (xp a b c d) e.toNat
 default).2.1):Int)<=1099511627776/\0<=e/\e<(qD a b c d)/\ ∃(f:Int),(0<=f/\f<=(wN a b c d))/\Int.toNat ((wN a b c d) -f)<Int.toNat ((wN a b c d) -e)/\(qD a b c d)=(qD a b c d)/\IntKind.wrap .i64 (e+(1:Int))=f/\List.set (xp a b c d) e.toNat (List.getD (xp a b c d) e.toNat default)=List.flatten [cf a (Int.toNat (0:Int)) b.toNat,d,cf a c.toNat (Int.toNat (aU a))]/\True) (List.flatten [cf a (Int.toNat (0:Int)) b.toNat,d,cf a c.toNat (Int.toNat (aU a))]=List.take b.toNat a++(d++List.drop c.toNat a)):=by
  delta xp aU wN qD Cb
  rintro l a b m-⟨h0,h1,h2,h3,h4,h5,h6,h7⟩
  have e:List.flatten [cf l (Int.toNat (0:Int)) (Int.toNat a),m,cf l (Int.toNat b) (Int.toNat (l.length:Int))]=l.take a.toNat++(m++l.drop b.toNat):=by
   simp[cf]
  rw[e]
  have hall:∀ y∈l.take a.toNat++(m++l.drop b.toNat),(y.2.1.length:Int)<=1099511627776:=by
   intro y hy
   simp only[List.mem_append] at hy
   rcases hy with hy|hy|hy
   ·exact h6 y (List.mem_of_mem_take hy)
   ·exact h7 y hy
   ·exact h6 y (List.mem_of_mem_drop hy)
  have hlen:(l.take a.toNat++(m++l.drop b.toNat)).length<=l.length+(m.length+l.length):=by
   simp only[List.length_append,List.length_take,List.length_drop];omega
  generalize l.take a.toNat++(m++l.drop b.toNat)=o at hall hlen ⊢
  refine⟨by omega,h0,h1,h2,h3,by omega,by omega,⟨0,⟨by omega,by omega⟩,(by repeat' first|exact trivial|refine⟨trivial,?_⟩|refine⟨(by with_reducible rfl),?_⟩|refine⟨ai (by omega) (by omega),?_⟩|refine⟨rfl,?_⟩)⟩,?_⟩
  rintro j ⟨j0,j1⟩
  refine ae (fun hb=>?_) (fun hb=>rfl)
  have hb:=of_decide_eq_true hb
  refine⟨j0,hb,hall _ (bL j0 hb),j0,hb,j+1,⟨by omega,by omega⟩,by omega,rfl,ai (by omega) (by omega),qh j0 hb,trivial⟩
theorem No:ax Tryz.prog GL 169 Km.spec:=Ct.okH _ Tryz.func169 (by kernel_rfl) (ah (ah aD Qs) OQ) av ao7 (aC (by kernel_rfl) aa4)
def MP:Cn:=⟨[.val (.sl cG),.agg kr],[.val cI,.val .bool],fun _=>[],fun d y=>0<=y.1.1/\y.1.1<=d.1.length/\(bM d.1->(∀ z∈d.1.take y.1.1.toNat,aW z.1 d.2.1)∧∀ z∈d.1.drop y.1.1.toNat,¬ aW z.1 d.2.1)/\y.1.2.1=decide (y.1.1<d.1.length/\(d.1.getD y.1.1.toNat default).1=d.2.1),fun d h=>let ⟨k,h0,h1,h2⟩:=Pd d.1 d.2.1;⟨((k,decide (k<d.1.length/\(d.1.getD k.toNat default).1=d.2.1),()),()),h0,h1,h2,rfl⟩⟩
def RL:ar MP.ps->az:=(fun _=>{})
def xK(a:List aF)(b c d:Int)(e:Bool) :=
 d<=(aU a)/\(bM a->(∀(f:aF),f∈List.take d.toNat a->aW f.1 (b,c))/\ ∀(f:aF),f∈List.drop d.toNat a-> ¬aW f.1 (b,c))/\e=decide (d<(aU a)/\(a.getD d.toNat default).1=(b,c))
theorem XI :
 ∀(a:List aF)(b c:Int),(qc a)/\((0<=b/\b<=4294967295)/\ab c)/\True->True-> ∀(d:Int)(e:Bool),0<=d/\(xK a b c d e)->0<=d/\(xK a b c d e):=by
  delta aU qc xK
  rintro l p q - - i b h
  exact h
theorem F6:ax Tryz.prog GL 151 MP.spec:=Cn.okH _ Tryz.func151 (by kernel_rfl) (ah aD Qf) av RL (aC (by kernel_rfl) XI)
def dN(l:List Rt)(r:Rt):List Rt:=l.filter (fun a=>decide (aW a.1 r.1))++r::l.filter (fun a=>decide (aW r.1 a.1))
def gD(l:List Rt)(p:cO):List Rt:=l.filter (fun a=>decide (a.1≠p))
def okL(l:List Rt):Prop:=(l.length:Int)<=134217728∧∀ y∈l,(y.2.1.length:Int)<=1099511627776
def rL(a:Int)(b:Option Rt)(r:Rt):Option Rt:=if cU r.1 a then match b with|none=>some r|some q=>if q.1.2<r.1.2 then some r else some q else b
def ku(l:List Rt)(a:Int):Option Rt:=l.foldl (rL a) none
def aZ(l:List Rt)(a:Int):Rt:=match ku l a with|none=>((0,0),[],0)|some r=>r
def mG(l:List Rt)(a:Int):Bool:=(ku l a).isSome
theorem Jj{l:List Rt}{p:cO}{k:Nat}(h1:∀ z∈l.take k,aW z.1 p)(h2:∀ z∈l.drop k,¬ aW z.1 p):l.take k=l.filter (fun a=>decide (aW a.1 p)):=by
 conv=>rhs;rw[← List.take_append_drop k l]
 rw[List.filter_append,List.filter_eq_self.2 (by simpa using h1),List.filter_eq_nil_iff.2 (by simpa using h2),List.append_nil]
theorem JQ{l:List Rt}{i:Int}(h0:0<=i)(h1:i<l.length):l=l.take i.toNat++l.getD i.toNat default::l.drop (i+1).toNat:=by
 have hj:i.toNat<l.length:=by omega
 rw[List.getD_eq_getElem?_getD,List.getElem?_eq_getElem hj,Option.getD_some,show (i+1).toNat=i.toNat+1 from by omega,← List.drop_eq_getElem_cons hj,List.take_append_drop]
theorem JR{l:List Rt}{p:cO}{i:Int}(hs:bM l)(h0:0<=i)(hl:i<l.length)(h1:∀ z∈l.take i.toNat,aW z.1 p)(he:(l.getD i.toNat default).1=p):l.drop (i+1).toNat=l.filter (fun a=>decide (aW p a.1))/\l.take i.toNat++l.drop (i+1).toNat=gD l p:=by
 have hsp:=JQ h0 hl
 have hp:(l.getD i.toNat default::l.drop (i+1).toNat).Pairwise fun a b=>aW a.1 b.1:=by
  have:=hs;unfold bM at this;rw[hsp] at this;exact (List.pairwise_append.1 this).2.1
 have h3:∀ z∈l.drop (i+1).toNat,aW p z.1:=fun z hz=>by rw[← he];exact (List.pairwise_cons.1 hp).1 z hz
 generalize l.getD i.toNat default=r at *
 generalize l.take i.toNat=A at *
 generalize l.drop (i+1).toNat=B at *
 subst hsp
 subst he
 constructor
 ·rw[List.filter_append,List.filter_cons,if_neg (by simp[m4]),List.filter_eq_nil_iff.2 (by simpa using fun z hz=>tQ (h1 z hz)),List.nil_append,List.filter_eq_self.2 (by simpa using h3)]
 ·rw[gD,List.filter_append,List.filter_cons,if_neg (by simp),List.filter_eq_self.2 (fun z hz=>decide_eq_true (fun (e:z.1=r.1)=>m4 _ (e▸h1 z hz))),List.filter_eq_self.2 (fun z hz=>decide_eq_true (fun (e:z.1=r.1)=>m4 _ (e▸h3 z hz)))]
theorem Pf{l:List Rt}{p:cO}{i:Int}(hs:bM l)(h0:0<=i)(h1:∀ z∈l.take i.toNat,aW z.1 p)(h2:∀ z∈l.drop i.toNat,¬ aW z.1 p)(he:¬ (i<l.length/\(l.getD i.toNat default).1=p)):l.drop i.toNat=l.filter (fun a=>decide (aW p a.1))/\l=gD l p:=by
 have h3:∀ z∈l.drop i.toNat,aW p z.1:=by
  intro z hz
  rcases Bh (h2 z hz) with e|h
  ·exfalso
   by_cases hl:i<l.length
   ·have hj:i.toNat<l.length:=by omega
    have hne:(l.getD i.toNat default).1≠p:=fun e=>he ⟨hl,e⟩
    rw[List.getD_eq_getElem?_getD,List.getElem?_eq_getElem hj,Option.getD_some] at hne
    have hp:(l.drop i.toNat).Pairwise fun a b=>aW a.1 b.1:=List.Pairwise.drop hs
    rw[List.drop_eq_getElem_cons hj] at hz hp h2
    rcases List.mem_cons.1 hz with rfl|hz
    ·exact hne e
    ·exact h2 _ (List.mem_cons_self) (e▸(List.pairwise_cons.1 hp).1 z hz)
   ·rw[List.drop_eq_nil_of_le (by omega)] at hz;simp at hz
  ·exact h
 have hsp:=List.take_append_drop i.toNat l
 constructor
 ·conv=>rhs;rw[← hsp]
  rw[List.filter_append,List.filter_eq_nil_iff.2 (by simpa using fun z hz=>tQ (h1 z hz)),List.nil_append,List.filter_eq_self.2 (by simpa using h3)]
 ·symm
  apply List.filter_eq_self.2
  intro z hz
  rw[← hsp] at hz
  apply decide_eq_true
  rcases List.mem_append.1 hz with hz|hz
  ·exact fun e=>m4 _ (e▸h1 z hz)
  ·exact fun e=>m4 _ (e▸h3 z hz)
def Pr:Ct:=⟨[.val (.sl cG),.agg cG],[.own 97 cG],fun d=>[bM d.1,okL d.1,(d.2.1.2.1.length:Int)<=1099511627776],fun d=>((dN d.1 d.2.1,()),())⟩
def Z7:ar Pr.ps->az:=(fun _=>{})
def AB(a:List aF) :=
 a.length<=maxLen/\ ∀(f:aF),f∈a->((0<=f.1.1/\f.1.1<=4294967295)/\ab f.1.2)/\(f.2.1.length<=maxLen/\ ∀(g:Int),g∈f.2.1->ab g)/\ab f.2.2
theorem TR :
 ∀(a:List aF)(b c:Int)(d:List Int)(e:Int),(AB a)/\(((0<=b/\b<=4294967295)/\ab c)/\(d.length<=maxLen/\ ∀(f:Int),f∈d->ab f)/\ab e)/\True->bM a/\okL a/\(d.length:Int)<=1099511627776-> ∀(f:Int)(g:Bool),0<=f/\f<=(aU a)/\(bM a->(∀(h:aF),h∈List.take f.toNat a->aW h.1 (b,c))/\ ∀(h:aF),h∈List.drop f.toNat a-> ¬aW h.1 (b,c))/\g=decide (f<(aU a)/\(a.getD f.toNat default).1=(b,c))->ad g (0<=f/\f<=(aU a)/\0<=IntKind.wrap .i64 (f+(1:Int))/\IntKind.wrap .i64 (f+(1:Int))<=(aU a)/\(aU a)<=134217728/\((List.length [((b,c),d,e)]):Int)<=134217728/\(∀(h:aF),h∈a->(h.2.1.length:Int)<=1099511627776)/\(∀(h:aF),h∈[((b,c),d,e)]->(h.2.1.length:Int)<=1099511627776)/\List.take f.toNat a++([((b,c),d,e)]++List.drop (Int.toNat (IntKind.wrap .i64 (f+(1:Int)))) a)=dN a ((b,c),d,e)) (0<=f/\f<=(aU a)/\0<=f/\f<=(aU a)/\(aU a)<=134217728/\((List.length
 [((b,c),d,e)]):Int)<=134217728/\(∀(h:aF),h∈a->(h.2.1.length:Int)<=1099511627776)/\(∀(h:aF),h∈[((b,c),d,e)]->(h.2.1.length:Int)<=1099511627776)/\List.take f.toNat a++([((b,c),d,e)]++List.drop f.toNat a)=dN a ((b,c),d,e)):=by
  delta aU AB
  rintro l a n nx b-⟨hs,⟨hl,hx⟩,hn⟩ i f ⟨h0,h1,h2,rfl⟩
  obtain⟨h2,h3⟩:=h2 hs
  refine ae (fun hf=>?_) (fun hf=>?_)
  ·obtain⟨f1,f2⟩:=of_decide_eq_true hf
   rw[ai (by omega) (by omega)]
   refine⟨h0,h1,by omega,by omega,hl,by simp,hx,by simpa using hn,?_⟩
   rw[(JR hs h0 f1 h2 f2).1,Jj h2 h3];rfl
  ·have hf:=of_decide_eq_false hf
   refine⟨h0,h1,h0,h1,hl,by simp,hx,by simpa using hn,?_⟩
   rw[(Pf hs h0 h2 h3 hf).1,Jj h2 h3];rfl
theorem KD:ax Tryz.prog GL 103 Pr.spec:=Ct.okH _ Tryz.func103 (by kernel_rfl) (ah (ah aD F6) No) av Z7 (aC (by kernel_rfl) TR)
def Nx:Ct:=⟨[.val (.sl cG),.agg kr],[.own 97 cG],fun d=>[bM d.1,okL d.1],fun d=>((gD d.1 d.2.1,()),())⟩
def PL:ar Nx.ps->az:=(fun _=>{})
def vg(a:List aF) :=
 (aU a)<=134217728/\ ∀(d:Rt),d∈a->(d.2.1.length:Int)<=1099511627776
theorem ah2 :
 ∀(a:List aF)(b c:Int),(qc a)/\((0<=b/\b<=4294967295)/\ab c)/\True->(bM a/\(vg a))-> ∀(d:Int)(e:Bool),0<=d/\(xK a b c d e)->ad e (0<=d/\d<=(aU a)/\0<=IntKind.wrap .i64 (d+(1:Int))/\IntKind.wrap .i64 (d+(1:Int))<=(aU a)/\(aU a)<=134217728/\(↑(0:Nat):Int)<=134217728/\(∀(f:aF),f∈a->(f.2.1.length:Int)<=1099511627776)/\(∀(f:aF),f∈([]:List aF)->(f.2.1.length:Int)<=1099511627776)/\List.take d.toNat a++List.drop (Int.toNat (IntKind.wrap .i64 (d+(1:Int)))) a=gD a (b,c)) (0<=d/\d<=(aU a)/\0<=d/\d<=(aU a)/\(aU a)<=134217728/\(↑(0:Nat):Int)<=134217728/\(∀(f:aF),f∈a->(f.2.1.length:Int)<=1099511627776)/\(∀(f:aF),f∈([]:List aF)->(f.2.1.length:Int)<=1099511627776)/\List.take d.toNat a++List.drop d.toNat a=gD a (b,c)):=by
  delta aU qc xK vg
  rintro l a n-⟨hs,hl,hx⟩ i f ⟨h0,h1,h2,rfl⟩
  obtain⟨h2,h3⟩:=h2 hs
  refine ae (fun hf=>?_) (fun hf=>?_)
  ·obtain⟨f1,f2⟩:=of_decide_eq_true hf
   rw[ai (by omega) (by omega)]
   exact⟨h0,h1,by omega,by omega,hl,by simp,hx,by simp,(JR hs h0 f1 h2 f2).2⟩
  ·have hf:=of_decide_eq_false hf
   refine⟨h0,h1,h0,h1,hl,by simp,hx,by simp,?_⟩
   rw[List.take_append_drop];exact (Pf hs h0 h2 h3 hf).2
theorem Is:ax Tryz.prog GL 102 Nx.spec:=Ct.okH _ Tryz.func102 (by kernel_rfl) (ah (ah aD F6) No) av PL (aC (by kernel_rfl) ah2)
theorem PU{l:List Rt}{a i:Int}(h0:0<=i)(h1:i<l.length):ku (l.take (i+1).toNat) a=rL a (ku (l.take i.toNat) a) (l.getD i.toNat default):=by
 have hj:i.toNat<l.length:=by omega
 rw[show (i+1).toNat=i.toNat+1 from by omega,List.take_succ_eq_append_getElem hj,ku,List.foldl_append,List.getD_eq_getElem?_getD,List.getElem?_eq_getElem hj,Option.getD_some]
 rfl
theorem XZ{l:List Rt}{a b i:Int}(h0:0<=i)(h1:i<l.length)(h:ku (l.take i.toNat) a=if b<0 then none else some (l.getD b.toNat default))(c:Bool)
  (hc:c=(bif cU (l.getD i.toNat default).1 a then bif decide (b<0) then true else decide ((l.getD b.toNat default).1.2<(l.getD i.toNat default).1.2) else false)) :
  ku (l.take (i+1).toNat) a=if (if c then i else b)<0 then none else some (l.getD (if c then i else b).toNat default):=by
 rw[PU h0 h1,h]
 unfold rL
 subst hc
 cases hx:cU (l.getD i.toNat default).1 a with
 | false=>simp
 | true =>
  by_cases hb:b<0
  ·simp[hb,show ¬ i<0 from by omega]
  ·by_cases hl:(l.getD b.toNat default).1.2<(l.getD i.toNat default).1.2
   ·simp only[List.getD_eq_getElem?_getD] at hl
    simp[hb,hl,show ¬ i<0 from by omega]
   ·simp only[List.getD_eq_getElem?_getD] at hl
    simp[hb,hl]
theorem Zo{l:List Rt}{a:Int}{k:Nat}(h:∀ z∈l.drop k,cU z.1 a=false):ku l a=ku (l.take k) a:=by
 conv=>lhs;rw[← List.take_append_drop k l]
 unfold ku
 rw[List.foldl_append]
 generalize List.foldl (rL a) none (l.take k)=s
 generalize l.drop k=m at h
 induction m generalizing s with
 | nil=>rfl
 | cons z r ih =>
  rw[List.foldl_cons,show rL a s z=s from by rw[rL.eq_def,if_neg (by simp[h z List.mem_cons_self])]]
  exact ih (s:=s) (fun y hy=>h y (List.mem_cons_of_mem _ hy))
theorem Y0{p:cO}{a:Int}(h:¬ aW p (a,33)):cU p a=false:=by
 unfold cU iU
 unfold aW at h
 rw[Bool.and_eq_false_iff]
 simp only[decide_eq_false_iff_not]
 simp only at h
 omega
def OI:Ct:=⟨[.val (.sl cG),.val cj],[.agg cG,.val .bool],fun d=>[bM d.1,okL d.1],fun d=>((aZ d.1 d.2.1,mG d.1 d.2.1,()),())⟩
def Tf:ar OI.ps->az:=(fun d=>{loops:=(fun n=>match n with|4=>some (fun S=>{ι:=Int×Int×Int,qn:=⟨fun k_=>∀(i:Int)(b:Int)(n:Int),k_ (i,b,n),fun k_ h_ i=>h_ i.1 i.2.1 i.2.2,fun k_=>∃ (i:Int) (b:Int) (n:Int),k_ (i,b,n),fun k_ ⟨i,b,n,h_⟩=>⟨_,h_⟩⟩,μ:=fun i=>(i.2.2-i.1).toNat,inv:=fun i=>0<=i.1/\i.1<=i.2.2/\i.2.2<=d.1.length ∧ -1<=i.2.1/\i.2.1<i.1/\ku (d.1.take i.1.toNat) d.2.1=(if i.2.1<0 then none else some (d.1.getD i.2.1.toNat default))/\(bM d.1→∀ z∈d.1.drop i.2.2.toNat,¬ aW z.1 (d.2.1,33)),keep:=[0,1,4],slots:=fun i=>[(8,.int .i64 i.2.1),(17,.int .i64 i.2.2),(18,.int .i64 i.1)],keepN:=[80],names:=fun i=>[]})|_=>none)})
def tB(h i:Bool) :=
 (h&& ! i)->((h&& ! i)->(h&& ! i))/\True
def BO(a:List aF)(b j k l:Int) :=
 0<=j/\j<=l/\l<=(aU a)/\ -1<=k/\k<j/\(ku (List.take j.toNat a) b=if k<0 then none else some (a.getD k.toNat default))/\(bM a-> ∀(m:aF),m∈List.drop l.toNat a-> ¬aW m.1 (b,(33:Int)))
def FC(a:List aF)(b e f g:Int) :=
 e<=g/\g<=(aU a)/\ -1<=f/\f<e/\(ku (List.take e.toNat a) b=if f<0 then none else some (a.getD f.toNat default))/\(bM a-> ∀(h:aF),h∈List.drop g.toNat a-> ¬aW h.1 (b,(33:Int)))
theorem XH :
 ∀(a:List aF)(b:Int),(a.length<=maxLen/\ ∀(c:aF),c∈a->(vm c))/\(0<=b/\b<=4294967295)/\True->(bM a/\(aU a)<=134217728/\ ∀(c:Rt),c∈a->(c.2.1.length:Int)<=1099511627776)-> ∀(c:Int)(d:Bool),0<=c/\c<=(aU a)/\(bM a->(∀(e:aF),e∈List.take c.toNat a->aW e.1 (b,(33:Int)))/\ ∀(e:aF),e∈List.drop c.toNat a-> ¬aW e.1 (b,(33:Int)))/\d=decide (c<(aU a)/\(a.getD c.toNat default).1=(b,(33:Int)))->(∃(e:Int) (f:Int),∃(g:Int),(0<=e/\(FC a b e f g))/\a=a/\b=b/\(-1:Int)=f/\c=g/\(0:Int)=e/\(0:Int)=0/\(0:Int)=0/\(0:Int)=0/\True)/\ ∀(e f g:Int),0<=e/\(FC a b e f g)->ad (decide (e<g)) (0<=e/\e<(aU a)/\ ∀(h:Bool),h=cU (a.getD e.toNat default).1 b->(h->(h->h)/\True)/\(h->(h->h)/\True)/\ ∀(i:Bool),i=decide (f<0)->((h&& ! i)->((h&& ! i)->(h&& ! i))/\((h&& ! i)->(h&& ! i))/\0<=e/\e<(aU a)/\True)/\(tB h i)/\(tB h i)/\(tB h i)/\((h&& ! i)->((h&& ! i)->(h&& !
 i))/\((h&& ! i)->(h&& ! i))/\0<=f/\f<(aU a)/\True)/\(tB h i)/\(tB h i)/\(tB h i)/\((h&& ! i)->((h&& ! i)->(h&& ! i))/\((h&& ! i)->(h&& ! i))/\True)/\(h->(h->h)/\(i=false->(h&& ! i))/\True)/\(h->h)/\ad (bif h then bif i then true else decide ((a.getD f.toNat default).1.2<(a.getD e.toNat default).1.2) else false) (∃(j:Int) (k:Int),∃(l:Int),(BO a b j k l)/\Int.toNat (l -j)<Int.toNat (g -e)/\a=a/\b=b/\e=k/\g=l/\IntKind.wrap .i64 (e+(1:Int))=j/\(0:Int)=0/\(0:Int)=0/\(0:Int)=0/\True) (∃(j:Int) (k:Int),∃(l:Int),(BO a b j k l)/\Int.toNat (l -j)<Int.toNat (g -e)/\a=a/\b=b/\f=k/\g=l/\IntKind.wrap .i64 (e+(1:Int))=j/\(0:Int)=0/\(0:Int)=0/\(0:Int)=0/\True)) (ad (decide (f<0)) ((((0:Int),(0:Int)),([]:List Int),(0:Int))=aZ a b/\false=mG a b) (0<=f/\f<(aU a)/\((List.length (a.getD f.toNat default).2.1):Int)<=1099511627776/\a.getD f.toNat default=aZ a b/\true=mG a b)):=by
  delta aU vm tB BO FC
  rintro l a ⟨⟨hl,-⟩,-⟩⟨hs,hk,hx⟩ n f ⟨n0,n1,n2,-⟩
  simp only[maxLen] at hl
  refine⟨⟨0,-1,n,⟨by omega,by omega,by omega,by omega,by omega,by simp[ku],fun _=>(n2 hs).2⟩,(by repeat' first|exact trivial|refine⟨trivial,?_⟩|refine⟨(by with_reducible rfl),?_⟩|refine⟨ai (by omega) (by omega),?_⟩|refine⟨rfl,?_⟩)⟩,?_⟩
  rintro i b n ⟨h0,h1,h2,h3,h4,h5,h6⟩
  refine ae (fun hi=>?_) (fun hi=>?_)
  ·have hi:=of_decide_eq_true hi
   have hst:=XZ h0 (by omega) h5
   refine⟨h0,by omega,?_⟩
   (repeat (intro (b_:Bool) (hb_:b_=_);(repeat refine⟨(by first|(simp;done)|(rw[hb_];simp;done)|(rw[hb_];simp;omega)|(rw[hb_];simp;intros;omega)|(rw[hb_];simp +contextual;done)),?_⟩);subst hb_))
   refine ae (fun hc=>?_) (fun hc=>?_)
   ·have hst:=hst true hc.symm
    refine⟨i+1,i,n,⟨by omega,by omega,h2,by omega,by omega,by simpa using hst,h6⟩,by omega,(by repeat' first|exact trivial|refine⟨trivial,?_⟩|refine⟨(by with_reducible rfl),?_⟩|refine⟨ai (by omega) (by omega),?_⟩|refine⟨rfl,?_⟩)⟩
   ·have hst:=hst false hc.symm
    refine⟨i+1,b,n,⟨by omega,by omega,h2,by omega,by omega,by simpa using hst,h6⟩,by omega,(by repeat' first|exact trivial|refine⟨trivial,?_⟩|refine⟨(by with_reducible rfl),?_⟩|refine⟨ai (by omega) (by omega),?_⟩|refine⟨rfl,?_⟩)⟩
  ·have hi:=of_decide_eq_false hi
   have e:i=n:=by omega
   subst e
   have hlook:ku l a=ku (l.take i.toNat) a:=Zo (fun z hz=>Y0 (h6 hs z hz))
   rw[h5] at hlook
   refine ae (fun hb=>?_) (fun hb=>?_)
   ·rw[if_pos (of_decide_eq_true hb)] at hlook
    simp[aZ,mG,hlook]
   ·have hb:=of_decide_eq_false hb
    rw[if_neg hb] at hlook
    refine⟨by omega,by omega,hx _ (bL (by omega) (by omega)),?_,?_⟩
    ·rw[aZ,hlook]
    ·rw[mG,hlook];rfl
theorem UN:ax Tryz.prog GL 80 OI.spec:=Ct.okH _ Tryz.func80 (by kernel_rfl) (ah (ah (ah aD F6) OQ) HQ) av Tf (aC (by kernel_rfl) XH)
def my(l links:List Int)(j:Nat):Prop:=(0<j->l.getD (j-1) default<l.getD j default)/\l.getD j default∈links
instance (l links:List Int) (j:Nat):Decidable (my l links j):=by unfold my;infer_instance
def Ds(l links:List Int):Prop:=l.length<=16∧∀ j:Nat,j<l.length->my l links j
instance (l links:List Int):Decidable (Ds l links):=by unfold Ds;infer_instance
def ke(r:Rt)(links:List Int):Prop:=Ds r.2.1 links/\1<=r.2.2/\r.2.2<=3
instance (r:Rt) (links:List Int):Decidable (ke r links):=by unfold ke;infer_instance
def chk(links:List Int):Option cO->List Rt->Int
 | _,[]=>0
 | q,r::rs=>if iU r.1=false then 10 else if q.any (fun q=>decide (0<=fj q r.1)) then 6 else if ¬ ke r links then 12 else chk links (some r.1) rs
def dF(l:List Rt)(links:List Int):Int:=if (64:Int)<l.length then 5 else chk links none l
def tM(l:List Rt)(i:Int):Option cO:=if i=0 then none else some (l.getD (i-1).toNat default).1
theorem ai5{l links:List Int}{i:Int}(h0:0<=i)(h:0<i->l.getD (i.toNat-1) default<l.getD i.toNat default)(h2:l.getD i.toNat default∈links):my l links i.toNat :=
 ⟨fun hi=>h (by omega),h2⟩
theorem Rz{l links:List Int}{i:Int}(h0:0<=i)(h:∀ j:Nat,(j:Int)<i->my l links j)(h2:my l links i.toNat):∀ j:Nat,(j:Int)<i+1->my l links j:=by
 intro j hj
 by_cases e:(j:Int)<i
 ·exact h j e
 ·rw[show j=i.toNat from by omega];exact h2
theorem QI{l:List Rt}{links:List Int}{i:Int}{q:Option cO}(h0:0<=i)(h1:i<l.length):chk links q (l.drop i.toNat)=if iU (l.getD i.toNat default).1=false then 10 else if q.any (fun q=>decide (0<=fj q (l.getD i.toNat default).1)) then 6 else if ¬ ke (l.getD i.toNat default) links then 12 else chk links (some (l.getD i.toNat default).1) (l.drop (i+1).toNat):=by
 have hj:i.toNat<l.length:=by omega
 have e:(i+1).toNat=i.toNat+1:=by omega
 rw[List.drop_eq_getElem_cons hj,chk,List.getD_eq_getElem?_getD,List.getElem?_eq_getElem hj,Option.getD_some,e]
def PE:Ct:=⟨[.agg cG,.val (.sl cI)],[.val .bool],fun _=>[],fun d=>((decide (ke d.1 d.2.1),()),())⟩
def au6:ar PE.ps->az:=(fun d=>{loops:=(fun n=>match n with|4=>some (fun S=>{ι:=Int,μ:=fun i=>(d.1.2.1.length-i).toNat,inv:=fun i=>0<=i/\i<=d.1.2.1.length∧∀ j:Nat,(j:Int)<i->my d.1.2.1 d.2.1 j,keep:=[1,2,22,23],slots:=fun i=>[(24,.int .i64 i)],keepN:=[48],names:=fun i=>[]})|_=>none)})
theorem Xw :
 ∀(a b:Int)(c:List Int)(d:Int)(e:List Int),(((0<=a/\a<=4294967295)/\ab b)/\(c.length<=maxLen/\ ∀(f:Int),f∈c->ab f)/\ab d)/\(e.length<=maxLen/\ ∀(f:Int),f∈e->ab f)/\True->True-> ∀(f:Bool),f=decide (16<(c.length:Int))->((! f)->((! f)->(! f))/\True)/\((! f)->((! f)->(! f))/\True)/\(f=false->(! f))/\ ∀(g:Bool),(g=bif f then true else decide (d<1))->((! g)->((! g)->(! g))/\True)/\((! g)->((! g)->(! g))/\True)/\(g=false->(! g))/\ad (bif g then true else decide (3<d)) (false=decide (ke ((a,b),c,d) e)) ((∃(h:Int),(0<=h/\h<=(c.length:Int)/\ ∀(i:Nat),(↑i:Int)<h->my c e i)/\e=e/\c=c/\(c.length:Int)=(c.length:Int)/\(0:Int)=h/\a=a/\b=b/\c=c/\d=d/\True)/\ ∀(h:Int),(0<=h/\h<=(c.length:Int)/\ ∀(i:Nat),(↑i:Int)<h->my c e i)->ad (decide (h<(c.length:Int))) (0<=h/\h<(c.length:Int)/\ ∀(i:Bool),i=decide (0<h)->(i->(i->i)/\True)/\(i->(i->i)/\True)/\(i->(i->i)/\(i->i)/\0<=IntKind.wrap .i64
 (h -(1:Int))/\IntKind.wrap .i64 (h -(1:Int))<(c.length:Int)/\True)/\(i->(i->i)/\True)/\(i->(i->i)/\(i->i)/\True)/\(i->i)/\ ∀(j:Bool),(j=bif i then decide (c.getD h.toNat default<=c.getD (Int.toNat (IntKind.wrap .i64 (h -(1:Int)))) default) else false)->((! j)->((! j)->(! j))/\((! j)->(! j))/\True)/\((! j)->((! j)->(! j))/\True)/\(j=false->(! j))/\ad (bif j then true else ! decide (c.getD h.toNat default∈e)) (false=decide (ke ((a,b),c,d) e)) (∃(k:Int),(0<=k/\k<=(c.length:Int)/\ ∀(l:Nat),(↑l:Int)<k->my c e l)/\Int.toNat ((c.length:Int) -k)<Int.toNat ((c.length:Int) -h)/\e=e/\c=c/\(c.length:Int)=(c.length:Int)/\IntKind.wrap .i64 (h+(1:Int))=k/\a=a/\b=b/\c=c/\d=d/\True)) (true=decide (ke ((a,b),c,d) e))):=by
  rintro a n l b ks ⟨⟨⟨-,-⟩,⟨hl,-⟩,-⟩,-⟩ -
  simp only[maxLen] at hl
  (repeat (intro (b_:Bool) (hb_:b_=_);(repeat refine⟨(by first|(simp;done)|(rw[hb_];simp;done)|(rw[hb_];simp;omega)|(rw[hb_];simp;intros;omega)|(rw[hb_];simp +contextual;done)),?_⟩);subst hb_))
  refine ae (fun hb=>?_) (fun hb=>?_)
  ·have hb:¬ (l.length<=16/\1<=b/\b<=3):=by simp[-List.getD_eq_getElem?_getD,-Int.default_eq_zero,Bool.cond_eq_ite] at hb;omega
   symm;apply decide_eq_false
   rintro⟨⟨h1,-⟩,h2⟩;exact hb ⟨h1,h2⟩
  ·have hb:l.length<=16/\1<=b/\b<=3:=by simp[-List.getD_eq_getElem?_getD,-Int.default_eq_zero,Bool.cond_eq_ite] at hb;omega
   refine⟨⟨0,⟨by omega,by omega,by omega⟩,(by repeat' first|exact trivial|refine⟨trivial,?_⟩|refine⟨(by with_reducible rfl),?_⟩|refine⟨ai (by omega) (by omega),?_⟩|refine⟨rfl,?_⟩)⟩,?_⟩
   rintro i ⟨h0,h1,h2⟩
   refine ae (fun hi=>?_) (fun hi=>?_)
   ·have hi:=of_decide_eq_true hi
    refine⟨h0,hi,?_⟩
    rw[ai (n:=i-1) (by omega) (by omega)]
    (repeat (intro (b_:Bool) (hb_:b_=_);(repeat refine⟨(by first|(simp;done)|(rw[hb_];simp;done)|(rw[hb_];simp;omega)|(rw[hb_];simp;intros;omega)|(rw[hb_];simp +contextual;done)),?_⟩);subst hb_))
    refine ae (fun hc=>?_) (fun hc=>?_)
    ·have hc:¬ my l ks i.toNat:=by
      rintro⟨k1,k2⟩
      simp[-List.getD_eq_getElem?_getD,-Int.default_eq_zero,Bool.cond_eq_ite,k2] at hc
      have:=k1 (by omega);omega
     symm;apply decide_eq_false
     rintro⟨⟨-,h3⟩,-⟩;exact hc (h3 _ (show i.toNat<l.length by omega))
    ·have hc:my l ks i.toNat:=by
      simp[-List.getD_eq_getElem?_getD,-Int.default_eq_zero,Bool.cond_eq_ite] at hc
      refine ai5 h0 (fun hp=>?_) hc.2
      have:=hc.1 hp;omega
     exact⟨i+1,⟨by omega,by omega,Rz h0 h2 hc⟩,by omega,rfl,rfl,rfl,ai (by omega) (by omega),(by repeat' first|exact trivial|refine⟨trivial,?_⟩|refine⟨(by with_reducible rfl),?_⟩|refine⟨ai (by omega) (by omega),?_⟩|refine⟨rfl,?_⟩)⟩
   ·have hi:=of_decide_eq_false hi
    symm;apply decide_eq_true
    exact⟨⟨hb.1,fun j hj=>h2 j (by simp only at hj;omega)⟩,hb.2⟩
theorem Qr:ax Tryz.prog GL 222 PE.spec:=Ct.okH _ Tryz.func222 (by kernel_rfl) (ah aD Ze) av au6 (aC (by kernel_rfl) Xw)
def N8:Ct:=⟨[.val (.sl cG),.val (.sl cI)],[.val cI],fun _=>[],fun d=>((dF d.1 d.2.1,()),())⟩
def VB:ar N8.ps->az:=(fun d=>{loops:=(fun n=>match n with|4=>some (fun S=>{ι:=Int,μ:=fun i=>(d.1.length-i).toNat,inv:=fun i=>0<=i/\i<=d.1.length/\dF d.1 d.2.1=chk d.2.1 (tM d.1 i) (d.1.drop i.toNat),keep:=[0,1,10,11],slots:=fun i=>[(12,.int .i64 i)],names:=fun i=>[]})|_=>none)})
theorem TD :
 ∀(a:List aF)(b:List Int),(a.length<=maxLen/\ ∀(c:aF),c∈a->(vm c))/\(b.length<=maxLen/\ ∀(c:Int),c∈b->ab c)/\True->True->ad (decide (64<(aU a))) ((5:Int)=dF a b) ((∃(c:Int),(0<=c/\c<=(aU a)/\dF a b=chk b (tM a c) (List.drop c.toNat a))/\a=a/\b=b/\a=a/\(aU a)=(aU a)/\(0:Int)=c/\True)/\ ∀(c:Int),0<=c/\c<=(aU a)/\dF a b=chk b (tM a c) (List.drop c.toNat a)->ad (decide (c<(aU a))) (0<=c/\c<(aU a)/\ad (! iU (a.getD c.toNat default).1) ((10:Int)=dF a b) (∀(d:Bool),d=decide (0<c)->(d->(d->d)/\True)/\(d->(d->d)/\(d->d)/\0<=IntKind.wrap .i64 (c -(1:Int))/\IntKind.wrap .i64 (c -(1:Int))<(aU a)/\True)/\(d->(d->d)/\True)/\(d->(d->d)/\True)/\(d->(d->d)/\True)/\(d->(d->d)/\(d->d)/\True)/\(d->(d->d)/\True)/\(d->d)/\ad (bif d then decide (0<=fj (a.getD (Int.toNat (IntKind.wrap .i64 (c -(1:Int)))) default).1 (a.getD c.toNat default).1) else false)
 ((6:Int)=dF a b) (ad (! decide (ke (a.getD c.toNat default) b)) ((12:Int)=dF a b) (∃(e:Int),(0<=e/\e<=(aU a)/\dF a b=chk b (tM a e) (List.drop e.toNat a))/\Int.toNat ((aU a) -e)<Int.toNat ((aU a) -c)/\a=a/\b=b/\a=a/\(aU a)=(aU a)/\IntKind.wrap .i64 (c+(1:Int))=e/\True)))) ((0:Int)=dF a b)):=by
  delta aU vm
  rintro l ks ⟨⟨hl,-⟩,-⟩ -
  simp only[maxLen] at hl
  refine ae (fun hb=>?_) (fun hb=>?_)
  ·rw[dF,if_pos (of_decide_eq_true hb)]
  ·have hb:=of_decide_eq_false hb
   refine⟨⟨0,⟨by omega,by omega,by rw[dF,if_neg hb];rfl⟩,(by repeat' first|exact trivial|refine⟨trivial,?_⟩|refine⟨(by with_reducible rfl),?_⟩|refine⟨ai (by omega) (by omega),?_⟩|refine⟨rfl,?_⟩)⟩,?_⟩
   rintro i ⟨h0,h1,h2⟩
   rw[h2]
   refine ae (fun hi=>?_) (fun hi=>?_)
   ·have hi:=of_decide_eq_true hi
    rw[QI h0 hi,ai (n:=i-1) (by omega) (by omega)]
    refine⟨h0,hi,ae (fun hc=>?_) (fun hc=>?_)⟩
    ·simp only[Bool.not_eq_true'] at hc
     rw[if_pos hc]
    ·simp only[Bool.not_eq_false'] at hc
     rw[if_neg (by simp[-List.getD_eq_getElem?_getD,-Int.default_eq_zero,hc])]
     (repeat (intro (b_:Bool) (hb_:b_=_);(repeat refine⟨(by first|(simp;done)|(rw[hb_];simp;done)|(rw[hb_];simp;omega)|(rw[hb_];simp;intros;omega)|(rw[hb_];simp +contextual;done)),?_⟩);subst hb_))
     have he:(Option.any (fun q=>decide (0<=fj q (l.getD i.toNat default).1)) (tM l i))=(bif decide (0<i) then decide (0<=fj (l.getD (i-1).toNat default).1 (l.getD i.toNat default).1) else false):=by
      unfold tM
      by_cases e:i=0
      ·simp[e]
      ·rw[if_neg e,Option.any_some];simp[show 0<i from by omega]
     rw[he]
     refine ae (fun hd=>?_) (fun hd=>?_)
     ·rw[if_pos hd]
     ·rw[if_neg (by rw[hd];decide)]
      refine ae (fun hr=>?_) (fun hr=>?_)
      ·simp only[Bool.not_eq_true',decide_eq_false_iff_not] at hr
       rw[if_pos hr]
      ·simp only[Bool.not_eq_false',decide_eq_true_eq] at hr
       rw[if_neg (fun h=>h hr)]
       refine⟨i+1,⟨by omega,by omega,?_⟩,by omega,(by repeat' first|exact trivial|refine⟨trivial,?_⟩|refine⟨(by with_reducible rfl),?_⟩|refine⟨ai (by omega) (by omega),?_⟩|refine⟨rfl,?_⟩)⟩
       rw[tM,if_neg (by omega),show i+1-1=i from by omega]
   ·have hi:=of_decide_eq_false hi
    rw[List.drop_eq_nil_of_le (by omega),chk]
theorem OO:ax Tryz.prog GL 179 N8.spec:=Ct.okH _ Tryz.func179 (by kernel_rfl) (ah (ah (ah aD Qr) Oh) Ok) av VB (aC (by kernel_rfl) TD)
theorem JA{l:List Rt}{i:Int}(h0:0<=i)(h1:i<l.length):l.take (i+1).toNat=l.take i.toNat++[l.getD i.toNat default]:=by
 have hj:i.toNat<l.length:=by omega
 rw[show (i+1).toNat=i.toNat+1 from by omega,List.take_succ_eq_append_getElem hj,List.getD_eq_getElem?_getD,List.getElem?_eq_getElem hj,Option.getD_some]
theorem Gt{m:List Rt}{r:Rt}(h:∀ z∈m,aW z.1 r.1):dN m r=m++[r]:=by
 rw[dN,List.filter_eq_self.2 (fun z hz=>decide_eq_true (h z hz)),List.filter_eq_nil_iff.2 (fun z hz=>by simpa using tQ (h z hz))]
theorem Cd{m:List Rt}{r e:Rt}(h:aW r.1 e.1):dN (m++[e]) r=dN m r++[e]:=by
 rw[dN,dN,List.filter_append,List.filter_append,List.filter_cons,if_neg (by simpa using tQ h),List.filter_cons,if_pos (by simpa using h)]
 simp
theorem M7{m:List Rt}{r e:Rt}(h:∀ z∈m,aW z.1 r.1)(he:e.1=r.1):dN (m++[e]) r=m++[r]:=by
 have hi:¬ aW e.1 r.1:=by rw[he];exact m4 _
 have hj:¬ aW r.1 e.1:=by rw[he];exact m4 _
 have f1:m.filter (fun a=>decide (aW a.1 r.1))=m:=List.filter_eq_self.2 (fun z hz=>decide_eq_true (h z hz))
 have f2:m.filter (fun a=>decide (aW r.1 a.1))=[]:=List.filter_eq_nil_iff.2 (fun z hz=>by simpa using tQ (h z hz))
 simp[dN,f1,f2,hi,hj]
theorem later{l:List Rt}{p:cO}{i:Int}(hs:bM l)(h0:0<=i)(h1:i<l.length){z:Rt}(hz:z∈l.take i.toNat)(hp:¬ aW z.1 p):aW p (l.getD i.toNat default).1:=by
 have hsp:=JQ h0 h1
 unfold bM at hs
 rw[hsp] at hs
 have:=(List.pairwise_append.1 hs).2.2 z hz _ List.mem_cons_self
 rcases Bh hp with e|h
 ·rw[← e];exact this
 ·exact xU h this
def Ph:Ct:=⟨[.val (.sl cG),.agg cG],[.own 97 cG],fun d=>[bM d.1,okL d.1,(d.2.1.2.1.length:Int)<=1099511627776],fun d=>((dN d.1 d.2.1,()),())⟩
def Vf:ar Ph.ps->az:=(fun d=>{loops:=(fun n=>match n with|4=>some (fun S=>{ι:=Int×Bool×(List Rt),qn:=⟨fun k_=>∀(i:Int)(dn:Bool)(ys:(List Rt)),k_ (i,dn,ys),fun k_ h_ i=>h_ i.1 i.2.1 i.2.2,fun k_=>∃ (i:Int) (dn:Bool) (ys:(List Rt)),k_ (i,dn,ys),fun k_ ⟨i,dn,ys,h_⟩=>⟨_,h_⟩⟩,μ:=fun i=>(d.1.length-i.1).toNat,inv:=fun i=>0<=i.1/\i.1<=d.1.length/\(i.2.2.length:Int)<=i.1+1/\(i.2.1=false->(∀ z∈d.1.take i.1.toNat,aW z.1 d.2.1.1)/\i.2.2=d.1.take i.1.toNat)/\(i.2.1=true->(∃ z∈d.1.take i.1.toNat,¬ aW z.1 d.2.1.1)/\i.2.2=dN (d.1.take i.1.toNat) d.2.1),keep:=[0,3],slots:=fun i=>[(5,.own 524288 4),(6,.bool i.2.1),(7,.int .i64 i.1)],keepN:=[64],names:=fun i=>[(524288,.live (.row 97 cG i.2.2))]})|_=>none)})
def yi(a:List aF)(b c:Int)(d:List Int)(e j:Int)(k:Bool)(l:List Rt) :=
 0<=j/\j<=(aU a)/\(l.length:Int)<=j+(1:Int)/\(k=false->(∀(m:aF),m∈List.take j.toNat a->aW m.1 (b,c))/\l=List.take j.toNat a)/\(k=true->(∃(m:aF),m∈List.take j.toNat a/\ ¬aW m.1 (b,c))/\l=dN (List.take j.toNat a) ((b,c),d,e))
def Et(a:List aF)(b c:Int)(d:List Int)(e f:Int)(g:Bool)(h:List Rt) :=
 f<=(aU a)/\(h.length:Int)<=f+(1:Int)/\(g=false->(∀(i:aF),i∈List.take f.toNat a->aW i.1 (b,c))/\h=List.take f.toNat a)/\(g=true->(∃(i:aF),i∈List.take f.toNat a/\ ¬aW i.1 (b,c))/\h=dN (List.take f.toNat a) ((b,c),d,e))
theorem UT :
 ∀(a:List aF)(b c:Int)(d:List Int)(e:Int),(AB a)/\(((0<=b/\b<=4294967295)/\ab c)/\(d.length<=maxLen/\ ∀(f:Int),f∈d->ab f)/\ab e)/\True->bM a/\okL a/\(d.length:Int)<=1099511627776->(∃(f:Int) (g:Bool),∃(h:List Rt),(0<=f/\(Et a b c d e f g h))/\a=a/\false=g/\(0:Int)=f/\b=b/\c=c/\d=d/\e=e/\h=([]:List aF)/\True)/\ ∀(f:Int)(g:Bool)(h:List Rt),0<=f/\(Et a b c d e f g h)->ad (decide (f<(aU a))) (0<=f/\f<(aU a)/\ ∀(i:Bool),i=decide (0<=fj (a.getD f.toNat default).1 (b,c))->(i->(i->i)/\True)/\(i->i)/\ad (bif i then ! g else false) ((d.length:Int)<=1099511627776/\(h.length+List.length [((b,c),d,e)])*(48:Nat)<=(m5)/\ad (! decide (fj (a.getD f.toNat default).1 (b,c)=0)) (0<=f/\f<(aU a)/\((List.length (a.getD f.toNat default).2.1):Int)<=1099511627776/\(List.length (h++[((b,c),d,e)])+List.length [a.getD f.toNat default])*(48:Nat)<=(m5)/\ ∃(j:Int)
 (k:Bool),∃(l:List Rt),(yi a b c d e j k l)/\Int.toNat ((aU a) -j)<Int.toNat ((aU a) -f)/\a=a/\true=k/\IntKind.wrap .i64 (f+(1:Int))=j/\b=b/\c=c/\d=d/\e=e/\h++[((b,c),d,e)]++[a.getD f.toNat default]=l/\True) (∃(j:Int) (k:Bool),∃(l:List Rt),(yi a b c d e j k l)/\Int.toNat ((aU a) -j)<Int.toNat ((aU a) -f)/\a=a/\true=k/\IntKind.wrap .i64 (f+(1:Int))=j/\b=b/\c=c/\d=d/\e=e/\h++[((b,c),d,e)]=l/\True)) (ad (! decide (fj (a.getD f.toNat default).1 (b,c)=0)) (0<=f/\f<(aU a)/\((List.length (a.getD f.toNat default).2.1):Int)<=1099511627776/\(h.length+List.length [a.getD f.toNat default])*(48:Nat)<=(m5)/\ ∃(j:Int) (k:Bool),∃(l:List Rt),(yi a b c d e j k l)/\Int.toNat ((aU a) -j)<Int.toNat ((aU a) -f)/\a=a/\g=k/\IntKind.wrap .i64 (f+(1:Int))=j/\b=b/\c=c/\d=d/\e=e/\h++[a.getD f.toNat default]=l/\True) (∃(j:Int) (k:Bool),∃(l:List Rt),(yi a b c d e j k l)/\Int.toNat ((aU a)
 -j)<Int.toNat ((aU a) -f)/\a=a/\g=k/\IntKind.wrap .i64 (f+(1:Int))=j/\b=b/\c=c/\d=d/\e=e/\h=l/\True))) (ad (! g) ((d.length:Int)<=1099511627776/\(h.length+List.length [((b,c),d,e)])*(48:Nat)<=(m5)/\h++[((b,c),d,e)]=dN a ((b,c),d,e)) (h=dN a ((b,c),d,e))):=by
  delta yi aU Et AB m5
  rintro l a n nx b ⟨⟨hl0,-⟩,-⟩⟨hs,⟨hl,hx⟩,hn⟩
  refine⟨⟨0,false,[],⟨by omega,by omega,by simp,fun _=>by simp,fun h=>by simp at h⟩,(by repeat' first|exact trivial|refine⟨trivial,?_⟩|refine⟨(by with_reducible rfl),?_⟩|refine⟨ai (by omega) (by omega),?_⟩|refine⟨rfl,?_⟩)⟩,?_⟩
  rintro i dn ys ⟨h0,h1,h2,h3,h4⟩
  refine ae (fun hi=>?_) (fun hi=>?_)
  ·have hi:=of_decide_eq_true hi
   have ht:=JA h0 hi
   have hxi:=hx _ (bL h0 hi)
   have hlt:∀(z:Rt),z∈l.take i.toNat->z∈l.take (i+1).toNat:=fun z hz=>by rw[ht];exact List.mem_append_left _ hz
   have hsi:l.getD i.toNat default∈l.take (i+1).toNat:=by rw[ht];simp[-List.getD_eq_getElem?_getD,-Int.default_eq_zero]
   have hlater:=fun z hz hp=>later (p:=(a,n)) (z:=z) hs h0 hi hz hp
   generalize l.getD i.toNat default=e at *
   refine⟨h0,hi,?_⟩
   (repeat (intro (b_:Bool) (hb_:b_=_);(repeat refine⟨(by first|(simp;done)|(rw[hb_];simp;done)|(rw[hb_];simp;omega)|(rw[hb_];simp;intros;omega)|(rw[hb_];simp +contextual;done)),?_⟩);subst hb_))
   refine ae (fun hc=>?_) (fun hc=>?_)
   ·have hq:¬ aW e.1 (a,n)/\dn=false:=by rw[← Gm];simpa[Bool.cond_eq_ite] using hc
    clear hc
    obtain⟨hc,rfl⟩:=hq
    obtain⟨k1,rfl⟩:=h3 rfl
    refine⟨hn,by simp only[List.length_singleton];omega,ae (fun hz=>?_) (fun hz=>?_)⟩
    ·have hz:¬ fj e.1 (a,n)=0:=by simpa using hz
     have hgt:aW (a,n) e.1:=by
      rcases Bh hc with h|h
      ·exact absurd (AR.2 h) hz
      ·exact h
     refine⟨h0,hi,hxi,by simp only[List.length_append,List.length_singleton];omega,i+1,true,_,⟨by omega,by omega,?_,by simp,fun _=>⟨⟨e,hsi,hc⟩,rfl⟩⟩,by omega,rfl,rfl,ai (by omega) (by omega),rfl,rfl,rfl,rfl,?_,trivial⟩
     ·rw[ht,Cd hgt,Gt k1];simp only[List.length_append,List.length_singleton,List.length_take];omega
     ·rw[ht,Cd hgt,Gt k1]
    ·have hz:fj e.1 (a,n)=0:=by simpa using hz
     have hz:=AR.1 hz
     refine⟨i+1,true,_,⟨by omega,by omega,?_,by simp,fun _=>⟨⟨e,hsi,hc⟩,rfl⟩⟩,by omega,rfl,rfl,ai (by omega) (by omega),rfl,rfl,rfl,rfl,?_,trivial⟩
     ·rw[ht,M7 k1 hz];simp only[List.length_append,List.length_singleton,List.length_take];omega
     ·rw[ht,M7 k1 hz]
   ·have hc:¬ (¬ aW e.1 (a,n)/\dn=false):=by rw[← Gm];simpa[Bool.cond_eq_ite] using hc
    cases dn with
    | false =>
     have hc:aW e.1 (a,n):=Classical.byContradiction fun h=>hc ⟨h,rfl⟩
     obtain⟨k1,rfl⟩:=h3 rfl
     have hz:¬ fj e.1 (a,n)=0:=by have:=wQ.2 hc;omega
     rw[decide_eq_false hz]
     refine⟨h0,hi,hxi,by simp only[List.length_singleton];omega,i+1,false,_,⟨by omega,by omega,?_,fun _=>⟨?_,rfl⟩,by simp⟩,by omega,rfl,rfl,ai (by omega) (by omega),rfl,rfl,rfl,rfl,ht.symm,trivial⟩
     ·simp only[List.length_take];omega
     ·rw[ht];intro z hz
      rcases List.mem_append.1 hz with hz|hz
      ·exact k1 z hz
      ·rw[List.mem_singleton.1 hz];exact hc
    | true =>
     obtain⟨⟨z,z1,z2⟩,rfl⟩:=h4 rfl
     have hgt:=hlater z z1 z2
     have hz:¬ fj e.1 (a,n)=0:=fun h=>by have h:=AR.1 h;rw[h] at hgt;exact m4 _ hgt
     rw[decide_eq_false hz]
     have hp:=Cd (m:=l.take i.toNat) (r:=((a,n),nx,b)) hgt
     refine⟨h0,hi,hxi,by simp only[List.length_singleton];omega,i+1,true,_,⟨by omega,by omega,?_,by simp,fun _=>⟨⟨z,hlt z z1,z2⟩,rfl⟩⟩,by omega,rfl,rfl,ai (by omega) (by omega),rfl,rfl,rfl,rfl,?_,trivial⟩
     ·rw[ht,hp,List.length_append,List.length_singleton];omega
     ·rw[ht,hp]
  ·have hi:=of_decide_eq_false hi
   rw[List.take_of_length_le (by omega)] at h3 h4
   refine ae (fun hd=>?_) (fun hd=>?_)
   ·obtain⟨k1,rfl⟩:=h3 (by simpa using hd)
    exact⟨hn,by simp only[List.length_singleton];omega,(Gt k1).symm⟩
   ·exact (h4 (by simpa using hd)).2
theorem QL:ax Tryz.prog GL 173 Ph.spec:=Ct.okH _ Tryz.func173 (by kernel_rfl) (ah (ah aD NC) VX) av Vf (aC (by kernel_rfl) UT)
theorem Hz{m:List Rt}{p:cO}{e:Rt}:gD (m++[e]) p=gD m p++(if e.1=p then [] else [e]):=by
 rw[gD,gD,List.filter_append,List.filter_cons,List.filter_nil]
 by_cases h:e.1=p <;> simp[h]
theorem Lo(m:List Rt)(p:cO):(gD m p).length<=m.length:=List.length_filter_le _ _
def JC:Ct:=⟨[.val (.sl cG),.agg kr],[.own 97 cG],fun d=>[okL d.1],fun d=>((gD d.1 d.2.1,()),())⟩
def ag6:ar JC.ps->az:=(fun d=>{loops:=(fun n=>match n with|3=>some (fun S=>{ι:=Int×(List Rt),qn:=⟨fun k_=>∀(i:Int)(ys:(List Rt)),k_ (i,ys),fun k_ h_ i=>h_ i.1 i.2,fun k_=>∃ (i:Int) (ys:(List Rt)),k_ (i,ys),fun k_ ⟨i,ys,h_⟩=>⟨_,h_⟩⟩,μ:=fun i=>(d.1.length-i.1).toNat,inv:=fun i=>0<=i.1/\i.1<=d.1.length/\i.2=gD (d.1.take i.1.toNat) d.2.1,keep:=[0,3],slots:=fun i=>[(5,.own 524288 4),(6,.int .i64 i.1)],keepN:=[64],names:=fun i=>[(524288,.live (.row 97 cG i.2))]})|_=>none)})
theorem Wm :
 ∀(a:List aF)(b c:Int),(qc a)/\((0<=b/\b<=4294967295)/\ab c)/\True->(vg a)->(∃(d:Int) (e:List Rt),(0<=d/\d<=(aU a)/\e=gD (List.take d.toNat a) (b,c))/\a=a/\(0:Int)=d/\b=b/\c=c/\e=([]:List aF)/\True)/\ ∀(d:Int)(e:List Rt),0<=d/\d<=(aU a)/\e=gD (List.take d.toNat a) (b,c)->ad (decide (d<(aU a))) (0<=d/\d<(aU a)/\ad (! (decide ((a.getD d.toNat default).1.1=b)&&(decide ((a.getD d.toNat default).1.2=c)&&true))) (0<=d/\d<(aU a)/\((List.length (a.getD d.toNat default).2.1):Int)<=1099511627776/\(e.length+List.length [a.getD d.toNat default])*(48:Nat)<=(m5)/\ ∃(f:Int) (g:List Rt),(0<=f/\f<=(aU a)/\g=gD (List.take f.toNat a) (b,c))/\Int.toNat ((aU a) -f)<Int.toNat ((aU a) -d)/\a=a/\IntKind.wrap .i64 (d+(1:Int))=f/\b=b/\c=c/\e++[a.getD d.toNat default]=g/\True) (∃(f:Int) (g:List Rt),(0<=f/\f<=(aU a)/\g=gD (List.take f.toNat a) (b,c))/\Int.toNat
 ((aU a) -f)<Int.toNat ((aU a) -d)/\a=a/\IntKind.wrap .i64 (d+(1:Int))=f/\b=b/\c=c/\e=g/\True)) (e=gD a (b,c)):=by
  delta aU qc vg m5
  rintro l a n ⟨⟨hl0,-⟩,-⟩⟨hl,hx⟩
  refine⟨⟨0,[],⟨by omega,by omega,by simp[gD]⟩,(by repeat' first|exact trivial|refine⟨trivial,?_⟩|refine⟨(by with_reducible rfl),?_⟩|refine⟨ai (by omega) (by omega),?_⟩|refine⟨rfl,?_⟩)⟩,?_⟩
  rintro i ys ⟨h0,h1,rfl⟩
  refine ae (fun hi=>?_) (fun hi=>?_)
  ·have hi:=of_decide_eq_true hi
   have ht:=JA h0 hi
   have hxi:=hx _ (bL h0 hi)
   have hle:=Lo (l.take i.toNat) (a,n)
   have hle2:(l.take i.toNat).length<=l.length:=by simp only[List.length_take];omega
   generalize l.getD i.toNat default=e at *
   obtain⟨⟨c,f⟩,g⟩:=e
   refine⟨h0,hi,ae (fun hc=>?_) (fun hc=>?_)⟩
   ·have hc:¬ (c,f)=(a,n):=by
     intro h;cases h;simp at hc
    refine⟨h0,hi,hxi,by simp only[List.length_singleton];omega,i+1,_,⟨by omega,by omega,rfl⟩,by omega,rfl,ai (by omega) (by omega),rfl,rfl,?_,trivial⟩
    rw[ht,Hz,if_neg hc]
   ·have hc:(c,f)=(a,n):=by
     simp at hc;rw[hc.1,hc.2]
    refine⟨i+1,_,⟨by omega,by omega,rfl⟩,by omega,rfl,ai (by omega) (by omega),rfl,rfl,?_,trivial⟩
    rw[ht,Hz,if_pos hc,List.append_nil]
  ·have hi:=of_decide_eq_false hi
   rw[List.take_of_length_le (by omega)]
theorem Qd:ax Tryz.prog GL 184 JC.spec:=Ct.okH _ Tryz.func184 (by kernel_rfl) (ah aD NC) av ag6 (aC (by kernel_rfl) Wm)
def l8(l:List Rt)(p:cO):Bool:=decide ((gD l p).length<l.length)
def Jw:Ct:=⟨[.val (.sl cG),.agg kr],[.val .bool],fun d=>[okL d.1],fun d=>((l8 d.1 d.2.1,()),())⟩
def W1:ar Jw.ps->az:=(fun _=>{})
theorem at1 :
 ∀(a:List aF)(b c:Int),(qc a)/\((0<=b/\b<=4294967295)/\ab c)/\True->(vg a)->okL a/\decide (((List.length (gD a (b,c))):Int)<(aU a))=l8 a (b,c):=by
  delta aU qc vg
  rintro l a n-h
  exact⟨h,decide_eq_decide.2 Int.ofNat_lt⟩
theorem Uk:ax Tryz.prog GL 132 Jw.spec:=Ct.okH _ Tryz.func132 (by kernel_rfl) (ah aD Qd) av W1 (aC (by kernel_rfl) at1)
end Go.RS

/- Law09: the laws of forwarding tables. -/
namespace Go.RS
open Go.SX Go.Proofs
set_option maxRecDepth 100000
set_option linter.unusedVariables false
theorem GQ{l:List Rt}{r z:Rt}:z∈dN l r↔z=r∨(z∈l/\z.1≠r.1):=by
 unfold dN
 simp only[List.mem_append,List.mem_cons,List.mem_filter,decide_eq_true_eq]
 constructor
 ·rintro (⟨h,k⟩|h|⟨h,k⟩)
  ·exact .inr ⟨h,fun e=>m4 _ (e▸k)⟩
  ·exact .inl h
  ·exact .inr ⟨h,fun e=>m4 _ (e▸k)⟩
 ·rintro (h|⟨h,k⟩)
  ·exact .inr (.inl h)
  ·by_cases hp:aW z.1 r.1
   ·exact .inl ⟨h,hp⟩
   ·rcases Bh hp with e|e
    ·exact absurd e k
    ·exact .inr (.inr ⟨h,e⟩)
theorem F5{l:List Rt}{r:Rt}(hs:bM l):bM (dN l r):=by
 unfold bM dN
 refine List.pairwise_append.2 ⟨List.Pairwise.filter _ hs,List.pairwise_cons.2 ⟨fun z hz=>?_,List.Pairwise.filter _ hs⟩,fun x hx y hy=>?_⟩
 ·simpa using (List.mem_filter.1 hz).2
 ·have hx:aW x.1 r.1:=by simpa using (List.mem_filter.1 hx).2
  rcases List.mem_cons.1 hy with rfl|hy
  ·exact hx
  ·exact xU hx (by simpa using (List.mem_filter.1 hy).2)
theorem K3(l:List Rt)(r:Rt):(dN l r).length<=l.length+1:=by
 unfold dN
 rw[List.length_append,List.length_cons]
 suffices h:(l.filter (fun a=>decide (aW a.1 r.1))).length+(l.filter (fun a=>decide (aW r.1 a.1))).length<=l.length by omega
 induction l with
 | nil=>simp
 | cons a l ih =>
  simp only[List.filter_cons]
  by_cases h1:aW a.1 r.1
  ·have h2:=tQ h1
   simp only[h1,h2,decide_true,decide_false,if_true,List.length_cons]
   simp;omega
  ·by_cases h2:aW r.1 a.1
   ·simp[h1,h2];omega
   ·simp[h1,h2];omega
theorem ad2(l:List Rt)(p:cO):l8 l p=decide (∃ z∈l,z.1=p):=by
 unfold l8 gD
 apply decide_eq_decide.2
 rw[List.length_filter_lt_length_iff_exists]
 simp
end Go.RS

/- Bucket: buckets and their laws' times. -/
namespace Go.RS
open Go.SX Go.Proofs
set_option maxRecDepth 100000
set_option linter.unusedVariables false
abbrev w(n:Int):Int:=IntKind.i64.wrap n
def yw(b:Int×Int)(at':Int):Int×Int:=(w (b.1*b.2),at')
def pi(b t:Int×Int)(at':Int):Int:=min (w (t.1+w (at'-t.2))) (w (b.1*b.2))
def ix(b t:Int×Int)(at':Int):(Int×Int)×Bool :=
 if b=(0,0) then ((0,max at' t.2),true) else
  if pi b t (max at' t.2)<b.2 then ((pi b t (max at' t.2),max at' t.2),false) else ((w (pi b t (max at' t.2)-b.2),max at' t.2),true)
def Hd:Ct:=⟨[.agg uI],[.val .bool],fun _=>[],fun d=>((decide (d.1=(0,0)),()),())⟩
def Zc:ar Hd.ps->az:=(fun _=>{})
theorem V3 :
 ∀(a b:Int),(ab a/\ab b)/\True->True->(decide (a=0)&&(decide (b=0)&&true))=decide ((a,b)=((0:Int),(0:Int))):=by
  rintro x y - -
  simp
theorem OY:ax Tryz.prog GL 253 Hd.spec:=Ct.okH _ Tryz.func253 (by kernel_rfl) aD av Zc (aC (by kernel_rfl) V3)
def JJ:Ct:=⟨[.agg uI,.agg rT,.val cI],[.val cI],fun _=>[],fun d=>((pi d.1 d.2.1 d.2.2.1,()),())⟩
def YF:ar JJ.ps->az:=(fun _=>{})
theorem Yi :
 ∀(a b c d e:Int),(ab a/\ab b)/\(ab c/\ab d)/\ab e/\True->True->min (IntKind.wrap .i64 (c+IntKind.wrap .i64 (e -d))) (IntKind.wrap .i64 (a*b))=pi (a,b) (c,d) e:=by
  rintro x y a b c - -
  rfl
theorem X7:ax Tryz.prog GL 286 JJ.spec:=Ct.okH _ Tryz.func286 (by kernel_rfl) aD av YF (aC (by kernel_rfl) Yi)
def MJ:Ct:=⟨[.agg uI,.val cI],[.agg rT],fun _=>[],fun d=>((yw d.1 d.2.1,()),())⟩
def ZN:ar MJ.ps->az:=(fun _=>{})
theorem Zj :
 ∀(a b c:Int),(ab a/\ab b)/\ab c/\True->True->(IntKind.wrap .i64 (a*b),c)=(w (a*b),c):=by
  rintro x y a - -
  rfl
theorem ab7:ax Tryz.prog GL 125 MJ.spec:=Ct.okH _ Tryz.func125 (by kernel_rfl) aD av ZN (aC (by kernel_rfl) Zj)
def G1:Ct:=⟨[.agg uI,.agg rT,.val cI],[.agg rT,.val .bool],fun _=>[],fun d=>(((ix d.1 d.2.1 d.2.2.1).1,(ix d.1 d.2.1 d.2.2.1).2,()),())⟩
def Uw:ar G1.ps->az:=(fun _=>{})
theorem at4 :
 ∀(a b c d e:Int),(ab a/\ab b)/\(ab c/\ab d)/\ab e/\True->True->ad (decide ((a,b)=((0:Int),(0:Int)))) (((0:Int),max e d)=(ix (a,b) (c,d) e).1/\true=(ix (a,b) (c,d) e).2) (ad (decide (pi (a,b) (c,d) (max e d)<b)) ((pi (a,b) (c,d) (max e d),max e d)=(ix (a,b) (c,d) e).1/\false=(ix (a,b) (c,d) e).2) ((IntKind.wrap .i64 (pi (a,b) (c,d) (max e d) -b),max e d)=(ix (a,b) (c,d) e).1/\true=(ix (a,b) (c,d) e).2)):=by
  rintro x y a b c - -
  simp only[ix]
  refine ae (fun hb=>?_) (fun hb=>?_)
  ·have hb:=of_decide_eq_true hb
   rw[if_pos hb];exact⟨rfl,rfl⟩
  ·have hb:=of_decide_eq_false hb
   rw[if_neg hb]
   refine ae (fun h=>?_) (fun h=>?_)
   ·rw[if_pos (of_decide_eq_true h)];exact⟨rfl,rfl⟩
   ·rw[if_neg (of_decide_eq_false h)];exact⟨rfl,rfl⟩
theorem LB:ax Tryz.prog GL 274 G1.spec:=Ct.okH _ Tryz.func274 (by kernel_rfl) (ah (ah aD OY) X7) av Uw (aC (by kernel_rfl) at4)
end Go.RS

/- Nodec: the parts and the errors of a node. -/
namespace Go.RS
open Go.SX Go.Proofs
set_option maxRecDepth 100000
set_option linter.unusedVariables false
def gQ(b:Int×Int):Int:=if b=(0,0)∨(1<=b.1/\b.1<=65536/\1<=b.2/\b.2<=1073741824) then 0 else 1
def bv(x:ac):List Int:=(aA x).map (·.2)
def nQ(x:ac):List Int:=(aA x).map (·.1)
def fR(q:Int×Int->Bool)(l:List (Int×Int)):Int:=if l.findIdx q<l.length then (l.findIdx q:Int) else -1
def jb(a:Int)(p:Int×Int):Bool:=decide (p.1=a)
def gI(k:Int)(p:Int×Int):Bool:=decide (p.2=k)
def j4(x:ac)(a:Int):Int:=fR (jb a) (aA x)
def cM(x:ac)(k:Int):Int:=fR (gI k) (aA x)
def jV(x:ac)(a:Int):Bool:=decide (0<=j4 x a)||(!decide (gg x=0)&&decide (gg x=a))
theorem Am{α:Type} [Inhabited α] {l:List α} {k:Int} (h0:0<=k) (h1:k<l.length):l.take (k+1).toNat=l.take k.toNat++[l.getD k.toNat default]:=by
 rw[show (k+1).toNat=k.toNat+1 by omega,List.take_add_one,List.getElem?_eq_getElem (by omega),List.getD_eq_getElem?_getD,List.getElem?_eq_getElem (by omega)];rfl
def G3:Ct:=⟨[.agg uI],[.val cI],fun _=>[],fun d=>((gQ d.1,()),())⟩
def Yd:ar G3.ps->az:=(fun _=>{})
theorem Ul :
 ∀(a b:Int),(ab a/\ab b)/\True->True-> ∀(c:Bool),c= ! decide ((a,b)=((0:Int),(0:Int)))->(c->(c->c)/\True)/\(c->(c->c)/\True)/\(c->(c->c)/\True)/\ ∀(d:Bool),d=decide (a<1)->((c&& ! d)->((c&& ! d)->(c&& ! d))/\True)/\((c&& ! d)->((c&& ! d)->(c&& ! d))/\True)/\(c->(c->c)/\(d=false->(c&& ! d))/\True)/\(c->(c->c)/\True)/\ ∀(e:Bool),(e=bif d then true else decide (65536<a))->((c&& ! e)->((c&& ! e)->(c&& ! e))/\True)/\((c&& ! e)->((c&& ! e)->(c&& ! e))/\True)/\(c->(c->c)/\(e=false->(c&& ! e))/\True)/\(c->(c->c)/\True)/\ ∀(f:Bool),(f=bif e then true else decide (b<1))->((c&& ! f)->((c&& ! f)->(c&& ! f))/\True)/\((c&& ! f)->((c&& ! f)->(c&& ! f))/\True)/\(c->(c->c)/\(f=false->(c&& ! f))/\True)/\(c->c)/\ad (bif c then bif f then true else decide (1073741824<b) else false) ((1:Int)=gQ (a,b)) ((0:Int)=gQ (a,b)):=by
  rintro a b - -
  (repeat (intro (b_:Bool) (hb_:b_=_);(repeat refine⟨(by first|(simp;done)|(rw[hb_];simp;done)|(rw[hb_];simp;omega)|(rw[hb_];simp;intros;omega)|(rw[hb_];simp +contextual;done)),?_⟩);subst hb_))
  unfold gQ
  refine ae (fun h=>?_) (fun h=>?_)
  ·simp at h
   rw[if_neg (by simp;omega)]
  ·simp at h
   rw[if_pos (by simp;omega)]
theorem VV:ax Tryz.prog GL 219 G3.spec:=Ct.okH _ Tryz.func219 (by kernel_rfl) (ah aD OY) av Yd (aC (by kernel_rfl) Ul)
def Io:Ct:=⟨[.val cj],[.val .bool],fun d=>[],fun d=>((decide (fq d.1),()),())⟩
def QD:ar Io.ps->az:=(fun _=>{})
theorem ag1 :
 ∀(a:Int),(0<=a/\a<=4294967295)/\True->True-> ∀(b:Bool),b=decide (fL a=0)->((! b)->((! b)->(! b))/\True)/\(b=false->(! b))/\(bif b then true else decide (fL a=3))=decide (fq a):=by
  rintro a - -
  (repeat (intro (b_:Bool) (hb_:b_=_);(repeat refine⟨(by first|(simp;done)|(rw[hb_];simp;done)|(rw[hb_];simp;omega)|(rw[hb_];simp;intros;omega)|(rw[hb_];simp +contextual;done)),?_⟩);subst hb_))
  rw[Bool.eq_iff_iff,decide_eq_true_iff];simp[fq,Bool.cond_eq_ite]
theorem Wo:ax Tryz.prog GL 217 Io.spec:=Ct.okH _ Tryz.func217 (by kernel_rfl) (ah aD K6) av QD (aC (by kernel_rfl) ag1)
def I8:Ct:=⟨[.agg pz,.box 65 cj],[.val .bool],fun d=>[],fun d=>((jb d.2.1 d.1,()),(d.2.1,()))⟩
def ak1:ar I8.ps->az:=(fun _=>{})
theorem TC :
 ∀(a b c:Int),((0<=a/\a<=4294967295)/\ab b)/\(0<=c/\c<=4294967295)/\True->True->decide (a=c)=jb c (a,b)/\c=c:=by
  rintro a b c - -
  exact⟨rfl,rfl⟩
theorem ad1:ax Tryz.prog GL 206 I8.spec:=Ct.okH _ Tryz.func206 (by kernel_rfl) aD av ak1 (aC (by kernel_rfl) TC)
def Im:Ct:=⟨[.agg pz,.box 3 cI],[.val .bool],fun d=>[],fun d=>((gI d.2.1 d.1,()),(d.2.1,()))⟩
def Y4:ar Im.ps->az:=(fun _=>{})
theorem Q1 :
 ∀(a b c:Int),((0<=a/\a<=4294967295)/\ab b)/\ab c/\True->True->decide (b=c)=gI c (a,b)/\c=c:=by
  rintro a b c - -
  exact⟨rfl,rfl⟩
theorem at9:ax Tryz.prog GL 160 Im.spec:=Ct.okH _ Tryz.func160 (by kernel_rfl) aD av Y4 (aC (by kernel_rfl) Q1)
def HN:Ct:=⟨[.val (.sl pz),.fn 206 1,.box 65 cj],[.val cI],fun d=>[],fun d=>((fR (jb d.2.2.1) d.1,()),(d.2.2.1,()))⟩
def TX:ar HN.ps->az:=(fun d=>{loops:=(fun n=>match n with|2=>some (fun S=>{ι:=Int,μ:=fun i=>(d.1.length-i).toNat,inv:=fun i=>0<=i/\i<=d.1.length∧∀ x∈d.1.take i.toNat,jb d.2.2.1 x=false,keep:=[0,1,6,7],slots:=fun i=>[(8,.int .i64 i)],keepN:=[1048576],names:=fun i=>[]})|_=>none)})
def hY(a:List (Int×Int)) :=
 (a.length:Int)
theorem ak3 :
 ∀(a:List (Int×Int))(b:Int),(a.length<=maxLen/\ ∀(c:Int×Int),c∈a->(0<=c.1/\c.1<=4294967295)/\ab c.2)/\True/\(0<=b/\b<=4294967295)/\True->True->(∃(c:Int),(0<=c/\c<=(hY a)/\ ∀(d:Int×Int),d∈List.take c.toNat a->jb b d=false)/\a=a/\a=a/\(hY a)=(hY a)/\(0:Int)=c/\b=b/\True)/\ ∀(c:Int),(0<=c/\c<=(hY a)/\ ∀(d:Int×Int),d∈List.take c.toNat a->jb b d=false)->ad (decide (c<(hY a))) (0<=c/\c<(hY a)/\ad (jb b (a.getD c.toNat default)) (c=fR (jb b) a/\b=b) (∃(d:Int),(0<=d/\d<=(hY a)/\ ∀(e:Int×Int),e∈List.take d.toNat a->jb b e=false)/\Int.toNat ((hY a) -d)<Int.toNat ((hY a) -c)/\a=a/\a=a/\(hY a)=(hY a)/\IntKind.wrap .i64 (c+(1:Int))=d/\b=b/\True)) ((-1:Int)=fR (jb b) a/\b=b):=by
  delta hY
  rintro l a ⟨⟨hl,-⟩,-⟩ -
  simp only[maxLen] at hl
  refine⟨⟨0,⟨by omega,by omega,by simp⟩,(by repeat' first|exact trivial|refine⟨trivial,?_⟩|refine⟨(by with_reducible rfl),?_⟩|refine⟨ai (by omega) (by omega),?_⟩|refine⟨rfl,?_⟩)⟩,?_⟩
  rintro j ⟨j0,j1,hj⟩
  refine ae (fun hk=>?_) (fun hk=>?_)
  ·have hk:=of_decide_eq_true hk
   refine⟨j0,hk,ae (fun hm=>?_) (fun hm=>?_)⟩
   ·exact⟨yV j0 hk hj hm,rfl⟩
   ·exact⟨j+1,⟨by omega,by omega,rz j0 hk hj hm⟩,by omega,(by repeat' first|exact trivial|refine⟨trivial,?_⟩|refine⟨(by with_reducible rfl),?_⟩|refine⟨ai (by omega) (by omega),?_⟩|refine⟨rfl,?_⟩)⟩
  ·exact⟨DL (of_decide_eq_false hk) hj,rfl⟩
theorem Tu:ax Tryz.prog GL 159 HN.spec:=Ct.okH _ Tryz.func159 (by kernel_rfl) (ah aD ad1) av TX (aC (by kernel_rfl) ak3)
def OE:Ct:=⟨[.val (.sl pz),.fn 160 1,.box 3 cI],[.val cI],fun d=>[],fun d=>((fR (gI d.2.2.1) d.1,()),(d.2.2.1,()))⟩
def Wp:ar OE.ps->az:=(fun d=>{loops:=(fun n=>match n with|2=>some (fun S=>{ι:=Int,μ:=fun i=>(d.1.length-i).toNat,inv:=fun i=>0<=i/\i<=d.1.length∧∀ x∈d.1.take i.toNat,gI d.2.2.1 x=false,keep:=[0,1,6,7],slots:=fun i=>[(8,.int .i64 i)],keepN:=[1048576],names:=fun i=>[]})|_=>none)})
theorem Q4 :
 ∀(a:List (Int×Int))(b:Int),(a.length<=maxLen/\ ∀(c:Int×Int),c∈a->(0<=c.1/\c.1<=4294967295)/\ab c.2)/\True/\ab b/\True->True->(∃(c:Int),(0<=c/\c<=(hY a)/\ ∀(d:Int×Int),d∈List.take c.toNat a->gI b d=false)/\a=a/\a=a/\(hY a)=(hY a)/\(0:Int)=c/\b=b/\True)/\ ∀(c:Int),(0<=c/\c<=(hY a)/\ ∀(d:Int×Int),d∈List.take c.toNat a->gI b d=false)->ad (decide (c<(hY a))) (0<=c/\c<(hY a)/\ad (gI b (a.getD c.toNat default)) (c=fR (gI b) a/\b=b) (∃(d:Int),(0<=d/\d<=(hY a)/\ ∀(e:Int×Int),e∈List.take d.toNat a->gI b e=false)/\Int.toNat ((hY a) -d)<Int.toNat ((hY a) -c)/\a=a/\a=a/\(hY a)=(hY a)/\IntKind.wrap .i64 (c+(1:Int))=d/\b=b/\True)) ((-1:Int)=fR (gI b) a/\b=b):=by
  delta hY
  rintro l a ⟨⟨hl,-⟩,-⟩ -
  simp only[maxLen] at hl
  refine⟨⟨0,⟨by omega,by omega,by simp⟩,(by repeat' first|exact trivial|refine⟨trivial,?_⟩|refine⟨(by with_reducible rfl),?_⟩|refine⟨ai (by omega) (by omega),?_⟩|refine⟨rfl,?_⟩)⟩,?_⟩
  rintro j ⟨j0,j1,hj⟩
  refine ae (fun hk=>?_) (fun hk=>?_)
  ·have hk:=of_decide_eq_true hk
   refine⟨j0,hk,ae (fun hm=>?_) (fun hm=>?_)⟩
   ·exact⟨yV j0 hk hj hm,rfl⟩
   ·exact⟨j+1,⟨by omega,by omega,rz j0 hk hj hm⟩,by omega,(by repeat' first|exact trivial|refine⟨trivial,?_⟩|refine⟨(by with_reducible rfl),?_⟩|refine⟨ai (by omega) (by omega),?_⟩|refine⟨rfl,?_⟩)⟩
  ·exact⟨DL (of_decide_eq_false hk) hj,rfl⟩
theorem V0:ax Tryz.prog GL 159 OE.spec:=Ct.okH _ Tryz.func159 (by kernel_rfl) (ah aD at9) av Wp (aC (by kernel_rfl) Q4)
def Nz:Ct:=⟨[.agg bH,.val cj],[.val cI],fun d=>[],fun d=>((j4 d.1 d.2.1,()),())⟩
def WP:ar Nz.ps->az:=(fun _=>{})
theorem ad7 :
 ∀(a:ac)(b:Int),CT.wf bH a/\(0<=b/\b<=4294967295)/\True->True->fR (jb b) a.1=j4 a b:=by
  rintro d x - -
  rfl
theorem IZ:ax Tryz.prog GL 157 Nz.spec:=Ct.okH _ Tryz.func157 (by kernel_rfl) (ah aD Tu) av WP (aC (by kernel_rfl) ad7)
def Ja:Ct:=⟨[.agg bH,.val cI],[.val cI],fun d=>[],fun d=>((cM d.1 d.2.1,()),())⟩
def W0:ar Ja.ps->az:=(fun _=>{})
theorem PQ :
 ∀(a:ac)(b:Int),CT.wf bH a/\ab b/\True->True->fR (gI b) a.1=cM a b:=by
  rintro d x - -
  rfl
theorem AE:ax Tryz.prog GL 87 Ja.spec:=Ct.okH _ Tryz.func87 (by kernel_rfl) (ah aD V0) av W0 (aC (by kernel_rfl) PQ)
def O5:Ct:=⟨[.agg bH,.val cj],[.val .bool],fun d=>[],fun d=>((jV d.1 d.2.1,()),())⟩
def RZ:ar O5.ps->az:=(fun _=>{})
theorem QW :
 ∀(a:ac)(b:Int),CT.wf bH a/\(0<=b/\b<=4294967295)/\True->True-> ∀(c:Int),c=j4 a b-> ∀(d:Bool),d=decide (0<=c)->((! d)->((! d)->(! d))/\True)/\((! d)->((! d)->(! d))/\True)/\((! d)->((! d)->(! d))/\True)/\ ∀(e:Bool),e= ! decide (a.2.1=0)->((! d&&e)->((! d&&e)->(! d&&e))/\True)/\((! d&&e)->((! d&&e)->(! d&&e))/\((! d&&e)->(! d&&e))/\True)/\((! d)->((! d)->(! d))/\(e->(! d&&e))/\True)/\(d=false->(! d))/\(bif d then true else bif e then decide (a.2.1=b) else false)=jV a b:=by
  rintro d x - - q hq
  unfold jV
  rw[show gg d=d.2.1 from rfl,← hq]
  generalize d.2.1=z
  intro b hb
  refine⟨by simp,by simp,by simp,?_⟩
  intro b1 hb1
  (repeat refine⟨(by cases b <;> cases b1 <;> simp),?_⟩)
  rw[hb,hb1]
  cases decide (0<=q) <;> cases decide (z=0) <;> cases decide (z=x) <;> rfl
theorem YM:ax Tryz.prog GL 82 O5.spec:=Ct.okH _ Tryz.func82 (by kernel_rfl) (ah aD (Ct.named IZ)) av RZ (aC (by kernel_rfl) QW)
def Jb:Ct:=⟨[.agg bH],[.own 3 cI],fun d=>[(aA d.1).length<=100000],fun d=>((bv d.1,()),())⟩
def YU:ar Jb.ps->az:=(fun d=>{loops:=(fun n=>match n with|3=>some (fun S=>{ι:=Int×(List Int),qn:=⟨fun k_=>∀(j:Int)(l:(List Int)),k_ (j,l),fun k_ h_ i=>h_ i.1 i.2,fun k_=>∃ (j:Int) (l:(List Int)),k_ (j,l),fun k_ ⟨j,l,h_⟩=>⟨_,h_⟩⟩,μ:=fun i=>((aA d.1).length-i.1).toNat,inv:=fun i=>0<=i.1/\i.1<=(aA d.1).length/\i.2=(bv d.1).take i.1.toNat,keep:=[1,7,8],slots:=fun i=>[(3,.own 524288 1),(9,.int .i64 i.1)],keepN:=[32],names:=fun i=>[(524288,.live (.row 3 cI i.2))]})|_=>none)})
def vY(a:ac) :=
 ((List.length (aA a)):Int)
theorem Up :
 ∀(a:ac),CT.wf bH a/\True->List.length (aA a)<=(100000:Nat)->(∃(b:Int) (c:List Int),(0<=b/\b<=(vY a)/\c=List.take b.toNat (bv a))/\a.1=a.1/\(a.1.length:Int)=(a.1.length:Int)/\(0:Int)=b/\a.1=a.1/\a.2.1=a.2.1/\a.2.2.1=a.2.2.1/\a.2.2.2.1=a.2.2.2.1/\a.2.2.2.2.1=a.2.2.2.2.1/\a.2.2.2.2.2.1=a.2.2.2.2.2.1/\a.2.2.2.2.2.2.1=a.2.2.2.2.2.2.1/\a.2.2.2.2.2.2.2.1=a.2.2.2.2.2.2.2.1/\a.2.2.2.2.2.2.2.2.1=a.2.2.2.2.2.2.2.2.1/\a.2.2.2.2.2.2.2.2.2.1=a.2.2.2.2.2.2.2.2.2.1/\a.2.2.2.2.2.2.2.2.2.2.1.1=a.2.2.2.2.2.2.2.2.2.2.1.1/\a.2.2.2.2.2.2.2.2.2.2.1.2=a.2.2.2.2.2.2.2.2.2.2.1.2/\a.2.2.2.2.2.2.2.2.2.2.2.1=a.2.2.2.2.2.2.2.2.2.2.2.1/\a.2.2.2.2.2.2.2.2.2.2.2.2.1=a.2.2.2.2.2.2.2.2.2.2.2.2.1/\a.2.2.2.2.2.2.2.2.2.2.2.2.2.1=a.2.2.2.2.2.2.2.2.2.2.2.2.2.1/\a.2.2.2.2.2.2.2.2.2.2.2.2.2.2=a.2.2.2.2.2.2.2.2.2.2.2.2.2.2/\c=([]:List Int)/\True)/\ ∀(b:Int)(c:List Int),0<=b/\b<=(vY a)/\c=List.take b.toNat (bv
 a)->ad (decide (b<(a.1.length:Int))) (0<=b/\b<(a.1.length:Int)/\(c.length+List.length [(List.getD a.1 b.toNat default).2])*(8:Nat)<=(140737488355328:Nat)/\ ∃(d:Int) (e:List Int),(0<=d/\d<=(vY a)/\e=List.take d.toNat (bv a))/\Int.toNat ((vY a) -d)<Int.toNat ((vY a) -b)/\a.1=a.1/\(a.1.length:Int)=(a.1.length:Int)/\IntKind.wrap .i64
 (b+(1:Int))=d/\a.1=a.1/\a.2.1=a.2.1/\a.2.2.1=a.2.2.1/\a.2.2.2.1=a.2.2.2.1/\a.2.2.2.2.1=a.2.2.2.2.1/\a.2.2.2.2.2.1=a.2.2.2.2.2.1/\a.2.2.2.2.2.2.1=a.2.2.2.2.2.2.1/\a.2.2.2.2.2.2.2.1=a.2.2.2.2.2.2.2.1/\a.2.2.2.2.2.2.2.2.1=a.2.2.2.2.2.2.2.2.1/\a.2.2.2.2.2.2.2.2.2.1=a.2.2.2.2.2.2.2.2.2.1/\a.2.2.2.2.2.2.2.2.2.2.1.1=a.2.2.2.2.2.2.2.2.2.2.1.1/\a.2.2.2.2.2.2.2.2.2.2.1.2=a.2.2.2.2.2.2.2.2.2.2.1.2/\a.2.2.2.2.2.2.2.2.2.2.2.1=a.2.2.2.2.2.2.2.2.2.2.2.1/\a.2.2.2.2.2.2.2.2.2.2.2.2.1=a.2.2.2.2.2.2.2.2.2.2.2.2.1/\a.2.2.2.2.2.2.2.2.2.2.2.2.2.1=a.2.2.2.2.2.2.2.2.2.2.2.2.2.1/\a.2.2.2.2.2.2.2.2.2.2.2.2.2.2=a.2.2.2.2.2.2.2.2.2.2.2.2.2.2/\c++[(List.getD a.1 b.toNat default).2]=e/\True) (c=bv a):=by
  delta vY
  rintro d-hl
  have hlen:(bv d).length=(aA d).length:=by simp[bv]
  refine⟨⟨0,[],⟨by omega,by omega,rfl⟩,(by repeat' first|exact trivial|refine⟨trivial,?_⟩|refine⟨(by with_reducible rfl),?_⟩|refine⟨ai (by omega) (by omega),?_⟩|refine⟨rfl,?_⟩)⟩,?_⟩
  rintro j l ⟨j0,j1,rfl⟩
  have hd:d.1=aA d:=rfl
  rw[hd]
  refine ae (fun hk=>?_) (fun hk=>?_)
  ·have hk:=of_decide_eq_true hk
   refine⟨j0,hk,by simp only[List.length_take,List.length_cons,List.length_nil];omega,j+1,_,⟨by omega,by omega,rfl⟩,by omega,?_⟩
   (repeat first|refine⟨trivial,?_⟩|refine⟨(by with_reducible rfl),?_⟩|refine⟨ai (by omega) (by omega),?_⟩)
   refine⟨?_,trivial⟩
   rw[Am j0 (by rw[hlen];exact hk)]
   unfold bv
   rw[List.getD_eq_getElem?_getD,List.getD_eq_getElem?_getD,List.getElem?_map,List.getElem?_eq_getElem (by omega)]
   rfl
  ·have hk:=of_decide_eq_false hk
   rw[List.take_of_length_le (by omega)]
theorem as4:ax Tryz.prog GL 220 Jb.spec:=Ct.okH _ Tryz.func220 (by kernel_rfl) aD av YU (aC (by kernel_rfl) Up)
end Go.RS

/- Nodek: the first error of a node, in the program and in the reference; the reference's parts of a node. -/
namespace Go.RS
open Go.SX Go.Proofs
set_option maxRecDepth 100000
set_option linter.unusedVariables false
def first(f:Nat->Int):Nat->Int
 | 0=>0
 | n+1=>if first f n≠0 then first f n else f n
theorem AU{f:Nat->Int}{i:Int}(h0:0<=i)(h:first f i.toNat=0)(hf:f i.toNat=0):first f (i+1).toNat=0:=by
 rw[show (i+1).toNat=i.toNat+1 by omega,first,if_neg (by simp[h]),hf]
theorem B8{f:Nat->Int}{a:Nat}(h:first f a≠0):∀ k,first f (a+k)=first f a
 | 0=>rfl
 | k+1=>by rw[← Nat.add_assoc,first,if_pos (by rw[B8 h k];exact h),B8 h k]
theorem E4{f:Nat->Int}{i:Int}{n:Nat}(h0:0<=i)(h1:i<n)(h:first f i.toNat=0)(hf:f i.toNat≠0):f i.toNat=first f n:=by
 have e:first f (i.toNat+1)=f i.toNat:=by rw[first,if_neg (by simp[h])]
 have k:=B8 (a:=i.toNat+1) (by rw[e];exact hf) (n-(i.toNat+1))
 rw[show i.toNat+1+(n-(i.toNat+1))=n by omega] at k
 rw[k,e]
theorem rM{f:Nat->Int}:∀{n:Nat},first f n=0→∀ i,i<n->f i=0
 | 0,_,i,hi=>by omega
 | n+1,h,i,hi=>by
  by_cases k:first f n=0
  ·rw[first,if_neg (by simp[k])] at h
   by_cases e:i=n
   ·rw[e];exact h
   ·exact rM k i (by omega)
  ·rw[first,if_pos k] at h;exact absurd h k
theorem Bm{f:Nat->Int}:∀{n:Nat},(∀ i,i<n->f i=0)->first f n=0
 | 0,_=>rfl
 | n+1,h=>by rw[first,if_neg (by rw[Bm fun i hi=>h i (by omega)];simp),h n (by omega)]
def fQ(x:ac)(i:Nat):Int :=
 if ¬ fq ((aA x).getD i default).1∨j4 x ((aA x).getD i default).1<i then 10
 else if ((aA x).getD i default).2<0∨cM x ((aA x).getD i default).2<i then 11 else 0
def lZ(x:ac):Prop:=gg x≠0/\(¬ fq (gg x)∨0<=j4 x (gg x))
instance (x:ac):Decidable (lZ x):=by unfold lZ;infer_instance
def kQ(x:ac):Prop:=NE x<0∨(jQ x<1∨4<jQ x)∨(jQ x=3/\gg x=0)∨(nP x≠0∧¬ fq (nP x))∨(jQ x=4/\nP x=0)∨(gM x<1∨255<gM x)∨(aA x).length=0
instance (x:ac):Decidable (kQ x):=by unfold kQ;infer_instance
def eU(x:ac):Int :=
 if 32<(aA x).length then 5
 else if first (fQ x) (aA x).length≠0 then first (fQ x) (aA x).length
 else if lZ x then 10
 else if kQ x then 13
 else if ir x≠0 then ir x
 else if gQ (iq x)≠0 then gQ (iq x)
 else dF (aQ x) (bv x)
theorem vo{c:Bool}{y n m:Prop}(hy:c=true->y)(hm:c=false->m):ad c (ad c y n) m:=by
 cases c with
 | true=>exact hy rfl
 | false=>exact hm rfl
theorem Pp{x:ac}(h:(aA x).length<=32){i:Int}(h0:0<=i)(h1:i<(aA x).length)(hf:first (fQ x) i.toNat=0)(hb:fQ x i.toNat≠0):fQ x i.toNat=eU x:=by
 have e:=E4 h0 h1 hf hb
 unfold eU
 rw[if_neg (by omega),← e,if_pos hb]
theorem RO{x:ac}(h:(aA x).length<=32)(hf:first (fQ x) (aA x).length=0)(hl:lZ x):10=eU x:=by
 unfold eU
 rw[if_neg (by omega),if_neg (by simp[hf]),if_pos hl]
theorem Ug{x:ac}(h:(aA x).length<=32)(hf:first (fQ x) (aA x).length=0)(hl:¬ lZ x)(hb:kQ x):13=eU x:=by
 unfold eU
 rw[if_neg (by omega),if_neg (by simp[hf]),if_neg hl,if_pos hb]
theorem MI{x:ac}(h:(aA x).length<=32)(hf:first (fQ x) (aA x).length=0)(hl:¬ lZ x)(hb:¬ kQ x):eU x=if ir x≠0 then ir x else if gQ (iq x)≠0 then gQ (iq x) else dF (aQ x) (bv x):=by
 unfold eU
 rw[if_neg (by omega),if_neg (by simp[hf]),if_neg hl,if_neg hb]
theorem ZR{x:ac}{i:Int}(h0:0<=i)(h:¬ fq ((aA x).getD i.toNat default).1∨j4 x ((aA x).getD i.toNat default).1<i):fQ x i.toNat=10:=by
 unfold fQ
 rw[show ((i.toNat:Nat):Int)=i by omega,if_pos h]
theorem YI{x:ac}{i:Int}(h0:0<=i)(h:¬ (¬ fq ((aA x).getD i.toNat default).1∨j4 x ((aA x).getD i.toNat default).1<i))(k:((aA x).getD i.toNat default).2<0∨cM x ((aA x).getD i.toNat default).2<i):fQ x i.toNat=11:=by
 unfold fQ
 rw[show ((i.toNat:Nat):Int)=i by omega,if_neg h,if_pos k]
theorem WV{x:ac}{i:Int}(h0:0<=i)(h:¬ (¬ fq ((aA x).getD i.toNat default).1∨j4 x ((aA x).getD i.toNat default).1<i))(k:¬ (((aA x).getD i.toNat default).2<0∨cM x ((aA x).getD i.toNat default).2<i)):fQ x i.toNat=0:=by
 unfold fQ
 rw[show ((i.toNat:Nat):Int)=i by omega,if_neg h,if_neg k]
def Nq:Ct:=⟨[.agg bH],[.val cI],fun d=>[],fun d=>((eU d.1,()),())⟩
def VZ:ar Nq.ps->az:=(fun d=>{loops:=(fun n=>match n with|4=>some (fun S=>{ι:=Int,μ:=fun i=>((aA d.1).length-i).toNat,inv:=fun i=>0<=i/\i<=(aA d.1).length/\first (fQ d.1) i.toNat=0,keep:=[1,12,13],slots:=fun i=>[(14,.int .i64 i)],keepN:=[32],names:=fun i=>[]})|_=>none),cuts:=(fun n=>match n with|21=>some (fun S=>{ι:=Unit,inv:=fun i=>(aA d.1).length<=32/\first (fQ d.1) (aA d.1).length=0∧¬ lZ d.1∧¬ kQ d.1,keep:=[1],slots:=fun i=>[],keepN:=[32],names:=fun i=>[]})|_=>none),unr:=fun n=>match n with|22=>4|_=>0})
def Ay(a:ac) :=
 a.1=a.1/\a.2.1=a.2.1/\a.2.2.1=a.2.2.1/\a.2.2.2.1=a.2.2.2.1/\a.2.2.2.2.1=a.2.2.2.2.1/\a.2.2.2.2.2.1=a.2.2.2.2.2.1/\a.2.2.2.2.2.2.1=a.2.2.2.2.2.2.1/\a.2.2.2.2.2.2.2.1=a.2.2.2.2.2.2.2.1/\a.2.2.2.2.2.2.2.2.1=a.2.2.2.2.2.2.2.2.1/\a.2.2.2.2.2.2.2.2.2.1=a.2.2.2.2.2.2.2.2.2.1/\a.2.2.2.2.2.2.2.2.2.2.1.1=a.2.2.2.2.2.2.2.2.2.2.1.1/\a.2.2.2.2.2.2.2.2.2.2.1.2=a.2.2.2.2.2.2.2.2.2.2.1.2/\a.2.2.2.2.2.2.2.2.2.2.2.1=a.2.2.2.2.2.2.2.2.2.2.2.1/\a.2.2.2.2.2.2.2.2.2.2.2.2.1=a.2.2.2.2.2.2.2.2.2.2.2.2.1/\a.2.2.2.2.2.2.2.2.2.2.2.2.2.1=a.2.2.2.2.2.2.2.2.2.2.2.2.2.1/\a.2.2.2.2.2.2.2.2.2.2.2.2.2.2=a.2.2.2.2.2.2.2.2.2.2.2.2.2.2/\True
def r7(a:ac) :=
 (List.length (aA a)<=(32:Nat)/\first (fQ a) (List.length (aA a))=0/\ ¬lZ a/\ ¬kQ a)/\(Ay a)
def zm(a:ac) :=
 ((List.length [ir a,gQ a.2.2.2.2.2.2.2.2.2.2.1,dF a.2.2.2.2.1 (bv a)]):Int)
def ym :=
 IntKind.wrap .i64 ((0:Int)+(1:Int))+(1:Int)
def uJ(a:ac) :=
 ((List.length (aA a)):Int)
theorem Wd :
 ∀(a:ac),CT.wf bH a/\True->True->ad (decide (32<(a.1.length:Int))) ((5:Int)=eU a) ((∃(b:Int),(0<=b/\b<=(uJ a)/\first (fQ a) b.toNat=0)/\a.1=a.1/\(a.1.length:Int)=(a.1.length:Int)/\(0:Int)=b/\(Ay a))/\ ∀(b:Int),0<=b/\b<=(uJ a)/\first (fQ a) b.toNat=0->ad (decide (b<(a.1.length:Int))) (0<=b/\b<(a.1.length:Int)/\ ∀(c:Bool),c= ! decide (fq (List.getD a.1 b.toNat default).1)->((! c)->((! c)->(! c))/\True)/\((! c)->((! c)->(! c))/\((! c)->(! c))/\True)/\((! c)->((! c)->(! c))/\((! c)->(! c))/\True)/\(c=false->(! c))/\ad (bif c then true else decide (j4 a (List.getD a.1 b.toNat default).1<b)) ((10:Int)=eU a) (∀(d:Bool),d=decide ((List.getD a.1 b.toNat default).2<0)->((! d)->((! d)->(! d))/\True)/\((! d)->((! d)->(! d))/\((! d)->(! d))/\True)/\((! d)->((! d)->(! d))/\((! d)->(! d))/\True)/\(d=false->(! d))/\ad (bif d then true else decide (cM a (List.getD
 a.1 b.toNat default).2<b)) ((11:Int)=eU a) (∃(e:Int),(0<=e/\e<=(uJ a)/\first (fQ a) e.toNat=0)/\Int.toNat ((uJ a) -e)<Int.toNat ((uJ a) -b)/\a.1=a.1/\(a.1.length:Int)=(a.1.length:Int)/\IntKind.wrap .i64 (b+(1:Int))=e/\(Ay a)))) (∀(c:Bool),c= ! decide (a.2.1=0)->(c->(c->c)/\True)/\(c->(c->c)/\True)/\(c->(c->c)/\True)/\(c->(c->c)/\True)/\ ∀(d:Bool),d= ! decide (fq a.2.1)->((c&& ! d)->((c&& ! d)->(c&& ! d))/\True)/\((c&& ! d)->((c&& ! d)->(c&& ! d))/\((c&& ! d)->(c&& ! d))/\True)/\((c&& ! d)->((c&& ! d)->(c&& ! d))/\True)/\(c->(c->c)/\(d=false->(c&& ! d))/\True)/\(c->c)/\ad (bif c then bif d then true else decide (0<=j4 a a.2.1) else false) ((10:Int)=eU a) (ad (decide (a.2.2.1<0)) (ad (decide (a.2.2.1<0)) ((13:Int)=eU a) (∃(e:Unit),(r7 a))) (∀(e:Bool),e=decide (a.2.2.2.2.2.1<1)->((! e)->((! e)->(! e))/\True)/\((! e)->((! e)->(! e))/\True)/\(e=false->(!
 e))/\ad (bif e then true else decide (4<a.2.2.2.2.2.1)) (ad (bif e then true else decide (4<a.2.2.2.2.2.1)) ((13:Int)=eU a) (∃(f:Unit),(r7 a))) (∀(f:Bool),f=decide (a.2.2.2.2.2.1=3)->(f->(f->f)/\True)/\(f->(f->f)/\True)/\(f->f)/\ad (bif f then decide (a.2.1=0) else false) (ad (bif f then decide (a.2.1=0) else false) ((13:Int)=eU a) (∃(g:Unit),(r7 a))) (∀(g:Bool),g= ! decide (a.2.2.2.2.2.2.1=0)->(g->(g->g)/\True)/\(g->(g->g)/\True)/\(g->(g->g)/\True)/\(g->g)/\ad (bif g then ! decide (fq a.2.2.2.2.2.2.1) else false) (ad (bif g then ! decide (fq a.2.2.2.2.2.2.1) else false) ((13:Int)=eU a) (∃(h:Unit),(r7 a))) (∀(h:Bool),h=decide (a.2.2.2.2.2.1=4)->(h->(h->h)/\True)/\(h->(h->h)/\True)/\(h->h)/\ad (bif h then decide (a.2.2.2.2.2.2.1=0) else false) (ad (bif h then decide (a.2.2.2.2.2.2.1=0) else false) ((13:Int)=eU a) (∃(i:Unit),(r7 a))) (∀(i:Bool),i=decide
 (a.2.2.2.2.2.2.2.2.2.2.2.2.2.1<1)->((! i)->((! i)->(! i))/\True)/\((! i)->((! i)->(! i))/\True)/\(i=false->(! i))/\ad (bif i then true else decide (255<a.2.2.2.2.2.2.2.2.2.2.2.2.2.1)) (ad (bif i then true else decide (255<a.2.2.2.2.2.2.2.2.2.2.2.2.2.1)) ((13:Int)=eU a) (∃(j:Unit),(r7 a))) (ad (decide ((a.1.length:Int)=0)) ((13:Int)=eU a) (∃(j:Unit),(r7 a))))))))/\ ∀(e:Unit),List.length (aA a)<=(32:Nat)/\first (fQ a) (List.length (aA a))=0/\ ¬lZ a/\ ¬kQ a->List.length (aA a)<=(100000:Nat)/\(0:Int)<=0/\0<(zm a)/\ad (! decide (List.getD [ir a,gQ a.2.2.2.2.2.2.2.2.2.2.1,dF a.2.2.2.2.1 (bv a)] (Int.toNat (0:Int)) default=0)) (List.getD [ir a,gQ a.2.2.2.2.2.2.2.2.2.2.1,dF a.2.2.2.2.1 (bv a)] (Int.toNat (0:Int)) default=eU a) (0<=IntKind.wrap .i64 ((0:Int)+(1:Int))/\IntKind.wrap .i64 ((0:Int)+(1:Int))<(zm a)/\ad (!
 decide (List.getD [ir a,gQ a.2.2.2.2.2.2.2.2.2.2.1,dF a.2.2.2.2.1 (bv a)] (Int.toNat (IntKind.wrap .i64 ((0:Int)+(1:Int)))) default=0)) (List.getD [ir a,gQ a.2.2.2.2.2.2.2.2.2.2.1,dF a.2.2.2.2.1 (bv a)] (Int.toNat (IntKind.wrap .i64 ((0:Int)+(1:Int)))) default=eU a) (0<=IntKind.wrap .i64 (ym)/\IntKind.wrap .i64 (ym)<(zm a)/\ad (! decide (List.getD [ir a,gQ a.2.2.2.2.2.2.2.2.2.2.1,dF a.2.2.2.2.1 (bv a)] (Int.toNat (IntKind.wrap .i64 (ym))) default=0)) (List.getD [ir a,gQ a.2.2.2.2.2.2.2.2.2.2.1,dF a.2.2.2.2.1 (bv a)] (Int.toNat (IntKind.wrap .i64 (ym))) default=eU a) ((0:Int)=eU a)))))):=by
  delta Ay r7 zm ym uJ
  rintro d - -
  have hd:d.1=aA d:=rfl
  rw[hd]
  refine ae (fun h=>?_) (fun h=>?_)
  ·unfold eU;rw[if_pos (by have:=of_decide_eq_true h;omega)]
  have h32:(aA d).length<=32:=by have:=of_decide_eq_false h;omega
  clear h
  refine⟨⟨0,⟨by omega,by omega,rfl⟩,(by repeat' first|exact trivial|refine⟨trivial,?_⟩|refine⟨(by with_reducible rfl),?_⟩|refine⟨ai (by omega) (by omega),?_⟩|refine⟨rfl,?_⟩)⟩,?_⟩
  rintro x ⟨x0,x1,hf⟩
  refine ae (fun hx=>?_) (fun hx=>?_)
  ·have hx:=of_decide_eq_true hx
   refine⟨x0,hx,?_⟩
   (repeat (intro (b_:Bool) (hb_:b_=_);(repeat refine⟨(by first|(simp;done)|(rw[hb_];simp;done)|(rw[hb_];simp;omega)|(rw[hb_];simp;intros;omega)|(rw[hb_];simp +contextual;done)),?_⟩);subst hb_))
   refine qp (fun ho=>?_) (fun h1 h2=>?_)
   ·have e:=ZR (x:=d) x0 (ho.imp gC of_decide_eq_true)
    rw[← Pp h32 x0 hx hf (by rw[e];decide),e]
   have hn:¬ (¬ fq ((aA d).getD x.toNat default).1∨j4 d ((aA d).getD x.toNat default).1<x):=by
    rintro (k|k)
    ·exact k (hT h1)
    ·exact of_decide_eq_false h2 k
   (repeat (intro (b_:Bool) (hb_:b_=_);(repeat refine⟨(by first|(simp;done)|(rw[hb_];simp;done)|(rw[hb_];simp;omega)|(rw[hb_];simp;intros;omega)|(rw[hb_];simp +contextual;done)),?_⟩);subst hb_))
   refine qp (fun ho=>?_) (fun h1 h2=>?_)
   ·have e:=YI (x:=d) x0 hn (ho.imp of_decide_eq_true of_decide_eq_true)
    rw[← Pp h32 x0 hx hf (by rw[e];decide),e]
   ·have e:=WV (x:=d) x0 hn (by
     rintro (k|k)
     ·exact of_decide_eq_false h1 k
     ·exact of_decide_eq_false h2 k)
    exact⟨x+1,⟨by omega,by omega,AU x0 hf e⟩,by omega,(by repeat' first|exact trivial|refine⟨trivial,?_⟩|refine⟨(by with_reducible rfl),?_⟩|refine⟨ai (by omega) (by omega),?_⟩|refine⟨rfl,?_⟩)⟩
  have hx:=of_decide_eq_false hx
  rw[show x.toNat=(aA d).length by omega] at hf
  rw[show d.2.1=gg d from rfl]
  intro b hb
  refine⟨by simp,by simp,by simp,by simp,?_⟩
  intro b1 hb1
  (repeat refine⟨(by cases b <;> cases b1 <;> simp),?_⟩)
  have hL:(bif b then bif b1 then true else decide (0<=j4 d (gg d)) else false)=decide (lZ d):=by
   rw[hb,hb1]
   unfold lZ
   by_cases k1:gg d=0 <;> by_cases k2:fq (gg d) <;> by_cases k3:0<=j4 d (gg d) <;> simp[k1,k2,k3]
  rw[hL]
  refine ae (fun h=>RO h32 hf (of_decide_eq_true h)) (fun hl=>?_)
  have hl:=of_decide_eq_false hl
  clear hL hb hb1
  refine⟨?_,?_⟩
  ·have bad:=fun h=>Ug (x:=d) h32 hf hl h
   refine vo (fun h=>bad (.inl (of_decide_eq_true h))) (fun c1=>?_)
   (repeat (intro (b_:Bool) (hb_:b_=_);(repeat refine⟨(by first|(simp;done)|(rw[hb_];simp;done)|(rw[hb_];simp;omega)|(rw[hb_];simp;intros;omega)|(rw[hb_];simp +contextual;done)),?_⟩);subst hb_))
   rw[Ew]
   refine vo (fun h=>bad (.inr (.inl (of_decide_eq_true h)))) (fun c2=>?_)
   (repeat (intro (b_:Bool) (hb_:b_=_);(repeat refine⟨(by first|(simp;done)|(rw[hb_];simp;done)|(rw[hb_];simp;omega)|(rw[hb_];simp;intros;omega)|(rw[hb_];simp +contextual;done)),?_⟩);subst hb_))
   rw[FW]
   refine vo (fun h=>bad (.inr (.inr (.inl (of_decide_eq_true h))))) (fun c3=>?_)
   (repeat (intro (b_:Bool) (hb_:b_=_);(repeat refine⟨(by first|(simp;done)|(rw[hb_];simp;done)|(rw[hb_];simp;omega)|(rw[hb_];simp;intros;omega)|(rw[hb_];simp +contextual;done)),?_⟩);subst hb_))
   rw[YJ]
   refine vo (fun h=>bad (.inr (.inr (.inr (.inl (of_decide_eq_true h)))))) (fun c4=>?_)
   (repeat (intro (b_:Bool) (hb_:b_=_);(repeat refine⟨(by first|(simp;done)|(rw[hb_];simp;done)|(rw[hb_];simp;omega)|(rw[hb_];simp;intros;omega)|(rw[hb_];simp +contextual;done)),?_⟩);subst hb_))
   rw[FW]
   refine vo (fun h=>bad (.inr (.inr (.inr (.inr (.inl (of_decide_eq_true h))))))) (fun c5=>?_)
   (repeat (intro (b_:Bool) (hb_:b_=_);(repeat refine⟨(by first|(simp;done)|(rw[hb_];simp;done)|(rw[hb_];simp;omega)|(rw[hb_];simp;intros;omega)|(rw[hb_];simp +contextual;done)),?_⟩);subst hb_))
   rw[Ew]
   refine vo (fun h=>bad (.inr (.inr (.inr (.inr (.inr (.inl (of_decide_eq_true h)))))))) (fun c6=>?_)
   refine ae (fun h=>bad (.inr (.inr (.inr (.inr (.inr (.inr ?_))))))) (fun c7=>?_)
   ·have:=of_decide_eq_true h;omega
   refine⟨(),⟨h32,hf,hl,?_⟩,(by repeat' first|exact trivial|refine⟨trivial,?_⟩|refine⟨(by with_reducible rfl),?_⟩|refine⟨ai (by omega) (by omega),?_⟩|refine⟨rfl,?_⟩)⟩
   rintro (k|k|k|k|k|k|k)
   ·exact of_decide_eq_false c1 k
   ·exact of_decide_eq_false c2 k
   ·exact of_decide_eq_false c3 k
   ·exact of_decide_eq_false c4 k
   ·exact of_decide_eq_false c5 k
   ·exact of_decide_eq_false c6 k
   ·have:=of_decide_eq_false c7;omega
  rintro-⟨-,-,-,hb⟩
  have e:=MI h32 hf hl hb
  rw[show IntKind.wrap IntKind.i64 (IntKind.wrap IntKind.i64 ((0:Int)+1)+1)=2 by decide,show IntKind.wrap IntKind.i64 ((0:Int)+1)=1 by decide,e]
  refine⟨by omega,by omega,by simp,ae (fun h=>?_) (fun h=>?_)⟩
  ·rw[if_pos (show ir d≠0 from gC h)];rfl
  rw[if_neg (show ¬ ir d≠0 from fun k=>k (hT h))]
  refine⟨by omega,by simp,ae (fun h=>?_) (fun h=>?_)⟩
  ·rw[if_pos (show gQ (iq d)≠0 from gC h)];rfl
  rw[if_neg (show ¬ gQ (iq d)≠0 from fun k=>k (hT h))]
  refine⟨by omega,by simp,ae (fun h=>?_) (fun h=>?_)⟩
  ·rfl
  ·exact (show dF (aQ d) (bv d)=0 from hT h).symm
theorem SY:ax Tryz.prog GL 174 Nq.spec:=Ct.okH _ Tryz.func174 (by kernel_rfl) (ah (ah (ah (ah (ah (ah (ah aD Wo) IZ) AE) TH) VV) OO) as4) av VZ (aC (by kernel_rfl) Wd)
end Go.RS
