/- Fib: forwarding tables. -/
import Derived.Test.YthmcfealplfaaaaGreatDoorReply
import Derived.Test.YthmcfealplfaaaaGreatDoorIdent
namespace Go.RS
open Go.SX Go.Proofs
set_option maxRecDepth 100000
set_option linter.unusedVariables false
abbrev cu:CT := .pair kD (.pair (.sl cI) cI)
abbrev Rt:Type:=cM×List Int×Int
def bc(p q:cM):Prop:=p.1<q.1∨p.1=q.1/\p.2<q.2
instance (p q:cM):Decidable (bc p q):=by unfold bc;infer_instance
theorem O9{a b:Int}(h:a<b):eJ a b = -1:=by unfold eJ;rw[if_pos h]
theorem Jg{a b:Int}(h:b<a):eJ a b=1:=by unfold eJ;rw[if_neg (by omega),if_pos h]
theorem Fe(a:Int):eJ a a=0:=by unfold eJ;simp
theorem CK(p q:cM):(bc p q/\fj p q = -1)∨(p=q/\fj p q=0)∨(bc q p/\fj p q=1):=by
 obtain⟨a,b⟩:=p;obtain⟨c,e⟩:=q
 unfold fj bc
 rcases Int.lt_trichotomy a c with h|rfl|h
 ·left;simp[O9 h,h]
 ·rcases Int.lt_trichotomy b e with h|rfl|h
  ·left;simp[Fe,O9 h,h]
  ·right;left;simp[Fe]
  ·right;right;simp[Fe,Jg h,h]
 ·right;right;simp[Jg h,h]
theorem mS(p:cM):¬ bc p p:=by unfold bc;omega
theorem xQ{p q r:cM}(h:bc p q)(k:bc q r):bc p r:=by unfold bc at *;omega
theorem tM{p q:cM}(h:bc p q):¬ bc q p:=by unfold bc at *;omega
theorem Ba{p q:cM}(h:¬ bc p q):p=q∨bc q p:=by rcases CK p q with⟨k,-⟩|⟨k,-⟩|⟨k,-⟩ <;> simp_all
theorem H6{p q r:cM}(h:¬ bc p q)(k:bc p r):¬ bc r q:=fun e=>h (xQ k e)
theorem xP{p q:cM}:fj p q<0↔bc p q:=by
 rcases CK p q with⟨h,e⟩|⟨rfl,e⟩|⟨h,e⟩ <;> rw[e]
 ·simp[h]
 ·simp[mS]
 ·simp[tM h]
theorem A9{p q:cM}:fj p q=0↔p=q:=by
 rcases CK p q with⟨h,e⟩|⟨h,e⟩|⟨h,e⟩ <;> rw[e]
 ·simp;rintro rfl;exact mS _ h
 ·simp[h]
 ·simp;rintro rfl;exact mS _ h
theorem De{p q:cM}:0<=fj p q↔¬ bc p q:=by rw[← xP];omega
def bM(l:List Rt):Prop:=l.Pairwise fun a b=>bc a.1 b.1
theorem Vg{l:List Rt}{p:cM}{h:Int}(hs:bM l)(h0:0<=h)(h1:h<l.length)(hl:bc (l.getD h.toNat default).1 p):∀ y∈l.take (h+1).toNat,bc y.1 p:=by
 intro y hy
 have hj:h.toNat<l.length:=by omega
 rcases KV h0 h1 hy with hy|rfl
 ·obtain⟨k,hk,rfl⟩:=List.mem_iff_getElem.1 hy
  rw[List.getD_eq_getElem?_getD,List.getElem?_eq_getElem hj,Option.getD_some] at hl
  simp at hk ⊢
  exact xQ (List.pairwise_iff_getElem.1 hs k h.toNat (by omega) hj (by omega)) hl
 ·exact hl
theorem XR{l:List Rt}{p:cM}{h:Int}(hs:bM l)(h0:0<=h)(h1:h<l.length)(hl:¬ bc (l.getD h.toNat default).1 p):∀ y∈l.drop h.toNat,¬ bc y.1 p:=by
 intro y hy
 have hj:h.toNat<l.length:=by omega
 rw[List.getD_eq_getElem?_getD,List.getElem?_eq_getElem hj,Option.getD_some] at hl
 rw[List.drop_eq_getElem_cons hj] at hy
 rcases List.mem_cons.1 hy with rfl|hy
 ·exact hl
 ·have hp:((l.drop h.toNat)).Pairwise fun a b=>bc a.1 b.1:=List.Pairwise.drop hs
  rw[List.drop_eq_getElem_cons hj] at hp
  exact H6 hl (List.rel_of_pairwise_cons hp hy)
def Pp:Ct:=⟨[.val (.sl cI)],[.own 3 cI],fun d=>[(d.1.length:Int)<=1099511627776],fun d=>((d.1,()),())⟩
def as0:ar Pp.ps->ay:=(fun _=>{})
def mI :=
 (140737488355328:Nat)
theorem ak4 :
 ∀(a:List Int),(a.length<=maxLen/\ ∀(b:Int),b∈a->ab b)/\True->(a.length:Int)<=1099511627776-> ∀(b:Bool),(b=true->a.length=(0:Nat))->ad b (([]:List Int)=a) (((0:Nat)+a.length)*(8:Nat)<=(mI)/\a=a):=by
  delta mI
  rintro x ⟨⟨hl,-⟩,-⟩ h b hb
  refine ae (fun h1=>?_) (fun h1=>⟨by simp;omega,by simp⟩)
  have:=hb h1
  exact (List.eq_nil_of_length_eq_zero this).symm
theorem wS:av Tryz.prog GL 94 Pp.spec:=Ct.okH _ Tryz.func94 (by kernel_rfl) aA au as0 (aB (by kernel_rfl) ak4)
def Pj:Ct:=⟨[.agg cu],[.agg cu],fun d=>[(d.1.2.1.length:Int)<=1099511627776],fun d=>((d.1,()),())⟩
def aa2:ar Pj.ps->ay:=(fun _=>{})
def gf(c:List Int) :=
 (c.length:Int)
theorem ax4 :
 ∀(a b:Int)(c:List Int)(d:Int),(((0<=a/\a<=4294967295)/\ab b)/\(c.length<=maxLen/\ ∀(e:Int),e∈c->ab e)/\ab d)/\True->(gf c)<=1099511627776->(gf c)<=1099511627776/\((a,b),c,d)=((a,b),c,d):=by
  delta gf
  rintro a b c e-h
  exact⟨h,rfl⟩
theorem JA:av Tryz.prog GL 153 Pj.spec:=Ct.okH _ Tryz.func153 (by kernel_rfl) (ah aA wS) au aa2 (aB (by kernel_rfl) ax4)
def Hm:Ct:=⟨[.agg cu],[.agg cu],fun d=>[(d.1.2.1.length:Int)<=1099511627776],fun d=>((d.1,()),())⟩
def aj3:ar Hm.ps->ay:=(fun _=>{})
theorem ap4 :
 ∀(a b:Int)(c:List Int)(d:Int),(((0<=a/\a<=4294967295)/\ab b)/\(c.length<=maxLen/\ ∀(e:Int),e∈c->ab e)/\ab d)/\True->(gf c)<=1099511627776->c.length*(8:Nat)<=(mI)/\((a,b),c,d)=((a,b),c,d):=by
  delta gf mI
  rintro a b c e-h
  exact⟨by omega,rfl⟩
theorem Jt:av Tryz.prog GL 113 Hm.spec:=Ct.okH _ Tryz.func113 (by kernel_rfl) aA au aj3 (aB (by kernel_rfl) ap4)
def P3:Ct:=⟨[.agg cu,.agg kD],[.val cI],fun _=>[],fun d=>((fj d.1.1 d.2.1,()),())⟩
def ag9:ar P3.ps->ay:=(fun _=>{})
theorem XM :
 ∀(a b:Int)(c:List Int)(d e f:Int),(((0<=a/\a<=4294967295)/\ab b)/\(c.length<=maxLen/\ ∀(g:Int),g∈c->ab g)/\ab d)/\((0<=e/\e<=4294967295)/\ab f)/\True->True->fj (a,b) (e,f)=fj (a,b) (e,f):=by
  intros;trivial
theorem SI:av Tryz.prog GL 202 P3.spec:=Ct.okH _ Tryz.func202 (by kernel_rfl) (ah aA Pv) au ag9 (aB (by kernel_rfl) XM)
theorem JK{i j:Int}(h0:0<=i)(h1:i<=j)(h2:j<=9223372036854775807):IntKind.wrap IntKind.i64 (cU IntKind.u64 (IntKind.wrap IntKind.u64 (IntKind.wrap IntKind.i64 (i+j))) (1:Int))=(i+j)/2:=by
 have hw:IntKind.wrap IntKind.u64 (IntKind.wrap IntKind.i64 (i+j))=i+j:=by
  rw[IntKind.wrap_i64,IntKind.wrap_u64];omega
 rw[hw]
 have:cU IntKind.u64 (i+j) 1=(i+j)/2:=by
  unfold cU
  rw[Int.fdiv_eq_ediv_of_nonneg _ (by decide)]
  rfl
 rw[this,af (by omega) (by omega)]
theorem Pf(l:List Rt)(p:cM):∃ k:Int,0<=k/\k<=l.length/\(bM l->(∀ z∈l.take k.toNat,bc z.1 p)∧∀ z∈l.drop k.toNat,¬ bc z.1 p):=by
 induction l with
 | nil=>exact⟨0,by simp,by simp,by simp⟩
 | cons a l ih =>
  obtain⟨k,h0,h1,h2⟩:=ih
  by_cases ha:bc a.1 p
  ·refine⟨k+1,by omega,by simp;omega,fun hs=>?_⟩
   obtain⟨q1,q2⟩:=h2 (List.pairwise_cons.1 hs).2
   have e:(k+1).toNat=k.toNat+1:=by omega
   rw[e]
   refine⟨fun z hz=>?_,fun z hz=>q2 z (by simpa using hz)⟩
   rw[List.take_succ_cons] at hz
   rcases List.mem_cons.1 hz with rfl|hz
   ·exact ha
   ·exact q1 z hz
  ·refine⟨0,by omega,by simp only[List.length_cons];omega,fun hs=>⟨by simp,fun z hz=>?_⟩⟩
   rcases List.mem_cons.1 (show z∈a::l from hz) with rfl|hz
   ·exact ha
   ·exact H6 ha ((List.pairwise_cons.1 hs).1 z hz)
def Lq:Cn:=⟨[.val (.sl cu),.agg kD,.fn 202 0],[.val cI,.val .bool],fun _=>[],fun d y=>0<=y.1.1/\y.1.1<=d.1.length/\(bM d.1->(∀ z∈d.1.take y.1.1.toNat,bc z.1 d.2.1)∧∀ z∈d.1.drop y.1.1.toNat,¬ bc z.1 d.2.1)/\y.1.2.1=decide (y.1.1<d.1.length/\(d.1.getD y.1.1.toNat default).1=d.2.1),fun d h=>let ⟨k,h0,h1,h2⟩:=Pf d.1 d.2.1;⟨((k,decide (k<d.1.length/\(d.1.getD k.toNat default).1=d.2.1),()),()),h0,h1,h2,rfl⟩⟩
def as4:ar Lq.ps->ay:=(fun d=>{loops:=(fun n=>match n with|3=>some (fun S=>{ι:=Int×Int,qn:=⟨fun k_=>∀(i:Int)(j:Int),k_ (i,j),fun k_ h_ i=>h_ i.1 i.2,fun k_=>∃ (i:Int) (j:Int),k_ (i,j),fun k_ ⟨i,j,h_⟩=>⟨_,h_⟩⟩,μ:=fun i=>(i.2-i.1).toNat,inv:=fun i=>0<=i.1/\i.1<=i.2/\i.2<=d.1.length/\(bM d.1->(∀ z∈d.1.take i.1.toNat,bc z.1 d.2.1)∧∀ z∈d.1.drop i.2.toNat,¬ bc z.1 d.2.1),keep:=[0,2,4,8],slots:=fun i=>[(9,.int .i64 i.1),(10,.int .i64 i.2)],keepN:=[80],names:=fun i=>[]})|_=>none)})
def aU(a:List aD) :=
 (a.length:Int)
def pO(a:List aD) :=
 a.length<=maxLen/\ ∀(d:aD),d∈a->((0<=d.1.1/\d.1.1<=4294967295)/\ab d.1.2)/\(d.2.1.length<=maxLen/\ ∀(e:Int),e∈d.2.1->ab e)/\ab d.2.2
def vP(d e:Int) :=
 cU IntKind.u64 (IntKind.wrap .u64 (IntKind.wrap .i64 (d+e))) (1:Int)
def EH(a:List aD)(b c f g:Int) :=
 0<=f/\f<=g/\g<=(aU a)/\(bM a->(∀(h:aD),h∈List.take f.toNat a->bc h.1 (b,c))/\ ∀(h:aD),h∈List.drop g.toNat a-> ¬bc h.1 (b,c))
def Fw(a:List aD)(b c d e:Int) :=
 d<=e/\e<=(aU a)/\(bM a->(∀(f:aD),f∈List.take d.toNat a->bc f.1 (b,c))/\ ∀(f:aD),f∈List.drop e.toNat a-> ¬bc f.1 (b,c))
theorem Sb :
 ∀(a:List aD)(b c:Int),(pO a)/\((0<=b/\b<=4294967295)/\ab c)/\True/\True->True->(∃(d:Int) (e:Int),(0<=d/\(Fw a b c d e))/\a=a/\(aU a)=(aU a)/\(0:Int)=d/\(aU a)=e/\b=b/\c=c/\True)/\ ∀(d e:Int),0<=d/\(Fw a b c d e)->ad (decide (d<e)) ((0:Int)<=1/\0<=IntKind.wrap .i64 (vP d e)/\IntKind.wrap .i64 (vP d e)<(aU a)/\ad (decide (fj (a.getD (Int.toNat (IntKind.wrap .i64 (vP d e))) default).1 (b,c)<0)) (∃(f:Int) (g:Int),(EH a b c f g)/\Int.toNat (g -f)<Int.toNat (e -d)/\a=a/\(aU a)=(aU a)/\IntKind.wrap .i64 (IntKind.wrap .i64 (vP d e)+(1:Int))=f/\e=g/\b=b/\c=c/\True) (∃(f:Int) (g:Int),(EH a b c f g)/\Int.toNat (g -f)<Int.toNat (e -d)/\a=a/\(aU a)=(aU a)/\d=f/\IntKind.wrap .i64 (vP d e)=g/\b=b/\c=c/\True)) (∀(f:Bool),f=decide (d<(aU a))->(f->(f->f)/\(f->f)/\0<=d/\d<(aU
 a)/\True)/\(f->(f->f)/\True)/\(f->(f->f)/\(f->f)/\(f->f)/\True)/\(f->(f->f)/\True)/\(f->f)/\0<=d/\d<=(aU a)/\(bM a->(∀(g:aD),g∈List.take d.toNat a->bc g.1 (b,c))/\ ∀(g:aD),g∈List.drop d.toNat a-> ¬bc g.1 (b,c))/\(bif f then decide (fj (a.getD d.toNat default).1 (b,c)=0) else false)=decide (d<(aU a)/\(a.getD d.toNat default).1=(b,c))):=by
  delta aU pO vP EH Fw
  rintro x p q ⟨⟨hl,-⟩,-⟩ -
  simp only[maxLen] at hl
  refine⟨⟨0,x.length,⟨by omega,by omega,by omega,fun _=>by simp⟩,(by repeat' first|exact trivial|refine⟨trivial,?_⟩|refine⟨(by with_reducible rfl),?_⟩|refine⟨af (by omega) (by omega),?_⟩|refine⟨rfl,?_⟩)⟩,?_⟩
  rintro i j ⟨h0,h1,h2,h3⟩
  refine ae (fun hb=>?_) (fun hb=>?_)
  ·have hb:=of_decide_eq_true hb
   rw[JK h0 h1 (by omega)]
   refine⟨by omega,by omega,by omega,ae (fun hc=>?_) (fun hc=>?_)⟩
   ·have hc:=xP.1 (of_decide_eq_true hc)
    rw[af (by omega) (by omega)]
    refine⟨(i+j)/2+1,j,⟨by omega,by omega,h2,fun hs=>⟨Vg hs (by omega) (by omega) hc,(h3 hs).2⟩⟩,by omega,(by repeat' first|exact trivial|refine⟨trivial,?_⟩|refine⟨(by with_reducible rfl),?_⟩|refine⟨af (by omega) (by omega),?_⟩|refine⟨rfl,?_⟩)⟩
   ·have hc:¬ bc _ _:=fun h=>absurd (xP.2 h) (of_decide_eq_false hc)
    refine⟨i,(i+j)/2,⟨h0,by omega,by omega,fun hs=>⟨(h3 hs).1,XR hs (by omega) (by omega) hc⟩⟩,by omega,(by repeat' first|exact trivial|refine⟨trivial,?_⟩|refine⟨(by with_reducible rfl),?_⟩|refine⟨af (by omega) (by omega),?_⟩|refine⟨rfl,?_⟩)⟩
  ·have hb:=of_decide_eq_false hb
   have:i=j:=by omega
   subst this
   (repeat (intro (b_:Bool) (hb_:b_=_);(repeat refine⟨(by first|(simp;done)|(rw[hb_];simp;done)|(rw[hb_];simp;omega)|(rw[hb_];simp;intros;omega)|(rw[hb_];simp +contextual;done)),?_⟩);subst hb_))
   refine⟨h0,h2,h3,?_⟩
   rw[Bool.cond_eq_ite]
   by_cases h:i<x.length <;> simp[h,A9]
theorem VA:av Tryz.prog GL 201 Lq.spec:=Cn.okH _ Tryz.func201 (by kernel_rfl) (ah aA SI) au as4 (aB (by kernel_rfl) Sb)
def PD:Ct:=⟨[.nils,.val cI],[.own 97 cu],fun d=>[0<=d.2.1,d.2.1<=1073741824],fun d=>(([],()),())⟩
def ah8:ar PD.ps->ay:=(fun _=>{})
def yn(a:Int) :=
 a -IntKind.wrap .i64 ((0:Int) -(0:Int))
def Dy(a:Int) :=
 List.replicate (Int.toNat (IntKind.wrap .i64 (yn a))) (((0:Int),(0:Int)),([]:List Int),(0:Int))
theorem Yy :
 ∀(a:Int),True/\ab a/\True->0<=a/\a<=1073741824->ad (decide (a<0)) False (ad (decide (0<IntKind.wrap .i64 (yn a))) ((0:Int)=0/\(0:Int)=0/\0<=IntKind.wrap .i64 (yn a)/\IntKind.wrap .i64 (yn a)*(↑(48:Nat):Int)<=140737488355328/\(0:Int)<=0/\0<=((List.length (Dy a)):Int)/\List.take (Int.toNat (0:Int)) (Dy a)=([]:List aD)) (([]:List aD)=([]:List aD))):=by
  delta yn Dy
  rintro x-⟨h0,h1⟩
  rw[af (n:=(0:Int)-0) (by omega) (by omega),af (by omega) (by omega)]
  refine ae (fun hb=>?_) (fun hb=>ae (fun hb=>?_) (fun hb=>rfl))
  ·have:=of_decide_eq_true hb;omega
  ·refine⟨rfl,rfl,by omega,by omega,by omega,by simp only[List.length_replicate];omega,by simp⟩
theorem ad8:av Tryz.prog GL 250 PD.spec:=Ct.okH _ Tryz.func250 (by kernel_rfl) (Gl aA (d:=25)) au ah8 (aB (by kernel_rfl) Yy)
theorem Nh{α:Type}{l:List (List α)}{j:Int}(h0:0<=j)(h1:j<l.length):(l.take (j+1).toNat).flatten=(l.take j.toNat).flatten++l.getD j.toNat default:=by
 have hj:j.toNat<l.length:=by omega
 have e:(j+1).toNat=j.toNat+1:=by omega
 rw[e,List.take_succ_eq_append_getElem hj,List.flatten_append,List.getD_eq_getElem?_getD,List.getElem?_eq_getElem hj,Option.getD_some]
 simp
theorem Ck{α:Type}(l:List (List α))(k:Nat):(l.take k).flatten.length<=l.flatten.length:=by
 conv=>rhs;rw[← List.take_append_drop k l,List.flatten_append,List.length_append]
 omega
def Im:Ct:=⟨[.val (.sl (.sl cu))],[.own 97 cu],fun d=>[(d.1.flatten.length:Int)<=1073741824],fun d=>((d.1.flatten,()),())⟩
def WI:ar Im.ps->ay:=(fun d=>{loops:=(fun n=>match n with|3=>some (fun S=>{ι:=Int×Int,qn:=⟨fun k_=>∀(j:Int)(s:Int),k_ (j,s),fun k_ h_ i=>h_ i.1 i.2,fun k_=>∃ (j:Int) (s:Int),k_ (j,s),fun k_ ⟨j,s,h_⟩=>⟨_,h_⟩⟩,μ:=fun i=>(d.1.length-i.1).toNat,inv:=fun i=>0<=i.1/\i.1<=d.1.length/\i.2=((d.1.take i.1.toNat).flatten.length:Int),keep:=[0,9,10],slots:=fun i=>[(3,.int .i64 i.2),(11,.int .i64 i.1)],names:=fun i=>[]})|11=>some (fun S=>{ι:=Int×(List Rt),qn:=⟨fun k_=>∀(j:Int)(ys:(List Rt)),k_ (j,ys),fun k_ h_ i=>h_ i.1 i.2,fun k_=>∃ (j:Int) (ys:(List Rt)),k_ (j,ys),fun k_ ⟨j,ys,h_⟩=>⟨_,h_⟩⟩,μ:=fun i=>(d.1.length-i.1).toNat,inv:=fun i=>0<=i.1/\i.1<=d.1.length/\i.2=(d.1.take i.1.toNat).flatten,keep:=[25,26],slots:=fun i=>[(6,.own 524288 4),(27,.int .i64 i.1)],names:=fun i=>[(524288,.live (.row 97 cu i.2))]})|_=>none)})
def qI(c:aD) :=
 ((0<=c.1.1/\c.1.1<=4294967295)/\ab c.1.2)/\(c.2.1.length<=maxLen/\ ∀(d:Int),d∈c.2.1->ab d)/\ab c.2.2
def ir(a:List (List aD)) :=
 (a.length:Int)
theorem aa7 :
 ∀(a:List (List aD)),(a.length<=maxLen/\ ∀(b:List aD),b∈a->b.length<=maxLen/\ ∀(c:aD),c∈b->(qI c))/\True->((List.length (List.flatten a)):Int)<=1073741824->(∃(b:Int) (c:Int),(0<=b/\b<=(ir a)/\c=((List.length (List.flatten (List.take b.toNat a))):Int))/\a=a/\(0:Int)=c/\a=a/\(ir a)=(ir a)/\(0:Int)=b/\True)/\ ∀(b c:Int),0<=b/\b<=(ir a)/\c=((List.length (List.flatten (List.take b.toNat a))):Int)->ad (decide (b<(ir a))) (0<=b/\b<(ir a)/\ad (decide (IntKind.wrap .i64 (c+((List.length (a.getD b.toNat default)):Int))<0)) False (∃(d:Int) (e:Int),(0<=d/\d<=(ir a)/\e=((List.length (List.flatten (List.take d.toNat a))):Int))/\Int.toNat ((ir a) -d)<Int.toNat ((ir a) -b)/\a=a/\IntKind.wrap .i64 (c+((List.length (a.getD b.toNat default)):Int))=e/\a=a/\(ir a)=(ir a)/\IntKind.wrap .i64 (b+(1:Int))=d/\True)) (0<=c/\c<=1073741824/\(∃(d:Int) (e:List
 Rt),(0<=d/\d<=(ir a)/\e=List.flatten (List.take d.toNat a))/\a=a/\(ir a)=(ir a)/\(0:Int)=d/\([]:List aD)=e/\True)/\ ∀(d:Int)(e:List Rt),0<=d/\d<=(ir a)/\e=List.flatten (List.take d.toNat a)->ad (decide (d<(ir a))) (0<=d/\d<(ir a)/\(e.length+List.length (a.getD d.toNat default))*(48:Nat)<=(mI)/\ ∃(f:Int) (g:List Rt),(0<=f/\f<=(ir a)/\g=List.flatten (List.take f.toNat a))/\Int.toNat ((ir a) -f)<Int.toNat ((ir a) -d)/\a=a/\(ir a)=(ir a)/\IntKind.wrap .i64 (d+(1:Int))=f/\e++a.getD d.toNat default=g/\True) (e=List.flatten a)):=by
  delta qI ir mI
  rintro x ⟨⟨hl,-⟩,-⟩ ht
  simp only[maxLen] at hl
  refine⟨⟨0,0,⟨by omega,by omega,by simp⟩,(by repeat' first|exact trivial|refine⟨trivial,?_⟩|refine⟨(by with_reducible rfl),?_⟩|refine⟨af (by omega) (by omega),?_⟩|refine⟨rfl,?_⟩)⟩,?_⟩
  rintro j s ⟨h0,h1,h2⟩
  have hle:=Ck x j.toNat
  refine ae (fun hb=>?_) (fun hb=>?_)
  ·have hb:=of_decide_eq_true hb
   have e:=Nh h0 hb
   have hle2:=Ck x (j+1).toNat
   have el:((x.take (j+1).toNat).flatten.length:Int)=s+(x.getD j.toNat default).length:=by rw[e,List.length_append];omega
   rw[af (n:=s+_) (by omega) (by omega)]
   refine⟨h0,hb,ae (fun hc=>?_) (fun hc=>?_)⟩
   ·have:=of_decide_eq_true hc;omega
   ·exact⟨j+1,_,⟨by omega,by omega,el.symm⟩,by omega,(by repeat' first|exact trivial|refine⟨trivial,?_⟩|refine⟨(by with_reducible rfl),?_⟩|refine⟨af (by omega) (by omega),?_⟩|refine⟨rfl,?_⟩)⟩
  ·refine⟨by omega,by omega,⟨0,[],⟨by omega,by omega,by simp⟩,(by repeat' first|exact trivial|refine⟨trivial,?_⟩|refine⟨(by with_reducible rfl),?_⟩|refine⟨af (by omega) (by omega),?_⟩|refine⟨rfl,?_⟩)⟩,?_⟩
   rintro k ys ⟨k0,k1,rfl⟩
   refine ae (fun hb=>?_) (fun hb=>?_)
   ·have hb:=of_decide_eq_true hb
    have e:=Nh k0 hb
    have hle2:=Ck x (k+1).toNat
    refine⟨k0,hb,?_,k+1,_,⟨by omega,by omega,e.symm⟩,by omega,(by repeat' first|exact trivial|refine⟨trivial,?_⟩|refine⟨(by with_reducible rfl),?_⟩|refine⟨af (by omega) (by omega),?_⟩|refine⟨rfl,?_⟩)⟩
    rw[← List.length_append,← e];omega
   ·have hb:=of_decide_eq_false hb
    rw[List.take_of_length_le (by omega)]
theorem aj2:av Tryz.prog GL 215 Im.spec:=Ct.okH _ Tryz.func215 (by kernel_rfl) (ah aA ad8) au WI (aB (by kernel_rfl) aa7)
theorem pk{α:Type} [Inhabited α] {l:List α} {j:Int} (h0:0<=j) (h1:j<l.length):l.set j.toNat (l.getD j.toNat default)=l:=by
 have hj:j.toNat<l.length:=by omega
 rw[List.getD_eq_getElem?_getD,List.getElem?_eq_getElem hj,Option.getD_some,List.set_getElem_self]
def LN:Ct:=⟨[.val (.sl cu),.val cI,.val cI,.val (.sl cu)],[.own 97 cu],fun d=>[0<=d.2.1,d.2.1<=d.1.length,0<=d.2.2.1,d.2.2.1<=d.1.length,(d.1.length:Int)<=134217728,(d.2.2.2.1.length:Int)<=134217728,∀ y∈d.1,(y.2.1.length:Int)<=1099511627776,∀ y∈d.2.2.2.1,(y.2.1.length:Int)<=1099511627776],fun d=>((d.1.take d.2.1.toNat++(d.2.2.2.1++d.1.drop d.2.2.1.toNat),()),())⟩
def Yf:ar LN.ps->ay:=(fun d=>{loops:=(fun n=>match n with|3=>some (fun S=>{ι:=Int,μ:=fun i=>(((d.1.take d.2.1.toNat++(d.2.2.2.1++d.1.drop d.2.2.1.toNat)).length:Int)-i).toNat,inv:=fun i=>0<=i/\i<=((d.1.take d.2.1.toNat++(d.2.2.2.1++d.1.drop d.2.2.1.toNat)).length:Int),keep:=[9,20,21],slots:=fun i=>[(22,.int .i64 i)],keepN:=[320],names:=fun i=>[]})|_=>none)})
def xV(a:List aD)(b c:Int)(d:List aD) :=
 List.flatten [ce a (Int.toNat (0:Int)) b.toNat,d,ce a c.toNat (Int.toNat (aU a))]
def wQ(a:List aD)(b c:Int)(d:List aD) :=
 ((List.length (List.take b.toNat a++(d++List.drop c.toNat a))):Int)
def rq(a:List aD)(b c:Int)(d:List aD) :=
 ((List.length (xV a b c d)):Int)
def Cy(e:aD) :=
 ((0<=e.1.1/\e.1.1<=4294967295)/\ab e.1.2)/\(e.2.1.length<=maxLen/\ ∀(f:Int),f∈e.2.1->ab f)/\ab e.2.2
theorem X9 :
 ∀(a:List aD)(b c:Int)(d:List aD),(a.length<=maxLen/\ ∀(e:aD),e∈a->(Cy e))/\ab b/\ab c/\(d.length<=maxLen/\ ∀(e:aD),e∈d->(Cy e))/\True->(0<=b/\b<=(aU a)/\0<=c/\c<=(aU a)/\(aU a)<=134217728/\(d.length:Int)<=134217728/\(∀(e:aD),e∈a->(e.2.1.length:Int)<=1099511627776)/\ ∀(e:aD),e∈d->(e.2.1.length:Int)<=1099511627776)->(0:Int)<=0/\0<=b/\b<=(aU a)/\0<=c/\c<=(aU a)/\(aU a)<=(aU a)/\(rq a b c d)<=1073741824/\(∃(e:Int),(0<=e/\e<=(wQ a b c d))/\(rq a b c d)=(rq a b c d)/\(0:Int)=e/\List.flatten [ce a (Int.toNat (0:Int)) b.toNat,d,ce a c.toNat (Int.toNat (aU a))]=List.flatten [ce a (Int.toNat (0:Int)) b.toNat,d,ce a c.toNat (Int.toNat (aU a))]/\True)/\ ∀(e:Int),0<=e/\e<=(wQ a b c d)->ad (decide (e<(rq a b c d))) (0<=e/\e<(rq a b c d)/\((List.length (List.getD (xV a b c d) e.toNat
 default).2.1):Int)<=1099511627776/\0<=e/\e<(rq a b c d)/\ ∃(f:Int),(0<=f/\f<=(wQ a b c d))/\Int.toNat ((wQ a b c d) -f)<Int.toNat ((wQ a b c d) -e)/\(rq a b c d)=(rq a b c d)/\IntKind.wrap .i64 (e+(1:Int))=f/\List.set (xV a b c d) e.toNat (List.getD (xV a b c d) e.toNat default)=List.flatten [ce a (Int.toNat (0:Int)) b.toNat,d,ce a c.toNat (Int.toNat (aU a))]/\True) (List.flatten [ce a (Int.toNat (0:Int)) b.toNat,d,ce a c.toNat (Int.toNat (aU a))]=List.take b.toNat a++(d++List.drop c.toNat a)):=by
  delta xV aU wQ rq Cy
  rintro l a b m-⟨h0,h1,h2,h3,h4,h5,h6,h7⟩
  have e:List.flatten [ce l (Int.toNat (0:Int)) (Int.toNat a),m,ce l (Int.toNat b) (Int.toNat (l.length:Int))]=l.take a.toNat++(m++l.drop b.toNat):=by
   simp[ce]
  rw[e]
  have hall:∀ y∈l.take a.toNat++(m++l.drop b.toNat),(y.2.1.length:Int)<=1099511627776:=by
   intro y hy
   simp only[List.mem_append] at hy
   rcases hy with hy|hy|hy
   ·exact h6 y (List.mem_of_mem_take hy)
   ·exact h7 y hy
   ·exact h6 y (List.mem_of_mem_drop hy)
  have hlen:(l.take a.toNat++(m++l.drop b.toNat)).length<=l.length+(m.length+l.length):=by
   simp only[List.length_append,List.length_take,List.length_drop];omega
  generalize l.take a.toNat++(m++l.drop b.toNat)=o at hall hlen ⊢
  refine⟨by omega,h0,h1,h2,h3,by omega,by omega,⟨0,⟨by omega,by omega⟩,(by repeat' first|exact trivial|refine⟨trivial,?_⟩|refine⟨(by with_reducible rfl),?_⟩|refine⟨af (by omega) (by omega),?_⟩|refine⟨rfl,?_⟩)⟩,?_⟩
  rintro j ⟨j0,j1⟩
  refine ae (fun hb=>?_) (fun hb=>rfl)
  have hb:=of_decide_eq_true hb
  refine⟨j0,hb,hall _ (bL j0 hb),j0,hb,j+1,⟨by omega,by omega⟩,by omega,rfl,af (by omega) (by omega),pk j0 hb,trivial⟩
theorem Ma:av Tryz.prog GL 169 LN.spec:=Ct.okH _ Tryz.func169 (by kernel_rfl) (ah (ah aA aj2) JA) au Yf (aB (by kernel_rfl) X9)
def JN:Cn:=⟨[.val (.sl cu),.agg kD],[.val cI,.val .bool],fun _=>[],fun d y=>0<=y.1.1/\y.1.1<=d.1.length/\(bM d.1->(∀ z∈d.1.take y.1.1.toNat,bc z.1 d.2.1)∧∀ z∈d.1.drop y.1.1.toNat,¬ bc z.1 d.2.1)/\y.1.2.1=decide (y.1.1<d.1.length/\(d.1.getD y.1.1.toNat default).1=d.2.1),fun d h=>let ⟨k,h0,h1,h2⟩:=Pf d.1 d.2.1;⟨((k,decide (k<d.1.length/\(d.1.getD k.toNat default).1=d.2.1),()),()),h0,h1,h2,rfl⟩⟩
def RP:ar JN.ps->ay:=(fun _=>{})
def xd(a:List aD)(b c d:Int)(e:Bool) :=
 d<=(aU a)/\(bM a->(∀(f:aD),f∈List.take d.toNat a->bc f.1 (b,c))/\ ∀(f:aD),f∈List.drop d.toNat a-> ¬bc f.1 (b,c))/\e=decide (d<(aU a)/\(a.getD d.toNat default).1=(b,c))
theorem Vb :
 ∀(a:List aD)(b c:Int),(pO a)/\((0<=b/\b<=4294967295)/\ab c)/\True->True-> ∀(d:Int)(e:Bool),0<=d/\(xd a b c d e)->0<=d/\(xd a b c d e):=by
  delta aU pO xd
  rintro l p q - - i b h
  exact h
theorem Ec:av Tryz.prog GL 151 JN.spec:=Cn.okH _ Tryz.func151 (by kernel_rfl) (ah aA VA) au RP (aB (by kernel_rfl) Vb)
def dP(l:List Rt)(r:Rt):List Rt:=l.filter (fun a=>decide (bc a.1 r.1))++r::l.filter (fun a=>decide (bc r.1 a.1))
def gI(l:List Rt)(p:cM):List Rt:=l.filter (fun a=>decide (a.1≠p))
def okL(l:List Rt):Prop:=(l.length:Int)<=134217728∧∀ y∈l,(y.2.1.length:Int)<=1099511627776
def sK(a:Int)(b:Option Rt)(r:Rt):Option Rt:=if cX r.1 a then match b with|none=>some r|some q=>if q.1.2<r.1.2 then some r else some q else b
def kv(l:List Rt)(a:Int):Option Rt:=l.foldl (sK a) none
def bh(l:List Rt)(a:Int):Rt:=match kv l a with|none=>((0,0),[],0)|some r=>r
def mO(l:List Rt)(a:Int):Bool:=(kv l a).isSome
theorem PW{l:List Rt}{p:cM}{k:Nat}(h1:∀ z∈l.take k,bc z.1 p)(h2:∀ z∈l.drop k,¬ bc z.1 p):l.take k=l.filter (fun a=>decide (bc a.1 p)):=by
 conv=>rhs;rw[← List.take_append_drop k l]
 rw[List.filter_append,List.filter_eq_self.2 (by simpa using h1),List.filter_eq_nil_iff.2 (by simpa using h2),List.append_nil]
theorem PS{l:List Rt}{i:Int}(h0:0<=i)(h1:i<l.length):l=l.take i.toNat++l.getD i.toNat default::l.drop (i+1).toNat:=by
 have hj:i.toNat<l.length:=by omega
 rw[List.getD_eq_getElem?_getD,List.getElem?_eq_getElem hj,Option.getD_some,show (i+1).toNat=i.toNat+1 from by omega,← List.drop_eq_getElem_cons hj,List.take_append_drop]
theorem Mx{l:List Rt}{p:cM}{i:Int}(hs:bM l)(h0:0<=i)(hl:i<l.length)(h1:∀ z∈l.take i.toNat,bc z.1 p)(he:(l.getD i.toNat default).1=p):l.drop (i+1).toNat=l.filter (fun a=>decide (bc p a.1))/\l.take i.toNat++l.drop (i+1).toNat=gI l p:=by
 have hsp:=PS h0 hl
 have hp:(l.getD i.toNat default::l.drop (i+1).toNat).Pairwise fun a b=>bc a.1 b.1:=by
  have:=hs;unfold bM at this;rw[hsp] at this;exact (List.pairwise_append.1 this).2.1
 have h3:∀ z∈l.drop (i+1).toNat,bc p z.1:=fun z hz=>by rw[← he];exact (List.pairwise_cons.1 hp).1 z hz
 generalize l.getD i.toNat default=r at *
 generalize l.take i.toNat=A at *
 generalize l.drop (i+1).toNat=B at *
 subst hsp
 subst he
 constructor
 ·rw[List.filter_append,List.filter_cons,if_neg (by simp[mS]),List.filter_eq_nil_iff.2 (by simpa using fun z hz=>tM (h1 z hz)),List.nil_append,List.filter_eq_self.2 (by simpa using h3)]
 ·rw[gI,List.filter_append,List.filter_cons,if_neg (by simp),List.filter_eq_self.2 (fun z hz=>decide_eq_true (fun (e:z.1=r.1)=>mS _ (e▸h1 z hz))),List.filter_eq_self.2 (fun z hz=>decide_eq_true (fun (e:z.1=r.1)=>mS _ (e▸h3 z hz)))]
theorem Oa{l:List Rt}{p:cM}{i:Int}(hs:bM l)(h0:0<=i)(h1:∀ z∈l.take i.toNat,bc z.1 p)(h2:∀ z∈l.drop i.toNat,¬ bc z.1 p)(he:¬ (i<l.length/\(l.getD i.toNat default).1=p)):l.drop i.toNat=l.filter (fun a=>decide (bc p a.1))/\l=gI l p:=by
 have h3:∀ z∈l.drop i.toNat,bc p z.1:=by
  intro z hz
  rcases Ba (h2 z hz) with e|h
  ·exfalso
   by_cases hl:i<l.length
   ·have hj:i.toNat<l.length:=by omega
    have hne:(l.getD i.toNat default).1≠p:=fun e=>he ⟨hl,e⟩
    rw[List.getD_eq_getElem?_getD,List.getElem?_eq_getElem hj,Option.getD_some] at hne
    have hp:(l.drop i.toNat).Pairwise fun a b=>bc a.1 b.1:=List.Pairwise.drop hs
    rw[List.drop_eq_getElem_cons hj] at hz hp h2
    rcases List.mem_cons.1 hz with rfl|hz
    ·exact hne e
    ·exact h2 _ (List.mem_cons_self) (e▸(List.pairwise_cons.1 hp).1 z hz)
   ·rw[List.drop_eq_nil_of_le (by omega)] at hz;simp at hz
  ·exact h
 have hsp:=List.take_append_drop i.toNat l
 constructor
 ·conv=>rhs;rw[← hsp]
  rw[List.filter_append,List.filter_eq_nil_iff.2 (by simpa using fun z hz=>tM (h1 z hz)),List.nil_append,List.filter_eq_self.2 (by simpa using h3)]
 ·symm
  apply List.filter_eq_self.2
  intro z hz
  rw[← hsp] at hz
  apply decide_eq_true
  rcases List.mem_append.1 hz with hz|hz
  ·exact fun e=>mS _ (e▸h1 z hz)
  ·exact fun e=>mS _ (e▸h3 z hz)
def Hb:Ct:=⟨[.val (.sl cu),.agg cu],[.own 97 cu],fun d=>[bM d.1,okL d.1,(d.2.1.2.1.length:Int)<=1099511627776],fun d=>((dP d.1 d.2.1,()),())⟩
def Xq:ar Hb.ps->ay:=(fun _=>{})
def AZ(a:List aD) :=
 a.length<=maxLen/\ ∀(f:aD),f∈a->((0<=f.1.1/\f.1.1<=4294967295)/\ab f.1.2)/\(f.2.1.length<=maxLen/\ ∀(g:Int),g∈f.2.1->ab g)/\ab f.2.2
theorem UU :
 ∀(a:List aD)(b c:Int)(d:List Int)(e:Int),(AZ a)/\(((0<=b/\b<=4294967295)/\ab c)/\(d.length<=maxLen/\ ∀(f:Int),f∈d->ab f)/\ab e)/\True->bM a/\okL a/\(d.length:Int)<=1099511627776-> ∀(f:Int)(g:Bool),0<=f/\f<=(aU a)/\(bM a->(∀(h:aD),h∈List.take f.toNat a->bc h.1 (b,c))/\ ∀(h:aD),h∈List.drop f.toNat a-> ¬bc h.1 (b,c))/\g=decide (f<(aU a)/\(a.getD f.toNat default).1=(b,c))->ad g (0<=f/\f<=(aU a)/\0<=IntKind.wrap .i64 (f+(1:Int))/\IntKind.wrap .i64 (f+(1:Int))<=(aU a)/\(aU a)<=134217728/\((List.length [((b,c),d,e)]):Int)<=134217728/\(∀(h:aD),h∈a->(h.2.1.length:Int)<=1099511627776)/\(∀(h:aD),h∈[((b,c),d,e)]->(h.2.1.length:Int)<=1099511627776)/\List.take f.toNat a++([((b,c),d,e)]++List.drop (Int.toNat (IntKind.wrap .i64 (f+(1:Int)))) a)=dP a ((b,c),d,e)) (0<=f/\f<=(aU a)/\0<=f/\f<=(aU a)/\(aU a)<=134217728/\((List.length
 [((b,c),d,e)]):Int)<=134217728/\(∀(h:aD),h∈a->(h.2.1.length:Int)<=1099511627776)/\(∀(h:aD),h∈[((b,c),d,e)]->(h.2.1.length:Int)<=1099511627776)/\List.take f.toNat a++([((b,c),d,e)]++List.drop f.toNat a)=dP a ((b,c),d,e)):=by
  delta aU AZ
  rintro l a n nx b-⟨hs,⟨hl,hx⟩,hn⟩ i f ⟨h0,h1,h2,rfl⟩
  obtain⟨h2,h3⟩:=h2 hs
  refine ae (fun hf=>?_) (fun hf=>?_)
  ·obtain⟨f1,f2⟩:=of_decide_eq_true hf
   rw[af (by omega) (by omega)]
   refine⟨h0,h1,by omega,by omega,hl,by simp,hx,by simpa using hn,?_⟩
   rw[(Mx hs h0 f1 h2 f2).1,PW h2 h3];rfl
  ·have hf:=of_decide_eq_false hf
   refine⟨h0,h1,h0,h1,hl,by simp,hx,by simpa using hn,?_⟩
   rw[(Oa hs h0 h2 h3 hf).1,PW h2 h3];rfl
theorem IN:av Tryz.prog GL 103 Hb.spec:=Ct.okH _ Tryz.func103 (by kernel_rfl) (ah (ah aA Ec) Ma) au Xq (aB (by kernel_rfl) UU)
def OK:Ct:=⟨[.val (.sl cu),.agg kD],[.own 97 cu],fun d=>[bM d.1,okL d.1],fun d=>((gI d.1 d.2.1,()),())⟩
def SP:ar OK.ps->ay:=(fun _=>{})
def vH(a:List aD) :=
 (aU a)<=134217728/\ ∀(d:Rt),d∈a->(d.2.1.length:Int)<=1099511627776
theorem RN :
 ∀(a:List aD)(b c:Int),(pO a)/\((0<=b/\b<=4294967295)/\ab c)/\True->(bM a/\(vH a))-> ∀(d:Int)(e:Bool),0<=d/\(xd a b c d e)->ad e (0<=d/\d<=(aU a)/\0<=IntKind.wrap .i64 (d+(1:Int))/\IntKind.wrap .i64 (d+(1:Int))<=(aU a)/\(aU a)<=134217728/\(↑(0:Nat):Int)<=134217728/\(∀(f:aD),f∈a->(f.2.1.length:Int)<=1099511627776)/\(∀(f:aD),f∈([]:List aD)->(f.2.1.length:Int)<=1099511627776)/\List.take d.toNat a++List.drop (Int.toNat (IntKind.wrap .i64 (d+(1:Int)))) a=gI a (b,c)) (0<=d/\d<=(aU a)/\0<=d/\d<=(aU a)/\(aU a)<=134217728/\(↑(0:Nat):Int)<=134217728/\(∀(f:aD),f∈a->(f.2.1.length:Int)<=1099511627776)/\(∀(f:aD),f∈([]:List aD)->(f.2.1.length:Int)<=1099511627776)/\List.take d.toNat a++List.drop d.toNat a=gI a (b,c)):=by
  delta aU pO xd vH
  rintro l a n-⟨hs,hl,hx⟩ i f ⟨h0,h1,h2,rfl⟩
  obtain⟨h2,h3⟩:=h2 hs
  refine ae (fun hf=>?_) (fun hf=>?_)
  ·obtain⟨f1,f2⟩:=of_decide_eq_true hf
   rw[af (by omega) (by omega)]
   exact⟨h0,h1,by omega,by omega,hl,by simp,hx,by simp,(Mx hs h0 f1 h2 f2).2⟩
  ·have hf:=of_decide_eq_false hf
   refine⟨h0,h1,h0,h1,hl,by simp,hx,by simp,?_⟩
   rw[List.take_append_drop];exact (Oa hs h0 h2 h3 hf).2
theorem It:av Tryz.prog GL 102 OK.spec:=Ct.okH _ Tryz.func102 (by kernel_rfl) (ah (ah aA Ec) Ma) au SP (aB (by kernel_rfl) RN)
theorem Qw{l:List Rt}{a i:Int}(h0:0<=i)(h1:i<l.length):kv (l.take (i+1).toNat) a=sK a (kv (l.take i.toNat) a) (l.getD i.toNat default):=by
 have hj:i.toNat<l.length:=by omega
 rw[show (i+1).toNat=i.toNat+1 from by omega,List.take_succ_eq_append_getElem hj,kv,List.foldl_append,List.getD_eq_getElem?_getD,List.getElem?_eq_getElem hj,Option.getD_some]
 rfl
theorem Sv{l:List Rt}{a b i:Int}(h0:0<=i)(h1:i<l.length)(h:kv (l.take i.toNat) a=if b<0 then none else some (l.getD b.toNat default))(c:Bool)
  (hc:c=(bif cX (l.getD i.toNat default).1 a then bif decide (b<0) then true else decide ((l.getD b.toNat default).1.2<(l.getD i.toNat default).1.2) else false)) :
  kv (l.take (i+1).toNat) a=if (if c then i else b)<0 then none else some (l.getD (if c then i else b).toNat default):=by
 rw[Qw h0 h1,h]
 unfold sK
 subst hc
 cases hx:cX (l.getD i.toNat default).1 a with
 | false=>simp
 | true =>
  by_cases hb:b<0
  ·simp[hb,show ¬ i<0 from by omega]
  ·by_cases hl:(l.getD b.toNat default).1.2<(l.getD i.toNat default).1.2
   ·simp only[List.getD_eq_getElem?_getD] at hl
    simp[hb,hl,show ¬ i<0 from by omega]
   ·simp only[List.getD_eq_getElem?_getD] at hl
    simp[hb,hl]
theorem ae9{l:List Rt}{a:Int}{k:Nat}(h:∀ z∈l.drop k,cX z.1 a=false):kv l a=kv (l.take k) a:=by
 conv=>lhs;rw[← List.take_append_drop k l]
 unfold kv
 rw[List.foldl_append]
 generalize List.foldl (sK a) none (l.take k)=s
 generalize l.drop k=m at h
 induction m generalizing s with
 | nil=>rfl
 | cons z r ih =>
  rw[List.foldl_cons,show sK a s z=s from by rw[sK.eq_def,if_neg (by simp[h z List.mem_cons_self])]]
  exact ih (s:=s) (fun y hy=>h y (List.mem_cons_of_mem _ hy))
theorem aj7{p:cM}{a:Int}(h:¬ bc p (a,33)):cX p a=false:=by
 unfold cX jg
 unfold bc at h
 rw[Bool.and_eq_false_iff]
 simp only[decide_eq_false_iff_not]
 simp only at h
 omega
def IX:Ct:=⟨[.val (.sl cu),.val ck],[.agg cu,.val .bool],fun d=>[bM d.1,okL d.1],fun d=>((bh d.1 d.2.1,mO d.1 d.2.1,()),())⟩
def YT:ar IX.ps->ay:=(fun d=>{loops:=(fun n=>match n with|4=>some (fun S=>{ι:=Int×Int×Int,qn:=⟨fun k_=>∀(i:Int)(b:Int)(n:Int),k_ (i,b,n),fun k_ h_ i=>h_ i.1 i.2.1 i.2.2,fun k_=>∃ (i:Int) (b:Int) (n:Int),k_ (i,b,n),fun k_ ⟨i,b,n,h_⟩=>⟨_,h_⟩⟩,μ:=fun i=>(i.2.2-i.1).toNat,inv:=fun i=>0<=i.1/\i.1<=i.2.2/\i.2.2<=d.1.length ∧ -1<=i.2.1/\i.2.1<i.1/\kv (d.1.take i.1.toNat) d.2.1=(if i.2.1<0 then none else some (d.1.getD i.2.1.toNat default))/\(bM d.1→∀ z∈d.1.drop i.2.2.toNat,¬ bc z.1 (d.2.1,33)),keep:=[0,1,4],slots:=fun i=>[(8,.int .i64 i.2.1),(17,.int .i64 i.2.2),(18,.int .i64 i.1)],keepN:=[80],names:=fun i=>[]})|_=>none)})
def tZ(h i:Bool) :=
 (h&& ! i)->((h&& ! i)->(h&& ! i))/\True
def CJ(a:List aD)(b j k l:Int) :=
 0<=j/\j<=l/\l<=(aU a)/\ -1<=k/\k<j/\(kv (List.take j.toNat a) b=if k<0 then none else some (a.getD k.toNat default))/\(bM a-> ∀(m:aD),m∈List.drop l.toNat a-> ¬bc m.1 (b,(33:Int)))
def Fs(a:List aD)(b e f g:Int) :=
 e<=g/\g<=(aU a)/\ -1<=f/\f<e/\(kv (List.take e.toNat a) b=if f<0 then none else some (a.getD f.toNat default))/\(bM a-> ∀(h:aD),h∈List.drop g.toNat a-> ¬bc h.1 (b,(33:Int)))
theorem Tu :
 ∀(a:List aD)(b:Int),(a.length<=maxLen/\ ∀(c:aD),c∈a->(qI c))/\(0<=b/\b<=4294967295)/\True->(bM a/\(aU a)<=134217728/\ ∀(c:Rt),c∈a->(c.2.1.length:Int)<=1099511627776)-> ∀(c:Int)(d:Bool),0<=c/\c<=(aU a)/\(bM a->(∀(e:aD),e∈List.take c.toNat a->bc e.1 (b,(33:Int)))/\ ∀(e:aD),e∈List.drop c.toNat a-> ¬bc e.1 (b,(33:Int)))/\d=decide (c<(aU a)/\(a.getD c.toNat default).1=(b,(33:Int)))->(∃(e:Int) (f:Int),∃(g:Int),(0<=e/\(Fs a b e f g))/\a=a/\b=b/\(-1:Int)=f/\c=g/\(0:Int)=e/\(0:Int)=0/\(0:Int)=0/\(0:Int)=0/\True)/\ ∀(e f g:Int),0<=e/\(Fs a b e f g)->ad (decide (e<g)) (0<=e/\e<(aU a)/\ ∀(h:Bool),h=cX (a.getD e.toNat default).1 b->(h->(h->h)/\True)/\(h->(h->h)/\True)/\ ∀(i:Bool),i=decide (f<0)->((h&& ! i)->((h&& ! i)->(h&& ! i))/\((h&& ! i)->(h&& ! i))/\0<=e/\e<(aU a)/\True)/\(tZ h i)/\(tZ h i)/\(tZ h i)/\((h&& ! i)->((h&& ! i)->(h&& !
 i))/\((h&& ! i)->(h&& ! i))/\0<=f/\f<(aU a)/\True)/\(tZ h i)/\(tZ h i)/\(tZ h i)/\((h&& ! i)->((h&& ! i)->(h&& ! i))/\((h&& ! i)->(h&& ! i))/\True)/\(h->(h->h)/\(i=false->(h&& ! i))/\True)/\(h->h)/\ad (bif h then bif i then true else decide ((a.getD f.toNat default).1.2<(a.getD e.toNat default).1.2) else false) (∃(j:Int) (k:Int),∃(l:Int),(CJ a b j k l)/\Int.toNat (l -j)<Int.toNat (g -e)/\a=a/\b=b/\e=k/\g=l/\IntKind.wrap .i64 (e+(1:Int))=j/\(0:Int)=0/\(0:Int)=0/\(0:Int)=0/\True) (∃(j:Int) (k:Int),∃(l:Int),(CJ a b j k l)/\Int.toNat (l -j)<Int.toNat (g -e)/\a=a/\b=b/\f=k/\g=l/\IntKind.wrap .i64 (e+(1:Int))=j/\(0:Int)=0/\(0:Int)=0/\(0:Int)=0/\True)) (ad (decide (f<0)) ((((0:Int),(0:Int)),([]:List Int),(0:Int))=bh a b/\false=mO a b) (0<=f/\f<(aU a)/\((List.length (a.getD f.toNat default).2.1):Int)<=1099511627776/\a.getD f.toNat default=bh a b/\true=mO a b)):=by
  delta aU qI tZ CJ Fs
  rintro l a ⟨⟨hl,-⟩,-⟩⟨hs,hk,hx⟩ n f ⟨n0,n1,n2,-⟩
  simp only[maxLen] at hl
  refine⟨⟨0,-1,n,⟨by omega,by omega,by omega,by omega,by omega,by simp[kv],fun _=>(n2 hs).2⟩,(by repeat' first|exact trivial|refine⟨trivial,?_⟩|refine⟨(by with_reducible rfl),?_⟩|refine⟨af (by omega) (by omega),?_⟩|refine⟨rfl,?_⟩)⟩,?_⟩
  rintro i b n ⟨h0,h1,h2,h3,h4,h5,h6⟩
  refine ae (fun hi=>?_) (fun hi=>?_)
  ·have hi:=of_decide_eq_true hi
   have hst:=Sv h0 (by omega) h5
   refine⟨h0,by omega,?_⟩
   (repeat (intro (b_:Bool) (hb_:b_=_);(repeat refine⟨(by first|(simp;done)|(rw[hb_];simp;done)|(rw[hb_];simp;omega)|(rw[hb_];simp;intros;omega)|(rw[hb_];simp +contextual;done)),?_⟩);subst hb_))
   refine ae (fun hc=>?_) (fun hc=>?_)
   ·have hst:=hst true hc.symm
    refine⟨i+1,i,n,⟨by omega,by omega,h2,by omega,by omega,by simpa using hst,h6⟩,by omega,(by repeat' first|exact trivial|refine⟨trivial,?_⟩|refine⟨(by with_reducible rfl),?_⟩|refine⟨af (by omega) (by omega),?_⟩|refine⟨rfl,?_⟩)⟩
   ·have hst:=hst false hc.symm
    refine⟨i+1,b,n,⟨by omega,by omega,h2,by omega,by omega,by simpa using hst,h6⟩,by omega,(by repeat' first|exact trivial|refine⟨trivial,?_⟩|refine⟨(by with_reducible rfl),?_⟩|refine⟨af (by omega) (by omega),?_⟩|refine⟨rfl,?_⟩)⟩
  ·have hi:=of_decide_eq_false hi
   have e:i=n:=by omega
   subst e
   have hlook:kv l a=kv (l.take i.toNat) a:=ae9 (fun z hz=>aj7 (h6 hs z hz))
   rw[h5] at hlook
   refine ae (fun hb=>?_) (fun hb=>?_)
   ·rw[if_pos (of_decide_eq_true hb)] at hlook
    simp[bh,mO,hlook]
   ·have hb:=of_decide_eq_false hb
    rw[if_neg hb] at hlook
    refine⟨by omega,by omega,hx _ (bL (by omega) (by omega)),?_,?_⟩
    ·rw[bh,hlook]
    ·rw[mO,hlook];rfl
theorem ai5:av Tryz.prog GL 80 IX.spec:=Ct.okH _ Tryz.func80 (by kernel_rfl) (ah (ah (ah aA Ec) JA) Kl) au YT (aB (by kernel_rfl) Tu)
def mP(l links:List Int)(j:Nat):Prop:=(0<j->l.getD (j-1) default<l.getD j default)/\l.getD j default∈links
instance (l links:List Int) (j:Nat):Decidable (mP l links j):=by unfold mP;infer_instance
def B4(l links:List Int):Prop:=l.length<=16∧∀ j:Nat,j<l.length->mP l links j
instance (l links:List Int):Decidable (B4 l links):=by unfold B4;infer_instance
def jZ(r:Rt)(links:List Int):Prop:=B4 r.2.1 links/\1<=r.2.2/\r.2.2<=3
instance (r:Rt) (links:List Int):Decidable (jZ r links):=by unfold jZ;infer_instance
def chk(links:List Int):Option cM->List Rt->Int
 | _,[]=>0
 | q,r::rs=>if jg r.1=false then 10 else if q.any (fun q=>decide (0<=fj q r.1)) then 6 else if ¬ jZ r links then 12 else chk links (some r.1) rs
def dE(l:List Rt)(links:List Int):Int:=if (64:Int)<l.length then 5 else chk links none l
def tX(l:List Rt)(i:Int):Option cM:=if i=0 then none else some (l.getD (i-1).toNat default).1
theorem VV{l links:List Int}{i:Int}(h0:0<=i)(h:0<i->l.getD (i.toNat-1) default<l.getD i.toNat default)(h2:l.getD i.toNat default∈links):mP l links i.toNat :=
 ⟨fun hi=>h (by omega),h2⟩
theorem QY{l links:List Int}{i:Int}(h0:0<=i)(h:∀ j:Nat,(j:Int)<i->mP l links j)(h2:mP l links i.toNat):∀ j:Nat,(j:Int)<i+1->mP l links j:=by
 intro j hj
 by_cases e:(j:Int)<i
 ·exact h j e
 ·rw[show j=i.toNat from by omega];exact h2
theorem SS{l:List Rt}{links:List Int}{i:Int}{q:Option cM}(h0:0<=i)(h1:i<l.length):chk links q (l.drop i.toNat)=if jg (l.getD i.toNat default).1=false then 10 else if q.any (fun q=>decide (0<=fj q (l.getD i.toNat default).1)) then 6 else if ¬ jZ (l.getD i.toNat default) links then 12 else chk links (some (l.getD i.toNat default).1) (l.drop (i+1).toNat):=by
 have hj:i.toNat<l.length:=by omega
 have e:(i+1).toNat=i.toNat+1:=by omega
 rw[List.drop_eq_getElem_cons hj,chk,List.getD_eq_getElem?_getD,List.getElem?_eq_getElem hj,Option.getD_some,e]
def Jd:Ct:=⟨[.agg cu,.val (.sl cI)],[.val .bool],fun _=>[],fun d=>((decide (jZ d.1 d.2.1),()),())⟩
def Zc:ar Jd.ps->ay:=(fun d=>{loops:=(fun n=>match n with|4=>some (fun S=>{ι:=Int,μ:=fun i=>(d.1.2.1.length-i).toNat,inv:=fun i=>0<=i/\i<=d.1.2.1.length∧∀ j:Nat,(j:Int)<i->mP d.1.2.1 d.2.1 j,keep:=[1,2,22,23],slots:=fun i=>[(24,.int .i64 i)],keepN:=[48],names:=fun i=>[]})|_=>none)})
theorem UR :
 ∀(a b:Int)(c:List Int)(d:Int)(e:List Int),(((0<=a/\a<=4294967295)/\ab b)/\(c.length<=maxLen/\ ∀(f:Int),f∈c->ab f)/\ab d)/\(e.length<=maxLen/\ ∀(f:Int),f∈e->ab f)/\True->True-> ∀(f:Bool),f=decide (16<(gf c))->((! f)->((! f)->(! f))/\True)/\((! f)->((! f)->(! f))/\True)/\(f=false->(! f))/\ ∀(g:Bool),(g=bif f then true else decide (d<1))->((! g)->((! g)->(! g))/\True)/\((! g)->((! g)->(! g))/\True)/\(g=false->(! g))/\ad (bif g then true else decide (3<d)) (false=decide (jZ ((a,b),c,d) e)) ((∃(h:Int),(0<=h/\h<=(gf c)/\ ∀(i:Nat),(↑i:Int)<h->mP c e i)/\e=e/\c=c/\(gf c)=(gf c)/\(0:Int)=h/\a=a/\b=b/\c=c/\d=d/\True)/\ ∀(h:Int),(0<=h/\h<=(gf c)/\ ∀(i:Nat),(↑i:Int)<h->mP c e i)->ad (decide (h<(gf c))) (0<=h/\h<(gf c)/\ ∀(i:Bool),i=decide (0<h)->(i->(i->i)/\True)/\(i->(i->i)/\True)/\(i->(i->i)/\(i->i)/\0<=IntKind.wrap .i64 (h -(1:Int))/\IntKind.wrap .i64 (h
 -(1:Int))<(gf c)/\True)/\(i->(i->i)/\True)/\(i->(i->i)/\(i->i)/\True)/\(i->i)/\ ∀(j:Bool),(j=bif i then decide (c.getD h.toNat default<=c.getD (Int.toNat (IntKind.wrap .i64 (h -(1:Int)))) default) else false)->((! j)->((! j)->(! j))/\((! j)->(! j))/\True)/\((! j)->((! j)->(! j))/\True)/\(j=false->(! j))/\ad (bif j then true else ! decide (c.getD h.toNat default∈e)) (false=decide (jZ ((a,b),c,d) e)) (∃(k:Int),(0<=k/\k<=(gf c)/\ ∀(l:Nat),(↑l:Int)<k->mP c e l)/\Int.toNat ((gf c) -k)<Int.toNat ((gf c) -h)/\e=e/\c=c/\(gf c)=(gf c)/\IntKind.wrap .i64 (h+(1:Int))=k/\a=a/\b=b/\c=c/\d=d/\True)) (true=decide (jZ ((a,b),c,d) e))):=by
  delta gf
  rintro a n l b ks ⟨⟨⟨-,-⟩,⟨hl,-⟩,-⟩,-⟩ -
  simp only[maxLen] at hl
  (repeat (intro (b_:Bool) (hb_:b_=_);(repeat refine⟨(by first|(simp;done)|(rw[hb_];simp;done)|(rw[hb_];simp;omega)|(rw[hb_];simp;intros;omega)|(rw[hb_];simp +contextual;done)),?_⟩);subst hb_))
  refine ae (fun hb=>?_) (fun hb=>?_)
  ·have hb:¬ (l.length<=16/\1<=b/\b<=3):=by simp[-List.getD_eq_getElem?_getD,-Int.default_eq_zero,Bool.cond_eq_ite] at hb;omega
   symm;apply decide_eq_false
   rintro⟨⟨h1,-⟩,h2⟩;exact hb ⟨h1,h2⟩
  ·have hb:l.length<=16/\1<=b/\b<=3:=by simp[-List.getD_eq_getElem?_getD,-Int.default_eq_zero,Bool.cond_eq_ite] at hb;omega
   refine⟨⟨0,⟨by omega,by omega,by omega⟩,(by repeat' first|exact trivial|refine⟨trivial,?_⟩|refine⟨(by with_reducible rfl),?_⟩|refine⟨af (by omega) (by omega),?_⟩|refine⟨rfl,?_⟩)⟩,?_⟩
   rintro i ⟨h0,h1,h2⟩
   refine ae (fun hi=>?_) (fun hi=>?_)
   ·have hi:=of_decide_eq_true hi
    refine⟨h0,hi,?_⟩
    rw[af (n:=i-1) (by omega) (by omega)]
    (repeat (intro (b_:Bool) (hb_:b_=_);(repeat refine⟨(by first|(simp;done)|(rw[hb_];simp;done)|(rw[hb_];simp;omega)|(rw[hb_];simp;intros;omega)|(rw[hb_];simp +contextual;done)),?_⟩);subst hb_))
    refine ae (fun hc=>?_) (fun hc=>?_)
    ·have hc:¬ mP l ks i.toNat:=by
      rintro⟨k1,k2⟩
      simp[-List.getD_eq_getElem?_getD,-Int.default_eq_zero,Bool.cond_eq_ite,k2] at hc
      have:=k1 (by omega);omega
     symm;apply decide_eq_false
     rintro⟨⟨-,h3⟩,-⟩;exact hc (h3 _ (show i.toNat<l.length by omega))
    ·have hc:mP l ks i.toNat:=by
      simp[-List.getD_eq_getElem?_getD,-Int.default_eq_zero,Bool.cond_eq_ite] at hc
      refine VV h0 (fun hp=>?_) hc.2
      have:=hc.1 hp;omega
     exact⟨i+1,⟨by omega,by omega,QY h0 h2 hc⟩,by omega,rfl,rfl,rfl,af (by omega) (by omega),(by repeat' first|exact trivial|refine⟨trivial,?_⟩|refine⟨(by with_reducible rfl),?_⟩|refine⟨af (by omega) (by omega),?_⟩|refine⟨rfl,?_⟩)⟩
   ·have hi:=of_decide_eq_false hi
    symm;apply decide_eq_true
    exact⟨⟨hb.1,fun j hj=>h2 j (by simp only at hj;omega)⟩,hb.2⟩
theorem QG:av Tryz.prog GL 222 Jd.spec:=Ct.okH _ Tryz.func222 (by kernel_rfl) (ah aA QP) au Zc (aB (by kernel_rfl) UR)
def Oj:Ct:=⟨[.val (.sl cu),.val (.sl cI)],[.val cI],fun _=>[],fun d=>((dE d.1 d.2.1,()),())⟩
def Zy:ar Oj.ps->ay:=(fun d=>{loops:=(fun n=>match n with|4=>some (fun S=>{ι:=Int,μ:=fun i=>(d.1.length-i).toNat,inv:=fun i=>0<=i/\i<=d.1.length/\dE d.1 d.2.1=chk d.2.1 (tX d.1 i) (d.1.drop i.toNat),keep:=[0,1,10,11],slots:=fun i=>[(12,.int .i64 i)],names:=fun i=>[]})|_=>none)})
theorem Vf :
 ∀(a:List aD)(b:List Int),(a.length<=maxLen/\ ∀(c:aD),c∈a->(qI c))/\(b.length<=maxLen/\ ∀(c:Int),c∈b->ab c)/\True->True->ad (decide (64<(aU a))) ((5:Int)=dE a b) ((∃(c:Int),(0<=c/\c<=(aU a)/\dE a b=chk b (tX a c) (List.drop c.toNat a))/\a=a/\b=b/\a=a/\(aU a)=(aU a)/\(0:Int)=c/\True)/\ ∀(c:Int),0<=c/\c<=(aU a)/\dE a b=chk b (tX a c) (List.drop c.toNat a)->ad (decide (c<(aU a))) (0<=c/\c<(aU a)/\ad (! jg (a.getD c.toNat default).1) ((10:Int)=dE a b) (∀(d:Bool),d=decide (0<c)->(d->(d->d)/\True)/\(d->(d->d)/\(d->d)/\0<=IntKind.wrap .i64 (c -(1:Int))/\IntKind.wrap .i64 (c -(1:Int))<(aU a)/\True)/\(d->(d->d)/\True)/\(d->(d->d)/\True)/\(d->(d->d)/\True)/\(d->(d->d)/\(d->d)/\True)/\(d->(d->d)/\True)/\(d->d)/\ad (bif d then decide (0<=fj (a.getD (Int.toNat (IntKind.wrap .i64 (c -(1:Int)))) default).1 (a.getD c.toNat default).1) else false)
 ((6:Int)=dE a b) (ad (! decide (jZ (a.getD c.toNat default) b)) ((12:Int)=dE a b) (∃(e:Int),(0<=e/\e<=(aU a)/\dE a b=chk b (tX a e) (List.drop e.toNat a))/\Int.toNat ((aU a) -e)<Int.toNat ((aU a) -c)/\a=a/\b=b/\a=a/\(aU a)=(aU a)/\IntKind.wrap .i64 (c+(1:Int))=e/\True)))) ((0:Int)=dE a b)):=by
  delta aU qI
  rintro l ks ⟨⟨hl,-⟩,-⟩ -
  simp only[maxLen] at hl
  refine ae (fun hb=>?_) (fun hb=>?_)
  ·rw[dE,if_pos (of_decide_eq_true hb)]
  ·have hb:=of_decide_eq_false hb
   refine⟨⟨0,⟨by omega,by omega,by rw[dE,if_neg hb];rfl⟩,(by repeat' first|exact trivial|refine⟨trivial,?_⟩|refine⟨(by with_reducible rfl),?_⟩|refine⟨af (by omega) (by omega),?_⟩|refine⟨rfl,?_⟩)⟩,?_⟩
   rintro i ⟨h0,h1,h2⟩
   rw[h2]
   refine ae (fun hi=>?_) (fun hi=>?_)
   ·have hi:=of_decide_eq_true hi
    rw[SS h0 hi,af (n:=i-1) (by omega) (by omega)]
    refine⟨h0,hi,ae (fun hc=>?_) (fun hc=>?_)⟩
    ·simp only[Bool.not_eq_true'] at hc
     rw[if_pos hc]
    ·simp only[Bool.not_eq_false'] at hc
     rw[if_neg (by simp[-List.getD_eq_getElem?_getD,-Int.default_eq_zero,hc])]
     (repeat (intro (b_:Bool) (hb_:b_=_);(repeat refine⟨(by first|(simp;done)|(rw[hb_];simp;done)|(rw[hb_];simp;omega)|(rw[hb_];simp;intros;omega)|(rw[hb_];simp +contextual;done)),?_⟩);subst hb_))
     have he:(Option.any (fun q=>decide (0<=fj q (l.getD i.toNat default).1)) (tX l i))=(bif decide (0<i) then decide (0<=fj (l.getD (i-1).toNat default).1 (l.getD i.toNat default).1) else false):=by
      unfold tX
      by_cases e:i=0
      ·simp[e]
      ·rw[if_neg e,Option.any_some];simp[show 0<i from by omega]
     rw[he]
     refine ae (fun hd=>?_) (fun hd=>?_)
     ·rw[if_pos hd]
     ·rw[if_neg (by rw[hd];decide)]
      refine ae (fun hr=>?_) (fun hr=>?_)
      ·simp only[Bool.not_eq_true',decide_eq_false_iff_not] at hr
       rw[if_pos hr]
      ·simp only[Bool.not_eq_false',decide_eq_true_eq] at hr
       rw[if_neg (fun h=>h hr)]
       refine⟨i+1,⟨by omega,by omega,?_⟩,by omega,(by repeat' first|exact trivial|refine⟨trivial,?_⟩|refine⟨(by with_reducible rfl),?_⟩|refine⟨af (by omega) (by omega),?_⟩|refine⟨rfl,?_⟩)⟩
       rw[tX,if_neg (by omega),show i+1-1=i from by omega]
   ·have hi:=of_decide_eq_false hi
    rw[List.drop_eq_nil_of_le (by omega),chk]
theorem Jw:av Tryz.prog GL 179 Oj.spec:=Ct.okH _ Tryz.func179 (by kernel_rfl) (ah (ah (ah aA QG) NL) Pv) au Zy (aB (by kernel_rfl) Vf)
theorem M7{l:List Rt}{i:Int}(h0:0<=i)(h1:i<l.length):l.take (i+1).toNat=l.take i.toNat++[l.getD i.toNat default]:=by
 have hj:i.toNat<l.length:=by omega
 rw[show (i+1).toNat=i.toNat+1 from by omega,List.take_succ_eq_append_getElem hj,List.getD_eq_getElem?_getD,List.getElem?_eq_getElem hj,Option.getD_some]
theorem CL{m:List Rt}{r:Rt}(h:∀ z∈m,bc z.1 r.1):dP m r=m++[r]:=by
 rw[dP,List.filter_eq_self.2 (fun z hz=>decide_eq_true (h z hz)),List.filter_eq_nil_iff.2 (fun z hz=>by simpa using tM (h z hz))]
theorem DB{m:List Rt}{r e:Rt}(h:bc r.1 e.1):dP (m++[e]) r=dP m r++[e]:=by
 rw[dP,dP,List.filter_append,List.filter_append,List.filter_cons,if_neg (by simpa using tM h),List.filter_cons,if_pos (by simpa using h)]
 simp
theorem O6{m:List Rt}{r e:Rt}(h:∀ z∈m,bc z.1 r.1)(he:e.1=r.1):dP (m++[e]) r=m++[r]:=by
 have hi:¬ bc e.1 r.1:=by rw[he];exact mS _
 have hj:¬ bc r.1 e.1:=by rw[he];exact mS _
 have f1:m.filter (fun a=>decide (bc a.1 r.1))=m:=List.filter_eq_self.2 (fun z hz=>decide_eq_true (h z hz))
 have f2:m.filter (fun a=>decide (bc r.1 a.1))=[]:=List.filter_eq_nil_iff.2 (fun z hz=>by simpa using tM (h z hz))
 simp[dP,f1,f2,hi,hj]
theorem later{l:List Rt}{p:cM}{i:Int}(hs:bM l)(h0:0<=i)(h1:i<l.length){z:Rt}(hz:z∈l.take i.toNat)(hp:¬ bc z.1 p):bc p (l.getD i.toNat default).1:=by
 have hsp:=PS h0 h1
 unfold bM at hs
 rw[hsp] at hs
 have:=(List.pairwise_append.1 hs).2.2 z hz _ List.mem_cons_self
 rcases Ba hp with e|h
 ·rw[← e];exact this
 ·exact xQ h this
def Jo:Ct:=⟨[.val (.sl cu),.agg cu],[.own 97 cu],fun d=>[bM d.1,okL d.1,(d.2.1.2.1.length:Int)<=1099511627776],fun d=>((dP d.1 d.2.1,()),())⟩
def Y9:ar Jo.ps->ay:=(fun d=>{loops:=(fun n=>match n with|4=>some (fun S=>{ι:=Int×Bool×(List Rt),qn:=⟨fun k_=>∀(i:Int)(dn:Bool)(ys:(List Rt)),k_ (i,dn,ys),fun k_ h_ i=>h_ i.1 i.2.1 i.2.2,fun k_=>∃ (i:Int) (dn:Bool) (ys:(List Rt)),k_ (i,dn,ys),fun k_ ⟨i,dn,ys,h_⟩=>⟨_,h_⟩⟩,μ:=fun i=>(d.1.length-i.1).toNat,inv:=fun i=>0<=i.1/\i.1<=d.1.length/\(i.2.2.length:Int)<=i.1+1/\(i.2.1=false->(∀ z∈d.1.take i.1.toNat,bc z.1 d.2.1.1)/\i.2.2=d.1.take i.1.toNat)/\(i.2.1=true->(∃ z∈d.1.take i.1.toNat,¬ bc z.1 d.2.1.1)/\i.2.2=dP (d.1.take i.1.toNat) d.2.1),keep:=[0,3],slots:=fun i=>[(5,.own 524288 4),(6,.bool i.2.1),(7,.int .i64 i.1)],keepN:=[64],names:=fun i=>[(524288,.live (.row 97 cu i.2.2))]})|_=>none)})
def yr(a:List aD)(b c:Int)(d:List Int)(e j:Int)(k:Bool)(l:List Rt) :=
 0<=j/\j<=(aU a)/\(l.length:Int)<=j+(1:Int)/\(k=false->(∀(m:aD),m∈List.take j.toNat a->bc m.1 (b,c))/\l=List.take j.toNat a)/\(k=true->(∃(m:aD),m∈List.take j.toNat a/\ ¬bc m.1 (b,c))/\l=dP (List.take j.toNat a) ((b,c),d,e))
def E5(a:List aD)(b c:Int)(d:List Int)(e f:Int)(g:Bool)(h:List Rt) :=
 f<=(aU a)/\(h.length:Int)<=f+(1:Int)/\(g=false->(∀(i:aD),i∈List.take f.toNat a->bc i.1 (b,c))/\h=List.take f.toNat a)/\(g=true->(∃(i:aD),i∈List.take f.toNat a/\ ¬bc i.1 (b,c))/\h=dP (List.take f.toNat a) ((b,c),d,e))
theorem aa5 :
 ∀(a:List aD)(b c:Int)(d:List Int)(e:Int),(AZ a)/\(((0<=b/\b<=4294967295)/\ab c)/\(d.length<=maxLen/\ ∀(f:Int),f∈d->ab f)/\ab e)/\True->bM a/\okL a/\(d.length:Int)<=1099511627776->(∃(f:Int) (g:Bool),∃(h:List Rt),(0<=f/\(E5 a b c d e f g h))/\a=a/\false=g/\(0:Int)=f/\b=b/\c=c/\d=d/\e=e/\h=([]:List aD)/\True)/\ ∀(f:Int)(g:Bool)(h:List Rt),0<=f/\(E5 a b c d e f g h)->ad (decide (f<(aU a))) (0<=f/\f<(aU a)/\ ∀(i:Bool),i=decide (0<=fj (a.getD f.toNat default).1 (b,c))->(i->(i->i)/\True)/\(i->i)/\ad (bif i then ! g else false) ((d.length:Int)<=1099511627776/\(h.length+List.length [((b,c),d,e)])*(48:Nat)<=(mI)/\ad (! decide (fj (a.getD f.toNat default).1 (b,c)=0)) (0<=f/\f<(aU a)/\((List.length (a.getD f.toNat default).2.1):Int)<=1099511627776/\(List.length (h++[((b,c),d,e)])+List.length [a.getD f.toNat default])*(48:Nat)<=(mI)/\ ∃(j:Int)
 (k:Bool),∃(l:List Rt),(yr a b c d e j k l)/\Int.toNat ((aU a) -j)<Int.toNat ((aU a) -f)/\a=a/\true=k/\IntKind.wrap .i64 (f+(1:Int))=j/\b=b/\c=c/\d=d/\e=e/\h++[((b,c),d,e)]++[a.getD f.toNat default]=l/\True) (∃(j:Int) (k:Bool),∃(l:List Rt),(yr a b c d e j k l)/\Int.toNat ((aU a) -j)<Int.toNat ((aU a) -f)/\a=a/\true=k/\IntKind.wrap .i64 (f+(1:Int))=j/\b=b/\c=c/\d=d/\e=e/\h++[((b,c),d,e)]=l/\True)) (ad (! decide (fj (a.getD f.toNat default).1 (b,c)=0)) (0<=f/\f<(aU a)/\((List.length (a.getD f.toNat default).2.1):Int)<=1099511627776/\(h.length+List.length [a.getD f.toNat default])*(48:Nat)<=(mI)/\ ∃(j:Int) (k:Bool),∃(l:List Rt),(yr a b c d e j k l)/\Int.toNat ((aU a) -j)<Int.toNat ((aU a) -f)/\a=a/\g=k/\IntKind.wrap .i64 (f+(1:Int))=j/\b=b/\c=c/\d=d/\e=e/\h++[a.getD f.toNat default]=l/\True) (∃(j:Int) (k:Bool),∃(l:List Rt),(yr a b c d e j k l)/\Int.toNat ((aU a)
 -j)<Int.toNat ((aU a) -f)/\a=a/\g=k/\IntKind.wrap .i64 (f+(1:Int))=j/\b=b/\c=c/\d=d/\e=e/\h=l/\True))) (ad (! g) ((d.length:Int)<=1099511627776/\(h.length+List.length [((b,c),d,e)])*(48:Nat)<=(mI)/\h++[((b,c),d,e)]=dP a ((b,c),d,e)) (h=dP a ((b,c),d,e))):=by
  delta yr aU E5 AZ mI
  rintro l a n nx b ⟨⟨hl0,-⟩,-⟩⟨hs,⟨hl,hx⟩,hn⟩
  refine⟨⟨0,false,[],⟨by omega,by omega,by simp,fun _=>by simp,fun h=>by simp at h⟩,(by repeat' first|exact trivial|refine⟨trivial,?_⟩|refine⟨(by with_reducible rfl),?_⟩|refine⟨af (by omega) (by omega),?_⟩|refine⟨rfl,?_⟩)⟩,?_⟩
  rintro i dn ys ⟨h0,h1,h2,h3,h4⟩
  refine ae (fun hi=>?_) (fun hi=>?_)
  ·have hi:=of_decide_eq_true hi
   have ht:=M7 h0 hi
   have hxi:=hx _ (bL h0 hi)
   have hlt:∀(z:Rt),z∈l.take i.toNat->z∈l.take (i+1).toNat:=fun z hz=>by rw[ht];exact List.mem_append_left _ hz
   have hsi:l.getD i.toNat default∈l.take (i+1).toNat:=by rw[ht];simp[-List.getD_eq_getElem?_getD,-Int.default_eq_zero]
   have hlater:=fun z hz hp=>later (p:=(a,n)) (z:=z) hs h0 hi hz hp
   generalize l.getD i.toNat default=e at *
   refine⟨h0,hi,?_⟩
   (repeat (intro (b_:Bool) (hb_:b_=_);(repeat refine⟨(by first|(simp;done)|(rw[hb_];simp;done)|(rw[hb_];simp;omega)|(rw[hb_];simp;intros;omega)|(rw[hb_];simp +contextual;done)),?_⟩);subst hb_))
   refine ae (fun hc=>?_) (fun hc=>?_)
   ·have hq:¬ bc e.1 (a,n)/\dn=false:=by rw[← De];simpa[Bool.cond_eq_ite] using hc
    clear hc
    obtain⟨hc,rfl⟩:=hq
    obtain⟨k1,rfl⟩:=h3 rfl
    refine⟨hn,by simp only[List.length_singleton];omega,ae (fun hz=>?_) (fun hz=>?_)⟩
    ·have hz:¬ fj e.1 (a,n)=0:=by simpa using hz
     have hgt:bc (a,n) e.1:=by
      rcases Ba hc with h|h
      ·exact absurd (A9.2 h) hz
      ·exact h
     refine⟨h0,hi,hxi,by simp only[List.length_append,List.length_singleton];omega,i+1,true,_,⟨by omega,by omega,?_,by simp,fun _=>⟨⟨e,hsi,hc⟩,rfl⟩⟩,by omega,rfl,rfl,af (by omega) (by omega),rfl,rfl,rfl,rfl,?_,trivial⟩
     ·rw[ht,DB hgt,CL k1];simp only[List.length_append,List.length_singleton,List.length_take];omega
     ·rw[ht,DB hgt,CL k1]
    ·have hz:fj e.1 (a,n)=0:=by simpa using hz
     have hz:=A9.1 hz
     refine⟨i+1,true,_,⟨by omega,by omega,?_,by simp,fun _=>⟨⟨e,hsi,hc⟩,rfl⟩⟩,by omega,rfl,rfl,af (by omega) (by omega),rfl,rfl,rfl,rfl,?_,trivial⟩
     ·rw[ht,O6 k1 hz];simp only[List.length_append,List.length_singleton,List.length_take];omega
     ·rw[ht,O6 k1 hz]
   ·have hc:¬ (¬ bc e.1 (a,n)/\dn=false):=by rw[← De];simpa[Bool.cond_eq_ite] using hc
    cases dn with
    | false =>
     have hc:bc e.1 (a,n):=Classical.byContradiction fun h=>hc ⟨h,rfl⟩
     obtain⟨k1,rfl⟩:=h3 rfl
     have hz:¬ fj e.1 (a,n)=0:=by have:=xP.2 hc;omega
     rw[decide_eq_false hz]
     refine⟨h0,hi,hxi,by simp only[List.length_singleton];omega,i+1,false,_,⟨by omega,by omega,?_,fun _=>⟨?_,rfl⟩,by simp⟩,by omega,rfl,rfl,af (by omega) (by omega),rfl,rfl,rfl,rfl,ht.symm,trivial⟩
     ·simp only[List.length_take];omega
     ·rw[ht];intro z hz
      rcases List.mem_append.1 hz with hz|hz
      ·exact k1 z hz
      ·rw[List.mem_singleton.1 hz];exact hc
    | true =>
     obtain⟨⟨z,z1,z2⟩,rfl⟩:=h4 rfl
     have hgt:=hlater z z1 z2
     have hz:¬ fj e.1 (a,n)=0:=fun h=>by have h:=A9.1 h;rw[h] at hgt;exact mS _ hgt
     rw[decide_eq_false hz]
     have hp:=DB (m:=l.take i.toNat) (r:=((a,n),nx,b)) hgt
     refine⟨h0,hi,hxi,by simp only[List.length_singleton];omega,i+1,true,_,⟨by omega,by omega,?_,by simp,fun _=>⟨⟨z,hlt z z1,z2⟩,rfl⟩⟩,by omega,rfl,rfl,af (by omega) (by omega),rfl,rfl,rfl,rfl,?_,trivial⟩
     ·rw[ht,hp,List.length_append,List.length_singleton];omega
     ·rw[ht,hp]
  ·have hi:=of_decide_eq_false hi
   rw[List.take_of_length_le (by omega)] at h3 h4
   refine ae (fun hd=>?_) (fun hd=>?_)
   ·obtain⟨k1,rfl⟩:=h3 (by simpa using hd)
    exact⟨hn,by simp only[List.length_singleton];omega,(CL k1).symm⟩
   ·exact (h4 (by simpa using hd)).2
theorem Uh:av Tryz.prog GL 173 Jo.spec:=Ct.okH _ Tryz.func173 (by kernel_rfl) (ah (ah aA Jt) QB) au Y9 (aB (by kernel_rfl) aa5)
theorem Ky{m:List Rt}{p:cM}{e:Rt}:gI (m++[e]) p=gI m p++(if e.1=p then [] else [e]):=by
 rw[gI,gI,List.filter_append,List.filter_cons,List.filter_nil]
 by_cases h:e.1=p <;> simp[h]
theorem MC(m:List Rt)(p:cM):(gI m p).length<=m.length:=List.length_filter_le _ _
def N5:Ct:=⟨[.val (.sl cu),.agg kD],[.own 97 cu],fun d=>[okL d.1],fun d=>((gI d.1 d.2.1,()),())⟩
def VG:ar N5.ps->ay:=(fun d=>{loops:=(fun n=>match n with|3=>some (fun S=>{ι:=Int×(List Rt),qn:=⟨fun k_=>∀(i:Int)(ys:(List Rt)),k_ (i,ys),fun k_ h_ i=>h_ i.1 i.2,fun k_=>∃ (i:Int) (ys:(List Rt)),k_ (i,ys),fun k_ ⟨i,ys,h_⟩=>⟨_,h_⟩⟩,μ:=fun i=>(d.1.length-i.1).toNat,inv:=fun i=>0<=i.1/\i.1<=d.1.length/\i.2=gI (d.1.take i.1.toNat) d.2.1,keep:=[0,3],slots:=fun i=>[(5,.own 524288 4),(6,.int .i64 i.1)],keepN:=[64],names:=fun i=>[(524288,.live (.row 97 cu i.2))]})|_=>none)})
theorem ap2 :
 ∀(a:List aD)(b c:Int),(pO a)/\((0<=b/\b<=4294967295)/\ab c)/\True->(vH a)->(∃(d:Int) (e:List Rt),(0<=d/\d<=(aU a)/\e=gI (List.take d.toNat a) (b,c))/\a=a/\(0:Int)=d/\b=b/\c=c/\e=([]:List aD)/\True)/\ ∀(d:Int)(e:List Rt),0<=d/\d<=(aU a)/\e=gI (List.take d.toNat a) (b,c)->ad (decide (d<(aU a))) (0<=d/\d<(aU a)/\ad (! (decide ((a.getD d.toNat default).1.1=b)&&(decide ((a.getD d.toNat default).1.2=c)&&true))) (0<=d/\d<(aU a)/\((List.length (a.getD d.toNat default).2.1):Int)<=1099511627776/\(e.length+List.length [a.getD d.toNat default])*(48:Nat)<=(mI)/\ ∃(f:Int) (g:List Rt),(0<=f/\f<=(aU a)/\g=gI (List.take f.toNat a) (b,c))/\Int.toNat ((aU a) -f)<Int.toNat ((aU a) -d)/\a=a/\IntKind.wrap .i64 (d+(1:Int))=f/\b=b/\c=c/\e++[a.getD d.toNat default]=g/\True) (∃(f:Int) (g:List Rt),(0<=f/\f<=(aU a)/\g=gI (List.take f.toNat a) (b,c))/\Int.toNat
 ((aU a) -f)<Int.toNat ((aU a) -d)/\a=a/\IntKind.wrap .i64 (d+(1:Int))=f/\b=b/\c=c/\e=g/\True)) (e=gI a (b,c)):=by
  delta aU pO vH mI
  rintro l a n ⟨⟨hl0,-⟩,-⟩⟨hl,hx⟩
  refine⟨⟨0,[],⟨by omega,by omega,by simp[gI]⟩,(by repeat' first|exact trivial|refine⟨trivial,?_⟩|refine⟨(by with_reducible rfl),?_⟩|refine⟨af (by omega) (by omega),?_⟩|refine⟨rfl,?_⟩)⟩,?_⟩
  rintro i ys ⟨h0,h1,rfl⟩
  refine ae (fun hi=>?_) (fun hi=>?_)
  ·have hi:=of_decide_eq_true hi
   have ht:=M7 h0 hi
   have hxi:=hx _ (bL h0 hi)
   have hle:=MC (l.take i.toNat) (a,n)
   have hle2:(l.take i.toNat).length<=l.length:=by simp only[List.length_take];omega
   generalize l.getD i.toNat default=e at *
   obtain⟨⟨c,f⟩,g⟩:=e
   refine⟨h0,hi,ae (fun hc=>?_) (fun hc=>?_)⟩
   ·have hc:¬ (c,f)=(a,n):=by
     intro h;cases h;simp at hc
    refine⟨h0,hi,hxi,by simp only[List.length_singleton];omega,i+1,_,⟨by omega,by omega,rfl⟩,by omega,rfl,af (by omega) (by omega),rfl,rfl,?_,trivial⟩
    rw[ht,Ky,if_neg hc]
   ·have hc:(c,f)=(a,n):=by
     simp at hc;rw[hc.1,hc.2]
    refine⟨i+1,_,⟨by omega,by omega,rfl⟩,by omega,rfl,af (by omega) (by omega),rfl,rfl,?_,trivial⟩
    rw[ht,Ky,if_pos hc,List.append_nil]
  ·have hi:=of_decide_eq_false hi
   rw[List.take_of_length_le (by omega)]
theorem Xv:av Tryz.prog GL 184 N5.spec:=Ct.okH _ Tryz.func184 (by kernel_rfl) (ah aA Jt) au VG (aB (by kernel_rfl) ap2)
def lZ(l:List Rt)(p:cM):Bool:=decide ((gI l p).length<l.length)
def Nk:Ct:=⟨[.val (.sl cu),.agg kD],[.val .bool],fun d=>[okL d.1],fun d=>((lZ d.1 d.2.1,()),())⟩
def ac3:ar Nk.ps->ay:=(fun _=>{})
theorem W5 :
 ∀(a:List aD)(b c:Int),(pO a)/\((0<=b/\b<=4294967295)/\ab c)/\True->(vH a)->okL a/\decide (((List.length (gI a (b,c))):Int)<(aU a))=lZ a (b,c):=by
  delta aU pO vH
  rintro l a n-h
  exact⟨h,decide_eq_decide.2 Int.ofNat_lt⟩
theorem Wv:av Tryz.prog GL 132 Nk.spec:=Ct.okH _ Tryz.func132 (by kernel_rfl) (ah aA Xv) au ac3 (aB (by kernel_rfl) W5)
theorem Gh{α:Type} [Inhabited α] {l m:List α} {i:Int} (h0:0<=i) (h1:i<l.length) (h2:i<m.length) (h:l.take i.toNat=m.take i.toNat) (he:l.getD i.toNat default=m.getD i.toNat default):l.take (i+1).toNat=m.take (i+1).toNat:=by
 have hj:i.toNat<l.length:=by omega
 have hk:i.toNat<m.length:=by omega
 rw[List.getD_eq_getElem?_getD,List.getElem?_eq_getElem hj,Option.getD_some,List.getD_eq_getElem?_getD,List.getElem?_eq_getElem hk,Option.getD_some] at he
 rw[show (i+1).toNat=i.toNat+1 from by omega,List.take_succ_eq_append_getElem hj,List.take_succ_eq_append_getElem hk,h,he]
def Iy:Ct:=⟨[.agg cu,.agg cu],[.val .bool],fun d=>[],fun d=>((decide (d.1=d.2.1),()),())⟩
def Rp:ar Iy.ps->ay:=(fun d=>{loops:=(fun n=>match n with|4=>some (fun S=>{ι:=Int,μ:=fun i=>(d.1.2.1.length-i).toNat,inv:=fun i=>0<=i/\i<=d.1.2.1.length/\d.1.2.1.take i.toNat=d.2.1.2.1.take i.toNat,keep:=[2,3],slots:=fun i=>[(5,.int .i64 i)],keepN:=[48,64],names:=fun i=>[]})|_=>none)})
theorem TW :
 ∀(a b:Int)(c:List Int)(d e f:Int)(g:List Int)(h:Int),(((0<=a/\a<=4294967295)/\ab b)/\(c.length<=maxLen/\ ∀(i:Int),i∈c->ab i)/\ab d)/\(((0<=e/\e<=4294967295)/\ab f)/\(g.length<=maxLen/\ ∀(i:Int),i∈g->ab i)/\ab h)/\True->True-> ∀(i:Bool),i= ! (decide (a=e)&&(decide (b=f)&&true))->((! i)->((! i)->(! i))/\True)/\((! i)->((! i)->(! i))/\True)/\((! i)->((! i)->(! i))/\((! i)->(! i))/\True)/\(i=false->(! i))/\ ∀(j:Bool),(j=bif i then true else ! decide (d=h))->((! j)->((! j)->(! j))/\True)/\((! j)->((! j)->(! j))/\True)/\((! j)->((! j)->(! j))/\True)/\((! j)->((! j)->(! j))/\True)/\((! j)->((! j)->(! j))/\((! j)->(! j))/\True)/\(j=false->(! j))/\ad (bif j then true else ! decide ((gf c)=(g.length:Int))) (false=decide (((a,b),c,d)=((e,f),g,h))) ((∃(k:Int),(0<=k/\k<=(gf c)/\List.take k.toNat c=List.take k.toNat g)/\(0:Int)=k/\a=a/\b=b/\c=c/\d=d/\e=e/\f=f/\g=g/\h=h/\True)/\
 ∀(k:Int),0<=k/\k<=(gf c)/\List.take k.toNat c=List.take k.toNat g->ad (decide (k<(gf c))) (0<=k/\k<(gf c)/\0<=k/\k<(g.length:Int)/\ad (! decide (c.getD k.toNat default=g.getD k.toNat default)) (false=decide (((a,b),c,d)=((e,f),g,h))) (∃(l:Int),(0<=l/\l<=(gf c)/\List.take l.toNat c=List.take l.toNat g)/\Int.toNat ((gf c) -l)<Int.toNat ((gf c) -k)/\IntKind.wrap .i64 (k+(1:Int))=l/\a=a/\b=b/\c=c/\d=d/\e=e/\f=f/\g=g/\h=h/\True)) (true=decide (((a,b),c,d)=((e,f),g,h)))):=by
  delta gf
  rintro a n nx b c m ny e ⟨⟨-,⟨hl,-⟩,-⟩,⟨-,⟨hm,-⟩,-⟩,-⟩ -
  simp only[maxLen] at hl hm
  (repeat (intro (b_:Bool) (hb_:b_=_);(repeat refine⟨(by first|(simp;done)|(rw[hb_];simp;done)|(rw[hb_];simp;omega)|(rw[hb_];simp;intros;omega)|(rw[hb_];simp +contextual;done)),?_⟩);subst hb_))
  refine ae (fun hc=>?_) (fun hc=>?_)
  ·symm;apply decide_eq_false
   intro h;cases h;simp at hc
  ·have hc:(a=c/\n=m)/\b=e/\nx.length=ny.length:=by
    simp[Bool.cond_eq_ite] at hc;omega
   obtain⟨⟨rfl,rfl⟩,rfl,hlen⟩:=hc
   refine⟨⟨0,⟨by omega,by omega,by simp⟩,(by repeat' first|exact trivial|refine⟨trivial,?_⟩|refine⟨(by with_reducible rfl),?_⟩|refine⟨af (by omega) (by omega),?_⟩|refine⟨rfl,?_⟩)⟩,?_⟩
   rintro i ⟨h0,h1,h2⟩
   refine ae (fun hi=>?_) (fun hi=>?_)
   ·have hi:=of_decide_eq_true hi
    refine⟨h0,hi,h0,by omega,ae (fun hq=>?_) (fun hq=>?_)⟩
    ·symm;apply decide_eq_false
     intro h;cases h;simp at hq
    ·simp only[Bool.not_eq_false',decide_eq_true_eq] at hq
     refine⟨i+1,⟨by omega,by omega,?_⟩,by omega,(by repeat' first|exact trivial|refine⟨trivial,?_⟩|refine⟨(by with_reducible rfl),?_⟩|refine⟨af (by omega) (by omega),?_⟩|refine⟨rfl,?_⟩)⟩
     exact Gh h0 hi (by omega) h2 hq
   ·have hi:=of_decide_eq_false hi
    rw[List.take_of_length_le (by omega),List.take_of_length_le (by omega)] at h2
    symm;apply decide_eq_true;rw[h2]
theorem XW:av Tryz.prog GL 191 Iy.spec:=Ct.okH _ Tryz.func191 (by kernel_rfl) aA au Rp (aB (by kernel_rfl) TW)
def J0:Ct:=⟨[.val (.sl cu),.val (.sl cu)],[.val .bool],fun d=>[],fun d=>((decide (d.1=d.2.1),()),())⟩
def an4:ar J0.ps->ay:=(fun d=>{loops:=(fun n=>match n with|4=>some (fun S=>{ι:=Int,μ:=fun i=>(d.1.length-i).toNat,inv:=fun i=>0<=i/\i<=d.1.length/\d.1.take i.toNat=d.2.1.take i.toNat,keep:=[0,1],slots:=fun i=>[(5,.int .i64 i)],names:=fun i=>[]})|_=>none)})
theorem Vq :
 ∀(a b:List aD),(a.length<=maxLen/\ ∀(c:aD),c∈a->(qI c))/\(b.length<=maxLen/\ ∀(c:aD),c∈b->(qI c))/\True->True->ad (! decide ((aU a)=(b.length:Int))) (false=decide (a=b)) ((∃(c:Int),(0<=c/\c<=(aU a)/\List.take c.toNat a=List.take c.toNat b)/\a=a/\b=b/\(0:Int)=c/\True)/\ ∀(c:Int),0<=c/\c<=(aU a)/\List.take c.toNat a=List.take c.toNat b->ad (decide (c<(aU a))) (0<=c/\c<(aU a)/\0<=c/\c<(b.length:Int)/\ad (! decide (a.getD c.toNat default=b.getD c.toNat default)) (false=decide (a=b)) (∃(d:Int),(0<=d/\d<=(aU a)/\List.take d.toNat a=List.take d.toNat b)/\Int.toNat ((aU a) -d)<Int.toNat ((aU a) -c)/\a=a/\b=b/\IntKind.wrap .i64 (c+(1:Int))=d/\True)) (true=decide (a=b))):=by
  delta aU qI
  rintro l m ⟨⟨hl,-⟩,⟨hm,-⟩,-⟩ -
  simp only[maxLen] at hl hm
  refine ae (fun hc=>?_) (fun hc=>?_)
  ·symm;apply decide_eq_false
   intro h;cases h;simp at hc
  ·have hc:l.length=m.length:=by simp at hc;omega
   refine⟨⟨0,⟨by omega,by omega,by simp⟩,(by repeat' first|exact trivial|refine⟨trivial,?_⟩|refine⟨(by with_reducible rfl),?_⟩|refine⟨af (by omega) (by omega),?_⟩|refine⟨rfl,?_⟩)⟩,?_⟩
   rintro i ⟨h0,h1,h2⟩
   refine ae (fun hi=>?_) (fun hi=>?_)
   ·have hi:=of_decide_eq_true hi
    refine⟨h0,hi,h0,by omega,ae (fun hq=>?_) (fun hq=>?_)⟩
    ·symm;apply decide_eq_false
     intro h;cases h;simp at hq
    ·simp only[Bool.not_eq_false',decide_eq_true_eq] at hq
     refine⟨i+1,⟨by omega,by omega,?_⟩,by omega,(by repeat' first|exact trivial|refine⟨trivial,?_⟩|refine⟨(by with_reducible rfl),?_⟩|refine⟨af (by omega) (by omega),?_⟩|refine⟨rfl,?_⟩)⟩
     exact Gh h0 hi (by omega) h2 hq
   ·have hi:=of_decide_eq_false hi
    rw[List.take_of_length_le (by omega),List.take_of_length_le (by omega)] at h2
    symm;apply decide_eq_true;rw[h2]
theorem ad7:av Tryz.prog GL 138 J0.spec:=Ct.okH _ Tryz.func138 (by kernel_rfl) (ah aA XW) au an4 (aB (by kernel_rfl) Vq)
end Go.RS

/- Law09: the laws of forwarding tables. -/
namespace Go.RS
open Go.SX Go.Proofs
set_option maxRecDepth 100000
set_option linter.unusedVariables false
theorem IF{l:List Rt}{r z:Rt}:z∈dP l r↔z=r∨(z∈l/\z.1≠r.1):=by
 unfold dP
 simp only[List.mem_append,List.mem_cons,List.mem_filter,decide_eq_true_eq]
 constructor
 ·rintro (⟨h,k⟩|h|⟨h,k⟩)
  ·exact .inr ⟨h,fun e=>mS _ (e▸k)⟩
  ·exact .inl h
  ·exact .inr ⟨h,fun e=>mS _ (e▸k)⟩
 ·rintro (h|⟨h,k⟩)
  ·exact .inr (.inl h)
  ·by_cases hp:bc z.1 r.1
   ·exact .inl ⟨h,hp⟩
   ·rcases Ba hp with e|e
    ·exact absurd e k
    ·exact .inr (.inr ⟨h,e⟩)
theorem Cf{l:List Rt}{r:Rt}(hs:bM l):bM (dP l r):=by
 unfold bM dP
 refine List.pairwise_append.2 ⟨List.Pairwise.filter _ hs,List.pairwise_cons.2 ⟨fun z hz=>?_,List.Pairwise.filter _ hs⟩,fun x hx y hy=>?_⟩
 ·simpa using (List.mem_filter.1 hz).2
 ·have hx:bc x.1 r.1:=by simpa using (List.mem_filter.1 hx).2
  rcases List.mem_cons.1 hy with rfl|hy
  ·exact hx
  ·exact xQ hx (by simpa using (List.mem_filter.1 hy).2)
theorem N1(l:List Rt)(r:Rt):(dP l r).length<=l.length+1:=by
 unfold dP
 rw[List.length_append,List.length_cons]
 suffices h:(l.filter (fun a=>decide (bc a.1 r.1))).length+(l.filter (fun a=>decide (bc r.1 a.1))).length<=l.length by omega
 induction l with
 | nil=>simp
 | cons a l ih =>
  simp only[List.filter_cons]
  by_cases h1:bc a.1 r.1
  ·have h2:=tM h1
   simp only[h1,h2,decide_true,decide_false,if_true,List.length_cons]
   simp;omega
  ·by_cases h2:bc r.1 a.1
   ·simp[h1,h2];omega
   ·simp[h1,h2];omega
theorem VJ(l:List Rt)(p:cM):lZ l p=decide (∃ z∈l,z.1=p):=by
 unfold lZ gI
 apply decide_eq_decide.2
 rw[List.length_filter_lt_length_iff_exists]
 simp
end Go.RS

/- Bucket: buckets and their laws' times. -/
namespace Go.RS
open Go.SX Go.Proofs
set_option maxRecDepth 100000
set_option linter.unusedVariables false
abbrev w(n:Int):Int:=IntKind.i64.wrap n
def xp(b:Int×Int)(at':Int):Int×Int:=(w (b.1*b.2),at')
def pH(b t:Int×Int)(at':Int):Int:=min (w (t.1+w (at'-t.2))) (w (b.1*b.2))
def iF(b t:Int×Int)(at':Int):(Int×Int)×Bool :=
 if b=(0,0) then ((0,max at' t.2),true) else
  if pH b t (max at' t.2)<b.2 then ((pH b t (max at' t.2),max at' t.2),false) else ((w (pH b t (max at' t.2)-b.2),max at' t.2),true)
def Ni:Ct:=⟨[.agg wG],[.val .bool],fun _=>[],fun d=>((decide (d.1=(0,0)),()),())⟩
def SE:ar Ni.ps->ay:=(fun _=>{})
theorem U9 :
 ∀(a b:Int),(ab a/\ab b)/\True->True->(decide (a=0)&&(decide (b=0)&&true))=decide ((a,b)=((0:Int),(0:Int))):=by
  rintro x y - -
  simp
theorem JF:av Tryz.prog GL 253 Ni.spec:=Ct.okH _ Tryz.func253 (by kernel_rfl) aA au SE (aB (by kernel_rfl) U9)
def PV:Ct:=⟨[.agg wG,.agg r6,.val cI],[.val cI],fun _=>[],fun d=>((pH d.1 d.2.1 d.2.2.1,()),())⟩
def ZW:ar PV.ps->ay:=(fun _=>{})
theorem Vd :
 ∀(a b c d e:Int),(ab a/\ab b)/\(ab c/\ab d)/\ab e/\True->True->min (IntKind.wrap .i64 (c+IntKind.wrap .i64 (e -d))) (IntKind.wrap .i64 (a*b))=pH (a,b) (c,d) e:=by
  rintro x y a b c - -
  rfl
theorem Zn:av Tryz.prog GL 286 PV.spec:=Ct.okH _ Tryz.func286 (by kernel_rfl) aA au ZW (aB (by kernel_rfl) Vd)
def Ie:Ct:=⟨[.agg wG,.val cI],[.agg r6],fun _=>[],fun d=>((xp d.1 d.2.1,()),())⟩
def Q6:ar Ie.ps->ay:=(fun _=>{})
theorem Z0 :
 ∀(a b c:Int),(ab a/\ab b)/\ab c/\True->True->(IntKind.wrap .i64 (a*b),c)=(w (a*b),c):=by
  rintro x y a - -
  rfl
theorem ao9:av Tryz.prog GL 125 Ie.spec:=Ct.okH _ Tryz.func125 (by kernel_rfl) aA au Q6 (aB (by kernel_rfl) Z0)
def Iu:Ct:=⟨[.agg wG,.agg r6,.val cI],[.agg r6,.val .bool],fun _=>[],fun d=>(((iF d.1 d.2.1 d.2.2.1).1,(iF d.1 d.2.1 d.2.2.1).2,()),())⟩
def an7:ar Iu.ps->ay:=(fun _=>{})
theorem ai1 :
 ∀(a b c d e:Int),(ab a/\ab b)/\(ab c/\ab d)/\ab e/\True->True->ad (decide ((a,b)=((0:Int),(0:Int)))) (((0:Int),max e d)=(iF (a,b) (c,d) e).1/\true=(iF (a,b) (c,d) e).2) (ad (decide (pH (a,b) (c,d) (max e d)<b)) ((pH (a,b) (c,d) (max e d),max e d)=(iF (a,b) (c,d) e).1/\false=(iF (a,b) (c,d) e).2) ((IntKind.wrap .i64 (pH (a,b) (c,d) (max e d) -b),max e d)=(iF (a,b) (c,d) e).1/\true=(iF (a,b) (c,d) e).2)):=by
  rintro x y a b c - -
  simp only[iF]
  refine ae (fun hb=>?_) (fun hb=>?_)
  ·have hb:=of_decide_eq_true hb
   rw[if_pos hb];exact⟨rfl,rfl⟩
  ·have hb:=of_decide_eq_false hb
   rw[if_neg hb]
   refine ae (fun h=>?_) (fun h=>?_)
   ·rw[if_pos (of_decide_eq_true h)];exact⟨rfl,rfl⟩
   ·rw[if_neg (of_decide_eq_false h)];exact⟨rfl,rfl⟩
theorem Pr:av Tryz.prog GL 274 Iu.spec:=Ct.okH _ Tryz.func274 (by kernel_rfl) (ah (ah aA JF) Zn) au an7 (aB (by kernel_rfl) ai1)
end Go.RS

/- Nodec: the parts and the errors of a node. -/
namespace Go.RS
open Go.SX Go.Proofs
set_option maxRecDepth 100000
set_option linter.unusedVariables false
def gU(b:Int×Int):Int:=if b=(0,0)∨(1<=b.1/\b.1<=65536/\1<=b.2/\b.2<=1073741824) then 0 else 1
def bv(x:ac):List Int:=(aC x).map (·.2)
def nT(x:ac):List Int:=(aC x).map (·.1)
def fT(q:Int×Int->Bool)(l:List (Int×Int)):Int:=if l.findIdx q<l.length then (l.findIdx q:Int) else -1
def i7(a:Int)(p:Int×Int):Bool:=decide (p.1=a)
def gS(k:Int)(p:Int×Int):Bool:=decide (p.2=k)
def ke(x:ac)(a:Int):Int:=fT (i7 a) (aC x)
def cL(x:ac)(k:Int):Int:=fT (gS k) (aC x)
def jW(x:ac)(a:Int):Bool:=decide (0<=ke x a)||(!decide (gw x=0)&&decide (gw x=a))
theorem AL{α:Type} [Inhabited α] {l:List α} {k:Int} (h0:0<=k) (h1:k<l.length):l.take (k+1).toNat=l.take k.toNat++[l.getD k.toNat default]:=by
 rw[show (k+1).toNat=k.toNat+1 by omega,List.take_add_one,List.getElem?_eq_getElem (by omega),List.getD_eq_getElem?_getD,List.getElem?_eq_getElem (by omega)];rfl
def NA:Ct:=⟨[.agg wG],[.val cI],fun _=>[],fun d=>((gU d.1,()),())⟩
def XG:ar NA.ps->ay:=(fun _=>{})
theorem U7 :
 ∀(a b:Int),(ab a/\ab b)/\True->True-> ∀(c:Bool),c= ! decide ((a,b)=((0:Int),(0:Int)))->(c->(c->c)/\True)/\(c->(c->c)/\True)/\(c->(c->c)/\True)/\ ∀(d:Bool),d=decide (a<1)->((c&& ! d)->((c&& ! d)->(c&& ! d))/\True)/\((c&& ! d)->((c&& ! d)->(c&& ! d))/\True)/\(c->(c->c)/\(d=false->(c&& ! d))/\True)/\(c->(c->c)/\True)/\ ∀(e:Bool),(e=bif d then true else decide (65536<a))->((c&& ! e)->((c&& ! e)->(c&& ! e))/\True)/\((c&& ! e)->((c&& ! e)->(c&& ! e))/\True)/\(c->(c->c)/\(e=false->(c&& ! e))/\True)/\(c->(c->c)/\True)/\ ∀(f:Bool),(f=bif e then true else decide (b<1))->((c&& ! f)->((c&& ! f)->(c&& ! f))/\True)/\((c&& ! f)->((c&& ! f)->(c&& ! f))/\True)/\(c->(c->c)/\(f=false->(c&& ! f))/\True)/\(c->c)/\ad (bif c then bif f then true else decide (1073741824<b) else false) ((1:Int)=gU (a,b)) ((0:Int)=gU (a,b)):=by
  rintro a b - -
  (repeat (intro (b_:Bool) (hb_:b_=_);(repeat refine⟨(by first|(simp;done)|(rw[hb_];simp;done)|(rw[hb_];simp;omega)|(rw[hb_];simp;intros;omega)|(rw[hb_];simp +contextual;done)),?_⟩);subst hb_))
  unfold gU
  refine ae (fun h=>?_) (fun h=>?_)
  ·simp at h
   rw[if_neg (by simp;omega)]
  ·simp at h
   rw[if_pos (by simp;omega)]
theorem ak5:av Tryz.prog GL 219 NA.spec:=Ct.okH _ Tryz.func219 (by kernel_rfl) (ah aA JF) au XG (aB (by kernel_rfl) U7)
def M1:Ct:=⟨[.val ck],[.val .bool],fun d=>[],fun d=>((decide (fm d.1),()),())⟩
def aa4:ar M1.ps->ay:=(fun _=>{})
theorem aw2 :
 ∀(a:Int),(0<=a/\a<=4294967295)/\True->True-> ∀(b:Bool),b=decide (fK a=0)->((! b)->((! b)->(! b))/\True)/\(b=false->(! b))/\(bif b then true else decide (fK a=3))=decide (fm a):=by
  rintro a - -
  (repeat (intro (b_:Bool) (hb_:b_=_);(repeat refine⟨(by first|(simp;done)|(rw[hb_];simp;done)|(rw[hb_];simp;omega)|(rw[hb_];simp;intros;omega)|(rw[hb_];simp +contextual;done)),?_⟩);subst hb_))
  rw[Bool.eq_iff_iff,decide_eq_true_iff];simp[fm,Bool.cond_eq_ite]
theorem S6:av Tryz.prog GL 217 M1.spec:=Ct.okH _ Tryz.func217 (by kernel_rfl) (ah aA M3) au aa4 (aB (by kernel_rfl) aw2)
def Ml:Ct:=⟨[.agg qB,.box 65 ck],[.val .bool],fun d=>[],fun d=>((i7 d.2.1 d.1,()),(d.2.1,()))⟩
def Qy:ar Ml.ps->ay:=(fun _=>{})
theorem Zi :
 ∀(a b c:Int),((0<=a/\a<=4294967295)/\ab b)/\(0<=c/\c<=4294967295)/\True->True->decide (a=c)=i7 c (a,b)/\c=c:=by
  rintro a b c - -
  exact⟨rfl,rfl⟩
theorem Vh:av Tryz.prog GL 206 Ml.spec:=Ct.okH _ Tryz.func206 (by kernel_rfl) aA au Qy (aB (by kernel_rfl) Zi)
def Me:Ct:=⟨[.agg qB,.box 3 cI],[.val .bool],fun d=>[],fun d=>((gS d.2.1 d.1,()),(d.2.1,()))⟩
def VB:ar Me.ps->ay:=(fun _=>{})
theorem V3 :
 ∀(a b c:Int),((0<=a/\a<=4294967295)/\ab b)/\ab c/\True->True->decide (b=c)=gS c (a,b)/\c=c:=by
  rintro a b c - -
  exact⟨rfl,rfl⟩
theorem Zg:av Tryz.prog GL 160 Me.spec:=Ct.okH _ Tryz.func160 (by kernel_rfl) aA au VB (aB (by kernel_rfl) V3)
def JV:Ct:=⟨[.val (.sl qB),.fn 206 1,.box 65 ck],[.val cI],fun d=>[],fun d=>((fT (i7 d.2.2.1) d.1,()),(d.2.2.1,()))⟩
def Ta:ar JV.ps->ay:=(fun d=>{loops:=(fun n=>match n with|2=>some (fun S=>{ι:=Int,μ:=fun i=>(d.1.length-i).toNat,inv:=fun i=>0<=i/\i<=d.1.length∧∀ x∈d.1.take i.toNat,i7 d.2.2.1 x=false,keep:=[0,1,6,7],slots:=fun i=>[(8,.int .i64 i)],keepN:=[1048576],names:=fun i=>[]})|_=>none)})
def gZ(a:List (Int×Int)) :=
 (a.length:Int)
theorem az1 :
 ∀(a:List (Int×Int))(b:Int),(a.length<=maxLen/\ ∀(c:Int×Int),c∈a->(0<=c.1/\c.1<=4294967295)/\ab c.2)/\True/\(0<=b/\b<=4294967295)/\True->True->(∃(c:Int),(0<=c/\c<=(gZ a)/\ ∀(d:Int×Int),d∈List.take c.toNat a->i7 b d=false)/\a=a/\a=a/\(gZ a)=(gZ a)/\(0:Int)=c/\b=b/\True)/\ ∀(c:Int),(0<=c/\c<=(gZ a)/\ ∀(d:Int×Int),d∈List.take c.toNat a->i7 b d=false)->ad (decide (c<(gZ a))) (0<=c/\c<(gZ a)/\ad (i7 b (a.getD c.toNat default)) (c=fT (i7 b) a/\b=b) (∃(d:Int),(0<=d/\d<=(gZ a)/\ ∀(e:Int×Int),e∈List.take d.toNat a->i7 b e=false)/\Int.toNat ((gZ a) -d)<Int.toNat ((gZ a) -c)/\a=a/\a=a/\(gZ a)=(gZ a)/\IntKind.wrap .i64 (c+(1:Int))=d/\b=b/\True)) ((-1:Int)=fT (i7 b) a/\b=b):=by
  delta gZ
  rintro l a ⟨⟨hl,-⟩,-⟩ -
  simp only[maxLen] at hl
  refine⟨⟨0,⟨by omega,by omega,by simp⟩,(by repeat' first|exact trivial|refine⟨trivial,?_⟩|refine⟨(by with_reducible rfl),?_⟩|refine⟨af (by omega) (by omega),?_⟩|refine⟨rfl,?_⟩)⟩,?_⟩
  rintro j ⟨j0,j1,hj⟩
  refine ae (fun hk=>?_) (fun hk=>?_)
  ·have hk:=of_decide_eq_true hk
   refine⟨j0,hk,ae (fun hm=>?_) (fun hm=>?_)⟩
   ·exact⟨BM j0 hk hj hm,rfl⟩
   ·exact⟨j+1,⟨by omega,by omega,rM j0 hk hj hm⟩,by omega,(by repeat' first|exact trivial|refine⟨trivial,?_⟩|refine⟨(by with_reducible rfl),?_⟩|refine⟨af (by omega) (by omega),?_⟩|refine⟨rfl,?_⟩)⟩
  ·exact⟨DA (of_decide_eq_false hk) hj,rfl⟩
theorem av5:av Tryz.prog GL 159 JV.spec:=Ct.okH _ Tryz.func159 (by kernel_rfl) (ah aA Vh) au Ta (aB (by kernel_rfl) az1)
def Mp:Ct:=⟨[.val (.sl qB),.fn 160 1,.box 3 cI],[.val cI],fun d=>[],fun d=>((fT (gS d.2.2.1) d.1,()),(d.2.2.1,()))⟩
def X6:ar Mp.ps->ay:=(fun d=>{loops:=(fun n=>match n with|2=>some (fun S=>{ι:=Int,μ:=fun i=>(d.1.length-i).toNat,inv:=fun i=>0<=i/\i<=d.1.length∧∀ x∈d.1.take i.toNat,gS d.2.2.1 x=false,keep:=[0,1,6,7],slots:=fun i=>[(8,.int .i64 i)],keepN:=[1048576],names:=fun i=>[]})|_=>none)})
theorem ae2 :
 ∀(a:List (Int×Int))(b:Int),(a.length<=maxLen/\ ∀(c:Int×Int),c∈a->(0<=c.1/\c.1<=4294967295)/\ab c.2)/\True/\ab b/\True->True->(∃(c:Int),(0<=c/\c<=(gZ a)/\ ∀(d:Int×Int),d∈List.take c.toNat a->gS b d=false)/\a=a/\a=a/\(gZ a)=(gZ a)/\(0:Int)=c/\b=b/\True)/\ ∀(c:Int),(0<=c/\c<=(gZ a)/\ ∀(d:Int×Int),d∈List.take c.toNat a->gS b d=false)->ad (decide (c<(gZ a))) (0<=c/\c<(gZ a)/\ad (gS b (a.getD c.toNat default)) (c=fT (gS b) a/\b=b) (∃(d:Int),(0<=d/\d<=(gZ a)/\ ∀(e:Int×Int),e∈List.take d.toNat a->gS b e=false)/\Int.toNat ((gZ a) -d)<Int.toNat ((gZ a) -c)/\a=a/\a=a/\(gZ a)=(gZ a)/\IntKind.wrap .i64 (c+(1:Int))=d/\b=b/\True)) ((-1:Int)=fT (gS b) a/\b=b):=by
  delta gZ
  rintro l a ⟨⟨hl,-⟩,-⟩ -
  simp only[maxLen] at hl
  refine⟨⟨0,⟨by omega,by omega,by simp⟩,(by repeat' first|exact trivial|refine⟨trivial,?_⟩|refine⟨(by with_reducible rfl),?_⟩|refine⟨af (by omega) (by omega),?_⟩|refine⟨rfl,?_⟩)⟩,?_⟩
  rintro j ⟨j0,j1,hj⟩
  refine ae (fun hk=>?_) (fun hk=>?_)
  ·have hk:=of_decide_eq_true hk
   refine⟨j0,hk,ae (fun hm=>?_) (fun hm=>?_)⟩
   ·exact⟨BM j0 hk hj hm,rfl⟩
   ·exact⟨j+1,⟨by omega,by omega,rM j0 hk hj hm⟩,by omega,(by repeat' first|exact trivial|refine⟨trivial,?_⟩|refine⟨(by with_reducible rfl),?_⟩|refine⟨af (by omega) (by omega),?_⟩|refine⟨rfl,?_⟩)⟩
  ·exact⟨DA (of_decide_eq_false hk) hj,rfl⟩
theorem Tp:av Tryz.prog GL 159 Mp.spec:=Ct.okH _ Tryz.func159 (by kernel_rfl) (ah aA Zg) au X6 (aB (by kernel_rfl) ae2)
def L6:Ct:=⟨[.agg bH,.val ck],[.val cI],fun d=>[],fun d=>((ke d.1 d.2.1,()),())⟩
def ay1:ar L6.ps->ay:=(fun _=>{})
theorem ZH :
 ∀(a:ac)(b:Int),CT.wf bH a/\(0<=b/\b<=4294967295)/\True->True->fT (i7 b) a.1=ke a b:=by
  rintro d x - -
  rfl
theorem OE:av Tryz.prog GL 157 L6.spec:=Ct.okH _ Tryz.func157 (by kernel_rfl) (ah aA av5) au ay1 (aB (by kernel_rfl) ZH)
def Ls:Ct:=⟨[.agg bH,.val cI],[.val cI],fun d=>[],fun d=>((cL d.1 d.2.1,()),())⟩
def ax2:ar Ls.ps->ay:=(fun _=>{})
theorem ZU :
 ∀(a:ac)(b:Int),CT.wf bH a/\ab b/\True->True->fT (gS b) a.1=cL a b:=by
  rintro d x - -
  rfl
theorem Ak:av Tryz.prog GL 87 Ls.spec:=Ct.okH _ Tryz.func87 (by kernel_rfl) (ah aA Tp) au ax2 (aB (by kernel_rfl) ZU)
def PB:Ct:=⟨[.agg bH,.val ck],[.val .bool],fun d=>[],fun d=>((jW d.1 d.2.1,()),())⟩
def WO:ar PB.ps->ay:=(fun _=>{})
theorem an8 :
 ∀(a:ac)(b:Int),CT.wf bH a/\(0<=b/\b<=4294967295)/\True->True-> ∀(c:Int),c=ke a b-> ∀(d:Bool),d=decide (0<=c)->((! d)->((! d)->(! d))/\True)/\((! d)->((! d)->(! d))/\True)/\((! d)->((! d)->(! d))/\True)/\ ∀(e:Bool),e= ! decide (a.2.1=0)->((! d&&e)->((! d&&e)->(! d&&e))/\True)/\((! d&&e)->((! d&&e)->(! d&&e))/\((! d&&e)->(! d&&e))/\True)/\((! d)->((! d)->(! d))/\(e->(! d&&e))/\True)/\(d=false->(! d))/\(bif d then true else bif e then decide (a.2.1=b) else false)=jW a b:=by
  rintro d x - - q hq
  unfold jW
  rw[show gw d=d.2.1 from rfl,← hq]
  generalize d.2.1=z
  intro b hb
  refine⟨by simp,by simp,by simp,?_⟩
  intro b1 hb1
  (repeat refine⟨(by cases b <;> cases b1 <;> simp),?_⟩)
  rw[hb,hb1]
  cases decide (0<=q) <;> cases decide (z=0) <;> cases decide (z=x) <;> rfl
theorem Tz:av Tryz.prog GL 82 PB.spec:=Ct.okH _ Tryz.func82 (by kernel_rfl) (ah aA (Ct.named OE)) au WO (aB (by kernel_rfl) an8)
def Hl:Ct:=⟨[.agg bH],[.own 3 cI],fun d=>[(aC d.1).length<=100000],fun d=>((bv d.1,()),())⟩
def ay2:ar Hl.ps->ay:=(fun d=>{loops:=(fun n=>match n with|3=>some (fun S=>{ι:=Int×(List Int),qn:=⟨fun k_=>∀(j:Int)(l:(List Int)),k_ (j,l),fun k_ h_ i=>h_ i.1 i.2,fun k_=>∃ (j:Int) (l:(List Int)),k_ (j,l),fun k_ ⟨j,l,h_⟩=>⟨_,h_⟩⟩,μ:=fun i=>((aC d.1).length-i.1).toNat,inv:=fun i=>0<=i.1/\i.1<=(aC d.1).length/\i.2=(bv d.1).take i.1.toNat,keep:=[1,7,8],slots:=fun i=>[(3,.own 524288 1),(9,.int .i64 i.1)],keepN:=[32],names:=fun i=>[(524288,.live (.row 3 cI i.2))]})|_=>none)})
def uH(a:ac) :=
 ((List.length (aC a)):Int)
theorem SF :
 ∀(a:ac),CT.wf bH a/\True->List.length (aC a)<=(100000:Nat)->(∃(b:Int) (c:List Int),(0<=b/\b<=(uH a)/\c=List.take b.toNat (bv a))/\a.1=a.1/\(a.1.length:Int)=(a.1.length:Int)/\(0:Int)=b/\a.1=a.1/\a.2.1=a.2.1/\a.2.2.1=a.2.2.1/\a.2.2.2.1=a.2.2.2.1/\a.2.2.2.2.1=a.2.2.2.2.1/\a.2.2.2.2.2.1=a.2.2.2.2.2.1/\a.2.2.2.2.2.2.1=a.2.2.2.2.2.2.1/\a.2.2.2.2.2.2.2.1=a.2.2.2.2.2.2.2.1/\a.2.2.2.2.2.2.2.2.1=a.2.2.2.2.2.2.2.2.1/\a.2.2.2.2.2.2.2.2.2.1=a.2.2.2.2.2.2.2.2.2.1/\a.2.2.2.2.2.2.2.2.2.2.1.1=a.2.2.2.2.2.2.2.2.2.2.1.1/\a.2.2.2.2.2.2.2.2.2.2.1.2=a.2.2.2.2.2.2.2.2.2.2.1.2/\a.2.2.2.2.2.2.2.2.2.2.2.1=a.2.2.2.2.2.2.2.2.2.2.2.1/\a.2.2.2.2.2.2.2.2.2.2.2.2.1=a.2.2.2.2.2.2.2.2.2.2.2.2.1/\a.2.2.2.2.2.2.2.2.2.2.2.2.2.1=a.2.2.2.2.2.2.2.2.2.2.2.2.2.1/\a.2.2.2.2.2.2.2.2.2.2.2.2.2.2=a.2.2.2.2.2.2.2.2.2.2.2.2.2.2/\c=([]:List Int)/\True)/\ ∀(b:Int)(c:List Int),0<=b/\b<=(uH a)/\c=List.take b.toNat (bv
 a)->ad (decide (b<(a.1.length:Int))) (0<=b/\b<(a.1.length:Int)/\(c.length+List.length [(List.getD a.1 b.toNat default).2])*(8:Nat)<=(140737488355328:Nat)/\ ∃(d:Int) (e:List Int),(0<=d/\d<=(uH a)/\e=List.take d.toNat (bv a))/\Int.toNat ((uH a) -d)<Int.toNat ((uH a) -b)/\a.1=a.1/\(a.1.length:Int)=(a.1.length:Int)/\IntKind.wrap .i64
 (b+(1:Int))=d/\a.1=a.1/\a.2.1=a.2.1/\a.2.2.1=a.2.2.1/\a.2.2.2.1=a.2.2.2.1/\a.2.2.2.2.1=a.2.2.2.2.1/\a.2.2.2.2.2.1=a.2.2.2.2.2.1/\a.2.2.2.2.2.2.1=a.2.2.2.2.2.2.1/\a.2.2.2.2.2.2.2.1=a.2.2.2.2.2.2.2.1/\a.2.2.2.2.2.2.2.2.1=a.2.2.2.2.2.2.2.2.1/\a.2.2.2.2.2.2.2.2.2.1=a.2.2.2.2.2.2.2.2.2.1/\a.2.2.2.2.2.2.2.2.2.2.1.1=a.2.2.2.2.2.2.2.2.2.2.1.1/\a.2.2.2.2.2.2.2.2.2.2.1.2=a.2.2.2.2.2.2.2.2.2.2.1.2/\a.2.2.2.2.2.2.2.2.2.2.2.1=a.2.2.2.2.2.2.2.2.2.2.2.1/\a.2.2.2.2.2.2.2.2.2.2.2.2.1=a.2.2.2.2.2.2.2.2.2.2.2.2.1/\a.2.2.2.2.2.2.2.2.2.2.2.2.2.1=a.2.2.2.2.2.2.2.2.2.2.2.2.2.1/\a.2.2.2.2.2.2.2.2.2.2.2.2.2.2=a.2.2.2.2.2.2.2.2.2.2.2.2.2.2/\c++[(List.getD a.1 b.toNat default).2]=e/\True) (c=bv a):=by
  delta uH
  rintro d-hl
  have hlen:(bv d).length=(aC d).length:=by simp[bv]
  refine⟨⟨0,[],⟨by omega,by omega,rfl⟩,(by repeat' first|exact trivial|refine⟨trivial,?_⟩|refine⟨(by with_reducible rfl),?_⟩|refine⟨af (by omega) (by omega),?_⟩|refine⟨rfl,?_⟩)⟩,?_⟩
  rintro j l ⟨j0,j1,rfl⟩
  have hd:d.1=aC d:=rfl
  rw[hd]
  refine ae (fun hk=>?_) (fun hk=>?_)
  ·have hk:=of_decide_eq_true hk
   refine⟨j0,hk,by simp only[List.length_take,List.length_cons,List.length_nil];omega,j+1,_,⟨by omega,by omega,rfl⟩,by omega,?_⟩
   (repeat first|refine⟨trivial,?_⟩|refine⟨(by with_reducible rfl),?_⟩|refine⟨af (by omega) (by omega),?_⟩)
   refine⟨?_,trivial⟩
   rw[AL j0 (by rw[hlen];exact hk)]
   unfold bv
   rw[List.getD_eq_getElem?_getD,List.getD_eq_getElem?_getD,List.getElem?_map,List.getElem?_eq_getElem (by omega)]
   rfl
  ·have hk:=of_decide_eq_false hk
   rw[List.take_of_length_le (by omega)]
theorem ao3:av Tryz.prog GL 220 Hl.spec:=Ct.okH _ Tryz.func220 (by kernel_rfl) aA au ay2 (aB (by kernel_rfl) SF)
end Go.RS

/- Nodek: the first error of a node, in the program and in the reference; the reference's parts of a node. -/
namespace Go.RS
open Go.SX Go.Proofs
set_option maxRecDepth 100000
set_option linter.unusedVariables false
def first(f:Nat->Int):Nat->Int
 | 0=>0
 | n+1=>if first f n≠0 then first f n else f n
theorem Ao{f:Nat->Int}{i:Int}(h0:0<=i)(h:first f i.toNat=0)(hf:f i.toNat=0):first f (i+1).toNat=0:=by
 rw[show (i+1).toNat=i.toNat+1 by omega,first,if_neg (by simp[h]),hf]
theorem CO{f:Nat->Int}{a:Nat}(h:first f a≠0):∀ k,first f (a+k)=first f a
 | 0=>rfl
 | k+1=>by rw[← Nat.add_assoc,first,if_pos (by rw[CO h k];exact h),CO h k]
theorem Gp{f:Nat->Int}{i:Int}{n:Nat}(h0:0<=i)(h1:i<n)(h:first f i.toNat=0)(hf:f i.toNat≠0):f i.toNat=first f n:=by
 have e:first f (i.toNat+1)=f i.toNat:=by rw[first,if_neg (by simp[h])]
 have k:=CO (a:=i.toNat+1) (by rw[e];exact hf) (n-(i.toNat+1))
 rw[show i.toNat+1+(n-(i.toNat+1))=n by omega] at k
 rw[k,e]
theorem rV{f:Nat->Int}:∀{n:Nat},first f n=0→∀ i,i<n->f i=0
 | 0,_,i,hi=>by omega
 | n+1,h,i,hi=>by
  by_cases k:first f n=0
  ·rw[first,if_neg (by simp[k])] at h
   by_cases e:i=n
   ·rw[e];exact h
   ·exact rV k i (by omega)
  ·rw[first,if_pos k] at h;exact absurd h k
theorem zK{f:Nat->Int}:∀{n:Nat},(∀ i,i<n->f i=0)->first f n=0
 | 0,_=>rfl
 | n+1,h=>by rw[first,if_neg (by rw[zK fun i hi=>h i (by omega)];simp),h n (by omega)]
def fR(x:ac)(i:Nat):Int :=
 if ¬ fm ((aC x).getD i default).1∨ke x ((aC x).getD i default).1<i then 10
 else if ((aC x).getD i default).2<0∨cL x ((aC x).getD i default).2<i then 11 else 0
def mv(x:ac):Prop:=gw x≠0/\(¬ fm (gw x)∨0<=ke x (gw x))
instance (x:ac):Decidable (mv x):=by unfold mv;infer_instance
def kS(x:ac):Prop:=LV x<0∨(jG x<1∨4<jG x)∨(jG x=3/\gw x=0)∨(oe x≠0∧¬ fm (oe x))∨(jG x=4/\oe x=0)∨(gJ x<1∨255<gJ x)∨(aC x).length=0
instance (x:ac):Decidable (kS x):=by unfold kS;infer_instance
def d9(x:ac):Int :=
 if 32<(aC x).length then 5
 else if first (fR x) (aC x).length≠0 then first (fR x) (aC x).length
 else if mv x then 10
 else if kS x then 13
 else if iH x≠0 then iH x
 else if gU (iG x)≠0 then gU (iG x)
 else dE (aV x) (bv x)
theorem vn{c:Bool}{y n m:Prop}(hy:c=true->y)(hm:c=false->m):ad c (ad c y n) m:=by
 cases c with
 | true=>exact hy rfl
 | false=>exact hm rfl
theorem Pm{x:ac}(h:(aC x).length<=32){i:Int}(h0:0<=i)(h1:i<(aC x).length)(hf:first (fR x) i.toNat=0)(hb:fR x i.toNat≠0):fR x i.toNat=d9 x:=by
 have e:=Gp h0 h1 hf hb
 unfold d9
 rw[if_neg (by omega),← e,if_pos hb]
theorem Uj{x:ac}(h:(aC x).length<=32)(hf:first (fR x) (aC x).length=0)(hl:mv x):10=d9 x:=by
 unfold d9
 rw[if_neg (by omega),if_neg (by simp[hf]),if_pos hl]
theorem Xg{x:ac}(h:(aC x).length<=32)(hf:first (fR x) (aC x).length=0)(hl:¬ mv x)(hb:kS x):13=d9 x:=by
 unfold d9
 rw[if_neg (by omega),if_neg (by simp[hf]),if_neg hl,if_pos hb]
theorem Ot{x:ac}(h:(aC x).length<=32)(hf:first (fR x) (aC x).length=0)(hl:¬ mv x)(hb:¬ kS x):d9 x=if iH x≠0 then iH x else if gU (iG x)≠0 then gU (iG x) else dE (aV x) (bv x):=by
 unfold d9
 rw[if_neg (by omega),if_neg (by simp[hf]),if_neg hl,if_neg hb]
theorem YN{x:ac}{i:Int}(h0:0<=i)(h:¬ fm ((aC x).getD i.toNat default).1∨ke x ((aC x).getD i.toNat default).1<i):fR x i.toNat=10:=by
 unfold fR
 rw[show ((i.toNat:Nat):Int)=i by omega,if_pos h]
theorem aA2{x:ac}{i:Int}(h0:0<=i)(h:¬ (¬ fm ((aC x).getD i.toNat default).1∨ke x ((aC x).getD i.toNat default).1<i))(k:((aC x).getD i.toNat default).2<0∨cL x ((aC x).getD i.toNat default).2<i):fR x i.toNat=11:=by
 unfold fR
 rw[show ((i.toNat:Nat):Int)=i by omega,if_neg h,if_pos k]
theorem Z1{x:ac}{i:Int}(h0:0<=i)(h:¬ (¬ fm ((aC x).getD i.toNat default).1∨ke x ((aC x).getD i.toNat default).1<i))(k:¬ (((aC x).getD i.toNat default).2<0∨cL x ((aC x).getD i.toNat default).2<i)):fR x i.toNat=0:=by
 unfold fR
 rw[show ((i.toNat:Nat):Int)=i by omega,if_neg h,if_neg k]
def Is:Ct:=⟨[.agg bH],[.val cI],fun d=>[],fun d=>((d9 d.1,()),())⟩
def X0:ar Is.ps->ay:=(fun d=>{loops:=(fun n=>match n with|4=>some (fun S=>{ι:=Int,μ:=fun i=>((aC d.1).length-i).toNat,inv:=fun i=>0<=i/\i<=(aC d.1).length/\first (fR d.1) i.toNat=0,keep:=[1,12,13],slots:=fun i=>[(14,.int .i64 i)],keepN:=[32],names:=fun i=>[]})|_=>none),cuts:=(fun n=>match n with|21=>some (fun S=>{ι:=Unit,inv:=fun i=>(aC d.1).length<=32/\first (fR d.1) (aC d.1).length=0∧¬ mv d.1∧¬ kS d.1,keep:=[1],slots:=fun i=>[],keepN:=[32],names:=fun i=>[]})|_=>none),unr:=fun n=>match n with|22=>4|_=>0})
def Ai(a:ac) :=
 a.1=a.1/\a.2.1=a.2.1/\a.2.2.1=a.2.2.1/\a.2.2.2.1=a.2.2.2.1/\a.2.2.2.2.1=a.2.2.2.2.1/\a.2.2.2.2.2.1=a.2.2.2.2.2.1/\a.2.2.2.2.2.2.1=a.2.2.2.2.2.2.1/\a.2.2.2.2.2.2.2.1=a.2.2.2.2.2.2.2.1/\a.2.2.2.2.2.2.2.2.1=a.2.2.2.2.2.2.2.2.1/\a.2.2.2.2.2.2.2.2.2.1=a.2.2.2.2.2.2.2.2.2.1/\a.2.2.2.2.2.2.2.2.2.2.1.1=a.2.2.2.2.2.2.2.2.2.2.1.1/\a.2.2.2.2.2.2.2.2.2.2.1.2=a.2.2.2.2.2.2.2.2.2.2.1.2/\a.2.2.2.2.2.2.2.2.2.2.2.1=a.2.2.2.2.2.2.2.2.2.2.2.1/\a.2.2.2.2.2.2.2.2.2.2.2.2.1=a.2.2.2.2.2.2.2.2.2.2.2.2.1/\a.2.2.2.2.2.2.2.2.2.2.2.2.2.1=a.2.2.2.2.2.2.2.2.2.2.2.2.2.1/\a.2.2.2.2.2.2.2.2.2.2.2.2.2.2=a.2.2.2.2.2.2.2.2.2.2.2.2.2.2/\True
def rE(a:ac) :=
 (List.length (aC a)<=(32:Nat)/\first (fR a) (List.length (aC a))=0/\ ¬mv a/\ ¬kS a)/\(Ai a)
def Bj(a:ac) :=
 ((List.length [iH a,gU a.2.2.2.2.2.2.2.2.2.2.1,dE a.2.2.2.2.1 (bv a)]):Int)
def yG :=
 IntKind.wrap .i64 ((0:Int)+(1:Int))+(1:Int)
def uE(a:ac) :=
 ((List.length (aC a)):Int)
theorem aw4 :
 ∀(a:ac),CT.wf bH a/\True->True->ad (decide (32<(a.1.length:Int))) ((5:Int)=d9 a) ((∃(b:Int),(0<=b/\b<=(uE a)/\first (fR a) b.toNat=0)/\a.1=a.1/\(a.1.length:Int)=(a.1.length:Int)/\(0:Int)=b/\(Ai a))/\ ∀(b:Int),0<=b/\b<=(uE a)/\first (fR a) b.toNat=0->ad (decide (b<(a.1.length:Int))) (0<=b/\b<(a.1.length:Int)/\ ∀(c:Bool),c= ! decide (fm (List.getD a.1 b.toNat default).1)->((! c)->((! c)->(! c))/\True)/\((! c)->((! c)->(! c))/\((! c)->(! c))/\True)/\((! c)->((! c)->(! c))/\((! c)->(! c))/\True)/\(c=false->(! c))/\ad (bif c then true else decide (ke a (List.getD a.1 b.toNat default).1<b)) ((10:Int)=d9 a) (∀(d:Bool),d=decide ((List.getD a.1 b.toNat default).2<0)->((! d)->((! d)->(! d))/\True)/\((! d)->((! d)->(! d))/\((! d)->(! d))/\True)/\((! d)->((! d)->(! d))/\((! d)->(! d))/\True)/\(d=false->(! d))/\ad (bif d then true else decide (cL a (List.getD
 a.1 b.toNat default).2<b)) ((11:Int)=d9 a) (∃(e:Int),(0<=e/\e<=(uE a)/\first (fR a) e.toNat=0)/\Int.toNat ((uE a) -e)<Int.toNat ((uE a) -b)/\a.1=a.1/\(a.1.length:Int)=(a.1.length:Int)/\IntKind.wrap .i64 (b+(1:Int))=e/\(Ai a)))) (∀(c:Bool),c= ! decide (a.2.1=0)->(c->(c->c)/\True)/\(c->(c->c)/\True)/\(c->(c->c)/\True)/\(c->(c->c)/\True)/\ ∀(d:Bool),d= ! decide (fm a.2.1)->((c&& ! d)->((c&& ! d)->(c&& ! d))/\True)/\((c&& ! d)->((c&& ! d)->(c&& ! d))/\((c&& ! d)->(c&& ! d))/\True)/\((c&& ! d)->((c&& ! d)->(c&& ! d))/\True)/\(c->(c->c)/\(d=false->(c&& ! d))/\True)/\(c->c)/\ad (bif c then bif d then true else decide (0<=ke a a.2.1) else false) ((10:Int)=d9 a) (ad (decide (a.2.2.1<0)) (ad (decide (a.2.2.1<0)) ((13:Int)=d9 a) (∃(e:Unit),(rE a))) (∀(e:Bool),e=decide (a.2.2.2.2.2.1<1)->((! e)->((! e)->(! e))/\True)/\((! e)->((! e)->(! e))/\True)/\(e=false->(!
 e))/\ad (bif e then true else decide (4<a.2.2.2.2.2.1)) (ad (bif e then true else decide (4<a.2.2.2.2.2.1)) ((13:Int)=d9 a) (∃(f:Unit),(rE a))) (∀(f:Bool),f=decide (a.2.2.2.2.2.1=3)->(f->(f->f)/\True)/\(f->(f->f)/\True)/\(f->f)/\ad (bif f then decide (a.2.1=0) else false) (ad (bif f then decide (a.2.1=0) else false) ((13:Int)=d9 a) (∃(g:Unit),(rE a))) (∀(g:Bool),g= ! decide (a.2.2.2.2.2.2.1=0)->(g->(g->g)/\True)/\(g->(g->g)/\True)/\(g->(g->g)/\True)/\(g->g)/\ad (bif g then ! decide (fm a.2.2.2.2.2.2.1) else false) (ad (bif g then ! decide (fm a.2.2.2.2.2.2.1) else false) ((13:Int)=d9 a) (∃(h:Unit),(rE a))) (∀(h:Bool),h=decide (a.2.2.2.2.2.1=4)->(h->(h->h)/\True)/\(h->(h->h)/\True)/\(h->h)/\ad (bif h then decide (a.2.2.2.2.2.2.1=0) else false) (ad (bif h then decide (a.2.2.2.2.2.2.1=0) else false) ((13:Int)=d9 a) (∃(i:Unit),(rE a))) (∀(i:Bool),i=decide
 (a.2.2.2.2.2.2.2.2.2.2.2.2.2.1<1)->((! i)->((! i)->(! i))/\True)/\((! i)->((! i)->(! i))/\True)/\(i=false->(! i))/\ad (bif i then true else decide (255<a.2.2.2.2.2.2.2.2.2.2.2.2.2.1)) (ad (bif i then true else decide (255<a.2.2.2.2.2.2.2.2.2.2.2.2.2.1)) ((13:Int)=d9 a) (∃(j:Unit),(rE a))) (ad (decide ((a.1.length:Int)=0)) ((13:Int)=d9 a) (∃(j:Unit),(rE a))))))))/\ ∀(e:Unit),List.length (aC a)<=(32:Nat)/\first (fR a) (List.length (aC a))=0/\ ¬mv a/\ ¬kS a->List.length (aC a)<=(100000:Nat)/\(0:Int)<=0/\0<(Bj a)/\ad (! decide (List.getD [iH a,gU a.2.2.2.2.2.2.2.2.2.2.1,dE a.2.2.2.2.1 (bv a)] (Int.toNat (0:Int)) default=0)) (List.getD [iH a,gU a.2.2.2.2.2.2.2.2.2.2.1,dE a.2.2.2.2.1 (bv a)] (Int.toNat (0:Int)) default=d9 a) (0<=IntKind.wrap .i64 ((0:Int)+(1:Int))/\IntKind.wrap .i64 ((0:Int)+(1:Int))<(Bj a)/\ad (!
 decide (List.getD [iH a,gU a.2.2.2.2.2.2.2.2.2.2.1,dE a.2.2.2.2.1 (bv a)] (Int.toNat (IntKind.wrap .i64 ((0:Int)+(1:Int)))) default=0)) (List.getD [iH a,gU a.2.2.2.2.2.2.2.2.2.2.1,dE a.2.2.2.2.1 (bv a)] (Int.toNat (IntKind.wrap .i64 ((0:Int)+(1:Int)))) default=d9 a) (0<=IntKind.wrap .i64 (yG)/\IntKind.wrap .i64 (yG)<(Bj a)/\ad (! decide (List.getD [iH a,gU a.2.2.2.2.2.2.2.2.2.2.1,dE a.2.2.2.2.1 (bv a)] (Int.toNat (IntKind.wrap .i64 (yG))) default=0)) (List.getD [iH a,gU a.2.2.2.2.2.2.2.2.2.2.1,dE a.2.2.2.2.1 (bv a)] (Int.toNat (IntKind.wrap .i64 (yG))) default=d9 a) ((0:Int)=d9 a)))))):=by
  delta Ai rE Bj yG uE
  rintro d - -
  have hd:d.1=aC d:=rfl
  rw[hd]
  refine ae (fun h=>?_) (fun h=>?_)
  ·unfold d9;rw[if_pos (by have:=of_decide_eq_true h;omega)]
  have h32:(aC d).length<=32:=by have:=of_decide_eq_false h;omega
  clear h
  refine⟨⟨0,⟨by omega,by omega,rfl⟩,(by repeat' first|exact trivial|refine⟨trivial,?_⟩|refine⟨(by with_reducible rfl),?_⟩|refine⟨af (by omega) (by omega),?_⟩|refine⟨rfl,?_⟩)⟩,?_⟩
  rintro x ⟨x0,x1,hf⟩
  refine ae (fun hx=>?_) (fun hx=>?_)
  ·have hx:=of_decide_eq_true hx
   refine⟨x0,hx,?_⟩
   (repeat (intro (b_:Bool) (hb_:b_=_);(repeat refine⟨(by first|(simp;done)|(rw[hb_];simp;done)|(rw[hb_];simp;omega)|(rw[hb_];simp;intros;omega)|(rw[hb_];simp +contextual;done)),?_⟩);subst hb_))
   refine p8 (fun ho=>?_) (fun h1 h2=>?_)
   ·have e:=YN (x:=d) x0 (ho.imp fY of_decide_eq_true)
    rw[← Pm h32 x0 hx hf (by rw[e];decide),e]
   have hn:¬ (¬ fm ((aC d).getD x.toNat default).1∨ke d ((aC d).getD x.toNat default).1<x):=by
    rintro (k|k)
    ·exact k (gz h1)
    ·exact of_decide_eq_false h2 k
   (repeat (intro (b_:Bool) (hb_:b_=_);(repeat refine⟨(by first|(simp;done)|(rw[hb_];simp;done)|(rw[hb_];simp;omega)|(rw[hb_];simp;intros;omega)|(rw[hb_];simp +contextual;done)),?_⟩);subst hb_))
   refine p8 (fun ho=>?_) (fun h1 h2=>?_)
   ·have e:=aA2 (x:=d) x0 hn (ho.imp of_decide_eq_true of_decide_eq_true)
    rw[← Pm h32 x0 hx hf (by rw[e];decide),e]
   ·have e:=Z1 (x:=d) x0 hn (by
     rintro (k|k)
     ·exact of_decide_eq_false h1 k
     ·exact of_decide_eq_false h2 k)
    exact⟨x+1,⟨by omega,by omega,Ao x0 hf e⟩,by omega,(by repeat' first|exact trivial|refine⟨trivial,?_⟩|refine⟨(by with_reducible rfl),?_⟩|refine⟨af (by omega) (by omega),?_⟩|refine⟨rfl,?_⟩)⟩
  have hx:=of_decide_eq_false hx
  rw[show x.toNat=(aC d).length by omega] at hf
  rw[show d.2.1=gw d from rfl]
  intro b hb
  refine⟨by simp,by simp,by simp,by simp,?_⟩
  intro b1 hb1
  (repeat refine⟨(by cases b <;> cases b1 <;> simp),?_⟩)
  have hL:(bif b then bif b1 then true else decide (0<=ke d (gw d)) else false)=decide (mv d):=by
   rw[hb,hb1]
   unfold mv
   by_cases k1:gw d=0 <;> by_cases k2:fm (gw d) <;> by_cases k3:0<=ke d (gw d) <;> simp[k1,k2,k3]
  rw[hL]
  refine ae (fun h=>Uj h32 hf (of_decide_eq_true h)) (fun hl=>?_)
  have hl:=of_decide_eq_false hl
  clear hL hb hb1
  refine⟨?_,?_⟩
  ·have bad:=fun h=>Xg (x:=d) h32 hf hl h
   refine vn (fun h=>bad (.inl (of_decide_eq_true h))) (fun c1=>?_)
   (repeat (intro (b_:Bool) (hb_:b_=_);(repeat refine⟨(by first|(simp;done)|(rw[hb_];simp;done)|(rw[hb_];simp;omega)|(rw[hb_];simp;intros;omega)|(rw[hb_];simp +contextual;done)),?_⟩);subst hb_))
   rw[Fa]
   refine vn (fun h=>bad (.inr (.inl (of_decide_eq_true h)))) (fun c2=>?_)
   (repeat (intro (b_:Bool) (hb_:b_=_);(repeat refine⟨(by first|(simp;done)|(rw[hb_];simp;done)|(rw[hb_];simp;omega)|(rw[hb_];simp;intros;omega)|(rw[hb_];simp +contextual;done)),?_⟩);subst hb_))
   rw[D9]
   refine vn (fun h=>bad (.inr (.inr (.inl (of_decide_eq_true h))))) (fun c3=>?_)
   (repeat (intro (b_:Bool) (hb_:b_=_);(repeat refine⟨(by first|(simp;done)|(rw[hb_];simp;done)|(rw[hb_];simp;omega)|(rw[hb_];simp;intros;omega)|(rw[hb_];simp +contextual;done)),?_⟩);subst hb_))
   rw[P9]
   refine vn (fun h=>bad (.inr (.inr (.inr (.inl (of_decide_eq_true h)))))) (fun c4=>?_)
   (repeat (intro (b_:Bool) (hb_:b_=_);(repeat refine⟨(by first|(simp;done)|(rw[hb_];simp;done)|(rw[hb_];simp;omega)|(rw[hb_];simp;intros;omega)|(rw[hb_];simp +contextual;done)),?_⟩);subst hb_))
   rw[D9]
   refine vn (fun h=>bad (.inr (.inr (.inr (.inr (.inl (of_decide_eq_true h))))))) (fun c5=>?_)
   (repeat (intro (b_:Bool) (hb_:b_=_);(repeat refine⟨(by first|(simp;done)|(rw[hb_];simp;done)|(rw[hb_];simp;omega)|(rw[hb_];simp;intros;omega)|(rw[hb_];simp +contextual;done)),?_⟩);subst hb_))
   rw[Fa]
   refine vn (fun h=>bad (.inr (.inr (.inr (.inr (.inr (.inl (of_decide_eq_true h)))))))) (fun c6=>?_)
   refine ae (fun h=>bad (.inr (.inr (.inr (.inr (.inr (.inr ?_))))))) (fun c7=>?_)
   ·have:=of_decide_eq_true h;omega
   refine⟨(),⟨h32,hf,hl,?_⟩,(by repeat' first|exact trivial|refine⟨trivial,?_⟩|refine⟨(by with_reducible rfl),?_⟩|refine⟨af (by omega) (by omega),?_⟩|refine⟨rfl,?_⟩)⟩
   rintro (k|k|k|k|k|k|k)
   ·exact of_decide_eq_false c1 k
   ·exact of_decide_eq_false c2 k
   ·exact of_decide_eq_false c3 k
   ·exact of_decide_eq_false c4 k
   ·exact of_decide_eq_false c5 k
   ·exact of_decide_eq_false c6 k
   ·have:=of_decide_eq_false c7;omega
  rintro-⟨-,-,-,hb⟩
  have e:=Ot h32 hf hl hb
  rw[show IntKind.wrap IntKind.i64 (IntKind.wrap IntKind.i64 ((0:Int)+1)+1)=2 by decide,show IntKind.wrap IntKind.i64 ((0:Int)+1)=1 by decide,e]
  refine⟨by omega,by omega,by simp,ae (fun h=>?_) (fun h=>?_)⟩
  ·rw[if_pos (show iH d≠0 from fY h)];rfl
  rw[if_neg (show ¬ iH d≠0 from fun k=>k (gz h))]
  refine⟨by omega,by simp,ae (fun h=>?_) (fun h=>?_)⟩
  ·rw[if_pos (show gU (iG d)≠0 from fY h)];rfl
  rw[if_neg (show ¬ gU (iG d)≠0 from fun k=>k (gz h))]
  refine⟨by omega,by simp,ae (fun h=>?_) (fun h=>?_)⟩
  ·rfl
  ·exact (show dE (aV d) (bv d)=0 from gz h).symm
theorem YV:av Tryz.prog GL 174 Is.spec:=Ct.okH _ Tryz.func174 (by kernel_rfl) (ah (ah (ah (ah (ah (ah (ah aA S6) OE) Ak) ac8) ak5) Jw) ao3) au X0 (aB (by kernel_rfl) aw4)
end Go.RS
