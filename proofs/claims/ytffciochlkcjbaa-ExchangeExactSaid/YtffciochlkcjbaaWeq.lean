/- Xref: the document's exchange. -/
import Derived.Test.YtffciochlkcjbaaXw4
import Derived.Test.YtffciochlkcjbaaXw1
namespace Go.RS
open Go.SX Go.Proofs
set_option maxRecDepth 100000
set_option linter.unusedVariables false
def uN:Ct:=⟨[.val cI],[.agg aQ,.val cI],fun _=>[],fun d=>((fm d.1,dk d.1,()),())⟩
def B0:az uN.ps->aI:=(fun _=>{})
def iZ :=
 ([]:List (Int×Int×List Int))
def nR :=
 ((0:Int),(0:Int),(0:Int),([]:List (List Int)),(0:Int),([]:List (List Int)),([]:List (Int×List Int)),(iZ),(iZ))
theorem zM :
 ∀(a:Int),ak a/\True->True-> ∀(b:Bool),b=decide (a<1)->((! b)->((! b)->(! b))/\True)/\(b=false->(! b))/\ah (bif b then true else decide (64<a)) ((nR)=fm a/\(1:Int)=dk a) (((0:Int),(0:Int),a,([]:List (List Int)),(0:Int),([]:List (List Int)),([]:List (Int×List Int)),(iZ),(iZ))=fm a/\(0:Int)=dk a):=by
  delta nR iZ
  rintro w - -
  (repeat (intro (b_:Bool) (hb_:b_=_);(repeat refine⟨(by first|(simp;done)|(rw[hb_];simp;done)|(rw[hb_];simp;omega)|(rw[hb_];simp;intros;omega)|(rw[hb_];simp +contextual;done)),?_⟩);subst hb_))
  refine iz (fun h=>?_) (fun h1 h2=>?_)
  ·have e:dk w=1:=by unfold dk;rw[if_pos (by rcases h with q|q;exact .inl (of_decide_eq_true q);exact .inr (of_decide_eq_true q))]
   unfold fm
   rw[e]
   exact⟨rfl,rfl⟩
  ·have h1:=of_decide_eq_false h1
   have h2:=of_decide_eq_false h2
   have e:dk w=0:=by unfold dk;rw[if_neg (by omega)]
   unfold fm
   rw[e]
   exact⟨rfl,rfl⟩
theorem Ax:aC Try.prog GL 25 uN.spec:=Ct.okH _ Try.func25 (by kernel_rfl) aP ay B0 (aO (by kernel_rfl) zM)
def wT:Ct:=⟨[.val cI,.val cI],[.val cI],fun _=>[],fun d=>((fl d.1 d.2.1,()),())⟩
def Dn:az wT.ps->aI:=(fun _=>{})
def iR(e:Bool) :=
 (! e)->((! e)->(! e))/\True
def jv(d:Bool) :=
 (! d)->((! d)->(! d))/\True
theorem z7 :
 ∀(a b:Int),ak a/\ak b/\True->True-> ∀(c:Bool),c=decide (a<0)->((! c)->((! c)->(! c))/\True)/\(c=false->(! c))/\ ∀(d:Bool),(d=bif c then true else decide (1024<a))->(jv d)/\(d=false->(! d))/\ ∀(e:Bool),(e=bif d then true else decide (b<1))->(iR e)/\(e=false->(! e))/\ah (bif e then true else decide (64<b)) ((0:Int)=fl a b) (b≠(0:Int)/\IntKind.wrap .i64 (IntKind.wrap .i64 ((4:Int)*IntKind.wrap .i64 (IntKind.wrap .i64 (Int.tdiv a b)+(2:Int)))+(2000:Int))=fl a b):=by
  delta iR jv
  rintro n w - -
  (repeat (intro (b_:Bool) (hb_:b_=_);(repeat refine⟨(by first|(simp;done)|(rw[hb_];simp;done)|(rw[hb_];simp;omega)|(rw[hb_];simp;intros;omega)|(rw[hb_];simp +contextual;done)),?_⟩);subst hb_))
  refine ar (fun h=>?_) (fun h=>?_)
  ·have h:n<0∨1024<n∨w<1∨64<w:=by
    simp only[Bool.cond_true_left,Bool.or_eq_true,decide_eq_true_eq] at h
    omega
   unfold fl
   rw[if_pos h]
  ·have h:¬ (n<0∨1024<n∨w<1∨64<w):=by
    simp only[Bool.cond_true_left,Bool.or_eq_false_iff,decide_eq_false_iff_not] at h
    omega
   have hq:0<=n/w/\n/w<=n:=⟨Int.ediv_nonneg (by omega) (by omega),Int.ediv_le_self _ (by omega)⟩
   have ht:Int.tdiv n w=n/w:=Int.tdiv_eq_ediv_of_nonneg (by omega)
   refine⟨by omega,?_⟩
   unfold fl
   rw[if_neg h,ht,ad (n:=n/w) (by omega) (by omega),ad (n:=n/w+2) (by omega) (by omega),ad (n:=4*(n/w+2)) (by omega) (by omega),ad (by omega) (by omega)]
theorem xY:aC Try.prog GL 26 wT.spec:=Ct.okH _ Try.func26 (by kernel_rfl) aP ay Dn (aO (by kernel_rfl) z7)
def tC:Ct:=⟨[.agg aQ],[.val .bool],fun _=>[],fun d=>((fL d.1,()),())⟩
def BB:az tC.ps->aI:=(fun _=>{})
theorem EH :
 ∀(a:Int×Int×Int×List (List Int)×Int×List (List Int)×List (Int×List Int)×List (Int×Int×List Int)×List (Int×Int×List Int)),CT.wf aQ a/\True->True-> ∀(b:Bool),b=decide ((a.2.2.2.2.2.1.length:Int)=(a.2.2.2.1.length:Int))->(b->(b->b)/\True)/\(b->(b->b)/\True)/\(b->(b->b)/\True)/\(b->(b->b)/\(b->b)/\True)/\(b->b)/\(bif b then decide (a.2.2.2.2.1=(a.2.2.2.1.length:Int)) else false)=fL a:=by
  rintro c - -
  (repeat (intro (b_:Bool) (hb_:b_=_);(repeat refine⟨(by first|(simp;done)|(rw[hb_];simp;done)|(rw[hb_];simp;omega)|(rw[hb_];simp;intros;omega)|(rw[hb_];simp +contextual;done)),?_⟩);subst hb_))
  have e:fL c=(decide (c.2.2.2.2.2.1.length=c.2.2.2.1.length)&&decide (c.2.2.2.2.1=(c.2.2.2.1.length:Int))):=rfl
  rw[e]
  by_cases h:c.2.2.2.2.2.1.length=c.2.2.2.1.length
  ·rw[decide_eq_true h,decide_eq_true (by omega)];rfl
  ·rw[decide_eq_false h,decide_eq_false (by omega)];rfl
theorem DO:aC Try.prog GL 31 tC.spec:=Ct.okH _ Try.func31 (by kernel_rfl) aP ay BB (aO (by kernel_rfl) EH)
def w5:Ct:=⟨[.agg dI],[.val .bool],fun _=>[],fun d=>((bP d.1,()),())⟩
def zL:az w5.ps->aI:=(fun _=>{})
theorem Di :
 ∀(a:Bool)(b c:Int),(True/\ak b/\ak c)/\True->True-> ∀(d:Bool),d=decide (0<=b)->(d->(d->d)/\True)/\(d->(d->d)/\True)/\(d->d)/\ ∀(e:Bool),(e=bif d then decide (b<=1000) else false)->(e->(e->e)/\True)/\(e->(e->e)/\True)/\(e->e)/\ ∀(f:Bool),(f=bif e then decide (0<=c) else false)->(f->(f->f)/\True)/\(f->(f->f)/\True)/\(f->f)/\(bif f then decide (c<=8) else false)=bP (a,b,c):=by
  rintro a b c - -
  (repeat (intro (b_:Bool) (hb_:b_=_);(repeat refine⟨(by first|(simp;done)|(rw[hb_];simp;done)|(rw[hb_];simp;omega)|(rw[hb_];simp;intros;omega)|(rw[hb_];simp +contextual;done)),?_⟩);subst hb_))
  unfold bP
  rw[nM,nM,nM]
  exact decide_eq_decide.2 ⟨fun h=>⟨h.1.1.1,h.1.1.2,h.1.2,h.2⟩,fun h=>⟨⟨⟨h.1,h.2.1⟩,h.2.2.1⟩,h.2.2.2⟩⟩
theorem B5:aC Try.prog GL 44 w5.spec:=Ct.okH _ Try.func44 (by kernel_rfl) aP ay zL (aO (by kernel_rfl) Di)
def rP:Ct:=⟨[.val (.sl dI),.val cI],[.agg dI],fun d=>[0<=d.2.1],fun d=>((bj d.1 d.2.1.toNat,()),())⟩
def zz:az rP.ps->aI:=(fun _=>{})
theorem DQ :
 ∀(a:List (Bool×Int×Int))(b:Int),(a.length<=maxLen/\ ∀(c:Bool×Int×Int),c∈a->True/\ak c.2.1/\ak c.2.2)/\ak b/\True->0<=b->ah (decide (b<(a.length:Int))) (0<=b/\b<(a.length:Int)/\a.getD b.toNat default=bj a b.toNat) ((false,(0:Int),(0:Int))=bj a b.toNat):=by
  rintro l i-h0
  refine ar (fun h=>?_) (fun h=>?_)
  ·have h:=of_decide_eq_true h
   refine⟨h0,h,?_⟩
   unfold bj
   rw[List.getD_eq_getElem?_getD,List.getD_eq_getElem?_getD,List.getElem?_eq_getElem (by omega)]
   rfl
  ·have h:=of_decide_eq_false h
   unfold bj
   rw[List.getD_eq_getElem?_getD,List.getElem?_eq_none (by omega)]
   rfl
theorem yN:aC Try.prog GL 48 rP.spec:=Ct.okH _ Try.func48 (by kernel_rfl) aP ay zz (aO (by kernel_rfl) DQ)
theorem pk{b:List Int}{n:Int}(h:0<=n/\n<=65535):ec b n 2=b++cj n 2 2:=by
 have e:(256:Int)^Int.toNat 2=65536:=by decide
 unfold ec
 rw[if_neg]
 ·rfl
 ·unfold iw;rw[e];omega
def sN:Ct:=⟨[.agg aQ,.val cI],[.own 5 aT],fun d=>[0<=d.2.1,d.2.1<=65535,d.2.1<d.1.2.2.2.1.length,(d.1.2.2.2.1.getD d.2.1.toNat default).length<=1048576],fun d=>((bF d.2.1 (d.1.2.2.2.1.getD d.2.1.toNat default),()),())⟩
def yY:az sN.ps->aI:=(fun _=>{})
def fW :=
 (140737488355328:Nat)
theorem DT :
 ∀(a:Int×Int×Int×List (List Int)×Int×List (List Int)×List (Int×List Int)×List (Int×Int×List Int)×List (Int×Int×List Int))(b:Int),CT.wf aQ a/\ak b/\True->0<=b/\b<=65535/\b<(a.2.2.2.1.length:Int)/\List.length (List.getD a.2.2.2.1 b.toNat default)<=(1048576:Nat)->(1:Nat)<=List.length [(68:Int)]/\((List.length [(68:Int)]):Int)<=1099511627776/\0<=b/\b<(a.2.2.2.1.length:Int)/\(List.length (ec [(68:Int)] b (2:Int))+List.length (List.getD a.2.2.2.1 b.toNat default))*(1:Nat)<=(fW)/\ec [(68:Int)] b (2:Int)++List.getD a.2.2.2.1 b.toNat default=bF b (List.getD a.2.2.2.1 b.toNat default):=by
  delta fW
  rintro c i-⟨h0,h1,h2,h3⟩
  rw[pk ⟨h0,h1⟩]
  refine⟨by simp,by simp,h0,h2,?_,?_⟩
  ·rw[List.length_append,ju];simp only[List.length_singleton];omega
  ·unfold bF;rw[List.append_assoc];rfl
theorem C6:aC Try.prog GL 50 sN.spec:=Ct.okH _ Try.func50 (by kernel_rfl) (av aP vU) ay yY (aO (by kernel_rfl) DT)
def wH:Ct:=⟨[.agg aQ,.val (.sl aT)],[.agg aQ,.val cI],fun d=>[],fun d=>((eX d.1 d.2.1,c8 d.1 d.2.1,()),())⟩
def Eh:az wH.ps->aI:=(fun _=>{})
theorem xG :
 ∀(a:Int×Int×Int×List (List Int)×Int×List (List Int)×List (Int×List Int)×List (Int×Int×List Int)×List (Int×Int×List Int))(b:List Int),CT.wf aQ a/\(b.length<=maxLen/\ ∀(c:Int),c∈b->0<=c/\c<=255)/\True->True-> ∀(c:Bool),c=decide (1024<=(a.2.2.2.1.length:Int))->((! c)->((! c)->(! c))/\True)/\((! c)->((! c)->(! c))/\True)/\(c=false->(! c))/\ah (bif c then true else decide (6000<(b.length:Int))) ((nR)=eX a b/\(5:Int)=c8 a b) (a.2.2.2.1.length*(24:Nat)<=(fW)/\b.length*(1:Nat)<=(fW)/\(a.2.2.2.1.length+List.length [b])*(24:Nat)<=(fW)/\(a.1,a.2.1,a.2.2.1,a.2.2.2.1++[b],a.2.2.2.2)=eX a b/\(0:Int)=c8 a b):=by
  delta nR fW iZ
  rintro c b ⟨⟨-,-,-,⟨hl,-⟩,-⟩,⟨hb,-⟩,-⟩ -
  (repeat (intro (b_:Bool) (hb_:b_=_);(repeat refine⟨(by first|(simp;done)|(rw[hb_];simp;done)|(rw[hb_];simp;omega)|(rw[hb_];simp;intros;omega)|(rw[hb_];simp +contextual;done)),?_⟩);subst hb_))
  refine iz (fun h=>?_) (fun h1 h2=>?_)
  ·have e:c8 c b=5:=by
    unfold c8
    refine if_pos ?_
    rcases h with q|q
    ·have:=of_decide_eq_true q
     exact .inl (by show 1024<=c.2.2.2.1.length;omega)
    ·exact .inr (of_decide_eq_true q)
   unfold eX
   rw[e]
   exact⟨rfl,rfl⟩
  ·have h1:=of_decide_eq_false h1
   have h2:=of_decide_eq_false h2
   have e:c8 c b=0:=by
    unfold c8
    refine if_neg ?_
    rintro (q|q)
    ·have q:1024<=c.2.2.2.1.length:=q
     omega
    ·omega
   unfold eX
   rw[e]
   refine⟨by omega,by omega,by simp only[List.length_singleton];omega,?_,rfl⟩
   rfl
theorem Al:aC Try.prog GL 27 wH.spec:=Ct.okH _ Try.func27 (by kernel_rfl) aP ay Eh (aO (by kernel_rfl) xG)
def wz:Ct:=⟨[.val (.sl (.sl aT)),.val (.sl (.sl aT))],[.val .bool],fun _=>[],fun d=>((decide (d.1=d.2.1),()),())⟩
def Dw:az wz.ps->aI:=(fun d=>{loops:=(fun n=>match n with|4=>some (fun S=>{ι:=Int,μ:=fun i=>(d.1.length-i).toNat,inv:=fun i=>0<=i/\i<=d.1.length/\d.1.length=d.2.1.length/\d.1.take i.toNat=d.2.1.take i.toNat,keep:=[0,1],slots:=fun i=>[(5,.int .i64 i)],names:=fun i=>[]})|_=>none)})
theorem Br :
 ∀(a b:List (List Int)),(a.length<=maxLen/\ ∀(c:List Int),c∈a->c.length<=maxLen/\ ∀(d:Int),d∈c->0<=d/\d<=255)/\(b.length<=maxLen/\ ∀(c:List Int),c∈b->c.length<=maxLen/\ ∀(d:Int),d∈c->0<=d/\d<=255)/\True->True->ah (! decide ((a.length:Int)=(b.length:Int))) (false=decide (a=b)) ((∃(c:Int),(0<=c/\c<=(a.length:Int)/\a.length=b.length/\List.take c.toNat a=List.take c.toNat b)/\a=a/\b=b/\(0:Int)=c/\True)/\ ∀(c:Int),0<=c/\c<=(a.length:Int)/\a.length=b.length/\List.take c.toNat a=List.take c.toNat b->ah (decide (c<(a.length:Int))) (0<=c/\c<(a.length:Int)/\0<=c/\c<(b.length:Int)/\ah (! decide (a.getD c.toNat default=b.getD c.toNat default)) (false=decide (a=b)) (∃(d:Int),(0<=d/\d<=(a.length:Int)/\a.length=b.length/\List.take d.toNat a=List.take d.toNat b)/\Int.toNat ((a.length:Int) -d)<Int.toNat ((a.length:Int) -c)/\a=a/\b=b/\IntKind.wrap .i64 (c+(1:Int))=d/\True)) (true=decide (a=b))):=by
  rintro x y ⟨⟨hl,-⟩,-⟩ -
  simp only[maxLen] at hl
  refine ar (fun h=>?_) (fun h=>?_)
  ·have h:=jR h
   exact (decide_eq_false (fun e=>h (by rw[e]))).symm
  have h:=jK h
  refine⟨⟨0,⟨by omega,by omega,by omega,rfl⟩,(by repeat' first|exact trivial|refine⟨trivial,?_⟩|refine⟨(by with_reducible rfl),?_⟩|refine⟨ad (by omega) (by omega),?_⟩|refine⟨rfl,?_⟩)⟩,?_⟩
  rintro j ⟨j0,j1,j2,j3⟩
  refine ar (fun hj=>?_) (fun hj=>?_)
  ·have hj:=of_decide_eq_true hj
   refine⟨j0,hj,j0,by omega,ar (fun k=>?_) (fun k=>?_)⟩
   ·have k:=jR k
    exact (decide_eq_false (fun e=>k (by rw[e]))).symm
   ·have k:=jK k
    rw[ad (by omega) (by omega)]
    exact⟨j+1,⟨by omega,by omega,j2,by rw[cZ j0 hj,cZ j0 (by omega),j3,k]⟩,by omega,(by repeat' first|exact trivial|refine⟨trivial,?_⟩|refine⟨(by with_reducible rfl),?_⟩|refine⟨ad (by omega) (by omega),?_⟩|refine⟨rfl,?_⟩)⟩
  ·have hj:=of_decide_eq_false hj
   rw[List.take_of_length_le (by omega),List.take_of_length_le (by omega)] at j3
   exact (decide_eq_true j3).symm
theorem AK:aC Try.prog GL 34 wz.spec:=Ct.okH _ Try.func34 (by kernel_rfl) (av aP qh) ay Dw (aO (by kernel_rfl) Br)
def vF:Ct:=⟨[.val (.sl a9),.val (.sl a9)],[.val .bool],fun _=>[],fun d=>((decide (d.1=d.2.1),()),())⟩
def Bj:az vF.ps->aI:=(fun d=>{loops:=(fun n=>match n with|4=>some (fun S=>{ι:=Int,μ:=fun i=>(d.1.length-i).toNat,inv:=fun i=>0<=i/\i<=d.1.length/\d.1.length=d.2.1.length/\d.1.take i.toNat=d.2.1.take i.toNat,keep:=[0,1],slots:=fun i=>[(5,.int .i64 i)],names:=fun i=>[]})|_=>none)})
theorem Df :
 ∀(a b:List (Int×Int×List Int)),(a.length<=maxLen/\ ∀(c:Int×Int×List Int),c∈a->ak c.1/\ak c.2.1/\c.2.2.length<=maxLen/\ ∀(d:Int),d∈c.2.2->0<=d/\d<=255)/\(b.length<=maxLen/\ ∀(c:Int×Int×List Int),c∈b->ak c.1/\ak c.2.1/\c.2.2.length<=maxLen/\ ∀(d:Int),d∈c.2.2->0<=d/\d<=255)/\True->True->ah (! decide ((a.length:Int)=(b.length:Int))) (false=decide (a=b)) ((∃(c:Int),(0<=c/\c<=(a.length:Int)/\a.length=b.length/\List.take c.toNat a=List.take c.toNat b)/\a=a/\b=b/\(0:Int)=c/\True)/\ ∀(c:Int),0<=c/\c<=(a.length:Int)/\a.length=b.length/\List.take c.toNat a=List.take c.toNat b->ah (decide (c<(a.length:Int))) (0<=c/\c<(a.length:Int)/\0<=c/\c<(b.length:Int)/\ ∀(d:Bool),d= ! decide ((a.getD c.toNat default).1=(b.getD c.toNat default).1)->((! d)->((! d)->(! d))/\((! d)->(! d))/\0<=c/\c<(a.length:Int)/\True)/\(jv d)/\(jv d)/\((! d)->((! d)->(! d))/\((! d)->(!
 d))/\0<=c/\c<(b.length:Int)/\True)/\(jv d)/\(jv d)/\((! d)->((! d)->(! d))/\((! d)->(! d))/\True)/\(d=false->(! d))/\ ∀(e:Bool),(e=bif d then true else ! decide ((a.getD c.toNat default).2.1=(b.getD c.toNat default).2.1))->((! e)->((! e)->(! e))/\((! e)->(! e))/\0<=c/\c<(a.length:Int)/\True)/\(iR e)/\(iR e)/\((! e)->((! e)->(! e))/\((! e)->(! e))/\0<=c/\c<(b.length:Int)/\True)/\(iR e)/\(iR e)/\((! e)->((! e)->(! e))/\((! e)->(! e))/\True)/\(iR e)/\(e=false->(! e))/\ah (bif e then true else ! decide ((a.getD c.toNat default).2.2=(b.getD c.toNat default).2.2)) (false=decide (a=b)) (∃(f:Int),(0<=f/\f<=(a.length:Int)/\a.length=b.length/\List.take f.toNat a=List.take f.toNat b)/\Int.toNat ((a.length:Int) -f)<Int.toNat ((a.length:Int) -c)/\a=a/\b=b/\IntKind.wrap .i64 (c+(1:Int))=f/\True)) (true=decide (a=b))):=by
  delta iR jv
  rintro x y ⟨⟨hl,-⟩,-⟩ -
  simp only[maxLen] at hl
  refine ar (fun h=>?_) (fun h=>?_)
  ·have h:=jR h
   exact (decide_eq_false (fun e=>h (by rw[e]))).symm
  have h:=jK h
  refine⟨⟨0,⟨by omega,by omega,by omega,rfl⟩,(by repeat' first|exact trivial|refine⟨trivial,?_⟩|refine⟨(by with_reducible rfl),?_⟩|refine⟨ad (by omega) (by omega),?_⟩|refine⟨rfl,?_⟩)⟩,?_⟩
  rintro j ⟨j0,j1,j2,j3⟩
  refine ar (fun hj=>?_) (fun hj=>?_)
  ·have hj:=of_decide_eq_true hj
   have hj2:j<y.length:=by omega
   refine⟨j0,hj,j0,hj2,?_⟩
   intro b1 hb1
   (repeat refine⟨(by first|(simp;done)|(simp;omega)),?_⟩)
   intro b2 hb2
   (repeat refine⟨(by first|(simp;done)|(simp;omega)),?_⟩)
   subst hb2 hb1
   refine ar (fun k=>?_) (fun k=>?_)
   ·refine (decide_eq_false (fun e=>?_)).symm
    rw[e] at k
    simp at k
   ·simp only[Eu,EV] at k
    rw[ad (by omega) (by omega)]
    refine⟨j+1,⟨by omega,by omega,j2,?_⟩,by omega,(by repeat' first|exact trivial|refine⟨trivial,?_⟩|refine⟨(by with_reducible rfl),?_⟩|refine⟨ad (by omega) (by omega),?_⟩|refine⟨rfl,?_⟩)⟩
    rw[cZ j0 hj,cZ j0 hj2,j3,show x.getD j.toNat default=y.getD j.toNat default from Prod.ext k.1.1 (Prod.ext k.1.2 k.2)]
  ·have hj:=of_decide_eq_false hj
   rw[List.take_of_length_le (by omega),List.take_of_length_le (by omega)] at j3
   exact (decide_eq_true j3).symm
theorem DR:aC Try.prog GL 35 vF.spec:=Ct.okH _ Try.func35 (by kernel_rfl) (av aP qh) ay Bj (aO (by kernel_rfl) Df)
def pL(c:ai)(o:Int):ai:=(c.1,o,c.2.2)
theorem qG{α:Type}{p:α->Bool}:∀{l:List α},(∃ y∈l,p y=false)→∀ m,(l++m).takeWhile p=l.takeWhile p/\(l++m).dropWhile p=l.dropWhile p++m
 | [],h,m=>by obtain⟨y,hy,-⟩:=h;cases hy
 | a::l,h,m=>by
  cases ha:p a with
  | false =>
   rw[List.cons_append,List.takeWhile_cons_of_neg (by simp[ha]),List.takeWhile_cons_of_neg (by simp[ha]),List.dropWhile_cons_of_neg (by simp[ha]),List.dropWhile_cons_of_neg (by simp[ha])]
   exact⟨rfl,rfl⟩
  | true =>
   obtain⟨y,hy,q⟩:=h
   have hy:y∈l:=by
    rcases List.mem_cons.1 hy with rfl|hy
    ·rw[ha] at q;cases q
    ·exact hy
   obtain⟨a1,a2⟩:=qG ⟨y,hy,q⟩ m
   rw[List.cons_append,List.takeWhile_cons_of_pos (by simp[ha]),List.takeWhile_cons_of_pos (by simp[ha]),List.dropWhile_cons_of_pos (by simp[ha]),List.dropWhile_cons_of_pos (by simp[ha]),a1,a2]
   exact⟨rfl,rfl⟩
theorem Bq{l:List af}{t x:af}(h:∃ y∈l,t.1<y.1):bY (l++[x]) t=bY l t++[x]:=by
 obtain⟨y,hy,q⟩:=h
 obtain⟨a,b⟩:=qG (p:=fun x:af=>decide (x.1<=t.1)) ⟨y,hy,decide_eq_false (by omega)⟩ [x]
 unfold bY
 rw[a,b]
 simp
theorem DN{l:List af}{t x:af}(h:∀ y∈l,y.1<=t.1)(hx:t.1<x.1):bY (l++[x]) t=l++[t]++[x]:=by
 obtain⟨a,b⟩:=oE h [x]
 have n1:¬ x.1<=t.1:=by omega
 have a2:ao t.1 [x]=[]:=List.takeWhile_cons_of_neg (by simpa using n1)
 have b2:aV t.1 [x]=[x]:=List.dropWhile_cons_of_neg (by simpa using n1)
 unfold bY
 show ao t.1 (l++[x])++t::aV t.1 (l++[x])=_
 rw[a,b,a2,b2]
 simp
def tN:Ct:=⟨[.agg aQ,.val (.sl a9),.val (.sl aT),.agg dI],[.agg aQ,.val (.sl a9)],fun d=>[(d.2.1.length:Int)<=1000000,0<=d.1.1,d.1.1<=1125899906842624,0<=d.1.2.1,d.1.2.1<=1125899906842624,f7 d.2.2.2.1],fun d=>((pL d.1 (bf d.1.1 d.2.2.1 d.2.2.2.1 (d.1.2.1,d.2.1)).1,(bf d.1.1 d.2.2.1 d.2.2.2.1 (d.1.2.1,d.2.1)).2,()),())⟩
def yv:az tN.ps->aI:=(fun d=>{loops:=(fun n=>match n with|2=>some (fun S=>{ι:=Int×Int×(List af),qn:=⟨fun k_=>∀(k:Int)(o:Int)(l:(List af)),k_ (k,o,l),fun k_ h_ i=>h_ i.1 i.2.1 i.2.2,fun k_=>∃ (k:Int) (o:Int) (l:(List af)),k_ (k,o,l),fun k_ ⟨k,o,l,h_⟩=>⟨_,h_⟩⟩,μ:=fun i=>(d.2.2.2.1.2.2+1-i.1).toNat,inv:=fun i=>0<=i.1/\i.1<=d.2.2.2.1.2.2+1/\(d.2.2.2.1.1=true->i.1=0/\i.2.2=d.2.1)/\(i.2.2.length:Int)<=1000000+i.1/\i.2.1=d.1.2.1+i.1/\bv d.1.1 d.2.2.2.1.2.1 d.2.2.1 (d.2.2.2.1.2.2+1-i.1).toNat i.1 (i.2.1,i.2.2)=bv d.1.1 d.2.2.2.1.2.1 d.2.2.1 (d.2.2.2.1.2.2+1).toNat 0 (d.1.2.1,d.2.1),keep:=[2,4,7,8,9],slots:=fun i=>[(1,.dsl a9 i.2.2),(10,.int .i64 i.1)],keepN:=[128,144],names:=fun i=>[(80,.live (.cells 28 (bo aQ (pL d.1 i.2.1))))]})|9=>some (fun S=>{ι:=Int×(List af)×Bool,qn:=⟨fun k_=>∀(i:Int)(out:(List af))(dn:Bool),k_ (i,out,dn),fun k_ h_ i=>h_ i.1 i.2.1 i.2.2,fun k_=>∃ (i:Int) (out:(List af)) (dn:Bool),k_ (i,out,dn),fun k_ ⟨i,out,dn,h_⟩=>⟨_,h_⟩⟩,μ:=fun i=>((S.l a9 1).length-i.1).toNat,inv:=fun i=>0<=i.1/\i.1<=(S.l a9 1).length/\(i.2.2=false->i.2.1=(S.l a9 1).take i.1.toNat∧∀ x∈(S.l a9 1).take i.1.toNat,x.1<=(S.c a9 192).1)/\(i.2.2=true->i.2.1=bY ((S.l a9 1).take i.1.toNat) (S.c a9 192)∧∃ x∈(S.l a9 1).take i.1.toNat,(S.c a9 192).1<x.1),keep:=[1,2,4,7,8,9,10,11],slots:=fun i=>[(12,.own 524288 3),(13,.bool i.2.2),(14,.int .i64 i.1)],keepN:=[80,128,144,192],names:=fun i=>[(524288,.live (.row 53 a9 i.2.1))]})|_=>none)})
def c5(a:Int×Int×Int×List (List Int)×Int×List (List Int)×List (Int×List Int)×List (Int×Int×List Int)×List (Int×Int×List Int))(e g:Int) :=
 IntKind.wrap .i64 (IntKind.wrap .i64 (a.1+(1:Int))+e)+g
def ox(a:Int×Int×Int×List (List Int)×Int×List (List Int)×List (Int×List Int)×List (Int×Int×List Int)×List (Int×Int×List Int)) :=
 a.2.2.1=a.2.2.1/\a.2.2.2.1=a.2.2.2.1/\a.2.2.2.2.1=a.2.2.2.2.1/\a.2.2.2.2.2.1=a.2.2.2.2.2.1/\a.2.2.2.2.2.2.1=a.2.2.2.2.2.2.1/\a.2.2.2.2.2.2.2.1=a.2.2.2.2.2.2.2.1/\a.2.2.2.2.2.2.2.2=a.2.2.2.2.2.2.2.2/\True
def rl(a:Int×Int×Int×List (List Int)×Int×List (List Int)×List (Int×List Int)×List (Int×Int×List Int)×List (Int×Int×List Int))(c:List Int)(e g h:Int)(i:List af)(p:Int)(q:List af)(r:Bool) :=
 0<=p/\p<=(i.length:Int)/\(r=false->q=List.take p.toNat i/\ ∀(s:Int×Int×List Int),s∈List.take p.toNat i->s.1<=IntKind.wrap .i64 (c5 a e g))/\(r=true->q=bY (List.take p.toNat i) (IntKind.wrap .i64 (c5 a e g),h,c)/\ ∃(s:Int×Int×List Int),s∈List.take p.toNat i/\IntKind.wrap .i64 (c5 a e g)<s.1)
theorem Ag :
 ∀(a:Int×Int×Int×List (List Int)×Int×List (List Int)×List (Int×List Int)×List (Int×Int×List Int)×List (Int×Int×List Int))(b:List (Int×Int×List Int))(c:List Int)(d:Bool)(e f:Int),CT.wf aQ a/\(b.length<=maxLen/\ ∀(g:Int×Int×List Int),g∈b->ak g.1/\ak g.2.1/\g.2.2.length<=maxLen/\ ∀(h:Int),h∈g.2.2->0<=h/\h<=255)/\(c.length<=maxLen/\ ∀(g:Int),g∈c->0<=g/\g<=255)/\(True/\ak e/\ak f)/\True->(b.length:Int)<=1000000/\0<=a.1/\a.1<=1125899906842624/\0<=a.2.1/\a.2.1<=1125899906842624/\(0<=e/\e<=1000)/\0<=f/\f<=8->(∃(g:Int) (h:Int),∃(i:List af),(0<=g/\g<=f+(1:Int)/\(d=true->g=0/\i=b)/\(i.length:Int)<=1000000+g/\h=a.2.1+g/\bv a.1 e c (Int.toNat (f+(1:Int) -g)) g (h,i)=bv a.1 e c (Int.toNat (f+(1:Int))) (0:Int) (a.2.1,b))/\b=i/\c=c/\(0:Int)=g/\d=d/\e=e/\f=f/\(0:Int)=0/\(0:Int)=0/\(0:Int)=0/\(0:Int)=0/\a.1=a.1/\a.2.1=h/\(ox a))/\ ∀(g h:Int) (i:List
 af),0<=g/\g<=f+(1:Int)/\(d=true->g=0/\i=b)/\(i.length:Int)<=1000000+g/\h=a.2.1+g/\bv a.1 e c (Int.toNat (f+(1:Int) -g)) g (h,i)=bv a.1 e c (Int.toNat (f+(1:Int))) (0:Int) (a.2.1,b)-> ∀(j:Bool),j=decide (g<=f)->(j->(j->j)/\True)/\(j->(j->j)/\True)/\(j->j)/\ ∀(k:Bool),(k=bif j then ! d else false)->(k->(k->k)/\True)/\(k->(k->k)/\True)/\(k->k)/\ah (bif k then decide ((i.length:Int)<4096) else false) ((∃(l:Int) (m:List af),∃(n:Bool),(0<=l/\l<=(i.length:Int)/\(n=false->m=List.take l.toNat i/\ ∀(o:Int×Int×List Int),o∈List.take l.toNat i->o.1<=IntKind.wrap .i64 (c5 a e g))/\(n=true->m=bY (List.take l.toNat i) (IntKind.wrap .i64 (c5 a e g),h,c)/\ ∃(o:Int×Int×List Int),o∈List.take l.toNat i/\IntKind.wrap .i64 (c5 a e g)<o.1))/\i=i/\c=c/\g=g/\false=n/\(0:Int)=l/\a.1=a.1/\IntKind.wrap .i64 (h+(1:Int))=IntKind.wrap .i64
 (h+(1:Int))/\a.2.2.1=a.2.2.1/\a.2.2.2.1=a.2.2.2.1/\a.2.2.2.2.1=a.2.2.2.2.1/\a.2.2.2.2.2.1=a.2.2.2.2.2.1/\a.2.2.2.2.2.2.1=a.2.2.2.2.2.2.1/\a.2.2.2.2.2.2.2.1=a.2.2.2.2.2.2.2.1/\a.2.2.2.2.2.2.2.2=a.2.2.2.2.2.2.2.2/\d=d/\e=e/\f=f/\(0:Int)=0/\(0:Int)=0/\(0:Int)=0/\(0:Int)=0/\IntKind.wrap .i64 (c5 a e g)=IntKind.wrap .i64 (c5 a e g)/\h=h/\c=c/\m=(iZ)/\True)/\ ∀(l:Int)(m:List af)(n:Bool),0<=l/\l<=(i.length:Int)/\(n=false->m=List.take l.toNat i/\ ∀(o:Int×Int×List Int),o∈List.take l.toNat i->o.1<=IntKind.wrap .i64 (c5 a e g))/\(n=true->m=bY (List.take l.toNat i) (IntKind.wrap .i64 (c5 a e g),h,c)/\ ∃(o:Int×Int×List Int),o∈List.take l.toNat i/\IntKind.wrap .i64 (c5 a e g)<o.1)->ah (decide (l<(i.length:Int))) (∀(o:Bool),o= ! n->(o->(o->o)/\(o->o)/\0<=l/\l<(i.length:Int)/\True)/\(o->(o->o)/\True)/\(o->(o->o)/\True)/\(o->(o->o)/\True)/\(o->(o->o)/\(o->o)/\True)/\(o->o)/\ah (bif
 o then decide (IntKind.wrap .i64 (c5 a e g)<(i.getD l.toNat default).1) else false) ((m.length+List.length [(IntKind.wrap .i64 (c5 a e g),h,c)])*(40:Nat)<=(fW)/\0<=l/\l<(i.length:Int)/\(List.length (m++[(IntKind.wrap .i64 (c5 a e g),h,c)])+List.length [i.getD l.toNat default])*(40:Nat)<=(fW)/\ ∃(p:Int) (q:List af),∃(r:Bool),(rl a c e g h i p q r)/\Int.toNat ((i.length:Int) -p)<Int.toNat ((i.length:Int) -l)/\i=i/\c=c/\g=g/\true=r/\IntKind.wrap .i64 (l+(1:Int))=p/\a.1=a.1/\IntKind.wrap .i64 (h+(1:Int))=IntKind.wrap .i64 (h+(1:Int))/\a.2.2.1=a.2.2.1/\a.2.2.2.1=a.2.2.2.1/\a.2.2.2.2.1=a.2.2.2.2.1/\a.2.2.2.2.2.1=a.2.2.2.2.2.1/\a.2.2.2.2.2.2.1=a.2.2.2.2.2.2.1/\a.2.2.2.2.2.2.2.1=a.2.2.2.2.2.2.2.1/\a.2.2.2.2.2.2.2.2=a.2.2.2.2.2.2.2.2/\d=d/\e=e/\f=f/\(0:Int)=0/\(0:Int)=0/\(0:Int)=0/\(0:Int)=0/\IntKind.wrap .i64 (c5 a e g)=IntKind.wrap .i64 (c5 a e
 g)/\h=h/\c=c/\m++[(IntKind.wrap .i64 (c5 a e g),h,c)]++[i.getD l.toNat default]=q/\True) (0<=l/\l<(i.length:Int)/\(m.length+List.length [i.getD l.toNat default])*(40:Nat)<=(fW)/\ ∃(p:Int) (q:List af),∃(r:Bool),(rl a c e g h i p q r)/\Int.toNat ((i.length:Int) -p)<Int.toNat ((i.length:Int) -l)/\i=i/\c=c/\g=g/\n=r/\IntKind.wrap .i64 (l+(1:Int))=p/\a.1=a.1/\IntKind.wrap .i64 (h+(1:Int))=IntKind.wrap .i64 (h+(1:Int))/\a.2.2.1=a.2.2.1/\a.2.2.2.1=a.2.2.2.1/\a.2.2.2.2.1=a.2.2.2.2.1/\a.2.2.2.2.2.1=a.2.2.2.2.2.1/\a.2.2.2.2.2.2.1=a.2.2.2.2.2.2.1/\a.2.2.2.2.2.2.2.1=a.2.2.2.2.2.2.2.1/\a.2.2.2.2.2.2.2.2=a.2.2.2.2.2.2.2.2/\d=d/\e=e/\f=f/\(0:Int)=0/\(0:Int)=0/\(0:Int)=0/\(0:Int)=0/\IntKind.wrap .i64 (c5 a e g)=IntKind.wrap .i64 (c5 a e g)/\h=h/\c=c/\m++[i.getD l.toNat default]=q/\True)) (ah (! n) ((m.length+List.length [(IntKind.wrap .i64 (c5 a e g),h,c)])*(40:Nat)<=(fW)/\ ∃(o:Int)
 (p:Int),∃(q:List af),(0<=o/\o<=f+(1:Int)/\(d=true->o=0/\q=b)/\(q.length:Int)<=1000000+o/\p=a.2.1+o/\bv a.1 e c (Int.toNat (f+(1:Int) -o)) o (p,q)=bv a.1 e c (Int.toNat (f+(1:Int))) (0:Int) (a.2.1,b))/\Int.toNat (f+(1:Int) -o)<Int.toNat (f+(1:Int) -g)/\m++[(IntKind.wrap .i64 (c5 a e g),h,c)]=q/\c=c/\IntKind.wrap .i64 (g+(1:Int))=o/\d=d/\e=e/\f=f/\(0:Int)=0/\(0:Int)=0/\(0:Int)=0/\(0:Int)=0/\a.1=a.1/\IntKind.wrap .i64 (h+(1:Int))=p/\(ox a)) (∃(o:Int) (p:Int),∃(q:List af),(0<=o/\o<=f+(1:Int)/\(d=true->o=0/\q=b)/\(q.length:Int)<=1000000+o/\p=a.2.1+o/\bv a.1 e c (Int.toNat (f+(1:Int) -o)) o (p,q)=bv a.1 e c (Int.toNat (f+(1:Int))) (0:Int) (a.2.1,b))/\Int.toNat (f+(1:Int) -o)<Int.toNat (f+(1:Int) -g)/\m=q/\c=c/\IntKind.wrap .i64 (g+(1:Int))=o/\d=d/\e=e/\f=f/\(0:Int)=0/\(0:Int)=0/\(0:Int)=0/\(0:Int)=0/\a.1=a.1/\IntKind.wrap .i64 (h+(1:Int))=p/\(ox a))))
 ((a.1,h,a.2.2)=pL a (bf a.1 c (d,e,f) (a.2.1,b)).1/\i=(bf a.1 c (d,e,f) (a.2.1,b)).2):=by
  delta c5 ox fW iZ rl
  rintro c l0 b fd dl cp-⟨hl0,n0,n1,o0,o1,⟨d0,d1⟩,c0,c1⟩
  have n0:0<=c.1:=n0
  refine⟨⟨0,c.2.1,l0,⟨by omega,by omega,fun _=>⟨rfl,rfl⟩,by omega,by omega,by rw[Int.sub_zero]⟩,(by repeat' first|exact trivial|refine⟨trivial,?_⟩|refine⟨(by with_reducible rfl),?_⟩|refine⟨ad (by omega) (by omega),?_⟩|refine⟨rfl,?_⟩)⟩,?_⟩
  rintro k o l ⟨k0,k1,hdr,hln,ho,hs⟩
  intro b1 hb1
  (repeat refine⟨fun h_=>(by first|(simp;done)|(simp[h_];done)|(simp_all;done)),?_⟩)
  intro b2 hb2
  (repeat refine⟨fun h_=>(by first|(simp;done)|(simp[h_];done)|(simp_all;done)),?_⟩)
  have hT:IntKind.i64.wrap (IntKind.i64.wrap (IntKind.i64.wrap (c.1+1)+dl)+k)=c.1+1+dl+k:=by rw[ad (n:=c.1+1) (by omega) (by omega),ad (n:=c.1+1+dl) (by omega) (by omega),ad (by omega) (by omega)]
  have hO:IntKind.i64.wrap (o+1)=o+1:=ad (by omega) (by omega)
  have hK:IntKind.i64.wrap (k+1)=k+1:=ad (by omega) (by omega)
  rw[hT,hO,hK]
  obtain⟨t,ht⟩:∃ t:af,t=(c.1+1+dl+k,o,b):=⟨_,rfl⟩
  have ht1:c.1+1+dl+k=t.1:=by rw[ht]
  rw[← ht,ht1]
  have hc:(bif b2 then decide ((l.length:Int)<4096) else false)=decide (k<=cp/\fd=false/\l.length<4096):=by
   rw[hb2,hb1]
   rw[show decide ((l.length:Int)<4096)=decide (l.length<4096) from decide_eq_decide.2 (by omega)]
   by_cases h1:k<=cp <;> cases fd <;> simp[h1]
  rw[hc]
  refine ar (fun h=>?_) (fun h=>?_)
  ·obtain⟨h1,h2,h3⟩:=of_decide_eq_true h
   have nxt:bv c.1 dl b (cp+1-(k+1)).toNat (k+1) (o+1,bY l t)=bv c.1 dl b (cp+1).toNat 0 (c.2.1,l0):=by
    rw[← hs,show (cp+1-k).toNat=(cp+1-(k+1)).toNat+1 by omega,bv,if_pos h3,ht]
   refine⟨⟨0,[],false,⟨by omega,by omega,fun _=>⟨rfl,fun y hy=>(by cases (show y∈([]:List af) from hy))⟩,fun h=>by cases h⟩,(by repeat' first|exact trivial|refine⟨trivial,?_⟩|refine⟨(by with_reducible rfl),?_⟩|refine⟨ad (by omega) (by omega),?_⟩|refine⟨rfl,?_⟩)⟩,?_⟩
   rintro i out dn ⟨i0,i1,g1,g2⟩
   refine ar (fun hi=>?_) (fun hi=>?_)
   ·have hi:=of_decide_eq_true hi
    have hm:out.length<=i.toNat+1:=by
     cases dn with
     | false=>rw[(g1 rfl).1,List.length_take];omega
     | true=>rw[(g2 rfl).1,lz,List.length_take];omega
    intro b3 hb3
    refine⟨fun h_=>⟨fun _=>h_,fun _=>h_,i0,hi,trivial⟩,(by simp),(by simp),(by simp),(by simp),(by simp),?_⟩
    have hb4:(bif b3 then decide (t.1<(l.getD i.toNat default).1) else false)=decide (dn=false/\t.1<(l.getD i.toNat default).1):=by
     rw[hb3]
     cases dn <;> simp
    rw[hb4,ad (n:=i+1) (by omega) (by omega)]
    refine ar (fun hq=>?_) (fun hq=>?_)
    ·obtain⟨q1,q2⟩:=of_decide_eq_true hq
     subst q1
     obtain⟨e1,e2⟩:=g1 rfl
     refine⟨by simp only[List.length_singleton];omega,i0,hi,by simp only[List.length_append,List.length_singleton];omega,i+1,_,true,⟨by omega,by omega,(fun h=>by cases h),fun _=>?_⟩,by omega,(by repeat' first|exact trivial|refine⟨trivial,?_⟩|refine⟨(by with_reducible rfl),?_⟩|refine⟨ad (by omega) (by omega),?_⟩|refine⟨rfl,?_⟩)⟩
     rw[cZ i0 hi]
     refine⟨?_,l.getD i.toNat default,List.mem_append_right _ (List.mem_singleton.2 rfl),q2⟩
     rw[DN e2 q2,← e1]
    ·have hq:=of_decide_eq_false hq
     refine⟨i0,hi,by simp only[List.length_singleton];omega,i+1,_,dn,⟨by omega,by omega,fun h=>?_,fun h=>?_⟩,by omega,(by repeat' first|exact trivial|refine⟨trivial,?_⟩|refine⟨(by with_reducible rfl),?_⟩|refine⟨ad (by omega) (by omega),?_⟩|refine⟨rfl,?_⟩)⟩
     ·obtain⟨e1,e2⟩:=g1 h
      rw[cZ i0 hi,e1]
      refine⟨rfl,fun y hy=>?_⟩
      rcases List.mem_append.1 hy with hy|hy
      ·exact e2 y hy
      ·rw[List.mem_singleton.1 hy]
       exact Int.not_lt.1 fun z=>hq ⟨h,z⟩
     ·obtain⟨e1,y,hy,z⟩:=g2 h
      rw[cZ i0 hi,e1]
      exact⟨(Bq ⟨y,hy,z⟩).symm,y,List.mem_append_left _ hy,z⟩
   ·have hi:=of_decide_eq_false hi
    rw[List.take_of_length_le (by omega)] at g1 g2
    refine ar (fun hd=>?_) (fun hd=>?_)
    ·have hd:dn=false:=by simpa using hd
     obtain⟨e1,e2⟩:=g1 hd
     refine⟨by rw[e1];simp only[List.length_singleton];omega,k+1,o+1,_,⟨by omega,by omega,fun q=>(by rw[h2] at q;cases q),?_,by omega,?_⟩,by omega,(by repeat' first|exact trivial|refine⟨trivial,?_⟩|refine⟨(by with_reducible rfl),?_⟩|refine⟨ad (by omega) (by omega),?_⟩|refine⟨rfl,?_⟩)⟩
     ·rw[e1,List.length_append];simp only[List.length_singleton];omega
     ·rw[e1,← wS e2];exact nxt
    ·have hd:dn=true:=by simpa using hd
     obtain⟨e1,-⟩:=g2 hd
     refine⟨k+1,o+1,_,⟨by omega,by omega,fun q=>(by rw[h2] at q;cases q),?_,by omega,?_⟩,by omega,(by repeat' first|exact trivial|refine⟨trivial,?_⟩|refine⟨(by with_reducible rfl),?_⟩|refine⟨ad (by omega) (by omega),?_⟩|refine⟨rfl,?_⟩)⟩
     ·rw[e1,lz];omega
     ·rw[e1];exact nxt
  ·have h:=of_decide_eq_false h
   have e:bf c.1 b (fd,dl,cp) (c.2.1,l0)=(o,l):=by
    unfold bf
    dsimp only
    cases hfd:fd with
    | true =>
     obtain⟨q1,q2⟩:=hdr hfd
     rw[if_pos rfl,q2,ho,q1,Int.add_zero]
    | false =>
     rw[if_neg (by simp),← hs]
     cases hn:(cp+1-k).toNat with
     | zero=>rfl
     | succ n=>rw[bv,if_neg (fun q=>h ⟨by omega,hfd,q⟩)]
   rw[e]
   exact⟨rfl,rfl⟩
theorem At:aC Try.prog GL 46 tN.spec:=Ct.okH _ Try.func46 (by kernel_rfl) (ym aP (d:=82)) ay yv (aO (by kernel_rfl) Ag)
end Go.RS

/- Xrf2: the document's exchange: acknowledgements, what the receiver does, ticks. -/
namespace Go.RS
open Go.SX Go.Proofs
set_option maxRecDepth 100000
set_option linter.unusedVariables false
theorem zd{l:List aw}{t x:aw}(h:∃ y∈l,t.1<y.1):cW (l++[x]) t=cW l t++[x]:=by
 obtain⟨y,hy,q⟩:=h
 obtain⟨a,b⟩:=qG (p:=fun x:aw=>decide (x.1<t.1)) ⟨y,hy,decide_eq_false (by omega)⟩ [x]
 unfold cW
 rw[a,b]
 simp
theorem xc{l m:List aw}{t:aw}(h:∀ y∈l,y.1<t.1):cW (l++m) t=l++cW m t:=by
 have hp:∀ y∈l,(fun x:aw=>decide (x.1<t.1)) y=true:=fun y hy=>decide_eq_true (h y hy)
 unfold cW
 rw[List.takeWhile_append_of_pos hp,List.dropWhile_append_of_pos hp,List.append_assoc]
theorem Bh{l:List aw}{t x:aw}(h:∀ y∈l,y.1<t.1)(hx:t.1<x.1):cW (l++[x]) t=l++[t]++[x]:=by
 rw[xc h]
 have n1:¬ x.1<t.1:=by omega
 unfold cW
 rw[List.takeWhile_cons_of_neg (by simpa using n1),List.dropWhile_cons_of_neg (by simpa using n1)]
 simp
theorem Dk{l:List aw}{t:aw}(h:∀ y∈l,y.1<t.1):cW l t=l++[t]:=by
 have:=xc (m:=[]) h
 rw[List.append_nil] at this
 rw[this];rfl
theorem xE(l:List aw)(t:aw):(cW l t).length=l.length+1:=by
 unfold cW
 have:=congrArg List.length (List.takeWhile_append_dropWhile (p:=fun y:aw=>decide (y.1<t.1)) (l:=l))
 rw[List.length_append] at this
 rw[List.length_append,List.length_cons];omega
theorem uO(now:Int)(l:List af):l.take (ao now l).length=ao now l:=by
 have e:ao now l++aV now l=l:=List.takeWhile_append_dropWhile
 conv=>lhs;arg 2;rw[← e]
 exact List.take_left
def tB:Ct:=⟨[.agg aQ],[.own 5 aT],fun d=>[(aG d.1).length<=65535,(aF d.1).length<=100000,∀ x∈aF d.1,0<=x.1/\x.1<=65535],fun d=>((bq ((aG d.1).length:Int) ((aF d.1).map (·.1)),()),())⟩
def Ay:az tB.ps->aI:=(fun d=>{loops:=(fun n=>match n with|3=>some (fun S=>{ι:=Int×(List Int),qn:=⟨fun k_=>∀(i:Int)(b:(List Int)),k_ (i,b),fun k_ h_ i=>h_ i.1 i.2,fun k_=>∃ (i:Int) (b:(List Int)),k_ (i,b),fun k_ ⟨i,b,h_⟩=>⟨_,h_⟩⟩,μ:=fun i=>((aF d.1).length-i.1).toNat,inv:=fun i=>0<=i.1/\i.1<=(aF d.1).length/\i.2=bq ((aG d.1).length:Int) (((aF d.1).map (·.1)).take i.1.toNat),keep:=[1],slots:=fun i=>[(3,.own 524288 1),(4,.int .i64 i.1)],keepN:=[32],names:=fun i=>[(524288,.live (.row 5 aT i.2))]})|_=>none)})
def dA(a:Int×Int×Int×List (List Int)×Int×List (List Int)×List (Int×List Int)×List (Int×Int×List Int)×List (Int×Int×List Int)) :=
 ((List.length (aF a)):Int)
theorem CU :
 ∀(a:Int×Int×Int×List (List Int)×Int×List (List Int)×List (Int×List Int)×List (Int×Int×List Int)×List (Int×Int×List Int)),CT.wf aQ a/\True->(List.length (aG a)<=(65535:Nat)/\List.length (aF a)<=(100000:Nat)/\ ∀(b:aw),b∈aF a->0<=b.1/\b.1<=65535)->(1:Nat)<=List.length [(65:Int)]/\((List.length [(65:Int)]):Int)<=1099511627776/\(∃(b:Int) (c:List Int),(0<=b/\b<=(dA a)/\c=bq ((List.length (aG a)):Int) (List.take b.toNat (List.map (fun (d:aw)=>d.1) (aF a))))/\(0:Int)=b/\a.1=a.1/\a.2.1=a.2.1/\a.2.2.1=a.2.2.1/\a.2.2.2.1=a.2.2.2.1/\a.2.2.2.2.1=a.2.2.2.2.1/\a.2.2.2.2.2.1=a.2.2.2.2.2.1/\a.2.2.2.2.2.2.1=a.2.2.2.2.2.2.1/\a.2.2.2.2.2.2.2.1=a.2.2.2.2.2.2.2.1/\a.2.2.2.2.2.2.2.2=a.2.2.2.2.2.2.2.2/\ec [(65:Int)] (a.2.2.2.2.2.1.length:Int) (2:Int)=c/\True)/\ ∀(b:Int)(c:List Int),0<=b/\b<=(dA a)/\c=bq ((List.length (aG a)):Int) (List.take b.toNat (List.map (fun (d:aw)=>d.1)
 (aF a)))->ah (decide (b<(a.2.2.2.2.2.2.1.length:Int))) (0<=b/\b<(a.2.2.2.2.2.2.1.length:Int)/\(c.length:Int)<=1099511627776/\ ∃(d:Int) (e:List Int),(0<=d/\d<=(dA a)/\e=bq ((List.length (aG a)):Int) (List.take d.toNat (List.map (fun (f:aw)=>f.1) (aF a))))/\Int.toNat ((dA a) -d)<Int.toNat ((dA a) -b)/\IntKind.wrap .i64 (b+(1:Int))=d/\a.1=a.1/\a.2.1=a.2.1/\a.2.2.1=a.2.2.1/\a.2.2.2.1=a.2.2.2.1/\a.2.2.2.2.1=a.2.2.2.2.1/\a.2.2.2.2.2.1=a.2.2.2.2.2.1/\a.2.2.2.2.2.2.1=a.2.2.2.2.2.2.1/\a.2.2.2.2.2.2.2.1=a.2.2.2.2.2.2.2.1/\a.2.2.2.2.2.2.2.2=a.2.2.2.2.2.2.2.2/\ec c (List.getD a.2.2.2.2.2.2.1 b.toNat default).1 (2:Int)=e/\True) (c=bq ((List.length (aG a)):Int) (List.map (fun (d:aw)=>d.1) (aF a))):=by
  delta dA
  rintro c-⟨hg,he,hr⟩
  have hg':c.2.2.2.2.2.1.length<=65535:=hg
  have eE:aF c=c.2.2.2.2.2.2.1:=rfl
  have eG:aG c=c.2.2.2.2.2.1:=rfl
  rw[eE] at he hr ⊢
  rw[eG]
  have e0:ec [65] (c.2.2.2.2.2.1.length:Int) 2=bq (c.2.2.2.2.2.1.length:Int) []:=by
   rw[pk ⟨by omega,by omega⟩];simp[bq,dD]
  rw[e0]
  refine⟨by simp,by simp,⟨0,_,⟨by omega,by omega,rfl⟩,by (repeat first|refine⟨trivial,?_⟩|refine⟨(by with_reducible rfl),?_⟩|refine⟨ad (by omega) (by omega),?_⟩);simp⟩,?_⟩
  rintro i b ⟨i0,i1,rfl⟩
  refine ar (fun hi=>?_) (fun hi=>?_)
  ·have hi:=of_decide_eq_true hi
   have hx:=hr _ (cE (xs:=c.2.2.2.2.2.2.1) i0 hi)
   have hn:=cZ (l:=c.2.2.2.2.2.2.1.map (·.1)) i0 (by rw[List.length_map];exact hi)
   have em:(c.2.2.2.2.2.2.1.map (·.1)).getD i.toNat default=(c.2.2.2.2.2.2.1.getD i.toNat default).1:=by
    simp only[List.getD_eq_getElem?_getD,List.getElem?_map]
    rw[List.getElem?_eq_getElem (by omega)];rfl
   have e1:ec (bq (c.2.2.2.2.2.1.length:Int) ((c.2.2.2.2.2.2.1.map (·.1)).take i.toNat)) (c.2.2.2.2.2.2.1.getD i.toNat default).1 2=bq (c.2.2.2.2.2.1.length:Int) ((c.2.2.2.2.2.2.1.map (·.1)).take (i+1).toNat):=by
    rw[pk hx,vy,hn,em]
   rw[e1]
   refine⟨i0,hi,?_,i+1,_,⟨by omega,by omega,rfl⟩,by omega,(by repeat' first|exact trivial|refine⟨trivial,?_⟩|refine⟨(by with_reducible rfl),?_⟩|refine⟨ad (by omega) (by omega),?_⟩|refine⟨rfl,?_⟩)⟩
   rw[kV,List.length_take,List.length_map];omega
  ·have hi:=of_decide_eq_false hi
   rw[List.take_of_length_le (by rw[List.length_map];omega)]
theorem Ah:aC Try.prog GL 47 tB.spec:=Ct.okH _ Try.func47 (by kernel_rfl) (av aP vU) ay Ay (aO (by kernel_rfl) CU)
def jL(c:ai)(s:List (List Int)×List aw):ai:=(c.1,c.2.1,c.2.2.1,c.2.2.2.1,c.2.2.2.2.1,s.1,s.2,c.2.2.2.2.2.2.2)
def tW:Ct:=⟨[.agg aQ,.val (.sl aT)],[.agg aQ],fun d=>[3<=d.2.1.length,(d.2.1.length:Int)<=1000000,0<=aA d.1,aA d.1<=100000,0<=am d.1,am d.1<=100000,(aG d.1).length<=100000,(aF d.1).length<=100000],fun d=>((jL d.1 (bW (aA d.1+am d.1) (aG d.1,aF d.1) (aH d.2.1 1) (d.2.1.drop 3)),()),())⟩
def Cy:az tW.ps->aI:=(fun d=>{loops:=(fun n=>match n with|4=>some (fun S=>{ι:=(List (List Int))×(List aw),qn:=⟨fun k_=>∀(g:(List (List Int)))(e:(List aw)),k_ (g,e),fun k_ h_ i=>h_ i.1 i.2,fun k_=>∃ (g:(List (List Int))) (e:(List aw)),k_ (g,e),fun k_ ⟨g,e,h_⟩=>⟨_,h_⟩⟩,μ:=fun i=>i.2.length,inv:=fun i=>bZ i.2 i.1=bZ (aF d.1) (aG d.1++[d.2.1.drop 3])/\i.1.length+i.2.length<=300000,keep:=[2,4],slots:=fun i=>[],keepN:=[80],names:=fun i=>[(48,.live (.cells 28 [.int .i64 (ab d.1),.int .i64 (a7 d.1),.int .i64 (am d.1),.dsl (.sl aT) (ae d.1),.int .i64 (aA d.1),.own 524288 1,.dsl dY i.2,.dsl a9 (aJ d.1),.dsl a9 (ba d.1)])),(524288,.live (.row 22 (.sl aT) i.1))]})|13=>some (fun S=>{ι:=Int×(List aw)×Bool,qn:=⟨fun k_=>∀(i:Int)(out:(List aw))(dn:Bool),k_ (i,out,dn),fun k_ h_ i=>h_ i.1 i.2.1 i.2.2,fun k_=>∃ (i:Int) (out:(List aw)) (dn:Bool),k_ (i,out,dn),fun k_ ⟨i,out,dn,h_⟩=>⟨_,h_⟩⟩,μ:=fun i=>((aF d.1).length-i.1).toNat,inv:=fun i=>0<=i.1/\i.1<=(aF d.1).length/\(∀ x∈(aF d.1).take i.1.toNat,x.1≠aH d.2.1 1)/\(i.2.2=false->i.2.1=(aF d.1).take i.1.toNat∧∀ x∈(aF d.1).take i.1.toNat,x.1<aH d.2.1 1)/\(i.2.2=true->i.2.1=cW ((aF d.1).take i.1.toNat) (aH d.2.1 1,d.2.1.drop 3)∧∃ x∈(aF d.1).take i.1.toNat,aH d.2.1 1<x.1),keep:=[2,4,5,6],slots:=fun i=>[(7,.own 524288 2),(8,.bool i.2.2),(9,.int .i64 i.1)],keepN:=[48,80],names:=fun i=>[(524288,.live (.row 51 dY i.2.1))]})|_=>none)})
def gP :=
 Int.toNat (3:Int)
def gz(b:List Int) :=
 Int.toNat (b.length:Int)
def kE(b:List Int) :=
 (bH b (1:Int) (2:Int),bi b (gP) (gz b))
def kd(a:Int×Int×Int×List (List Int)×Int×List (List Int)×List (Int×List Int)×List (Int×Int×List Int)×List (Int×Int×List Int))(b:List Int) :=
 bW (aA a+am a) (aG a,aF a) (aH b (1:Int)) (List.drop (3:Nat) b)
def pb(a:Int×Int×Int×List (List Int)×Int×List (List Int)×List (Int×List Int)×List (Int×Int×List Int)×List (Int×Int×List Int))(b:List Int)(h:Int)(i:List aw)(j:Bool) :=
 0<=h/\h<=(dA a)/\(∀(k:aw),k∈List.take h.toNat (aF a)->k.1≠aH b (1:Int))/\(j=false->i=List.take h.toNat (aF a)/\ ∀(k:aw),k∈List.take h.toNat (aF a)->k.1<aH b (1:Int))/\(j=true->i=cW (List.take h.toNat (aF a)) (aH b (1:Int),List.drop (3:Nat) b)/\ ∃(k:aw),k∈List.take h.toNat (aF a)/\aH b 1<k.1)
def pK(a:Int×Int×Int×List (List Int)×Int×List (List Int)×List (Int×List Int)×List (Int×Int×List Int)×List (Int×Int×List Int))(b:List Int)(d:Int)(e:List aw)(f:Bool) :=
 d<=(dA a)/\(∀(g:aw),g∈List.take d.toNat (aF a)->g.1≠aH b (1:Int))/\(f=false->e=List.take d.toNat (aF a)/\ ∀(g:aw),g∈List.take d.toNat (aF a)->g.1<aH b (1:Int))/\(f=true->e=cW (List.take d.toNat (aF a)) (aH b (1:Int),List.drop (3:Nat) b)/\ ∃(g:aw),g∈List.take d.toNat (aF a)/\aH b 1<g.1)
def gk :=
 (140737488355328:Nat)
theorem zA :
 ∀(a:Int×Int×Int×List (List Int)×Int×List (List Int)×List (Int×List Int)×List (Int×Int×List Int)×List (Int×Int×List Int))(b:List Int),CT.wf aQ a/\(b.length<=maxLen/\ ∀(c:Int),c∈b->0<=c/\c<=255)/\True->(3:Nat)<=b.length/\(b.length:Int)<=1000000/\0<=aA a/\aA a<=100000/\0<=am a/\am a<=100000/\List.length (aG a)<=(100000:Nat)/\List.length (aF a)<=(100000:Nat)->(b.length:Int)<=9223372036854775807/\(0:Int)<=3/\3<=(b.length:Int)/\(b.length:Int)<=(b.length:Int)/\ah (decide (bH b (1:Int) (2:Int)=(a.2.2.2.2.2.1.length:Int))) (a.2.2.2.2.2.1.length*(24:Nat)<=(gk)/\(a.2.2.2.2.2.1.length+List.length [bi b (gP) (gz b)])*(24:Nat)<=(gk)/\(∃(c:List (List Int)),∃(d:List aw),(bZ d c=bZ (aF a) (aG a++[List.drop (3:Nat) b])/\c.length+d.length<=(300000:Nat))/\(0:Int)=0/\(0:Int)=0/\(0:Int)=0/\(0:Int)=0/\a.1=ab a/\a.2.1=a7 a/\a.2.2.1=am a/\a.2.2.2.1=ae
 a/\a.2.2.2.2.1=aA a/\a.2.2.2.2.2.2.1=d/\a.2.2.2.2.2.2.2.1=aJ a/\a.2.2.2.2.2.2.2.2=ba a/\a.2.2.2.2.2.1++[bi b (gP) (gz b)]=c/\True)/\ ∀(c:List (List Int))(d:List aw),bZ d c=bZ (aF a) (aG a++[List.drop (3:Nat) b])/\c.length+d.length<=(300000:Nat)-> ∀(e:Bool),e=decide (0<(d.length:Int))->(e->(e->e)/\True)/\(e->(e->e)/\(0:Int)<=0/\0<(d.length:Int)/\True)/\(e->(e->e)/\True)/\(e->(e->e)/\True)/\(e->(e->e)/\True)/\(e->(e->e)/\True)/\(e->(e->e)/\(e->e)/\True)/\(e->e)/\ah (bif e then decide ((d.getD (Int.toNat (0:Int)) default).1=(c.length:Int)) else false) ((0:Int)<=0/\0<(d.length:Int)/\(c.length+List.length [(d.getD (Int.toNat (0:Int)) default).2])*(24:Nat)<=(gk)/\(0:Int)<=1/\1<=(d.length:Int)/\(d.length:Int)<=(d.length:Int)/\ ∃(f:List (List Int)),∃(g:List aw),(bZ g f=bZ (aF a) (aG a++[List.drop (3:Nat)
 b])/\f.length+g.length<=(300000:Nat))/\g.length<d.length/\(0:Int)=0/\(0:Int)=0/\(0:Int)=0/\(0:Int)=0/\ab a=ab a/\a7 a=a7 a/\am a=am a/\ae a=ae a/\aA a=aA a/\bi d (Int.toNat (1:Int)) (Int.toNat (d.length:Int))=g/\aJ a=aJ a/\ba a=ba a/\c++[(d.getD (Int.toNat (0:Int)) default).2]=f/\True) ((ab a,a7 a,am a,ae a,aA a,c,d,aJ a,ba a)=jL a (kd a b))) (∀(c:Bool),c=decide (bH b (1:Int) 2<(a.2.2.2.2.2.1.length:Int))->((! c)->((! c)->(! c))/\True)/\((! c)->((! c)->(! c))/\True)/\((! c)->((! c)->(! c))/\((! c)->(! c))/\True)/\((! c)->((! c)->(! c))/\((! c)->(! c))/\True)/\(c=false->(! c))/\ah (bif c then true else decide (IntKind.wrap .i64 (a.2.2.2.2.1+a.2.2.1)<=bH b (1:Int) (2:Int))) (a=jL a (kd a b)) ((∃(d:Int) (e:List aw),∃(f:Bool),(0<=d/\(pK a b d e f))/\bH b (1:Int) (2:Int)=bH b (1:Int) (2:Int)/\bi b (gP) (gz b)=bi b (gP)
 (gz b)/\false=f/\(0:Int)=d/\a.1=a.1/\a.2.1=a.2.1/\a.2.2.1=a.2.2.1/\a.2.2.2.1=a.2.2.2.1/\a.2.2.2.2.1=a.2.2.2.2.1/\a.2.2.2.2.2.1=a.2.2.2.2.2.1/\a.2.2.2.2.2.2.1=a.2.2.2.2.2.2.1/\a.2.2.2.2.2.2.2.1=a.2.2.2.2.2.2.2.1/\a.2.2.2.2.2.2.2.2=a.2.2.2.2.2.2.2.2/\(0:Int)=0/\(0:Int)=0/\(0:Int)=0/\(0:Int)=0/\e=([]:List (Int×List Int))/\True)/\ ∀(d:Int)(e:List aw)(f:Bool),0<=d/\(pK a b d e f)->ah (decide (d<(a.2.2.2.2.2.2.1.length:Int))) (0<=d/\d<(a.2.2.2.2.2.2.1.length:Int)/\ah (decide ((List.getD a.2.2.2.2.2.2.1 d.toNat default).1=bH b (1:Int) (2:Int))) (a=jL a (kd a b)) (∀(g:Bool),g= ! f->(g->(g->g)/\True)/\(g->(g->g)/\(g->g)/\0<=d/\d<(a.2.2.2.2.2.2.1.length:Int)/\True)/\(g->(g->g)/\True)/\(g->(g->g)/\True)/\(g->(g->g)/\(g->g)/\True)/\(g->g)/\ah (bif g then decide (bH b (1:Int) 2<(List.getD a.2.2.2.2.2.2.1 d.toNat default).1) else false) ((e.length+List.length [(kE
 b)])*(32:Nat)<=(gk)/\0<=d/\d<(a.2.2.2.2.2.2.1.length:Int)/\(List.length (e++[(kE b)])+List.length [List.getD a.2.2.2.2.2.2.1 d.toNat default])*(32:Nat)<=(gk)/\ ∃(h:Int) (i:List aw),∃(j:Bool),(pb a b h i j)/\Int.toNat ((dA a) -h)<Int.toNat ((dA a) -d)/\bH b (1:Int) (2:Int)=bH b (1:Int) (2:Int)/\bi b (gP) (gz b)=bi b (gP) (gz b)/\true=j/\IntKind.wrap .i64 (d+(1:Int))=h/\a.1=a.1/\a.2.1=a.2.1/\a.2.2.1=a.2.2.1/\a.2.2.2.1=a.2.2.2.1/\a.2.2.2.2.1=a.2.2.2.2.1/\a.2.2.2.2.2.1=a.2.2.2.2.2.1/\a.2.2.2.2.2.2.1=a.2.2.2.2.2.2.1/\a.2.2.2.2.2.2.2.1=a.2.2.2.2.2.2.2.1/\a.2.2.2.2.2.2.2.2=a.2.2.2.2.2.2.2.2/\(0:Int)=0/\(0:Int)=0/\(0:Int)=0/\(0:Int)=0/\e++[(kE b)]++[List.getD a.2.2.2.2.2.2.1 d.toNat default]=i/\True) (0<=d/\d<(a.2.2.2.2.2.2.1.length:Int)/\(e.length+List.length [List.getD a.2.2.2.2.2.2.1 d.toNat default])*(32:Nat)<=(gk)/\ ∃(h:Int) (i:List
 aw),∃(j:Bool),(pb a b h i j)/\Int.toNat ((dA a) -h)<Int.toNat ((dA a) -d)/\bH b (1:Int) (2:Int)=bH b (1:Int) (2:Int)/\bi b (gP) (gz b)=bi b (gP) (gz b)/\f=j/\IntKind.wrap .i64 (d+(1:Int))=h/\a.1=a.1/\a.2.1=a.2.1/\a.2.2.1=a.2.2.1/\a.2.2.2.1=a.2.2.2.1/\a.2.2.2.2.1=a.2.2.2.2.1/\a.2.2.2.2.2.1=a.2.2.2.2.2.1/\a.2.2.2.2.2.2.1=a.2.2.2.2.2.2.1/\a.2.2.2.2.2.2.2.1=a.2.2.2.2.2.2.2.1/\a.2.2.2.2.2.2.2.2=a.2.2.2.2.2.2.2.2/\(0:Int)=0/\(0:Int)=0/\(0:Int)=0/\(0:Int)=0/\e++[List.getD a.2.2.2.2.2.2.1 d.toNat default]=i/\True))) (ah (! f) ((e.length+List.length [(kE b)])*(32:Nat)<=(gk)/\(a.1,a.2.1,a.2.2.1,a.2.2.2.1,a.2.2.2.2.1,a.2.2.2.2.2.1,e++[(kE b)],a.2.2.2.2.2.2.2)=jL a (kd a b)) ((a.1,a.2.1,a.2.2.1,a.2.2.2.1,a.2.2.2.2.1,a.2.2.2.2.2.1,e,a.2.2.2.2.2.2.2)=jL a (kd a b))))):=by
  delta kE dA kd pb gz pK gk gP
  rintro c b-⟨hb,hb2,k0,k1,w0,w1,hg,he⟩
  have eE:aF c=c.2.2.2.2.2.2.1:=rfl
  have eG:aG c=c.2.2.2.2.2.1:=rfl
  have eK:aA c=c.2.2.2.2.1:=rfl
  have eW:am c=c.2.2.1:=rfl
  have eM:bH b 1 2=aH b 1:=rfl
  have es:bi b (Int.toNat 3) (Int.toNat (b.length:Int))=b.drop 3:=by
   unfold bi;rw[Int.toNat_natCast,List.take_length];rfl
  rw[es,eM]
  rw[eK] at k0 k1
  rw[eW] at w0 w1
  rw[ad (n:=c.2.2.2.2.1+c.2.2.1) (by omega) (by omega)]
  rw[eG] at hg
  rw[eE] at he
  generalize hI:aH b 1=I
  generalize hT:b.drop 3=T
  refine⟨by omega,by omega,by omega,by omega,ar (fun h=>?_) (fun h=>?_)⟩
  ·have h:I=(c.2.2.2.2.2.1.length:Int):=of_decide_eq_true h
   have eT:bW (aA c+am c) (aG c,aF c) I T=bZ (aF c) (aG c++[T]):=if_pos h
   rw[eT]
   refine⟨by omega,by simp only[List.length_singleton];omega,⟨_,_,⟨rfl,by rw[List.length_append,List.length_singleton,eG,eE];omega⟩,(by repeat' first|exact trivial|refine⟨trivial,?_⟩|refine⟨(by with_reducible rfl),?_⟩|refine⟨ad (by omega) (by omega),?_⟩|refine⟨rfl,?_⟩)⟩,?_⟩
   rintro g e ⟨ha,hl⟩
   (repeat (intro (b_:Bool) (hb_:b_=_);(repeat refine⟨(by first|(simp;done)|(rw[hb_];simp;done)|(rw[hb_];simp;omega)|(rw[hb_];simp;intros;omega)|(rw[hb_];simp +contextual;done)),?_⟩);subst hb_))
   refine ib (fun h1 h2=>?_) (fun h1=>?_)
   ·have h1:=of_decide_eq_true h1
    have h2:=of_decide_eq_true h2
    cases e with
    | nil=>simp at h1
    | cons x r =>
     have h2:x.1=(g.length:Int):=h2
     have hl':g.length+(r.length+1)<=300000:=hl
     have e5:bi (x::r) (Int.toNat 1) (Int.toNat ((x::r).length:Int))=r:=by
      unfold bi;rw[Int.toNat_natCast,List.take_length];rfl
     rw[e5]
     refine⟨by omega,h1,by simp only[List.length_singleton];omega,by omega,by simp only[List.length_cons];omega,by omega,g++[x.2],r,⟨?_,by rw[List.length_append,List.length_singleton];omega⟩,by simp,(by repeat' first|exact trivial|refine⟨trivial,?_⟩|refine⟨(by with_reducible rfl),?_⟩|refine⟨ad (by omega) (by omega),?_⟩|refine⟨rfl,?_⟩)⟩
     rw[← ha,bZ,if_pos h2]
   ·have hz:bZ e g=(g,e):=by
     refine vB ?_
     rcases h1 with h1|h1
     ·have h1:=of_decide_eq_false h1
      exact .inl (List.eq_nil_of_length_eq_zero (by omega))
     ·exact .inr (of_decide_eq_false h1)
    rw[← ha,hz]
    rfl
  ·have h:¬ I=(c.2.2.2.2.2.1.length:Int):=of_decide_eq_false h
   have eT:bW (aA c+am c) (aG c,aF c) I T=if I<(c.2.2.2.2.2.1.length:Int)∨c.2.2.2.2.1+c.2.2.1<=I∨(c.2.2.2.2.2.2.1.any fun x=>decide (x.1=I))=true then (aG c,aF c) else (aG c,cW (aF c) (I,T)):=if_neg h
   rw[eT]
   (repeat (intro (b_:Bool) (hb_:b_=_);(repeat refine⟨(by first|(simp;done)|(rw[hb_];simp;done)|(rw[hb_];simp;omega)|(rw[hb_];simp;intros;omega)|(rw[hb_];simp +contextual;done)),?_⟩);subst hb_))
   refine iz (fun h1=>?_) (fun h1 h2=>?_)
   ·rw[if_pos (h1.elim (fun q=>.inl (of_decide_eq_true q)) (fun q=>.inr (.inl (of_decide_eq_true q))))]
    rfl
   have h1:=of_decide_eq_false h1
   have h2:=of_decide_eq_false h2
   rw[eE]
   generalize hL:c.2.2.2.2.2.2.1=L at *
   have eR:∀ s,jL c (c.2.2.2.2.2.1,s)=(c.1,c.2.1,c.2.2.1,c.2.2.2.1,c.2.2.2.2.1,c.2.2.2.2.2.1,s,c.2.2.2.2.2.2.2):=fun s=>rfl
   refine⟨⟨0,[],false,⟨by omega,by omega,by simp,fun _=>by simp,fun q=>by cases q⟩,(by repeat' first|exact trivial|refine⟨trivial,?_⟩|refine⟨(by with_reducible rfl),?_⟩|refine⟨ad (by omega) (by omega),?_⟩|refine⟨rfl,?_⟩)⟩,?_⟩
   rintro i out dn ⟨i0,i1,g0,g1,g2⟩
   have hm:out.length<=i.toNat+1:=by
    cases dn with
    | false=>rw[(g1 rfl).1,List.length_take];omega
    | true=>rw[(g2 rfl).1,xE,List.length_take];omega
   refine ar (fun hi=>?_) (fun hi=>?_)
   ·have hi:=of_decide_eq_true hi
    have hmem:=cE (xs:=L) i0 hi
    have hnx:=cZ (l:=L) i0 hi
    generalize hx:L.getD i.toNat default=x at *
    refine⟨i0,hi,ar (fun hq=>?_) (fun hq=>?_)⟩
    ·have hq:=of_decide_eq_true hq
     rw[if_pos (.inr (.inr (List.any_eq_true.2 ⟨x,hmem,decide_eq_true hq⟩)))]
     rw[eG,eR,← hL]
    ·have hq:=of_decide_eq_false hq
     have g0':∀ y∈L.take (i+1).toNat,y.1≠I:=fun y hy=>by
      rw[hnx] at hy
      rcases List.mem_append.1 hy with hy|hy
      ·exact g0 y hy
      ·rw[List.mem_singleton.1 hy];exact hq
     intro b3 hb3
     refine⟨(by simp),fun h_=>⟨fun _=>h_,fun _=>h_,i0,hi,trivial⟩,(by simp),(by simp),(by simp),(by simp),?_⟩
     have hb4:(bif b3 then decide (I<x.1) else false)=decide (dn=false/\I<x.1):=by
      rw[hb3]
      cases dn <;> simp
     rw[hb4]
     refine ar (fun hz=>?_) (fun hz=>?_)
     ·obtain⟨q1,q2⟩:=of_decide_eq_true hz
      subst q1
      obtain⟨e1,e2⟩:=g1 rfl
      refine⟨by simp only[List.length_singleton];omega,i0,hi,by simp only[List.length_append,List.length_singleton];omega,i+1,_,true,⟨by omega,by omega,g0',(fun h=>by cases h),fun _=>?_⟩,by omega,(by repeat' first|exact trivial|refine⟨trivial,?_⟩|refine⟨(by with_reducible rfl),?_⟩|refine⟨ad (by omega) (by omega),?_⟩|refine⟨rfl,?_⟩)⟩
      rw[hnx]
      refine⟨?_,x,List.mem_append_right _ (List.mem_singleton.2 rfl),q2⟩
      rw[Bh e2 q2,← e1]
     ·have hz:=of_decide_eq_false hz
      refine⟨i0,hi,by simp only[List.length_singleton];omega,i+1,_,dn,⟨by omega,by omega,g0',fun h=>?_,fun h=>?_⟩,by omega,(by repeat' first|exact trivial|refine⟨trivial,?_⟩|refine⟨(by with_reducible rfl),?_⟩|refine⟨ad (by omega) (by omega),?_⟩|refine⟨rfl,?_⟩)⟩
      ·obtain⟨e1,e2⟩:=g1 h
       rw[hnx,e1]
       refine⟨rfl,fun y hy=>?_⟩
       rcases List.mem_append.1 hy with hy|hy
       ·exact e2 y hy
       ·rw[List.mem_singleton.1 hy]
        have:¬ I<x.1:=fun z=>hz ⟨h,z⟩
        omega
      ·obtain⟨e1,y,hy,z⟩:=g2 h
       rw[hnx,e1]
       exact⟨(zd ⟨y,hy,z⟩).symm,y,List.mem_append_left _ hy,z⟩
   ·have hi:=of_decide_eq_false hi
    rw[List.take_of_length_le (by omega)] at g0 g1 g2
    have hany:¬ (L.any fun x=>decide (x.1=I))=true:=fun q=>by
     obtain⟨y,hy,k⟩:=List.any_eq_true.1 q
     exact g0 y hy (of_decide_eq_true k)
    rw[if_neg (by rintro (q|q|q);exact h1 q;exact h2 q;exact hany q)]
    refine ar (fun hd=>?_) (fun hd=>?_)
    ·have hd:dn=false:=by simpa using hd
     obtain⟨e1,e2⟩:=g1 hd
     refine⟨by simp only[List.length_singleton];omega,?_⟩
     rw[e1,← Dk e2];rfl
    ·have hd:dn=true:=by simpa using hd
     obtain⟨e1,-⟩:=g2 hd
     rw[e1];rfl
theorem DD:aC Try.prog GL 45 tW.spec:=Ct.okH _ Try.func45 (by kernel_rfl) (av aP rQ) ay Cy (aO (by kernel_rfl) zA)
def gG(c:ai)(n:Nat):ai:=(ab c+1,a7 c,am c,ae c,aA c,(bV (aA c+am c) ((aJ c).take n) (aG c,aF c)).1,(bV (aA c+am c) ((aJ c).take n) (aG c,aF c)).2,aJ c,ba c)
def dP(c:ai)(up:List bd)(k:Int):ai:=(ab c+1,(aq c up).1,am c,ae c,k,(aM c).1,(aM c).2,aV (ab c+1) (aJ c),(aq c up).2)
def AU(c:ai)(up:List bd)(o:Int)(dn:List af):ai:=(ab c+1,o,am c,ae c,aB c up,(aM c).1,(aM c).2,dn,aV (ab c+1) (aq c up).2)
def ul:Ct:=⟨[.agg aQ,.val (.sl dI),.val (.sl dI)],[.agg aQ,.val cI],fun d=>[XR d.1,(d.2.1.length:Int)<=1000000,(d.2.2.1.length:Int)<=1000000],fun d=>((dh d.1 d.2.1 d.2.2.1,ci d.1 d.2.1 d.2.2.1,()),())⟩
def xI:az ul.ps->aI:=(fun d=>{loops:=(fun n=>match n with|2=>some (fun S=>{ι:=Int,μ:=fun i=>(d.2.1.length+d.2.2.1.length-i).toNat,inv:=fun i=>0<=i/\i<=d.2.1.length+d.2.2.1.length∧∀ x∈(d.2.1++d.2.2.1).take i.toNat,bP x=true,keep:=[1,2,3,6,7],slots:=fun i=>[(8,.int .i64 i)],keepN:=[64,112],names:=fun i=>[]})|10=>some (fun S=>{ι:=Int×ai,qn:=⟨fun k_=>∀(j:Int)(b:ai),k_ (j,b),fun k_ h_ i=>h_ i.1 i.2,fun k_=>∃ (j:Int) (b:ai),k_ (j,b),fun k_ ⟨j,b,h_⟩=>⟨_,h_⟩⟩,μ:=fun i=>((aJ d.1).length-i.1).toNat,inv:=fun i=>0<=i.1/\i.1<=(aJ d.1).length/\(∀ t∈(aJ d.1).take i.1.toNat,t.1<=ab d.1+1)/\i.2=gG d.1 i.1.toNat,keep:=[1,2,3,6,7],slots:=fun i=>[(9,.int .i64 i.1)],keepN:=[112],names:=fun i=>[(64,.live (.cells 28 (bo aQ i.2)))]})|18=>some (fun S=>{ι:=Int×ai×(List Int),qn:=⟨fun k_=>∀(h:Int)(b:ai)(nt:(List Int)),k_ (h,b,nt),fun k_ h_ i=>h_ i.1 i.2.1 i.2.2,fun k_=>∃ (h:Int) (b:ai) (nt:(List Int)),k_ (h,b,nt),fun k_ ⟨h,b,nt,h_⟩=>⟨_,h_⟩⟩,μ:=fun i=>(((aq d.1 d.2.2.1).2).length-i.1).toNat,inv:=fun i=>0<=i.1/\i.1<=((aq d.1 d.2.2.1).2).length/\(∀ t∈((aq d.1 d.2.2.1).2).take i.1.toNat,t.1<=ab d.1+1)/\i.2.1=dP d.1 d.2.2.1 (bz (aA d.1) (((aq d.1 d.2.2.1).2).take i.1.toNat))/\i.2.2=bG (((aq d.1 d.2.2.1).2).take i.1.toNat),keep:=[1,2,3,6,7],slots:=fun i=>[(11,.int .i64 i.1),(10,.own 524288 1)],keepN:=[112],names:=fun i=>[(64,.live (.cells 28 (bo aQ i.2.1))),(524288,.live (.row 3 cI i.2.2))]})|22=>some (fun S=>{ι:=Int×(List Int),qn:=⟨fun k_=>∀(a:Int)(nt:(List Int)),k_ (a,nt),fun k_ h_ i=>h_ i.1 i.2,fun k_=>∃ (a:Int) (nt:(List Int)),k_ (a,nt),fun k_ ⟨a,nt,h_⟩=>⟨_,h_⟩⟩,μ:=fun i=>((S.l aT 12).length-i.1).toNat,inv:=fun i=>3<=i.1/\i.1<=(S.l aT 12).length/\(i.1-3)%2=0/\i.2=S.o cI 10++cK (((S.l aT 12).drop 3).take (i.1-3).toNat),keep:=[1,2,3,6,7,11,12],slots:=fun i=>[(13,.int .i64 i.1),(10,.own 524289 1)],keepN:=[64,112],names:=fun i=>[(524289,.live (.row 3 cI i.2))]})|29=>some (fun S=>{ι:=Int×Int×Int×(List af),qn:=⟨fun k_=>∀(x:Int)(i:Int)(o:Int)(dn:(List af)),k_ (x,i,o,dn),fun k_ h_ i=>h_ i.1 i.2.1 i.2.2.1 i.2.2.2,fun k_=>∃ (x:Int) (i:Int) (o:Int) (dn:(List af)),k_ (x,i,o,dn),fun k_ ⟨x,i,o,dn,h_⟩=>⟨_,h_⟩⟩,μ:=fun i=>(aB d.1 d.2.2.1+am d.1-i.1).toNat,inv:=fun i=>aB d.1 d.2.2.1<=i.1/\0<=i.2.1/\i.2.1<=i.1-aB d.1 d.2.2.1/\cG (ab d.1+1) i.2.2.1 i.2.2.2/\i.2.2.1<=(aq d.1 d.2.2.1).1+9*i.2.1/\i.1<=aB d.1 d.2.2.1+am d.1/\bT (ab d.1+1) (ae d.1) d.2.1 (fx d.1 d.2.2.1 i.1) i.2.1.toNat (i.2.2.1,i.2.2.2)=cF d.1 d.2.1 d.2.2.1,keep:=[1,2,3,6,7,10],slots:=fun i=>[(15,.int .i64 i.1),(14,.int .i64 i.2.1)],keepN:=[524288,112],names:=fun i=>[(64,.live (.cells 28 (bo aQ (AU d.1 d.2.2.1 i.2.2.1 i.2.2.2))))]})|33=>some (fun S=>{ι:=Int×Bool,qn:=⟨fun k_=>∀(k:Int)(b:Bool),k_ (k,b),fun k_ h_ i=>h_ i.1 i.2,fun k_=>∃ (k:Int) (b:Bool),k_ (k,b),fun k_ ⟨k,b,h_⟩=>⟨_,h_⟩⟩,μ:=fun i=>((S.o cI 10).length-i.1).toNat,inv:=fun i=>0<=i.1/\i.1<=(S.o cI 10).length/\i.2=decide (S.i 15∈(S.o cI 10).take i.1.toNat),keep:=[1,2,3,6,7,10,14,15],slots:=fun i=>[(17,.int .i64 i.1),(16,.bool i.2)],keepN:=[64,524288,112],names:=fun i=>[]})|_=>none),cuts:=(fun n=>match n with|16=>some (fun S=>{ι:=ai,inv:=fun i=>i=dP d.1 d.2.2.1 (aA d.1),keep:=[1,2,3,6,7],slots:=fun i=>[],keepN:=[112],names:=fun i=>[(64,.live (.cells 28 (bo aQ i)))]})|_=>none)})
def gT(f:ai) :=
 (f.2.2.2.2.2.2.2.1.length:Int)
def ks(e:Int)(f:ai) :=
 (f.1,f.2.1,f.2.2.1,f.2.2.2.1,f.2.2.2.2.1,f.2.2.2.2.2.1,f.2.2.2.2.2.2.1,bi f.2.2.2.2.2.2.2.1 e.toNat (Int.toNat (gT f)),f.2.2.2.2.2.2.2.2)
def fF(i:Int)(j:ai) :=
 List.getD j.2.2.2.2.2.2.2.2 i.toNat default
def ka :=
 ((0:Int),(0:Int),(0:Int),([]:List (List Int)),(0:Int),([]:List (List Int)),([]:List (Int×List Int)),([]:List (Int×Int×List Int)),([]:List (Int×Int×List Int)))
def kL(e:Int)(f:ai) :=
 List.getD f.2.2.2.2.2.2.2.1 e.toNat default
def iF(i:Int)(j:ai) :=
 ((List.length (fF i j).2.2):Int)
def nP :=
 (0:Int)=0/\(0:Int)=0/\(0:Int)=0/\(0:Int)=0/\True
def o7(a:Int×Int×Int×List (List Int)×Int×List (List Int)×List (Int×List Int)×List (Int×Int×List Int)×List (Int×Int×List Int)) :=
 a.1=a.1/\a.2.1=a.2.1/\a.2.2.1=a.2.2.1/\a.2.2.2.1=a.2.2.2.1/\a.2.2.2.2.1=a.2.2.2.2.1/\a.2.2.2.2.2.1=a.2.2.2.2.2.1/\a.2.2.2.2.2.2.1=a.2.2.2.2.2.2.1/\a.2.2.2.2.2.2.2.1=a.2.2.2.2.2.2.2.1/\a.2.2.2.2.2.2.2.2=a.2.2.2.2.2.2.2.2/\(nP)
def i9(j:ai) :=
 (j.2.2.2.2.2.2.2.2.length:Int)
def rA(c:List (Bool×Int×Int))(e:Int)(f:ai) :=
 bf f.1 (bq ((List.length (aG (ks e f))):Int) (List.map (fun (i:aw)=>i.1) (aF (ks e f)))) (bj c (Int.toNat (0:Int))) (f.2.1,f.2.2.2.2.2.2.2.2)
def kB(i:Int)(j:ai) :=
 bH (fF i j).2.2 (1:Int) (2:Int)
def qT(e:Int)(f:ai) :=
 bW (aA f+am f) (aG f,aF f) (aH (kL e f).2.2 (1:Int)) (List.drop (3:Nat) (kL e f).2.2)
def lW(f g:Bool) :=
 (! f&&g)->((! f&&g)->(! f&&g))/\True
theorem yd :
 ∀(a:Int×Int×Int×List (List Int)×Int×List (List Int)×List (Int×List Int)×List (Int×Int×List Int)×List (Int×Int×List Int))(b c:List (Bool×Int×Int)),CT.wf aQ a/\(b.length<=maxLen/\ ∀(d:Bool×Int×Int),d∈b->True/\ak d.2.1/\ak d.2.2)/\(c.length<=maxLen/\ ∀(d:Bool×Int×Int),d∈c->True/\ak d.2.1/\ak d.2.2)/\True->XR a/\(b.length:Int)<=1000000/\(c.length:Int)<=1000000->(∃(d:Int),(0<=d/\d<=(b.length:Int)+(c.length:Int)/\ ∀(e:Bool×Int×Int),e∈List.take d.toNat (b++c)->bP e=true)/\b=b/\c=c/\(0:Int)=0/\(0:Int)=d/\(o7 a))/\ ∀(d:Int),(0<=d/\d<=(b.length:Int)+(c.length:Int)/\ ∀(e:Bool×Int×Int),e∈List.take d.toNat (b++c)->bP e=true)->ah (decide (d<IntKind.wrap .i64 ((b.length:Int)+(c.length:Int)))) (∀(e:Bool),e=decide (d<(b.length:Int))->(e->(e->e)/\(e->e)/\0<=d/\d<(b.length:Int)/\True)/\(e->(e->e)/\True)/\(e->(e->e)/\True)/\(e->(e->e)/\True)/\(e->e)/\ ∀(f:Bool),(f=bif e then ! bP (b.getD
 d.toNat default) else false)->((! f)->((! f)->(! f))/\True)/\((! f)->((! f)->(! f))/\((! f)->(! f))/\True)/\((! f)->((! f)->(! f))/\True)/\ ∀(g:Bool),g=decide ((b.length:Int)<=d)->(lW f g)/\((! f&&g)->((! f&&g)->(! f&&g))/\((! f&&g)->(! f&&g))/\True)/\((! f&&g)->((! f&&g)->(! f&&g))/\((! f&&g)->(! f&&g))/\0<=IntKind.wrap .i64 (d -(b.length:Int))/\IntKind.wrap .i64 (d -(b.length:Int))<(c.length:Int)/\True)/\(lW f g)/\(lW f g)/\(lW f g)/\((! f)->((! f)->(! f))/\(g->(! f&&g))/\True)/\(f=false->(! f))/\ah (bif f then true else bif g then ! bP (c.getD (Int.toNat (IntKind.wrap .i64 (d -(b.length:Int)))) default) else false) ((ka)=dh a b c/\(1:Int)=ci a b c) (∃(h:Int),(0<=h/\h<=(b.length:Int)+(c.length:Int)/\ ∀(i:Bool×Int×Int),i∈List.take h.toNat (b++c)->bP i=true)/\Int.toNat ((b.length:Int)+(c.length:Int) -h)<Int.toNat ((b.length:Int)+(c.length:Int)
 -d)/\b=b/\c=c/\(0:Int)=0/\IntKind.wrap .i64 (d+(1:Int))=h/\(o7 a))) (ah (decide (1099511627776<=a.1)) ((ka)=dh a b c/\(5:Int)=ci a b c) ((∃(e:Int) (f:ai),(0<=e/\e<=((List.length (aJ a)):Int)/\(∀(g:af),g∈List.take e.toNat (aJ a)->g.1<=ab a+(1:Int))/\f=gG a e.toNat)/\b=b/\c=c/\(0:Int)=0/\(0:Int)=e/\(0:Int)=0/\(0:Int)=0/\(0:Int)=0/\(0:Int)=0/\IntKind.wrap .i64 (a.1+(1:Int))=f.1/\a.2.1=f.2.1/\a.2.2.1=f.2.2.1/\a.2.2.2.1=f.2.2.2.1/\a.2.2.2.2.1=f.2.2.2.2.1/\a.2.2.2.2.2.1=f.2.2.2.2.2.1/\a.2.2.2.2.2.2.1=f.2.2.2.2.2.2.1/\a.2.2.2.2.2.2.2.1=f.2.2.2.2.2.2.2.1/\a.2.2.2.2.2.2.2.2=f.2.2.2.2.2.2.2.2/\True)/\ ∀(e:Int)(f:ai),0<=e/\e<=((List.length (aJ a)):Int)/\(∀(g:af),g∈List.take e.toNat (aJ a)->g.1<=ab a+(1:Int))/\f=gG a e.toNat-> ∀(g:Bool),g=decide (e<(gT f))->(g->(g->g)/\True)/\(g->(g->g)/\(g->g)/\0<=e/\e<(gT
 f)/\True)/\(g->(g->g)/\True)/\(g->(g->g)/\True)/\(g->(g->g)/\True)/\(g->(g->g)/\(g->g)/\True)/\(g->g)/\ah (bif g then decide ((kL e f).1=f.1) else false) (0<=e/\e<(gT f)/\(3:Nat)<=List.length (kL e f).2.2/\((List.length (kL e f).2.2):Int)<=1000000/\0<=aA f/\aA f<=100000/\0<=am f/\am f<=100000/\List.length (aG f)<=(100000:Nat)/\List.length (aF f)<=(100000:Nat)/\ ∃(h:Int) (i:ai),(0<=h/\h<=((List.length (aJ a)):Int)/\(∀(j:af),j∈List.take h.toNat (aJ a)->j.1<=ab a+(1:Int))/\i=gG a h.toNat)/\Int.toNat (((List.length (aJ a)):Int) -h)<Int.toNat (((List.length (aJ a)):Int) -e)/\b=b/\c=c/\(0:Int)=0/\IntKind.wrap .i64 (e+(1:Int))=h/\(0:Int)=0/\(0:Int)=0/\(0:Int)=0/\(0:Int)=0/\f.1=i.1/\f.2.1=i.2.1/\f.2.2.1=i.2.2.1/\f.2.2.2.1=i.2.2.2.1/\f.2.2.2.2.1=i.2.2.2.2.1/\(qT e f).1=i.2.2.2.2.2.1/\(qT e
 f).2=i.2.2.2.2.2.2.1/\f.2.2.2.2.2.2.2.1=i.2.2.2.2.2.2.2.1/\f.2.2.2.2.2.2.2.2=i.2.2.2.2.2.2.2.2/\True) (0<=e/\e<=(gT f)/\(gT f)<=(gT f)/\ah (decide (0<e)) (List.length (aG (ks e f))<=(65535:Nat)/\List.length (aF (ks e f))<=(100000:Nat)/\(∀(h:aw),h∈aF (ks e f)->0<=h.1/\h.1<=65535)/\(0:Int)<=0/\(f.2.2.2.2.2.2.2.2.length:Int)<=1000000/\0<=f.1/\f.1<=1125899906842624/\0<=f.2.1/\f.2.1<=1125899906842624/\f7 (bj c (Int.toNat (0:Int)))/\ ∃(h:ai),h=dP a c (aA a)/\b=b/\c=c/\(0:Int)=0/\(0:Int)=0/\(0:Int)=0/\(0:Int)=0/\(0:Int)=0/\f.1=h.1/\(rA c e f).1=h.2.1/\f.2.2.1=h.2.2.1/\f.2.2.2.1=h.2.2.2.1/\f.2.2.2.2.1=h.2.2.2.2.1/\f.2.2.2.2.2.1=h.2.2.2.2.2.1/\f.2.2.2.2.2.2.1=h.2.2.2.2.2.2.1/\bi f.2.2.2.2.2.2.2.1 e.toNat (Int.toNat (gT f))=h.2.2.2.2.2.2.2.1/\(rA c e f).2=h.2.2.2.2.2.2.2.2/\True) (∃(h:ai),h=dP a c (aA
 a)/\b=b/\c=c/\(0:Int)=0/\(0:Int)=0/\(0:Int)=0/\(0:Int)=0/\(0:Int)=0/\f.1=h.1/\f.2.1=h.2.1/\f.2.2.1=h.2.2.1/\f.2.2.2.1=h.2.2.2.1/\f.2.2.2.2.1=h.2.2.2.2.1/\f.2.2.2.2.2.1=h.2.2.2.2.2.1/\f.2.2.2.2.2.2.1=h.2.2.2.2.2.2.1/\bi f.2.2.2.2.2.2.2.1 e.toNat (Int.toNat (gT f))=h.2.2.2.2.2.2.2.1/\f.2.2.2.2.2.2.2.2=h.2.2.2.2.2.2.2.2/\True)/\ ∀(h:ai),h=dP a c (aA a)->(∃(i:Int) (j:ai),∃(k:List Int),(0<=i/\i<=((List.length (aq a c).2):Int)/\(∀(l:af),l∈List.take i.toNat (aq a c).2->l.1<=ab a+(1:Int))/\j=dP a c (bz (aA a) (List.take i.toNat (aq a c).2))/\k=bG (List.take i.toNat (aq a
 c).2))/\b=b/\c=c/\(0:Int)=0/\(0:Int)=i/\(0:Int)=0/\(0:Int)=0/\(0:Int)=0/\(0:Int)=0/\h.1=j.1/\h.2.1=j.2.1/\h.2.2.1=j.2.2.1/\h.2.2.2.1=j.2.2.2.1/\h.2.2.2.2.1=j.2.2.2.2.1/\h.2.2.2.2.2.1=j.2.2.2.2.2.1/\h.2.2.2.2.2.2.1=j.2.2.2.2.2.2.1/\h.2.2.2.2.2.2.2.1=j.2.2.2.2.2.2.2.1/\h.2.2.2.2.2.2.2.2=j.2.2.2.2.2.2.2.2/\k=([]:List Int)/\True)/\ ∀(i:Int)(j:ai)(k:List Int),0<=i/\i<=((List.length (aq a c).2):Int)/\(∀(l:af),l∈List.take i.toNat (aq a c).2->l.1<=ab a+(1:Int))/\j=dP a c (bz (aA a) (List.take i.toNat (aq a c).2))/\k=bG (List.take i.toNat (aq a c).2)-> ∀(l:Bool),l=decide (i<(i9 j))->(l->(l->l)/\True)/\(l->(l->l)/\(l->l)/\0<=i/\i<(i9 j)/\True)/\(l->(l->l)/\True)/\(l->(l->l)/\True)/\(l->(l->l)/\True)/\(l->(l->l)/\(l->l)/\True)/\(l->l)/\ah (bif l then decide ((fF i j).1=j.1) else false) (0<=i/\i<(i9 j)/\(iF i j)<=9223372036854775807/\(∃(m:Int) (n:List
 Int),(3<=m/\m<=(iF i j)/\(m -(3:Int))%(2:Int)=0/\n=k++cK (List.take (Int.toNat (m -(3:Int))) (List.drop (3:Nat) (fF i j).2.2)))/\b=b/\c=c/\(0:Int)=0/\i=i/\(fF i j).2.2=(fF i j).2.2/\(3:Int)=m/\j.1=j.1/\j.2.1=j.2.1/\j.2.2.1=j.2.2.1/\j.2.2.2.1=j.2.2.2.1/\max j.2.2.2.2.1 (kB i j)=max j.2.2.2.2.1 (kB i j)/\j.2.2.2.2.2.1=j.2.2.2.2.2.1/\j.2.2.2.2.2.2.1=j.2.2.2.2.2.2.1/\j.2.2.2.2.2.2.2.1=j.2.2.2.2.2.2.2.1/\j.2.2.2.2.2.2.2.2=j.2.2.2.2.2.2.2.2/\(0:Int)=0/\(0:Int)=0/\(0:Int)=0/\(0:Int)=0/\k=n/\True)/\ ∀(m:Int)(n:List Int),3<=m/\m<=(iF i j)/\(m -(3:Int))%(2:Int)=0/\n=k++cK (List.take (Int.toNat (m -(3:Int))) (List.drop (3:Nat) (fF i j).2.2))->ah (decide (IntKind.wrap .i64 (m+(1:Int))<(iF i j))) ((iF i j)<=9223372036854775807/\(n.length+List.length [bH (fF i j).2.2 m (2:Int)])*(8:Nat)<=(gk)/\ ∃(o:Int) (p:List Int),(3<=o/\o<=(iF i j)/\(o
 -(3:Int))%(2:Int)=0/\p=k++cK (List.take (Int.toNat (o -(3:Int))) (List.drop (3:Nat) (fF i j).2.2)))/\Int.toNat ((iF i j) -o)<Int.toNat ((iF i j) -m)/\b=b/\c=c/\(0:Int)=0/\i=i/\(fF i j).2.2=(fF i j).2.2/\IntKind.wrap .i64 (m+(2:Int))=o/\j.1=j.1/\j.2.1=j.2.1/\j.2.2.1=j.2.2.1/\j.2.2.2.1=j.2.2.2.1/\max j.2.2.2.2.1 (kB i j)=max j.2.2.2.2.1 (kB i j)/\j.2.2.2.2.2.1=j.2.2.2.2.2.1/\j.2.2.2.2.2.2.1=j.2.2.2.2.2.2.1/\j.2.2.2.2.2.2.2.1=j.2.2.2.2.2.2.2.1/\j.2.2.2.2.2.2.2.2=j.2.2.2.2.2.2.2.2/\(0:Int)=0/\(0:Int)=0/\(0:Int)=0/\(0:Int)=0/\n++[bH (fF i j).2.2 m (2:Int)]=p/\True) (∃(o:Int) (p:ai),∃(q:List Int),(0<=o/\o<=((List.length (aq a c).2):Int)/\(∀(r:af),r∈List.take o.toNat (aq a c).2->r.1<=ab a+(1:Int))/\p=dP a c (bz (aA a) (List.take o.toNat (aq a c).2))/\q=bG (List.take o.toNat (aq a c).2))/\Int.toNat (((List.length (aq a c).2):Int) -o)<Int.toNat
 (((List.length (aq a c).2):Int) -i)/\b=b/\c=c/\(0:Int)=0/\IntKind.wrap .i64 (i+(1:Int))=o/\(0:Int)=0/\(0:Int)=0/\(0:Int)=0/\(0:Int)=0/\j.1=p.1/\j.2.1=p.2.1/\j.2.2.1=p.2.2.1/\j.2.2.2.1=p.2.2.2.1/\max j.2.2.2.2.1 (kB i j)=p.2.2.2.2.1/\j.2.2.2.2.2.1=p.2.2.2.2.2.1/\j.2.2.2.2.2.2.1=p.2.2.2.2.2.2.1/\j.2.2.2.2.2.2.2.1=p.2.2.2.2.2.2.2.1/\j.2.2.2.2.2.2.2.2=p.2.2.2.2.2.2.2.2/\n=q/\True)) (0<=i/\i<=(i9 j)/\(i9 j)<=(i9 j)/\(∃(m:Int) (n:Int),∃(o:Int) (p:List af),(aB a c<=m/\0<=n/\n<=m -aB a c/\cG (ab a+(1:Int)) o p/\o<=(aq a c).1+(9:Int)*n/\m<=aB a c+am a/\bT (ab a+(1:Int)) (ae a) b (fx a c m) n.toNat (o,p)=cF a b c)/\b=b/\c=c/\(0:Int)=0/\(0:Int)=n/\j.2.2.2.2.1=m/\k=k/\(0:Int)=0/\(0:Int)=0/\(0:Int)=0/\(0:Int)=0/\j.1=ab a+(1:Int)/\j.2.1=o/\j.2.2.1=am a/\j.2.2.2.1=ae a/\j.2.2.2.2.1=aB a c/\j.2.2.2.2.2.1=(aM a).1/\j.2.2.2.2.2.2.1=(aM
 a).2/\j.2.2.2.2.2.2.2.1=p/\bi j.2.2.2.2.2.2.2.2 i.toNat (Int.toNat (i9 j))=aV (ab a+(1:Int)) (aq a c).2/\True)/\ ∀(m n o:Int)(p:List af),aB a c<=m/\0<=n/\n<=m -aB a c/\cG (ab a+(1:Int)) o p/\o<=(aq a c).1+(9:Int)*n/\m<=aB a c+am a/\bT (ab a+(1:Int)) (ae a) b (fx a c m) n.toNat (o,p)=cF a b c-> ∀(q:Bool),q=decide (m<((List.length (ae a)):Int))->(q->(q->q)/\True)/\(q->(q->q)/\True)/\(q->(q->q)/\(q->q)/\True)/\(q->(q->q)/\(q->q)/\True)/\(q->q)/\ah (bif q then decide (m<IntKind.wrap .i64 (aB a c+am a)) else false) ((∃(r:Int) (s:Bool),(0<=r/\r<=(k.length:Int)/\s=decide (m∈List.take r.toNat k))/\b=b/\c=c/\(0:Int)=0/\n=n/\m=m/\false=s/\(0:Int)=r/\ab a+(1:Int)=ab a+(1:Int)/\o=o/\am a=am a/\ae a=ae a/\aB a c=aB a c/\(aM a).1=(aM a).1/\(aM a).2=(aM a).2/\p=p/\aV (ab a+(1:Int)) (aq a c).2=aV (ab a+(1:Int)) (aq a
 c).2/\k=k/\(nP))/\ ∀(r:Int)(s:Bool),0<=r/\r<=(k.length:Int)/\s=decide (m∈List.take r.toNat k)->ah (decide (r<(k.length:Int))) (∀(t:Bool),t=s->((! t)->((! t)->(! t))/\((! t)->(! t))/\0<=r/\r<(k.length:Int)/\True)/\((! t)->((! t)->(! t))/\True)/\((! t)->((! t)->(! t))/\((! t)->(! t))/\True)/\(t=false->(! t))/\ ∃(u:Int) (v:Bool),(0<=u/\u<=(k.length:Int)/\v=decide (m∈List.take u.toNat k))/\Int.toNat ((k.length:Int) -u)<Int.toNat ((k.length:Int) -r)/\b=b/\c=c/\(0:Int)=0/\n=n/\m=m/\(bif t then true else decide (k.getD r.toNat default=m))=v/\IntKind.wrap .i64 (r+(1:Int))=u/\ab a+(1:Int)=ab a+(1:Int)/\o=o/\am a=am a/\ae a=ae a/\aB a c=aB a c/\(aM a).1=(aM a).1/\(aM a).2=(aM a).2/\p=p/\aV (ab a+(1:Int)) (aq a c).2=aV (ab a+(1:Int)) (aq a c).2/\k=k/\(nP)) (ah (! s) (0<=m/\m<=65535/\m<((List.length (ae a)):Int)/\List.length (List.getD (ae a) m.toNat
 default)<=(1048576:Nat)/\0<=n/\(p.length:Int)<=1000000/\0<=ab a+(1:Int)/\ab a+(1:Int)<=1125899906842624/\0<=o/\o<=1125899906842624/\f7 (bj b n.toNat)/\ ∃(t:Int) (u:Int),∃(v:Int) (w:List af),(aB a c<=t/\0<=u/\u<=t -aB a c/\cG (ab a+(1:Int)) v w/\v<=(aq a c).1+(9:Int)*u/\t<=aB a c+am a/\bT (ab a+(1:Int)) (ae a) b (fx a c t) u.toNat (v,w)=cF a b c)/\Int.toNat (aB a c+am a -t)<Int.toNat (aB a c+am a -m)/\b=b/\c=c/\(0:Int)=0/\IntKind.wrap .i64 (n+(1:Int))=u/\IntKind.wrap .i64 (m+(1:Int))=t/\k=k/\(0:Int)=0/\(0:Int)=0/\(0:Int)=0/\(0:Int)=0/\ab a+(1:Int)=ab a+(1:Int)/\(bf (ab a+(1:Int)) (bF m (List.getD (ae a) m.toNat default)) (bj b n.toNat) (o,p)).1=v/\am a=am a/\ae a=ae a/\aB a c=aB a c/\(aM a).1=(aM a).1/\(aM a).2=(aM a).2/\(bf (ab a+(1:Int)) (bF m (List.getD (ae a) m.toNat default)) (bj b n.toNat)
 (o,p)).2=w/\aV (ab a+(1:Int)) (aq a c).2=aV (ab a+(1:Int)) (aq a c).2/\True) (∃(t:Int) (u:Int),∃(v:Int) (w:List af),(aB a c<=t/\0<=u/\u<=t -aB a c/\cG (ab a+(1:Int)) v w/\v<=(aq a c).1+(9:Int)*u/\t<=aB a c+am a/\bT (ab a+(1:Int)) (ae a) b (fx a c t) u.toNat (v,w)=cF a b c)/\Int.toNat (aB a c+am a -t)<Int.toNat (aB a c+am a -m)/\b=b/\c=c/\(0:Int)=0/\n=u/\IntKind.wrap .i64 (m+(1:Int))=t/\k=k/\(0:Int)=0/\(0:Int)=0/\(0:Int)=0/\(0:Int)=0/\ab a+(1:Int)=ab a+(1:Int)/\o=v/\am a=am a/\ae a=ae a/\aB a c=aB a c/\(aM a).1=(aM a).1/\(aM a).2=(aM a).2/\p=w/\aV (ab a+(1:Int)) (aq a c).2=aV (ab a+(1:Int)) (aq a c).2/\True))) ((ab a+(1:Int),o,am a,ae a,aB a c,(aM a).1,(aM a).2,p,aV (ab a+(1:Int)) (aq a c).2)=dh a b c/\(0:Int)=ci a b c))))):=by
  delta ks fF ka kL gT iF o7 i9 rA gk kB nP qT lW
  rintro c ds us-⟨⟨hx,ho⟩,hd1,hu1⟩
  rw[ad (n:=(ds.length:Int)+us.length) (by omega) (by omega)]
  refine⟨⟨0,⟨by omega,by omega,by simp⟩,(by repeat' first|exact trivial|refine⟨trivial,?_⟩|refine⟨(by with_reducible rfl),?_⟩|refine⟨ad (by omega) (by omega),?_⟩|refine⟨rfl,?_⟩)⟩,?_⟩
  rintro j ⟨j0,j1,hok⟩
  have happ:((ds++us).length:Int)=ds.length+us.length:=by rw[List.length_append];omega
  refine ar (fun hj=>?_) (fun hj=>?_)
  ·have hj:=of_decide_eq_true hj
   rw[ad (n:=j-(ds.length:Int)) (by omega) (by omega)]
   have hmem:=cE (xs:=ds++us) j0 (by omega)
   have hnx:=cZ (l:=ds++us) j0 (by omega)
   have hel:(ds++us).getD j.toNat default=if j<ds.length then ds.getD j.toNat default else us.getD (j-(ds.length:Int)).toNat default:=by
    rw[List.getD_eq_getElem?_getD]
    split
    ·rw[List.getElem?_append_left (by omega),List.getD_eq_getElem?_getD]
    ·rw[List.getElem?_append_right (by omega),List.getD_eq_getElem?_getD,show j.toNat-ds.length=(j-(ds.length:Int)).toNat by omega]
   (repeat (intro (b_:Bool) (hb_:b_=_);(repeat refine⟨(by first|(simp;done)|(rw[hb_];simp;done)|(rw[hb_];simp;omega)|(rw[hb_];simp;intros;omega)|(rw[hb_];simp +contextual;done)),?_⟩);subst hb_))
   refine⟨fun h_=>(by rw[h_];rfl),?_⟩
   have hc:(bif bif decide (j<(ds.length:Int)) then !bP (ds.getD j.toNat default) else false then true else bif decide ((ds.length:Int)<=j) then !bP (us.getD (j-(ds.length:Int)).toNat default) else false) = !bP ((ds++us).getD j.toNat default):=by
    rw[hel]
    by_cases h:j<(ds.length:Int)
    ·rw[if_pos h,decide_eq_true h,decide_eq_false (show ¬ (ds.length:Int)<=j by omega)]
     cases bP (ds.getD j.toNat default) <;> rfl
    ·rw[if_neg h,decide_eq_false h,decide_eq_true (show (ds.length:Int)<=j by omega)]
     rfl
   rw[hc]
   refine ar (fun hq=>?_) (fun hq=>?_)
   ·have hq:bP ((ds++us).getD j.toNat default)=false:=by simpa using hq
    have e:ci c ds us=1:=by
     unfold ci
     refine if_pos (Bool.eq_false_iff.2 fun k=>?_)
     obtain⟨k1,k2⟩:=Bool.and_eq_true_iff.1 k
     have:bP ((ds++us).getD j.toNat default)=true:=by
      rcases List.mem_append.1 hmem with q|q
      ·exact List.all_eq_true.1 k1 _ q
      ·exact List.all_eq_true.1 k2 _ q
     rw[hq] at this;cases this
    unfold dh
    rw[e]
    exact⟨rfl,rfl⟩
   ·have hq:bP ((ds++us).getD j.toNat default)=true:=by simpa using hq
    refine⟨j+1,⟨by omega,by omega,fun x hx=>?_⟩,by omega,(by repeat' first|exact trivial|refine⟨trivial,?_⟩|refine⟨(by with_reducible rfl),?_⟩|refine⟨ad (by omega) (by omega),?_⟩|refine⟨rfl,?_⟩)⟩
    rw[hnx] at hx
    rcases List.mem_append.1 hx with hx|hx
    ·exact hok x hx
    ·rw[List.mem_singleton.1 hx];exact hq
  have hj:=of_decide_eq_false hj
  rw[List.take_of_length_le (by omega)] at hok
  have hB1:c6 ds=true:=List.all_eq_true.2 fun x hx=>hok x (List.mem_append_left _ hx)
  have hB2:c6 us=true:=List.all_eq_true.2 fun x hx=>hok x (List.mem_append_right _ hx)
  have hd:=kD.1 hB1
  have hu:=kD.1 hB2
  refine ar (fun h3=>?_) (fun h3=>?_)
  ·have h3:1099511627776<=ab c:=of_decide_eq_true h3
   have e:ci c ds us=5:=by
    unfold ci
    rw[hB1,hB2,if_neg (by decide),if_pos h3]
   unfold dh
   rw[e]
   exact⟨rfl,rfl⟩
  have hnow:¬ 1099511627776<=ab c:=of_decide_eq_false h3
  have hE:ci c ds us=0:=by
   unfold ci
   rw[hB1,hB2,if_neg (by decide),if_neg hnow]
  have hC:dh c ds us=bh c ds us:=if_pos hE
  rw[hE,hC]
  clear hE hC hok j0 j1 happ hB1 hB2 h3
  have n0:=hx.now
  have o0:=hx.ord
  have hwin:=hx.win
  have hlog:=hx.log
  have hkn:=hx.kn
  have hgl:(aG c).length<=(ae c).length:=hx.rc.n
  obtain⟨⟨pu1,pu2,pu3,pu4⟩,pk1,pk2⟩:=hx.parts hu
  obtain⟨q1,q2,q3,q4⟩:=mr (ab c+1) (aJ c)
  have q5:=uO (ab c+1) (aJ c)
  have ew:IntKind.i64.wrap (c.1+1)=ab c+1:=ad (by show _<=ab c+1;omega) (by show ab c+1<=_;omega)
  rw[ew]
  have hdl:=hx.dn.n
  have hrec:∀ n:Nat,iB (ae c) (aA c+am c) (bV (aA c+am c) ((aJ c).take n) (aG c,aF c)):=fun n =>
   (j7 hlog (l:=(aJ c).take n) hx.rc fun t ht=>hx.dd t (List.mem_of_mem_take ht)).1
  have hrt:∀ n:Nat,_:=fun n=>pU (g:=(bV (aA c+am c) ((aJ c).take n) (aG c,aF c)).1) (e:=(bV (aA c+am c) ((aJ c).take n) (aG c,aF c)).2) (hrec n) hlog ⟨hkn.1,by omega⟩ hwin
  refine⟨⟨0,gG c 0,⟨by omega,by omega,by simp,rfl⟩,(by repeat' first|exact trivial|refine⟨trivial,?_⟩|refine⟨(by with_reducible rfl),?_⟩|refine⟨ad (by omega) (by omega),?_⟩|refine⟨rfl,?_⟩)⟩,?_⟩
  rintro j b ⟨j0,j1,hj1,rfl⟩
  have e8:(gG c j.toNat).2.2.2.2.2.2.2.1=aJ c:=rfl
  have e1:(gG c j.toNat).1=ab c+1:=rfl
  rw[e8,e1]
  (repeat (intro (b_:Bool) (hb_:b_=_);(repeat refine⟨(by first|(simp;done)|(rw[hb_];simp;done)|(rw[hb_];simp;omega)|(rw[hb_];simp;intros;omega)|(rw[hb_];simp +contextual;done)),?_⟩);subst hb_))
  obtain⟨t1,t2,t3,t4⟩:=hrt j.toNat
  refine ib (fun h1 h2=>?_) (fun h1=>?_)
  ·have h1:=of_decide_eq_true h1
   have h2:=of_decide_eq_true h2
   have hmem:=cE (xs:=aJ c) j0 h1
   obtain⟨d1,d2⟩:=q8 (hx.dd _ hmem) hx.it
   have hnx:=cZ (l:=aJ c) j0 h1
   generalize (aJ c).getD j.toNat default=T at *
   refine⟨j0,h1,d1,by omega,hkn.1,by show aA c<=_;omega,by show 0<=am c;omega,by show am c<=_;omega,by show (bV (aA c+am c) ((aJ c).take j.toNat) (aG c,aF c)).1.length<=_;omega,by show (bV (aA c+am c) ((aJ c).take j.toNat) (aG c,aF c)).2.length<=_;omega,
    j+1,(ab c+1,a7 c,am c,ae c,aA c,(bW (aA c+am c) (bV (aA c+am c) ((aJ c).take j.toNat) (aG c,aF c)) (aH T.2.2 1) (T.2.2.drop 3)).1,(bW (aA c+am c) (bV (aA c+am c) ((aJ c).take j.toNat) (aG c,aF c)) (aH T.2.2 1) (T.2.2.drop 3)).2,aJ c,ba c),⟨by omega,by omega,fun t ht=>?_,?_⟩,by omega,(by repeat' first|exact trivial|refine⟨trivial,?_⟩|refine⟨(by with_reducible rfl),?_⟩|refine⟨ad (by omega) (by omega),?_⟩|refine⟨rfl,?_⟩)⟩
   ·rw[hnx] at ht
    rcases List.mem_append.1 ht with ht|ht
    ·exact hj1 t ht
    ·rw[List.mem_singleton.1 ht];omega
   ·unfold gG
    rw[hnx,tD]
  have hjn:j.toNat=(ao (ab c+1) (aJ c)).length:=by
   refine mo j0 j1 hj1 ?_
   rcases h1 with h1|h1
   ·exact .inl (of_decide_eq_false h1)
   ·by_cases hj2:j<(aJ c).length
    ·have h1:=of_decide_eq_false h1
     have:=(hx.dn.r _ (cE (xs:=aJ c) j0 hj2)).1
     exact .inr (by omega)
    ·exact .inl hj2
  have eS:bi (aJ c) j.toNat (Int.toNat ((aJ c).length:Int))=aV (ab c+1) (aJ c):=by
   unfold bi;rw[Int.toNat_natCast,List.take_length,hjn];exact q2
  rw[eS]
  have eA:bV (aA c+am c) ((aJ c).take j.toNat) (aG c,aF c)=aM c:=by rw[hjn,q5];rfl
  rw[eA] at t1 t2 t3 t4
  have eA1:(gG c j.toNat)=(ab c+1,a7 c,am c,ae c,aA c,(aM c).1,(aM c).2,aJ c,ba c):=by unfold gG;rw[eA]
  rw[eA1]
  have hf0:=iW hu 0
  refine⟨j0,by omega,by omega,ar (fun h=>?_) (fun h=>?_),?_⟩
  ·have h:=of_decide_eq_true h
   have eU:aq c us=bf (ab c+1) (bq ((aM c).1.length:Int) ((aM c).2.map (·.1))) (bj us 0) (a7 c,ba c):=if_neg fun k=>by rw[k] at hjn;simp at hjn;omega
   have eB:(ab c+1,(bf (ab c+1) (bq ((aM c).1.length:Int) ((aM c).2.map (·.1))) (bj us 0) (a7 c,ba c)).1,am c,ae c,aA c,(aM c).1,(aM c).2,aV (ab c+1) (aJ c),(bf (ab c+1) (bq ((aM c).1.length:Int) ((aM c).2.map (·.1))) (bj us 0) (a7 c,ba c)).2)=dP c us (aA c):=by unfold dP;rw[eU]
   have hup:=hx.up.n
   exact⟨by show (aM c).1.length<=_;omega,by show (aM c).2.length<=_;omega,fun x hx=>by have:=t4 x hx;omega,by omega,by show ((ba c).length:Int)<=_;omega,by show 0<=ab c+1;omega,by show ab c+1<=_;omega,o0,by show a7 c<=_;omega,hf0,_,eB,(by repeat' first|exact trivial|refine⟨trivial,?_⟩|refine⟨(by with_reducible rfl),?_⟩|refine⟨ad (by omega) (by omega),?_⟩|refine⟨rfl,?_⟩)⟩
  ·have h:=of_decide_eq_false h
   have eU:aq c us=(a7 c,ba c):=if_pos (List.eq_nil_of_length_eq_zero (by omega))
   have eB:(ab c+1,a7 c,am c,ae c,aA c,(aM c).1,(aM c).2,aV (ab c+1) (aJ c),ba c)=dP c us (aA c):=by unfold dP;rw[eU]
   exact⟨_,eB,(by repeat' first|exact trivial|refine⟨trivial,?_⟩|refine⟨(by with_reducible rfl),?_⟩|refine⟨ad (by omega) (by omega),?_⟩|refine⟨rfl,?_⟩)⟩
  clear eA eA1 eS hjn h1 e8 e1 hj1 j0 j1 hrt
  rintro _ rfl
  refine⟨⟨0,dP c us (aA c),[],⟨by omega,by omega,by simp,rfl,rfl⟩,(by repeat' first|exact trivial|refine⟨trivial,?_⟩|refine⟨(by with_reducible rfl),?_⟩|refine⟨ad (by omega) (by omega),?_⟩|refine⟨rfl,?_⟩)⟩,?_⟩
  rintro h b nt ⟨h0,h1,hh,rfl,rfl⟩
  have e9:(dP c us (bz (aA c) ((aq c us).2.take h.toNat))).2.2.2.2.2.2.2.2=(aq c us).2:=rfl
  have e1:(dP c us (bz (aA c) ((aq c us).2.take h.toNat))).1=ab c+1:=rfl
  rw[e9,e1]
  (repeat (intro (b_:Bool) (hb_:b_=_);(repeat refine⟨(by first|(simp;done)|(rw[hb_];simp;done)|(rw[hb_];simp;omega)|(rw[hb_];simp;intros;omega)|(rw[hb_];simp +contextual;done)),?_⟩);subst hb_))
  have hun:=pu1.n
  have hodd:∀ t∈(aq c us).2,∃ m:Nat,t.2.2.length=3+2*m/\m<=2000:=fun t ht=>pP (pu4 t ht) hlog
  refine ib (fun h2 h3=>?_) (fun h2=>?_)
  ·have h2:=of_decide_eq_true h2
   have h3:=of_decide_eq_true h3
   have hmem:=cE (xs:=(aq c us).2) h0 h2
   have ht:=cZ (l:=(aq c us).2) h0 h2
   obtain⟨m,hl,hm2⟩:=hodd _ hmem
   generalize (aq c us).2.getD h.toNat default=T at *
   have eM:bH T.2.2 1 2=aH T.2.2 1:=rfl
   rw[eM]
   refine⟨h0,h2,by omega,⟨3,_,⟨by omega,by omega,rfl,rfl⟩,by (repeat first|refine⟨trivial,?_⟩|refine⟨(by with_reducible rfl),?_⟩|refine⟨ad (by omega) (by omega),?_⟩);exact⟨by simp[cK],trivial⟩⟩,?_⟩
   rintro a nt2 ⟨a0,a1,a2,rfl⟩
   have hhn:=mR (l:=(aq c us).2.take h.toNat) fun t ht=>hodd t (List.mem_of_mem_take ht)
   have hlt:((aq c us).2.take h.toNat).length<=(aq c us).2.length:=by rw[List.length_take];omega
   rw[ad (n:=a+1) (by omega) (by omega)]
   refine ar (fun ha=>?_) (fun ha=>?_)
   ·have ha:=of_decide_eq_true ha
    obtain⟨q,hq⟩:∃ q:Nat,a=3+2*(q:Int):=⟨((a-3)/2).toNat,by omega⟩
    subst hq
    have hp:=oz _ ((T.2.2.drop 3).take (3+2*(q:Int)-3).toNat) (Nat.le_refl _)
    have e1:(3+2*(q:Int)-3).toNat=2*q:=by omega
    have e2:(3+2*(q:Int)+2-3).toNat=2*q+2:=by omega
    have e3:(3+2*(q:Int))=((3+2*q:Nat):Int):=by omega
    have e4:bH T.2.2 (3+2*(q:Int)) 2=(T.2.2.drop 3).getD (2*q) 0*256+(T.2.2.drop 3).getD (2*q+1) 0:=by
     show aH T.2.2 (3+2*(q:Int))=_
     rw[e3,qc (by omega),← List.drop_drop]
     simp only[List.getD_eq_getElem?_getD,List.getElem?_drop,Nat.add_zero]
    refine⟨by omega,?_,3+2*(q:Int)+2,_,⟨by omega,by omega,by omega,rfl⟩,by omega,?_⟩
    ·rw[List.length_append,hp,List.length_singleton,List.length_take,List.length_drop];omega
    ·(repeat first|refine⟨trivial,?_⟩|refine⟨(by with_reducible rfl),?_⟩|refine⟨ad (by omega) (by omega),?_⟩)
     exact⟨by rw[e1,e2,e4,rJ q (by rw[List.length_drop];omega),List.append_assoc],trivial⟩
   ·have ha:=of_decide_eq_false ha
    have w1:max (bz (aA c) ((aq c us).2.take h.toNat)) (aH T.2.2 1)=bz (aA c) ((aq c us).2.take (h+1).toNat):=by rw[ht,wc]
    have w2:bG ((aq c us).2.take h.toNat)++cK ((T.2.2.drop 3).take (a-3).toNat)=bG ((aq c us).2.take (h+1).toNat):=by rw[ht,te,List.take_of_length_le (l:=T.2.2.drop 3) (by rw[List.length_drop];omega)]
    have w3:max (dP c us (bz (aA c) ((aq c us).2.take h.toNat))).2.2.2.2.1 (aH T.2.2 1)=bz (aA c) ((aq c us).2.take (h+1).toNat):=w1
    rw[w2,w3]
    refine⟨h+1,dP c us (bz (aA c) ((aq c us).2.take (h+1).toNat)),_,⟨by omega,by omega,fun t htt=>?_,rfl,rfl⟩,by omega,(by repeat' first|exact trivial|refine⟨trivial,?_⟩|refine⟨(by with_reducible rfl),?_⟩|refine⟨ad (by omega) (by omega),?_⟩|refine⟨rfl,?_⟩)⟩
    rw[ht] at htt
    rcases List.mem_append.1 htt with htt|htt
    ·exact hh t htt
    ·rw[List.mem_singleton.1 htt];omega
  have hn:h.toNat=(ao (ab c+1) (aq c us).2).length:=by
   refine mo h0 h1 hh ?_
   rcases h2 with h2|h2
   ·exact .inl (of_decide_eq_false h2)
   ·by_cases hj2:h<(aq c us).2.length
    ·have h2:=of_decide_eq_false h2
     have:=(pu1.r _ (cE (xs:=(aq c us).2) h0 hj2)).1
     exact .inr (by omega)
    ·exact .inl hj2
  obtain⟨p1,p2,p3,p4⟩:=mr (ab c+1) (aq c us).2
  have p5:=uO (ab c+1) (aq c us).2
  have eS:bi (aq c us).2 h.toNat (Int.toNat ((aq c us).2.length:Int))=aV (ab c+1) (aq c us).2:=by
   unfold bi;rw[Int.toNat_natCast,List.take_length,hn];exact p2
  have eT:(aq c us).2.take h.toNat=dq c us:=by rw[hn];exact p5
  rw[eS,eT]
  have eK:bz (aA c) (dq c us)=aB c us:=rfl
  rw[eK]
  have hD:bT (ab c+1) (ae c) ds (fx c us (aB c us)) 0 ((aq c us).1,aV (ab c+1) (aJ c))=cF c ds us:=rfl
  have hR:∀ x,fx c us x=(dU x (min ((ae c).length:Int) (aB c us+am c))).filter fun i => !(bG (dq c us)).contains i:=fun x=>rfl
  have hdn0:=(nE (now:=ab c+1) (by omega) hx.dn).more pu2
  have hfin:∀ o dn',(o,dn')=cF c ds us->((ab c+1,o,am c,ae c,aB c us,(aM c).1,(aM c).2,dn',aV (ab c+1) (aq c us).2):ai)=bh c ds us:=fun o dn' he=>by
   show _=((ab c+1,(cF c ds us).1,am c,ae c,aB c us,(aM c).1,(aM c).2,(cF c ds us).2,aV (ab c+1) (aq c us).2):ai)
   rw[← he]
  refine⟨h0,by omega,by omega,⟨aB c us,0,(aq c us).1,aV (ab c+1) (aJ c),⟨by omega,by omega,by omega,hdn0.so (by omega) (by omega),by omega,by omega,hD⟩,(by repeat' first|exact trivial|refine⟨trivial,?_⟩|refine⟨(by with_reducible rfl),?_⟩|refine⟨ad (by omega) (by omega),?_⟩|refine⟨rfl,?_⟩)⟩,?_⟩
  have hit:=hx.it
  rintro x i o dn' ⟨x0,i0,i1,hs,ho2,x1,he⟩
  rw[ad (n:=aB c us+am c) (by omega) (by omega)]
  (repeat (intro (b_:Bool) (hb_:b_=_);(repeat refine⟨(by first|(simp;done)|(rw[hb_];simp;done)|(rw[hb_];simp;omega)|(rw[hb_];simp;intros;omega)|(rw[hb_];simp +contextual;done)),?_⟩);subst hb_))
  refine ib (fun h4 h5=>?_) (fun h4=>?_)
  ·have h4:=of_decide_eq_true h4
   have h5:=of_decide_eq_true h5
   have hcons:=vX (x:=x) (b:=min ((ae c).length:Int) (aB c us+am c)) (by omega)
   have hNl:=mR (l:=dq c us) fun t ht=>hodd t (p4 t ht)
   have p1':(dq c us).length<=(aq c us).2.length:=p1
   generalize hN:bG (dq c us)=N at *
   refine⟨⟨0,false,⟨by omega,by omega,by simp⟩,(by repeat' first|exact trivial|refine⟨trivial,?_⟩|refine⟨(by with_reducible rfl),?_⟩|refine⟨ad (by omega) (by omega),?_⟩|refine⟨rfl,?_⟩)⟩,?_⟩
   rintro k b ⟨k0,k1,rfl⟩
   refine ar (fun hk=>?_) (fun hk=>?_)
   ·have hk:=of_decide_eq_true hk
    have hnx:=cZ (l:=N) k0 hk
    (repeat (intro (b_:Bool) (hb_:b_=_);(repeat refine⟨(by first|(simp;done)|(rw[hb_];simp;done)|(rw[hb_];simp;omega)|(rw[hb_];simp;intros;omega)|(rw[hb_];simp +contextual;done)),?_⟩);subst hb_))
    refine⟨k+1,_,⟨by omega,by omega,rfl⟩,by omega,?_⟩
    (repeat first|refine⟨trivial,?_⟩|refine⟨(by with_reducible rfl),?_⟩|refine⟨ad (by omega) (by omega),?_⟩)
    refine⟨?_,(by repeat' first|exact trivial|refine⟨trivial,?_⟩|refine⟨(by with_reducible rfl),?_⟩|refine⟨ad (by omega) (by omega),?_⟩|refine⟨rfl,?_⟩)⟩
    rw[hnx,lS]
    refine decide_eq_decide.2 ?_
    rw[List.mem_append,List.mem_singleton]
    exact⟨fun q=>q.imp id Eq.symm,fun q=>q.imp id Eq.symm⟩
   ·have hk:=of_decide_eq_false hk
    rw[List.take_of_length_le (by omega)]
    refine ar (fun hm=>?_) (fun hm=>?_)
    ·have hm:=jR hm
     have hf:=iW hd i.toNat
     have hil:=hit _ (cE (xs:=ae c) (i:=x) (by omega) h4)
     have hs0:=hs
     obtain⟨-,oo,-,-,hdn⟩:=hs0
     obtain⟨s1,s2⟩:=xi (b:=bF x ((ae c).getD x.toNat default)) hf hs (by omega)
     refine⟨by omega,by omega,h4,by omega,i0,by omega,by omega,by omega,oo.1,by omega,hf,x+1,i+1,(bf (ab c+1) (bF x ((ae c).getD x.toNat default)) (bj ds i.toNat) (o,dn')).1,(bf (ab c+1) (bF x ((ae c).getD x.toNat default)) (bj ds i.toNat) (o,dn')).2,⟨by omega,by omega,by omega,s1,by omega,by omega,?_⟩,by omega,(by repeat' first|exact trivial|refine⟨trivial,?_⟩|refine⟨(by with_reducible rfl),?_⟩|refine⟨ad (by omega) (by omega),?_⟩|refine⟨rfl,?_⟩)⟩
     rw[← he,hR x,hR,hcons,List.filter_cons_of_pos (by simpa using hm),show (i+1).toNat=i.toNat+1 by omega]
     rfl
    ·have hm:=jK hm
     refine⟨x+1,i,o,dn',⟨by omega,i0,by omega,hs,ho2,by omega,?_⟩,by omega,(by repeat' first|exact trivial|refine⟨trivial,?_⟩|refine⟨(by with_reducible rfl),?_⟩|refine⟨ad (by omega) (by omega),?_⟩|refine⟨rfl,?_⟩)⟩
     rw[← he,hR,hR,hcons,List.filter_cons_of_neg (by simpa using hm)]
  ·have hx2:¬ x<min ((ae c).length:Int) (aB c us+am c):=by
    rcases h4 with q|q
    ·have:=of_decide_eq_false q;omega
    ·have:=of_decide_eq_false q;omega
   refine⟨hfin o dn' ?_,rfl⟩
   rw[← he,hR,v9 hx2]
   rfl
theorem u9:aC Try.prog GL 30 ul.spec:=Ct.okH _ Try.func30 (by kernel_rfl) (av (av (av (av (av (av (av aP B5) DD) Ah) yN) At) rQ) C6) ay xI (aO (by kernel_rfl) yd)
def wa:Ct:=⟨[.agg aQ,.val cI],[.agg aQ,.val cI],fun d=>[XR d.1],fun d=>((dF d.1 d.2.1,ct d.1 d.2.1,()),())⟩
def zX:az wa.ps->aI:=(fun d=>{loops:=(fun n=>match n with|4=>some (fun S=>{ι:=Int×ai,qn:=⟨fun k_=>∀(i:Int)(b:ai),k_ (i,b),fun k_ h_ i=>h_ i.1 i.2,fun k_=>∃ (i:Int) (b:ai),k_ (i,b),fun k_ ⟨i,b,h_⟩=>⟨_,h_⟩⟩,μ:=fun i=>(max 0 d.2.1-i.1).toNat,inv:=fun i=>0<=i.1/\i.1<=max 0 d.2.1/\(0<i.1->ab d.1+i.1<=1099511627776)/\i.2=a8 i.1.toNat d.1,keep:=[1,2,4,5],slots:=fun i=>[(6,.int .i64 i.1)],keepN:=[80],names:=fun i=>[(48,.live (.cells 28 (bo aQ i.2)))]})|_=>none)})
theorem EL :
 ∀(a:Int×Int×Int×List (List Int)×Int×List (List Int)×List (Int×List Int)×List (Int×Int×List Int)×List (Int×Int×List Int))(b:Int),CT.wf aQ a/\ak b/\True->XI a/\a7 a<=585*ab a-> ∀(c:Bool),c=decide (b<0)->((! c)->((! c)->(! c))/\True)/\(c=false->(! c))/\ah (bif c then true else decide (100000<b)) ((ka)=dF a b/\(1:Int)=ct a b) ((∃(d:Int) (e:ai),(0<=d/\d<=max (0:Int) b/\(0<d->ab a+d<=1099511627776)/\e=a8 d.toNat a)/\b=b/\(0:Int)=0/\(0:Int)=d/\(0:Int)=0/\(0:Int)=0/\(0:Int)=0/\(0:Int)=0/\a.1=e.1/\a.2.1=e.2.1/\a.2.2.1=e.2.2.1/\a.2.2.2.1=e.2.2.2.1/\a.2.2.2.2.1=e.2.2.2.2.1/\a.2.2.2.2.2.1=e.2.2.2.2.2.1/\a.2.2.2.2.2.2.1=e.2.2.2.2.2.2.1/\a.2.2.2.2.2.2.2.1=e.2.2.2.2.2.2.2.1/\a.2.2.2.2.2.2.2.2=e.2.2.2.2.2.2.2.2/\True)/\ ∀(d:Int)(e:ai),0<=d/\d<=max (0:Int) b/\(0<d->ab a+d<=1099511627776)/\e=a8 d.toNat a->ah (decide (d<b)) (XR
 e/\(↑(0:Nat):Int)<=1000000/\(↑(0:Nat):Int)<=1000000/\ ∀(f:Int×Int×Int×List (List Int)×Int×List (List Int)×List (Int×List Int)×List (Int×Int×List Int)×List (Int×Int×List Int))(g:Int),f=dh e ([]:List (Bool×Int×Int)) ([]:List (Bool×Int×Int))/\g=ci e ([]:List (Bool×Int×Int)) ([]:List (Bool×Int×Int))->ah (! decide (g=0)) ((ka)=dF a b/\g=ct a b) (∃(h:Int) (i:ai),(0<=h/\h<=max (0:Int) b/\(0<h->ab a+h<=1099511627776)/\i=a8 h.toNat a)/\Int.toNat (max (0:Int) b -h)<Int.toNat (max (0:Int) b -d)/\b=b/\(0:Int)=0/\IntKind.wrap .i64 (d+(1:Int))=h/\(0:Int)=0/\(0:Int)=0/\(0:Int)=0/\(0:Int)=0/\f.1=i.1/\f.2.1=i.2.1/\f.2.2.1=i.2.2.1/\f.2.2.2.1=i.2.2.2.1/\f.2.2.2.2.1=i.2.2.2.2.1/\f.2.2.2.2.2.1=i.2.2.2.2.2.1/\f.2.2.2.2.2.2.1=i.2.2.2.2.2.2.1/\f.2.2.2.2.2.2.2.1=i.2.2.2.2.2.2.2.1/\f.2.2.2.2.2.2.2.2=i.2.2.2.2.2.2.2.2/\True)) (e=dF a b/\(0:Int)=ct a b)):=by
  delta ka
  rintro c n-⟨hx,ho⟩
  (repeat (intro (b_:Bool) (hb_:b_=_);(repeat refine⟨(by first|(simp;done)|(rw[hb_];simp;done)|(rw[hb_];simp;omega)|(rw[hb_];simp;intros;omega)|(rw[hb_];simp +contextual;done)),?_⟩);subst hb_))
  refine iz (fun h=>?_) (fun h1 h2=>?_)
  ·have e:ct c n=1:=by
    unfold ct
    refine if_pos ?_
    rcases h with q|q
    ·exact .inl (of_decide_eq_true q)
    ·exact .inr (of_decide_eq_true q)
   unfold dF
   rw[e]
   exact⟨rfl,rfl⟩
  have h1:=of_decide_eq_false h1
  have h2:=of_decide_eq_false h2
  refine⟨⟨0,c,⟨by omega,by omega,by omega,rfl⟩,(by repeat' first|exact trivial|refine⟨trivial,?_⟩|refine⟨(by with_reducible rfl),?_⟩|refine⟨ad (by omega) (by omega),?_⟩|refine⟨rfl,?_⟩)⟩,?_⟩
  rintro i b ⟨i0,i1,i2,rfl⟩
  obtain⟨hb,hnow,-⟩:=hx.runs i.toNat
  have hxr:=XR.runs ⟨hx,ho⟩ i.toNat
  refine ar (fun h3=>?_) (fun h3=>?_)
  ·have h3:=of_decide_eq_true h3
   refine⟨hxr,by simp,by simp,?_⟩
   rintro y e ⟨he1,he2⟩
   have hE:ci (a8 i.toNat c) [] []=if 1099511627776<=ab (a8 i.toNat c) then 5 else 0:=by
    unfold ci;rw[if_neg (by decide)]
   refine ar (fun h4=>?_) (fun h4=>?_)
   ·have h4:=jR h4
    rw[he2,hE] at h4
    have h5:1099511627776<=ab (a8 i.toNat c):=Classical.byContradiction fun k=>h4 (if_neg k)
    have e5:e=5:=by rw[he2,hE,if_pos h5]
    have eR:ct c n=5:=by
     unfold ct
     rw[if_neg (by omega),if_pos (by omega)]
    unfold dF
    rw[eR,e5]
    exact⟨rfl,rfl⟩
   ·have h4:=jK h4
    have h5:¬ 1099511627776<=ab (a8 i.toNat c):=fun k=>by rw[he2,hE,if_pos k] at h4;cases h4
    have ey:y=a8 (i+1).toNat c:=by
     rw[he1,show (i+1).toNat=i.toNat+1 by omega,gm]
     unfold dh
     rw[← he2,h4,if_pos rfl]
    exact⟨i+1,y,⟨by omega,by omega,by omega,ey⟩,by omega,(by repeat' first|exact trivial|refine⟨trivial,?_⟩|refine⟨(by with_reducible rfl),?_⟩|refine⟨ad (by omega) (by omega),?_⟩|refine⟨rfl,?_⟩)⟩
  ·have h3:=of_decide_eq_false h3
   have e:ct c n=0:=by
    unfold ct
    rw[if_neg (by omega),if_neg (by omega)]
   unfold dF
   rw[e,if_pos rfl,show n.toNat=i.toNat by omega]
   exact⟨rfl,rfl⟩
theorem Be:aC Try.prog GL 28 wa.spec:=Ct.okH _ Try.func28 (by kernel_rfl) (av aP (Ct.named u9)) ay zX (aO (by kernel_rfl) EL)
def gU(a b:ai):Bool:=decide (ab a=ab b)&&(decide (a7 a=a7 b)&&(decide (am a=am b)&&(decide (aA a=aA b)&&(decide (ae a=ae b)&&(decide (aG a=aG b)&&(decide (aF a=aF b)&&(decide (aJ a=aJ b)&&decide (ba a=ba b))))))))
theorem oV{a b:ai}:gU a b=true↔a=b:=by
 unfold gU
 simp only[Bool.and_eq_true,decide_eq_true_eq]
 constructor
 ·rintro⟨h1,h2,h3,h4,h5,h6,h7,h8,h9⟩
  exact Prod.ext h1 (Prod.ext h2 (Prod.ext h3 (Prod.ext h5 (Prod.ext h4 (Prod.ext h6 (Prod.ext h7 (Prod.ext h8 h9)))))))
 ·rintro rfl
  exact⟨rfl,rfl,rfl,rfl,rfl,rfl,rfl,rfl,rfl⟩
def ub:Ct:=⟨[.agg aQ,.agg aQ],[.val .bool],fun _=>[],fun d=>((gU d.1 d.2.1,()),())⟩
def AS:az ub.ps->aI:=(fun d=>{loops:=(fun n=>match n with|4=>some (fun S=>{ι:=Int,μ:=fun i=>((aF d.1).length-i).toNat,inv:=fun i=>0<=i/\i<=(aF d.1).length/\(aF d.1).take i.toNat=(aF d.2.1).take i.toNat,keep:=[2,3],slots:=fun i=>[(5,.int .i64 i)],keepN:=[48,64],names:=fun i=>[]})|_=>none)})
def qo(a b:Int×Int×Int×List (List Int)×Int×List (List Int)×List (Int×List Int)×List (Int×Int×List Int)×List (Int×Int×List Int)) :=
 a.1=a.1/\a.2.1=a.2.1/\a.2.2.1=a.2.2.1/\a.2.2.2.1=a.2.2.2.1/\a.2.2.2.2.1=a.2.2.2.2.1/\a.2.2.2.2.2.1=a.2.2.2.2.2.1/\a.2.2.2.2.2.2.1=a.2.2.2.2.2.2.1/\a.2.2.2.2.2.2.2.1=a.2.2.2.2.2.2.2.1/\a.2.2.2.2.2.2.2.2=a.2.2.2.2.2.2.2.2/\b.1=b.1/\b.2.1=b.2.1/\b.2.2.1=b.2.2.1/\b.2.2.2.1=b.2.2.2.1/\b.2.2.2.2.1=b.2.2.2.2.1/\b.2.2.2.2.2.1=b.2.2.2.2.2.1/\b.2.2.2.2.2.2.1=b.2.2.2.2.2.2.1/\b.2.2.2.2.2.2.2.1=b.2.2.2.2.2.2.2.1/\b.2.2.2.2.2.2.2.2=b.2.2.2.2.2.2.2.2/\True
def iX(l:Bool) :=
 (! l)->((! l)->(! l))/\True
theorem Do :
 ∀(a b:Int×Int×Int×List (List Int)×Int×List (List Int)×List (Int×List Int)×List (Int×Int×List Int)×List (Int×Int×List Int)),CT.wf aQ a/\CT.wf aQ b/\True->True-> ∀(c:Bool),c= ! decide (a.1=b.1)->((! c)->((! c)->(! c))/\True)/\((! c)->((! c)->(! c))/\True)/\((! c)->((! c)->(! c))/\((! c)->(! c))/\True)/\(c=false->(! c))/\ ∀(d:Bool),(d=bif c then true else ! decide (a.2.1=b.2.1))->((! d)->((! d)->(! d))/\True)/\((! d)->((! d)->(! d))/\True)/\((! d)->((! d)->(! d))/\((! d)->(! d))/\True)/\(d=false->(! d))/\ ∀(e:Bool),(e=bif d then true else ! decide (a.2.2.1=b.2.2.1))->((! e)->((! e)->(! e))/\True)/\((! e)->((! e)->(! e))/\True)/\((! e)->((! e)->(! e))/\((! e)->(! e))/\True)/\(e=false->(! e))/\ ∀(f:Bool),(f=bif e then true else ! decide (a.2.2.2.2.1=b.2.2.2.2.1))->((! f)->((! f)->(! f))/\True)/\((! f)->((! f)->(! f))/\True)/\((! f)->((! f)->(! f))/\((! f)->(! f))/\True)/\((! f)->((!
 f)->(! f))/\True)/\(f=false->(! f))/\ ∀(g:Bool),(g=bif f then true else ! decide (a.2.2.2.1=b.2.2.2.1))->((! g)->((! g)->(! g))/\True)/\((! g)->((! g)->(! g))/\True)/\((! g)->((! g)->(! g))/\((! g)->(! g))/\True)/\((! g)->((! g)->(! g))/\True)/\(g=false->(! g))/\ ∀(h:Bool),(h=bif g then true else ! decide (a.2.2.2.2.2.1=b.2.2.2.2.2.1))->((! h)->((! h)->(! h))/\True)/\((! h)->((! h)->(! h))/\True)/\((! h)->((! h)->(! h))/\((! h)->(! h))/\True)/\((! h)->((! h)->(! h))/\True)/\(h=false->(! h))/\ ∀(i:Bool),(i=bif h then true else ! decide (a.2.2.2.2.2.2.2.1=b.2.2.2.2.2.2.2.1))->((! i)->((! i)->(! i))/\True)/\((! i)->((! i)->(! i))/\True)/\((! i)->((! i)->(! i))/\((! i)->(! i))/\True)/\((! i)->((! i)->(! i))/\True)/\(i=false->(! i))/\ ∀(j:Bool),(j=bif i then true else ! decide (a.2.2.2.2.2.2.2.2=b.2.2.2.2.2.2.2.2))->((! j)->((! j)->(! j))/\True)/\((! j)->((! j)->(! j))/\True)/\((! j)->((!
 j)->(! j))/\True)/\((! j)->((! j)->(! j))/\True)/\((! j)->((! j)->(! j))/\((! j)->(! j))/\True)/\(j=false->(! j))/\ah (bif j then true else ! decide ((a.2.2.2.2.2.2.1.length:Int)=(b.2.2.2.2.2.2.1.length:Int))) (false=gU a b) ((∃(k:Int),(0<=k/\k<=(dA a)/\List.take k.toNat (aF a)=List.take k.toNat (aF b))/\(0:Int)=k/\(qo a b))/\ ∀(k:Int),0<=k/\k<=(dA a)/\List.take k.toNat (aF a)=List.take k.toNat (aF b)->ah (decide (k<(a.2.2.2.2.2.2.1.length:Int))) (0<=k/\k<(a.2.2.2.2.2.2.1.length:Int)/\0<=k/\k<(b.2.2.2.2.2.2.1.length:Int)/\ ∀(l:Bool),l= ! decide ((List.getD a.2.2.2.2.2.2.1 k.toNat default).1=(List.getD b.2.2.2.2.2.2.1 k.toNat default).1)->(iX l)/\((! l)->((! l)->(! l))/\((! l)->(! l))/\0<=k/\k<(a.2.2.2.2.2.2.1.length:Int)/\True)/\(iX l)/\(iX l)/\(iX l)/\((! l)->((! l)->(! l))/\((! l)->(! l))/\0<=k/\k<(b.2.2.2.2.2.2.1.length:Int)/\True)/\(iX l)/\(iX
 l)/\((! l)->((! l)->(! l))/\((! l)->(! l))/\True)/\(iX l)/\(l=false->(! l))/\ah (bif l then true else ! decide ((List.getD a.2.2.2.2.2.2.1 k.toNat default).2=(List.getD b.2.2.2.2.2.2.1 k.toNat default).2)) (false=gU a b) (∃(m:Int),(0<=m/\m<=(dA a)/\List.take m.toNat (aF a)=List.take m.toNat (aF b))/\Int.toNat ((dA a) -m)<Int.toNat ((dA a) -k)/\IntKind.wrap .i64 (k+(1:Int))=m/\(qo a b))) (true=gU a b)):=by
  delta qo dA iX
  rintro a b ⟨⟨-,-,-,-,-,-,⟨hl,-⟩,-⟩,-⟩ -
  simp only[maxLen] at hl
  (repeat (intro (b_:Bool) (hb_:b_=_);(repeat refine⟨(by first|(simp;done)|(rw[hb_];simp;done)|(rw[hb_];simp;omega)|(rw[hb_];simp;intros;omega)|(rw[hb_];simp +contextual;done)),?_⟩);subst hb_))
  simp only[Cr,BL,vf,lS]
  have ne:a≠b->gU a b=false:=fun h=>Bool.eq_false_iff.2 fun k=>h (oV.1 k)
  refine ar (fun h=>?_) (fun h=>?_)
  ·have h:=of_decide_eq_true h
   refine (ne fun e=>?_).symm
   subst e
   simp at h
  have h:=of_decide_eq_false h
  simp only[not_or,Classical.not_not] at h
  obtain⟨⟨⟨⟨⟨⟨⟨⟨h1,h2⟩,h3⟩,h4⟩,h5⟩,h6⟩,h7⟩,h8⟩,h9⟩:=h
  have eA:aF a=a.2.2.2.2.2.2.1:=rfl
  have eB:aF b=b.2.2.2.2.2.2.1:=rfl
  rw[eA,eB]
  have fin:a.2.2.2.2.2.2.1=b.2.2.2.2.2.2.1->a=b:=fun h=>Prod.ext h1 (Prod.ext h2 (Prod.ext h3 (Prod.ext h5 (Prod.ext h4 (Prod.ext h6 (Prod.ext h (Prod.ext h7 h8)))))))
  have neq:a.2.2.2.2.2.2.1≠b.2.2.2.2.2.2.1->a≠b:=fun h e=>h (by rw[e])
  generalize a.2.2.2.2.2.2.1=L at *
  generalize b.2.2.2.2.2.2.1=M at *
  refine⟨⟨0,⟨by omega,by omega,rfl⟩,(by repeat' first|exact trivial|refine⟨trivial,?_⟩|refine⟨(by with_reducible rfl),?_⟩|refine⟨ad (by omega) (by omega),?_⟩|refine⟨rfl,?_⟩)⟩,?_⟩
  rintro i ⟨i0,i1,i2⟩
  refine ar (fun hi=>?_) (fun hi=>?_)
  ·have hi:=of_decide_eq_true hi
   refine⟨i0,hi,i0,by omega,?_⟩
   (repeat (intro (b_:Bool) (hb_:b_=_);(repeat refine⟨(by first|(simp;done)|(rw[hb_];simp;done)|(rw[hb_];simp;omega)|(rw[hb_];simp;intros;omega)|(rw[hb_];simp +contextual;done)),?_⟩);subst hb_))
   have hL:=cZ (l:=L) i0 hi
   have hM:=cZ (l:=M) i0 (by omega)
   refine iz (fun hq=>?_) (fun q1 q2=>?_)
   ·refine (ne (neq fun e=>?_)).symm
    rw[e] at hq
    simp at hq
   ·have q1:=Classical.not_not.1 (of_decide_eq_false q1)
    have q2:=Classical.not_not.1 (of_decide_eq_false q2)
    refine⟨i+1,⟨by omega,by omega,?_⟩,by omega,?_⟩
    ·rw[hL,hM,i2,Prod.ext q1 q2]
    ·rw[ad (by omega) (by omega)]
     exact (by repeat' first|exact trivial|refine⟨trivial,?_⟩|refine⟨(by with_reducible rfl),?_⟩|refine⟨ad (by omega) (by omega),?_⟩|refine⟨rfl,?_⟩)
  ·have hi:=of_decide_eq_false hi
   rw[List.take_of_length_le (by omega),List.take_of_length_le (by omega)] at i2
   exact (oV.2 (fin i2)).symm
theorem x4:aC Try.prog GL 12 ub.spec:=Ct.okH _ Try.func12 (by kernel_rfl) (av (av (av aP AK) DR) qh) ay AS (aO (by kernel_rfl) Do)
end Go.RS

/- Lawx1: what the laws of the exchange draw. -/
namespace Go.RS
open Go.SX Go.Proofs
set_option maxRecDepth 100000
set_option linter.unusedVariables false
def va:Cn:=⟨[.box 58 fN,.val cI],[.val (.sl aT)],fun d=>[aE d.1,0<=d.2.1,d.2.1<=1000],fun d y=>aE y.2.1/\(y.1.1.length:Int)<=d.2.1,fun d h=>⟨(([],()),(d.1,())),h.1,by simp;exact h.2.1⟩⟩
def z3:az va.ps->aI:=(fun d=>{loops:=(fun n=>match n with|3=>some (fun S=>{ι:=Int×(List Int×Int)×(List Int),qn:=⟨fun k_=>∀(k:Int)(c:(List Int×Int))(b:(List Int)),k_ (k,c,b),fun k_ h_ i=>h_ i.1 i.2.1 i.2.2,fun k_=>∃ (k:Int) (c:(List Int×Int)) (b:(List Int)),k_ (k,c,b),fun k_ ⟨k,c,b,h_⟩=>⟨_,h_⟩⟩,μ:=fun i=>i.1.toNat,inv:=fun i=>0<=i.1/\aE i.2.1/\i.2.2.length+i.1<=d.2.1,keep:=[0,4],slots:=fun i=>[(5,.own 524288 1),(6,.int .i64 i.1)],names:=fun i=>[(1048576,.live (.cells 58 (bo fN i.2.1))),(524288,.live (.row 5 aT i.2.2))]})|_=>none)})
theorem Dz :
 ∀(a:List Int)(b c:Int),((a.length<=maxLen/\ ∀(d:Int),d∈a->0<=d/\d<=255)/\ak b)/\ak c/\True->aE (a,b)/\0<=c/\c<=1000->aE (a,b)/\ ∀(d:Int)(e:List Int)(f:Int),0<=d/\(d<IntKind.wrap .i64 (c+(1:Int))∨d=0)/\aE (e,f)->(∃(g:Int) (h:List Int×Int),∃(i:List Int),(0<=g/\aE h/\(i.length:Int)+g<=c)/\d=g/\e=h.1/\f=h.2/\i=([]:List Int)/\True)/\ ∀(g:Int)(h:List Int×Int)(i:List Int),0<=g/\aE h/\(i.length:Int)+g<=c->ah (decide (0<g)) (aE h/\ ∀(j:Int)(k:List Int)(l:Int),0<=j/\(j<256∨j=0)/\aE (k,l)->(i.length+List.length [IntKind.wrap .u8 j])*(1:Nat)<=(140737488355328:Nat)/\ ∃(m:Int) (n:List Int×Int),∃(o:List Int),(0<=m/\aE n/\(o.length:Int)+m<=c)/\m.toNat<g.toNat/\IntKind.wrap .i64 (g -(1:Int))=m/\k=n.1/\l=n.2/\i++[IntKind.wrap .u8 j]=o/\True) (aE h/\(i.length:Int)<=c):=by
  rintro l p n-⟨hc,n0,n1⟩
  refine⟨hc,?_⟩
  rintro k l2 p2 ⟨k0,k1,hc2⟩
  rw[ad (by omega) (by omega)] at k1
  refine⟨⟨k,(l2,p2),[],⟨k0,hc2,by simp only[List.length_nil];omega⟩,(by repeat' first|exact trivial|refine⟨trivial,?_⟩|refine⟨(by with_reducible rfl),?_⟩|refine⟨ad (by omega) (by omega),?_⟩|refine⟨rfl,?_⟩)⟩,?_⟩
  rintro k c b ⟨k0,hc,hb⟩
  refine ar (fun h=>⟨hc,?_⟩) (fun h=>⟨hc,by omega⟩)
  have h:=of_decide_eq_true h
  rintro x l3 p3 ⟨-,-,hc3⟩
  exact⟨by simp only[List.length_singleton];omega,k-1,(l3,p3),b++[IntKind.wrap IntKind.u8 x],⟨by omega,hc3,by rw[List.length_append,List.length_singleton];omega⟩,by omega,(by repeat' first|exact trivial|refine⟨trivial,?_⟩|refine⟨(by with_reducible rfl),?_⟩|refine⟨ad (by omega) (by omega),?_⟩|refine⟨rfl,?_⟩)⟩
theorem Et:aC Try.prog GL 19 va.spec:=Cn.okH _ Try.func19 (by kernel_rfl) (av aP mH) ay z3 (aO (by kernel_rfl) Dz)
def xn:Cn:=⟨[.box 58 fN,.val cI],[.own 67 dI],fun d=>[aE d.1,0<=d.2.1,d.2.1<=1000],fun d y=>aE y.2.1/\(y.1.1.length:Int)<=d.2.1∧∀ f∈y.1.1,0<=f.2.2/\f.2.2<=1,fun d h=>⟨(([],()),(d.1,())),h.1,by simp;exact h.2.1,by simp⟩⟩
def zH:az xn.ps->aI:=(fun d=>{loops:=(fun n=>match n with|3=>some (fun S=>{ι:=Int×(List Int×Int)×(List bd),qn:=⟨fun k_=>∀(k:Int)(c:(List Int×Int))(l:(List bd)),k_ (k,c,l),fun k_ h_ i=>h_ i.1 i.2.1 i.2.2,fun k_=>∃ (k:Int) (c:(List Int×Int)) (l:(List bd)),k_ (k,c,l),fun k_ ⟨k,c,l,h_⟩=>⟨_,h_⟩⟩,μ:=fun i=>i.1.toNat,inv:=fun i=>0<=i.1/\aE i.2.1/\i.2.2.length+i.1<=d.2.1∧∀ f∈i.2.2,0<=f.2.2/\f.2.2<=1,keep:=[0,4],slots:=fun i=>[(5,.own 524288 3),(6,.int .i64 i.1)],names:=fun i=>[(1048576,.live (.cells 58 (bo fN i.2.1))),(524288,.live (.row 67 dI i.2.2))]})|_=>none)})
theorem Cc :
 ∀(a:List Int)(b c:Int),((a.length<=maxLen/\ ∀(d:Int),d∈a->0<=d/\d<=255)/\ak b)/\ak c/\True->aE (a,b)/\0<=c/\c<=1000->aE (a,b)/\ ∀(d:Int)(e:List Int)(f:Int),0<=d/\(d<IntKind.wrap .i64 (c+(1:Int))∨d=0)/\aE (e,f)->(∃(g:Int) (h:List Int×Int),∃(i:List bd),(0<=g/\aE h/\(i.length:Int)+g<=c/\ ∀(j:bd),j∈i->0<=j.2.2/\j.2.2<=1)/\d=g/\e=h.1/\f=h.2/\i=([]:List (Bool×Int×Int))/\True)/\ ∀(g:Int)(h:List Int×Int)(i:List bd),(0<=g/\aE h/\(i.length:Int)+g<=c/\ ∀(j:bd),j∈i->0<=j.2.2/\j.2.2<=1)->ah (decide (0<g)) (aE h/\ ∀(j:Int)(k:List Int)(l:Int),0<=j/\(j<4∨j=0)/\aE (k,l)->aE (k,l)/\ ∀(m:Int)(n:List Int)(o:Int),0<=m/\(m<4∨m=0)/\aE (n,o)->aE (n,o)/\ ∀(p:Int)(q:List Int)(r:Int),0<=p/\(p<8∨p=0)/\aE (q,r)->(6:Int)≠(0:Int)/\aE (q,r)/\ ∀(s:Int)(t:List Int)(u:Int),0<=s/\(s<40∨s=0)/\aE (t,u)->ah (decide (s=39)) (aE (t,u)/\ ∀(v:Int)(w:List Int)(x:Int),aE (w,x)/\ak
 v->(i.length+List.length [(decide (j=3),v,IntKind.wrap .i64 (Int.tdiv p (6:Int)))])*(24:Nat)<=(140737488355328:Nat)/\ ∃(y:Int) (z:List Int×Int),∃(A:List bd),(0<=y/\aE z/\(A.length:Int)+y<=c/\ ∀(B:bd),B∈A->0<=B.2.2/\B.2.2<=1)/\y.toNat<g.toNat/\IntKind.wrap .i64 (g -(1:Int))=y/\w=z.1/\x=z.2/\i++[(decide (j=3),v,IntKind.wrap .i64 (Int.tdiv p (6:Int)))]=A/\True) ((i.length+List.length [(decide (j=3),m,IntKind.wrap .i64 (Int.tdiv p (6:Int)))])*(24:Nat)<=(140737488355328:Nat)/\ ∃(v:Int) (w:List Int×Int),∃(x:List bd),(0<=v/\aE w/\(x.length:Int)+v<=c/\ ∀(y:bd),y∈x->0<=y.2.2/\y.2.2<=1)/\v.toNat<g.toNat/\IntKind.wrap .i64 (g -(1:Int))=v/\t=w.1/\u=w.2/\i++[(decide (j=3),m,IntKind.wrap .i64 (Int.tdiv p (6:Int)))]=x/\True)) (aE h/\(i.length:Int)<=c/\ ∀(j:Bool×Int×Int),j∈i->0<=j.2.2/\j.2.2<=1):=by
  rintro l p n-⟨hc,n0,n1⟩
  refine⟨hc,?_⟩
  rintro k l2 p2 ⟨k0,k1,hc2⟩
  rw[ad (by omega) (by omega)] at k1
  refine⟨⟨k,(l2,p2),[],⟨k0,hc2,by simp only[List.length_nil];omega,by simp⟩,(by repeat' first|exact trivial|refine⟨trivial,?_⟩|refine⟨(by with_reducible rfl),?_⟩|refine⟨ad (by omega) (by omega),?_⟩|refine⟨rfl,?_⟩)⟩,?_⟩
  rintro k c b ⟨k0,hc,hb,hf⟩
  refine ar (fun h=>⟨hc,?_⟩) (fun h=>⟨hc,by omega,hf⟩)
  have h:=of_decide_eq_true h
  rintro x l3 p3 ⟨-,-,hc3⟩
  refine⟨hc3,?_⟩
  rintro y l4 p4 ⟨-,-,hc4⟩
  refine⟨hc4,?_⟩
  rintro z l5 p5 ⟨z0,z1,hc5⟩
  refine⟨by decide,hc5,?_⟩
  rintro u l6 p6 ⟨-,-,hc6⟩
  have ez:Int.tdiv z 6=z/6:=Int.tdiv_eq_ediv_of_nonneg z0
  rw[ez,ad (n:=z/6) (by omega) (by omega)]
  have hf':∀ d:Int,∀ f∈b++[(decide (x=3),d,z/6)],0<=f.2.2/\f.2.2<=1:=fun d f hff=>by
   rcases List.mem_append.1 hff with q|q
   ·exact hf f q
   ·rw[List.mem_singleton.1 q];show 0<=z/6/\z/6<=1;omega
  refine ar (fun _=>⟨hc6,?_⟩) (fun _=>?_)
  ·rintro w l7 p7 ⟨hc7,-⟩
   exact⟨by simp only[List.length_singleton];omega,k-1,(l7,p7),_,⟨by omega,hc7,by rw[List.length_append,List.length_singleton];omega,hf' _⟩,by omega,(by repeat' first|exact trivial|refine⟨trivial,?_⟩|refine⟨(by with_reducible rfl),?_⟩|refine⟨ad (by omega) (by omega),?_⟩|refine⟨rfl,?_⟩)⟩
  ·exact⟨by simp only[List.length_singleton];omega,k-1,(l6,p6),_,⟨by omega,hc6,by rw[List.length_append,List.length_singleton];omega,hf' _⟩,by omega,(by repeat' first|exact trivial|refine⟨trivial,?_⟩|refine⟨(by with_reducible rfl),?_⟩|refine⟨ad (by omega) (by omega),?_⟩|refine⟨rfl,?_⟩)⟩
theorem AL:aC Try.prog GL 29 xn.spec:=Cn.okH _ Try.func29 (by kernel_rfl) (av (av aP mH) AA) ay zH (aO (by kernel_rfl) Cc)
def uE:Ct:=⟨[],[.val .bool],fun _=>[],fun _=>((true,()),())⟩
def BQ:az uE.ps->aI:=(fun _=>{})
theorem zw :
 True->True-> ∀(a:Int×Int×Int×List (List Int)×Int×List (List Int)×List (Int×List Int)×List (Int×Int×List Int)×List (Int×Int×List Int))(b:Int),a=fm (4:Int)/\b=dk (4:Int)->(1:Nat)<=List.length [(120:Int)]/\XR a/\ ∀(c:Int×Int×Int×List (List Int)×Int×List (List Int)×List (Int×List Int)×List (Int×Int×List Int)×List (Int×Int×List Int))(d:Int),c=eX a [(120:Int)]/\d=c8 a [(120:Int)]->XR c/\ ∀(e:Int×Int×Int×List (List Int)×Int×List (List Int)×List (Int×List Int)×List (Int×Int×List Int)×List (Int×Int×List Int))(f:Int),e=dF c (2:Int)/\f=ct c (2:Int)-> ∀(g:Bool),g=decide (b=0)->(g->(g->g)/\True)/\(g->g)/\ ∀(h:Bool),(h=bif g then decide (d=0) else false)->(h->(h->h)/\True)/\(h->h)/\ ∀(i:Bool),(i=bif h then decide (f=0) else false)->(i->(i->i)/\True)/\(i->(i->i)/\True)/\(i->(i->i)/\True)/\(i->i)/\ ∀(j:Bool),(j=bif i then decide ((e.2.2.2.2.2.1.length:Int)=1) else
 false)->(j->(j->j)/\True)/\(j->(j->j)/\True)/\(j->j)/\ ∀(k:Bool),(k=bif j then decide (e.1=2) else false)->(k->(k->k)/\True)/\(k->(k->k)/\(0:Int)<=0/\0<(e.2.2.2.2.2.1.length:Int)/\True)/\(k->(k->k)/\True)/\(k->(k->k)/\True)/\(k->(k->k)/\True)/\(k->k)/\(bif k then decide (strOfNums (List.getD e.2.2.2.2.2.1 (Int.toNat (0:Int)) default)={data:= #[(120:UInt8)]}) else false)=true:=by
  rintro - -
  rintro c e ⟨hc,he⟩
  have hc:c=fU 4:=hc
  have he:e=0:=he
  subst hc he
  have x1:XR (fU 4):=XR.new (by omega) (by omega)
  refine⟨by decide,x1,?_⟩
  rintro c2 e2 ⟨hc2,he2⟩
  have hp:c8 (fU 4) [120]=0:=by decide
  have hc2:c2=jc (fU 4) [120]:=by rw[hc2];exact if_pos hp
  rw[hp] at he2
  subst hc2 he2
  have x2:XR (jc (fU 4) [120]):=x1.push (by decide) (by decide)
  refine⟨x2,?_⟩
  rintro c3 e3 ⟨hc3,he3⟩
  have hr:ct (jc (fU 4) [120]) 2=0:=by decide
  have hc3:c3=a8 2 (jc (fU 4) [120]):=by rw[hc3];exact if_pos hr
  rw[hr] at he3
  subst he3
  have hv:c3.2.2.2.2.2.1=[[120]]/\c3.1=2:=by
   rw[hc3]
   exact⟨by kernel_rfl,by kernel_rfl⟩
  obtain⟨v1,v2⟩:=hv
  rw[v1,v2]
  (repeat (intro (b_:Bool) (hb_:b_=_);(repeat refine⟨(by first|(simp;done)|(rw[hb_];simp;done)|(rw[hb_];simp;omega)|(rw[hb_];simp;intros;omega)|(rw[hb_];simp +contextual;done)),?_⟩);subst hb_))
  kernel_rfl
theorem Cd:aC Try.prog GL 8 uE.spec:=Ct.okH _ Try.func8 (by kernel_rfl) (av (av (av aP (Ct.named uA)) (Ct.named uk)) (Ct.named su)) ay BQ (aO (by kernel_rfl) zw)
end Go.RS

/- Weq: bytes that are equal. -/
namespace Go.RS
open Go.SX Go.Proofs
set_option maxRecDepth 100000
set_option linter.unusedVariables false
theorem Dx{x y:List Int}(hx:∀ n∈x,0<=n/\n<=255)(hy:∀ n∈y,0<=n/\n<=255)(h:strOfNums x=strOfNums y):x=y:=by
 have h':(x.map fun n=>UInt8.ofNat n.toNat)=y.map fun n=>UInt8.ofNat n.toNat:=by
  have:=congrArg (fun s:ByteArray=>s.data.toList) h
  simpa[strOfNums_data] using this
 clear h
 revert h' hx hy
 induction x generalizing y with
 | nil=>intro hx hy h;cases y with
  | nil=>rfl
  | cons b y=>cases h
 | cons a x ih =>
  intro hx hy h
  cases y with
  | nil=>cases h
  | cons b y =>
   simp only[List.map_cons,List.cons.injEq] at h
   have ha:=hx a List.mem_cons_self
   have hb:=hy b List.mem_cons_self
   have e:=congrArg UInt8.toNat h.1
   simp only[UInt8.toNat_ofNat'] at e
   rw[ih (y:=y) (fun n hn=>hx n (List.mem_cons_of_mem _ hn)) (fun n hn=>hy n (List.mem_cons_of_mem _ hn)) h.2]
   congr 1;omega
def wd:Ct:=⟨[.val (.sl aT),.val (.sl aT)],[.val .bool],fun d=>[],fun d=>((decide (d.1=d.2.1),()),())⟩
def yE:az wd.ps->aI:=(fun _=>{})
theorem B8 :
 ∀(a b:List Int),(a.length<=maxLen/\ ∀(c:Int),c∈a->0<=c/\c<=255)/\(b.length<=maxLen/\ ∀(c:Int),c∈b->0<=c/\c<=255)/\True->True->decide (strOfNums a=strOfNums b)=decide (a=b):=by
  rintro x y ⟨⟨-,hx⟩,⟨-,hy⟩,-⟩ -
  by_cases h:x=y
  ·rw[h,decide_eq_true rfl,decide_eq_true rfl]
  ·rw[decide_eq_false h,decide_eq_false fun k=>h (Dx hx hy k)]
theorem C2:aC Try.prog GL 85 wd.spec:=Ct.okH _ Try.func85 (by kernel_rfl) aP ay yE (aO (by kernel_rfl) B8)
def sV:Ct:=⟨[.val (.sl aT),.val (.sl aT)],[.val .bool],fun d=>[],fun d=>((decide (d.1=d.2.1),()),())⟩
def Cz:az sV.ps->aI:=(fun _=>{})
theorem Dg :
 ∀(a b:List Int),(a.length<=maxLen/\ ∀(c:Int),c∈a->0<=c/\c<=255)/\(b.length<=maxLen/\ ∀(c:Int),c∈b->0<=c/\c<=255)/\True->True->decide (a=b)=decide (a=b):=by
  intro x y _ _;rfl
theorem qA:aC Try.prog GL 63 sV.spec:=Ct.okH _ Try.func63 (by kernel_rfl) (av aP C2) ay Cz (aO (by kernel_rfl) Dg)
end Go.RS
