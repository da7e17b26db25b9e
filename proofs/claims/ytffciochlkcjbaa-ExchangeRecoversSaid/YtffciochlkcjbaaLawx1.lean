/- Xref: the document's exchange. -/
import Derived.Test.YtffciochlkcjbaaXw4
namespace Go.RS
open Go.SX Go.Proofs
set_option maxRecDepth 100000
set_option linter.unusedVariables false
def uI:Ct:=⟨[.val cI],[.agg bG,.val cI],fun _=>[],fun d=>((fg d.1,dj d.1,()),())⟩
def yQ:aG uI.ps->aN:=(fun _=>{})
def io :=
 ([]:List (Int×Int×List Int))
def mK :=
 ((0:Int),(0:Int),(0:Int),([]:List (List Int)),(0:Int),([]:List (List Int)),([]:List (Int×List Int)),(io),(io))
theorem wg :
 ∀(a:Int),aq a/\True->True-> ∀(b:Bool),b=decide (a<1)->((! b)->((! b)->(! b))/\True)/\(b=false->(! b))/\aw (bif b then true else decide (64<a)) ((mK)=fg a/\(1:Int)=dj a) (((0:Int),(0:Int),a,([]:List (List Int)),(0:Int),([]:List (List Int)),([]:List (Int×List Int)),(io),(io))=fg a/\(0:Int)=dj a):=by
  delta mK io
  rintro w - -
  (repeat (intro (b_:Bool) (hb_:b_=_);(repeat refine⟨(by first|(simp;done)|(rw[hb_];simp;done)|(rw[hb_];simp;omega)|(rw[hb_];simp;intros;omega)|(rw[hb_];simp +contextual;done)),?_⟩);subst hb_))
  refine kq (fun h=>?_) (fun h1 h2=>?_)
  ·have e:dj w=1:=by unfold dj;rw[if_pos (by rcases h with q|q;exact .inl (of_decide_eq_true q);exact .inr (of_decide_eq_true q))]
   unfold fg
   rw[e]
   exact⟨rfl,rfl⟩
  ·have h1:=of_decide_eq_false h1
   have h2:=of_decide_eq_false h2
   have e:dj w=0:=by unfold dj;rw[if_neg (by omega)]
   unfold fg
   rw[e]
   exact⟨rfl,rfl⟩
theorem wY:aL Try.prog GL 25 uI.spec:=Ct.okH _ Try.func25 (by kernel_rfl) aW aH yQ (aX (by kernel_rfl) wg)
def vm:Ct:=⟨[.agg ep],[.val .bool],fun _=>[],fun d=>((cR d.1,()),())⟩
def wk:aG vm.ps->aN:=(fun _=>{})
theorem yC :
 ∀(a:Bool)(b c:Int),(True/\aq b/\aq c)/\True->True-> ∀(d:Bool),d=decide (0<=b)->(d->(d->d)/\True)/\(d->(d->d)/\True)/\(d->d)/\ ∀(e:Bool),(e=bif d then decide (b<=1000) else false)->(e->(e->e)/\True)/\(e->(e->e)/\True)/\(e->e)/\ ∀(f:Bool),(f=bif e then decide (0<=c) else false)->(f->(f->f)/\True)/\(f->(f->f)/\True)/\(f->f)/\(bif f then decide (c<=8) else false)=cR (a,b,c):=by
  rintro a b c - -
  (repeat (intro (b_:Bool) (hb_:b_=_);(repeat refine⟨(by first|(simp;done)|(rw[hb_];simp;done)|(rw[hb_];simp;omega)|(rw[hb_];simp;intros;omega)|(rw[hb_];simp +contextual;done)),?_⟩);subst hb_))
  unfold cR
  rw[lv,lv,lv]
  exact decide_eq_decide.2 ⟨fun h=>⟨h.1.1.1,h.1.1.2,h.1.2,h.2⟩,fun h=>⟨⟨⟨h.1,h.2.1⟩,h.2.2.1⟩,h.2.2.2⟩⟩
theorem v9:aL Try.prog GL 44 vm.spec:=Ct.okH _ Try.func44 (by kernel_rfl) aW aH wk (aX (by kernel_rfl) yC)
def rg:Ct:=⟨[.val (.sl ep),.val cI],[.agg ep],fun d=>[0<=d.2.1],fun d=>((bd d.1 d.2.1.toNat,()),())⟩
def x8:aG rg.ps->aN:=(fun _=>{})
theorem yS :
 ∀(a:List (Bool×Int×Int))(b:Int),(a.length<=maxLen/\ ∀(c:Bool×Int×Int),c∈a->True/\aq c.2.1/\aq c.2.2)/\aq b/\True->0<=b->aw (decide (b<(a.length:Int))) (0<=b/\b<(a.length:Int)/\a.getD b.toNat default=bd a b.toNat) ((false,(0:Int),(0:Int))=bd a b.toNat):=by
  rintro l i-h0
  refine aJ (fun h=>?_) (fun h=>?_)
  ·have h:=of_decide_eq_true h
   refine⟨h0,h,?_⟩
   unfold bd
   rw[List.getD_eq_getElem?_getD,List.getD_eq_getElem?_getD,List.getElem?_eq_getElem (by omega)]
   rfl
  ·have h:=of_decide_eq_false h
   unfold bd
   rw[List.getD_eq_getElem?_getD,List.getElem?_eq_none (by omega)]
   rfl
theorem Ay:aL Try.prog GL 48 rg.spec:=Ct.okH _ Try.func48 (by kernel_rfl) aW aH x8 (aX (by kernel_rfl) yS)
theorem pV{b:List Int}{n:Int}(h:0<=n/\n<=65535):dF b n 2=b++b8 n 2 2:=by
 have e:(256:Int)^Int.toNat 2=65536:=by decide
 unfold dF
 rw[if_neg]
 ·rfl
 ·unfold gL;rw[e];omega
def vt:Ct:=⟨[.agg bG,.val cI],[.own 5 aV],fun d=>[0<=d.2.1,d.2.1<=65535,d.2.1<d.1.2.2.2.1.length,(d.1.2.2.2.1.getD d.2.1.toNat default).length<=1048576],fun d=>((bO d.2.1 (d.1.2.2.2.1.getD d.2.1.toNat default),()),())⟩
def zR:aG vt.ps->aN:=(fun _=>{})
def fJ :=
 (140737488355328:Nat)
theorem zW :
 ∀(a:Int×Int×Int×List (List Int)×Int×List (List Int)×List (Int×List Int)×List (Int×Int×List Int)×List (Int×Int×List Int))(b:Int),CT.wf bG a/\aq b/\True->0<=b/\b<=65535/\b<(a.2.2.2.1.length:Int)/\List.length (List.getD a.2.2.2.1 b.toNat default)<=(1048576:Nat)->(1:Nat)<=List.length [(68:Int)]/\((List.length [(68:Int)]):Int)<=1099511627776/\0<=b/\b<(a.2.2.2.1.length:Int)/\(List.length (dF [(68:Int)] b (2:Int))+List.length (List.getD a.2.2.2.1 b.toNat default))*(1:Nat)<=(fJ)/\dF [(68:Int)] b (2:Int)++List.getD a.2.2.2.1 b.toNat default=bO b (List.getD a.2.2.2.1 b.toNat default):=by
  delta fJ
  rintro c i-⟨h0,h1,h2,h3⟩
  rw[pV ⟨h0,h1⟩]
  refine⟨by simp,by simp,h0,h2,?_,?_⟩
  ·rw[List.length_append,jf];simp only[List.length_singleton];omega
  ·unfold bO;rw[List.append_assoc];rfl
theorem BS:aL Try.prog GL 50 vt.spec:=Ct.okH _ Try.func50 (by kernel_rfl) (aI aW sD) aH zR (aX (by kernel_rfl) zW)
def sF:Ct:=⟨[.agg bG,.val (.sl aV)],[.agg bG,.val cI],fun d=>[],fun d=>((fu d.1 d.2.1,c8 d.1 d.2.1,()),())⟩
def ye:aG sF.ps->aN:=(fun _=>{})
theorem vY :
 ∀(a:Int×Int×Int×List (List Int)×Int×List (List Int)×List (Int×List Int)×List (Int×Int×List Int)×List (Int×Int×List Int))(b:List Int),CT.wf bG a/\(b.length<=maxLen/\ ∀(c:Int),c∈b->0<=c/\c<=255)/\True->True-> ∀(c:Bool),c=decide (1024<=(a.2.2.2.1.length:Int))->((! c)->((! c)->(! c))/\True)/\((! c)->((! c)->(! c))/\True)/\(c=false->(! c))/\aw (bif c then true else decide (6000<(b.length:Int))) ((mK)=fu a b/\(5:Int)=c8 a b) (a.2.2.2.1.length*(24:Nat)<=(fJ)/\b.length*(1:Nat)<=(fJ)/\(a.2.2.2.1.length+List.length [b])*(24:Nat)<=(fJ)/\(a.1,a.2.1,a.2.2.1,a.2.2.2.1++[b],a.2.2.2.2)=fu a b/\(0:Int)=c8 a b):=by
  delta mK fJ io
  rintro c b ⟨⟨-,-,-,⟨hl,-⟩,-⟩,⟨hb,-⟩,-⟩ -
  (repeat (intro (b_:Bool) (hb_:b_=_);(repeat refine⟨(by first|(simp;done)|(rw[hb_];simp;done)|(rw[hb_];simp;omega)|(rw[hb_];simp;intros;omega)|(rw[hb_];simp +contextual;done)),?_⟩);subst hb_))
  refine kq (fun h=>?_) (fun h1 h2=>?_)
  ·have e:c8 c b=5:=by
    unfold c8
    refine if_pos ?_
    rcases h with q|q
    ·have:=of_decide_eq_true q
     exact .inl (by show 1024<=c.2.2.2.1.length;omega)
    ·exact .inr (of_decide_eq_true q)
   unfold fu
   rw[e]
   exact⟨rfl,rfl⟩
  ·have h1:=of_decide_eq_false h1
   have h2:=of_decide_eq_false h2
   have e:c8 c b=0:=by
    unfold c8
    refine if_neg ?_
    rintro (q|q)
    ·have q:1024<=c.2.2.2.1.length:=q
     omega
    ·omega
   unfold fu
   rw[e]
   refine⟨by omega,by omega,by simp only[List.length_singleton];omega,?_,rfl⟩
   rfl
theorem Aj:aL Try.prog GL 27 sF.spec:=Ct.okH _ Try.func27 (by kernel_rfl) aW aH ye (aX (by kernel_rfl) vY)
def tT:Ct:=⟨[.val (.sl (.sl aV)),.val (.sl (.sl aV))],[.val .bool],fun _=>[],fun d=>((decide (d.1=d.2.1),()),())⟩
def Bz:aG tT.ps->aN:=(fun d=>{loops:=(fun n=>match n with|4=>some (fun S=>{ι:=Int,μ:=fun i=>(d.1.length-i).toNat,inv:=fun i=>0<=i/\i<=d.1.length/\d.1.length=d.2.1.length/\d.1.take i.toNat=d.2.1.take i.toNat,keep:=[0,1],slots:=fun i=>[(5,.int .i64 i)],names:=fun i=>[]})|_=>none)})
def jG(c:List Int) :=
 c.length<=maxLen/\ ∀(d:Int),d∈c->0<=d/\d<=255
theorem xb :
 ∀(a b:List (List Int)),(a.length<=maxLen/\ ∀(c:List Int),c∈a->(jG c))/\(b.length<=maxLen/\ ∀(c:List Int),c∈b->(jG c))/\True->True->aw (! decide ((a.length:Int)=(b.length:Int))) (false=decide (a=b)) ((∃(c:Int),(0<=c/\c<=(a.length:Int)/\a.length=b.length/\List.take c.toNat a=List.take c.toNat b)/\a=a/\b=b/\(0:Int)=c/\True)/\ ∀(c:Int),0<=c/\c<=(a.length:Int)/\a.length=b.length/\List.take c.toNat a=List.take c.toNat b->aw (decide (c<(a.length:Int))) (0<=c/\c<(a.length:Int)/\0<=c/\c<(b.length:Int)/\aw (! decide (a.getD c.toNat default=b.getD c.toNat default)) (false=decide (a=b)) (∃(d:Int),(0<=d/\d<=(a.length:Int)/\a.length=b.length/\List.take d.toNat a=List.take d.toNat b)/\Int.toNat ((a.length:Int) -d)<Int.toNat ((a.length:Int) -c)/\a=a/\b=b/\IntKind.wrap .i64 (c+(1:Int))=d/\True)) (true=decide (a=b))):=by
  delta jG
  rintro x y ⟨⟨hl,-⟩,-⟩ -
  simp only[maxLen] at hl
  refine aJ (fun h=>?_) (fun h=>?_)
  ·have h:=pn h
   exact (decide_eq_false (fun e=>h (by rw[e]))).symm
  have h:=nW h
  refine⟨⟨0,⟨by omega,by omega,by omega,rfl⟩,(by repeat' first|exact trivial|refine⟨trivial,?_⟩|refine⟨(by with_reducible rfl),?_⟩|refine⟨ag (by omega) (by omega),?_⟩|refine⟨rfl,?_⟩)⟩,?_⟩
  rintro j ⟨j0,j1,j2,j3⟩
  refine aJ (fun hj=>?_) (fun hj=>?_)
  ·have hj:=of_decide_eq_true hj
   refine⟨j0,hj,j0,by omega,aJ (fun k=>?_) (fun k=>?_)⟩
   ·have k:=pn k
    exact (decide_eq_false (fun e=>k (by rw[e]))).symm
   ·have k:=nW k
    rw[ag (by omega) (by omega)]
    exact⟨j+1,⟨by omega,by omega,j2,by rw[c5 j0 hj,c5 j0 (by omega),j3,k]⟩,by omega,(by repeat' first|exact trivial|refine⟨trivial,?_⟩|refine⟨(by with_reducible rfl),?_⟩|refine⟨ag (by omega) (by omega),?_⟩|refine⟨rfl,?_⟩)⟩
  ·have hj:=of_decide_eq_false hj
   rw[List.take_of_length_le (by omega),List.take_of_length_le (by omega)] at j3
   exact (decide_eq_true j3).symm
theorem zh:aL Try.prog GL 34 tT.spec:=Ct.okH _ Try.func34 (by kernel_rfl) (aI aW Aa) aH Bz (aX (by kernel_rfl) xb)
def tk:Ct:=⟨[.val (.sl (.sl aV)),.val (.sl (.sl aV))],[.val .bool],fun _=>[],fun d=>((decide (d.1.length<=d.2.1.length/\d.1=d.2.1.take d.1.length),()),())⟩
def yO:aG tk.ps->aN:=(fun _=>{})
theorem Az :
 ∀(a b:List (List Int)),(a.length<=maxLen/\ ∀(c:List Int),c∈a->(jG c))/\(b.length<=maxLen/\ ∀(c:List Int),c∈b->(jG c))/\True->True-> ∀(c:Bool),c=decide ((a.length:Int)<=(b.length:Int))->(c->(c->c)/\True)/\(c->(c->c)/\(c->c)/\(0:Int)<=0/\0<=(a.length:Int)/\(a.length:Int)<=(b.length:Int)/\True)/\(c->(c->c)/\(c->c)/\True)/\(c->c)/\(bif c then decide (a=a7 b (Int.toNat (0:Int)) (Int.toNat (a.length:Int))) else false)=decide (a.length<=b.length/\a=List.take a.length b):=by
  delta jG
  rintro x y - -
  intro b hb
  (repeat refine⟨fun h_=>(by first|(intros;omega)|(rw[hb];simp;omega)|(simp;done)|(simp[h_];done)|(simp_all;done)),?_⟩)
  rw[hb]
  by_cases h:x.length<=y.length
  ·rw[decide_eq_true (show (x.length:Int)<=y.length by omega)]
   show decide (x=a7 y (Int.toNat 0) (Int.toNat x.length))=_
   have e:a7 y (Int.toNat 0) (Int.toNat x.length)=y.take x.length:=by unfold a7;simp
   rw[e]
   exact decide_eq_decide.2 ⟨fun q=>⟨h,q⟩,fun q=>q.2⟩
  ·rw[decide_eq_false (show ¬ (x.length:Int)<=y.length by omega)]
   exact (decide_eq_false (fun q=>h q.1)).symm
theorem wy:aL Try.prog GL 15 tk.spec:=Ct.okH _ Try.func15 (by kernel_rfl) (aI aW zh) aH yO (aX (by kernel_rfl) Az)
def pO(c:ak)(o:Int):ak:=(c.1,o,c.2.2)
theorem oX{α:Type}{p:α->Bool}:∀{l:List α},(∃ y∈l,p y=false)→∀ m,(l++m).takeWhile p=l.takeWhile p/\(l++m).dropWhile p=l.dropWhile p++m
 | [],h,m=>by obtain⟨y,hy,-⟩:=h;cases hy
 | a::l,h,m=>by
  cases ha:p a with
  | false =>
   rw[List.cons_append,List.takeWhile_cons_of_neg (by simp[ha]),List.takeWhile_cons_of_neg (by simp[ha]),List.dropWhile_cons_of_neg (by simp[ha]),List.dropWhile_cons_of_neg (by simp[ha])]
   exact⟨rfl,rfl⟩
  | true =>
   obtain⟨y,hy,q⟩:=h
   have hy:y∈l:=by
    rcases List.mem_cons.1 hy with rfl|hy
    ·rw[ha] at q;cases q
    ·exact hy
   obtain⟨a1,a2⟩:=oX ⟨y,hy,q⟩ m
   rw[List.cons_append,List.takeWhile_cons_of_pos (by simp[ha]),List.takeWhile_cons_of_pos (by simp[ha]),List.dropWhile_cons_of_pos (by simp[ha]),List.dropWhile_cons_of_pos (by simp[ha]),a1,a2]
   exact⟨rfl,rfl⟩
theorem BF{l:List af}{t x:af}(h:∃ y∈l,t.1<y.1):bX (l++[x]) t=bX l t++[x]:=by
 obtain⟨y,hy,q⟩:=h
 obtain⟨a,b⟩:=oX (p:=fun x:af=>decide (x.1<=t.1)) ⟨y,hy,decide_eq_false (by omega)⟩ [x]
 unfold bX
 rw[a,b]
 simp
theorem wu{l:List af}{t x:af}(h:∀ y∈l,y.1<=t.1)(hx:t.1<x.1):bX (l++[x]) t=l++[t]++[x]:=by
 obtain⟨a,b⟩:=ls h [x]
 have n1:¬ x.1<=t.1:=by omega
 have a2:ai t.1 [x]=[]:=List.takeWhile_cons_of_neg (by simpa using n1)
 have b2:aP t.1 [x]=[x]:=List.dropWhile_cons_of_neg (by simpa using n1)
 unfold bX
 show ai t.1 (l++[x])++t::aP t.1 (l++[x])=_
 rw[a,b,a2,b2]
 simp
def rk:Ct:=⟨[.agg bG,.val (.sl bf),.val (.sl aV),.agg ep],[.agg bG,.val (.sl bf)],fun d=>[(d.2.1.length:Int)<=1000000,0<=d.1.1,d.1.1<=1125899906842624,0<=d.1.2.1,d.1.2.1<=1125899906842624,fv d.2.2.2.1],fun d=>((pO d.1 (a8 d.1.1 d.2.2.1 d.2.2.2.1 (d.1.2.1,d.2.1)).1,(a8 d.1.1 d.2.2.1 d.2.2.2.1 (d.1.2.1,d.2.1)).2,()),())⟩
def wK:aG rk.ps->aN:=(fun d=>{loops:=(fun n=>match n with|2=>some (fun S=>{ι:=Int×Int×(List af),qn:=⟨fun k_=>∀(k:Int)(o:Int)(l:(List af)),k_ (k,o,l),fun k_ h_ i=>h_ i.1 i.2.1 i.2.2,fun k_=>∃ (k:Int) (o:Int) (l:(List af)),k_ (k,o,l),fun k_ ⟨k,o,l,h_⟩=>⟨_,h_⟩⟩,μ:=fun i=>(d.2.2.2.1.2.2+1-i.1).toNat,inv:=fun i=>0<=i.1/\i.1<=d.2.2.2.1.2.2+1/\(d.2.2.2.1.1=true->i.1=0/\i.2.2=d.2.1)/\(i.2.2.length:Int)<=1000000+i.1/\i.2.1=d.1.2.1+i.1/\bv d.1.1 d.2.2.2.1.2.1 d.2.2.1 (d.2.2.2.1.2.2+1-i.1).toNat i.1 (i.2.1,i.2.2)=bv d.1.1 d.2.2.2.1.2.1 d.2.2.1 (d.2.2.2.1.2.2+1).toNat 0 (d.1.2.1,d.2.1),keep:=[2,4,7,8,9],slots:=fun i=>[(1,.dsl bf i.2.2),(10,.int .i64 i.1)],keepN:=[128,144],names:=fun i=>[(80,.live (.cells 28 (br bG (pO d.1 i.2.1))))]})|9=>some (fun S=>{ι:=Int×(List af)×Bool,qn:=⟨fun k_=>∀(i:Int)(out:(List af))(dn:Bool),k_ (i,out,dn),fun k_ h_ i=>h_ i.1 i.2.1 i.2.2,fun k_=>∃ (i:Int) (out:(List af)) (dn:Bool),k_ (i,out,dn),fun k_ ⟨i,out,dn,h_⟩=>⟨_,h_⟩⟩,μ:=fun i=>((S.l bf 1).length-i.1).toNat,inv:=fun i=>0<=i.1/\i.1<=(S.l bf 1).length/\(i.2.2=false->i.2.1=(S.l bf 1).take i.1.toNat∧∀ x∈(S.l bf 1).take i.1.toNat,x.1<=(S.c bf 192).1)/\(i.2.2=true->i.2.1=bX ((S.l bf 1).take i.1.toNat) (S.c bf 192)∧∃ x∈(S.l bf 1).take i.1.toNat,(S.c bf 192).1<x.1),keep:=[1,2,4,7,8,9,10,11],slots:=fun i=>[(12,.own 524288 3),(13,.bool i.2.2),(14,.int .i64 i.1)],keepN:=[80,128,144,192],names:=fun i=>[(524288,.live (.row 53 bf i.2.1))]})|_=>none)})
def cN(a:Int×Int×Int×List (List Int)×Int×List (List Int)×List (Int×List Int)×List (Int×Int×List Int)×List (Int×Int×List Int))(e g:Int) :=
 IntKind.wrap .i64 (IntKind.wrap .i64 (a.1+(1:Int))+e)+g
def lR(a:Int×Int×Int×List (List Int)×Int×List (List Int)×List (Int×List Int)×List (Int×Int×List Int)×List (Int×Int×List Int)) :=
 a.2.2.1=a.2.2.1/\a.2.2.2.1=a.2.2.2.1/\a.2.2.2.2.1=a.2.2.2.2.1/\a.2.2.2.2.2.1=a.2.2.2.2.2.1/\a.2.2.2.2.2.2.1=a.2.2.2.2.2.2.1/\a.2.2.2.2.2.2.2.1=a.2.2.2.2.2.2.2.1/\a.2.2.2.2.2.2.2.2=a.2.2.2.2.2.2.2.2/\True
def om(a:Int×Int×Int×List (List Int)×Int×List (List Int)×List (Int×List Int)×List (Int×Int×List Int)×List (Int×Int×List Int))(c:List Int)(e g h:Int)(i:List af)(p:Int)(q:List af)(r:Bool) :=
 0<=p/\p<=(i.length:Int)/\(r=false->q=List.take p.toNat i/\ ∀(s:Int×Int×List Int),s∈List.take p.toNat i->s.1<=IntKind.wrap .i64 (cN a e g))/\(r=true->q=bX (List.take p.toNat i) (IntKind.wrap .i64 (cN a e g),h,c)/\ ∃(s:Int×Int×List Int),s∈List.take p.toNat i/\IntKind.wrap .i64 (cN a e g)<s.1)
theorem v5 :
 ∀(a:Int×Int×Int×List (List Int)×Int×List (List Int)×List (Int×List Int)×List (Int×Int×List Int)×List (Int×Int×List Int))(b:List (Int×Int×List Int))(c:List Int)(d:Bool)(e f:Int),CT.wf bG a/\(b.length<=maxLen/\ ∀(g:Int×Int×List Int),g∈b->aq g.1/\aq g.2.1/\g.2.2.length<=maxLen/\ ∀(h:Int),h∈g.2.2->0<=h/\h<=255)/\(c.length<=maxLen/\ ∀(g:Int),g∈c->0<=g/\g<=255)/\(True/\aq e/\aq f)/\True->(b.length:Int)<=1000000/\0<=a.1/\a.1<=1125899906842624/\0<=a.2.1/\a.2.1<=1125899906842624/\(0<=e/\e<=1000)/\0<=f/\f<=8->(∃(g:Int) (h:Int),∃(i:List af),(0<=g/\g<=f+(1:Int)/\(d=true->g=0/\i=b)/\(i.length:Int)<=1000000+g/\h=a.2.1+g/\bv a.1 e c (Int.toNat (f+(1:Int) -g)) g (h,i)=bv a.1 e c (Int.toNat (f+(1:Int))) (0:Int) (a.2.1,b))/\b=i/\c=c/\(0:Int)=g/\d=d/\e=e/\f=f/\(0:Int)=0/\(0:Int)=0/\(0:Int)=0/\(0:Int)=0/\a.1=a.1/\a.2.1=h/\(lR a))/\ ∀(g h:Int) (i:List
 af),0<=g/\g<=f+(1:Int)/\(d=true->g=0/\i=b)/\(i.length:Int)<=1000000+g/\h=a.2.1+g/\bv a.1 e c (Int.toNat (f+(1:Int) -g)) g (h,i)=bv a.1 e c (Int.toNat (f+(1:Int))) (0:Int) (a.2.1,b)-> ∀(j:Bool),j=decide (g<=f)->(j->(j->j)/\True)/\(j->(j->j)/\True)/\(j->j)/\ ∀(k:Bool),(k=bif j then ! d else false)->(k->(k->k)/\True)/\(k->(k->k)/\True)/\(k->k)/\aw (bif k then decide ((i.length:Int)<4096) else false) ((∃(l:Int) (m:List af),∃(n:Bool),(0<=l/\l<=(i.length:Int)/\(n=false->m=List.take l.toNat i/\ ∀(o:Int×Int×List Int),o∈List.take l.toNat i->o.1<=IntKind.wrap .i64 (cN a e g))/\(n=true->m=bX (List.take l.toNat i) (IntKind.wrap .i64 (cN a e g),h,c)/\ ∃(o:Int×Int×List Int),o∈List.take l.toNat i/\IntKind.wrap .i64 (cN a e g)<o.1))/\i=i/\c=c/\g=g/\false=n/\(0:Int)=l/\a.1=a.1/\IntKind.wrap .i64 (h+(1:Int))=IntKind.wrap .i64
 (h+(1:Int))/\a.2.2.1=a.2.2.1/\a.2.2.2.1=a.2.2.2.1/\a.2.2.2.2.1=a.2.2.2.2.1/\a.2.2.2.2.2.1=a.2.2.2.2.2.1/\a.2.2.2.2.2.2.1=a.2.2.2.2.2.2.1/\a.2.2.2.2.2.2.2.1=a.2.2.2.2.2.2.2.1/\a.2.2.2.2.2.2.2.2=a.2.2.2.2.2.2.2.2/\d=d/\e=e/\f=f/\(0:Int)=0/\(0:Int)=0/\(0:Int)=0/\(0:Int)=0/\IntKind.wrap .i64 (cN a e g)=IntKind.wrap .i64 (cN a e g)/\h=h/\c=c/\m=(io)/\True)/\ ∀(l:Int)(m:List af)(n:Bool),0<=l/\l<=(i.length:Int)/\(n=false->m=List.take l.toNat i/\ ∀(o:Int×Int×List Int),o∈List.take l.toNat i->o.1<=IntKind.wrap .i64 (cN a e g))/\(n=true->m=bX (List.take l.toNat i) (IntKind.wrap .i64 (cN a e g),h,c)/\ ∃(o:Int×Int×List Int),o∈List.take l.toNat i/\IntKind.wrap .i64 (cN a e g)<o.1)->aw (decide (l<(i.length:Int))) (∀(o:Bool),o= ! n->(o->(o->o)/\(o->o)/\0<=l/\l<(i.length:Int)/\True)/\(o->(o->o)/\True)/\(o->(o->o)/\True)/\(o->(o->o)/\True)/\(o->(o->o)/\(o->o)/\True)/\(o->o)/\aw (bif
 o then decide (IntKind.wrap .i64 (cN a e g)<(i.getD l.toNat default).1) else false) ((m.length+List.length [(IntKind.wrap .i64 (cN a e g),h,c)])*(40:Nat)<=(fJ)/\0<=l/\l<(i.length:Int)/\(List.length (m++[(IntKind.wrap .i64 (cN a e g),h,c)])+List.length [i.getD l.toNat default])*(40:Nat)<=(fJ)/\ ∃(p:Int) (q:List af),∃(r:Bool),(om a c e g h i p q r)/\Int.toNat ((i.length:Int) -p)<Int.toNat ((i.length:Int) -l)/\i=i/\c=c/\g=g/\true=r/\IntKind.wrap .i64 (l+(1:Int))=p/\a.1=a.1/\IntKind.wrap .i64 (h+(1:Int))=IntKind.wrap .i64 (h+(1:Int))/\a.2.2.1=a.2.2.1/\a.2.2.2.1=a.2.2.2.1/\a.2.2.2.2.1=a.2.2.2.2.1/\a.2.2.2.2.2.1=a.2.2.2.2.2.1/\a.2.2.2.2.2.2.1=a.2.2.2.2.2.2.1/\a.2.2.2.2.2.2.2.1=a.2.2.2.2.2.2.2.1/\a.2.2.2.2.2.2.2.2=a.2.2.2.2.2.2.2.2/\d=d/\e=e/\f=f/\(0:Int)=0/\(0:Int)=0/\(0:Int)=0/\(0:Int)=0/\IntKind.wrap .i64 (cN a e g)=IntKind.wrap .i64 (cN a e
 g)/\h=h/\c=c/\m++[(IntKind.wrap .i64 (cN a e g),h,c)]++[i.getD l.toNat default]=q/\True) (0<=l/\l<(i.length:Int)/\(m.length+List.length [i.getD l.toNat default])*(40:Nat)<=(fJ)/\ ∃(p:Int) (q:List af),∃(r:Bool),(om a c e g h i p q r)/\Int.toNat ((i.length:Int) -p)<Int.toNat ((i.length:Int) -l)/\i=i/\c=c/\g=g/\n=r/\IntKind.wrap .i64 (l+(1:Int))=p/\a.1=a.1/\IntKind.wrap .i64 (h+(1:Int))=IntKind.wrap .i64 (h+(1:Int))/\a.2.2.1=a.2.2.1/\a.2.2.2.1=a.2.2.2.1/\a.2.2.2.2.1=a.2.2.2.2.1/\a.2.2.2.2.2.1=a.2.2.2.2.2.1/\a.2.2.2.2.2.2.1=a.2.2.2.2.2.2.1/\a.2.2.2.2.2.2.2.1=a.2.2.2.2.2.2.2.1/\a.2.2.2.2.2.2.2.2=a.2.2.2.2.2.2.2.2/\d=d/\e=e/\f=f/\(0:Int)=0/\(0:Int)=0/\(0:Int)=0/\(0:Int)=0/\IntKind.wrap .i64 (cN a e g)=IntKind.wrap .i64 (cN a e g)/\h=h/\c=c/\m++[i.getD l.toNat default]=q/\True)) (aw (! n) ((m.length+List.length [(IntKind.wrap .i64 (cN a e g),h,c)])*(40:Nat)<=(fJ)/\ ∃(o:Int)
 (p:Int),∃(q:List af),(0<=o/\o<=f+(1:Int)/\(d=true->o=0/\q=b)/\(q.length:Int)<=1000000+o/\p=a.2.1+o/\bv a.1 e c (Int.toNat (f+(1:Int) -o)) o (p,q)=bv a.1 e c (Int.toNat (f+(1:Int))) (0:Int) (a.2.1,b))/\Int.toNat (f+(1:Int) -o)<Int.toNat (f+(1:Int) -g)/\m++[(IntKind.wrap .i64 (cN a e g),h,c)]=q/\c=c/\IntKind.wrap .i64 (g+(1:Int))=o/\d=d/\e=e/\f=f/\(0:Int)=0/\(0:Int)=0/\(0:Int)=0/\(0:Int)=0/\a.1=a.1/\IntKind.wrap .i64 (h+(1:Int))=p/\(lR a)) (∃(o:Int) (p:Int),∃(q:List af),(0<=o/\o<=f+(1:Int)/\(d=true->o=0/\q=b)/\(q.length:Int)<=1000000+o/\p=a.2.1+o/\bv a.1 e c (Int.toNat (f+(1:Int) -o)) o (p,q)=bv a.1 e c (Int.toNat (f+(1:Int))) (0:Int) (a.2.1,b))/\Int.toNat (f+(1:Int) -o)<Int.toNat (f+(1:Int) -g)/\m=q/\c=c/\IntKind.wrap .i64 (g+(1:Int))=o/\d=d/\e=e/\f=f/\(0:Int)=0/\(0:Int)=0/\(0:Int)=0/\(0:Int)=0/\a.1=a.1/\IntKind.wrap .i64 (h+(1:Int))=p/\(lR a))))
 ((a.1,h,a.2.2)=pO a (a8 a.1 c (d,e,f) (a.2.1,b)).1/\i=(a8 a.1 c (d,e,f) (a.2.1,b)).2):=by
  delta cN lR fJ io om
  rintro c l0 b fd dl cp-⟨hl0,n0,n1,o0,o1,⟨d0,d1⟩,c0,c1⟩
  have n0:0<=c.1:=n0
  refine⟨⟨0,c.2.1,l0,⟨by omega,by omega,fun _=>⟨rfl,rfl⟩,by omega,by omega,by rw[Int.sub_zero]⟩,(by repeat' first|exact trivial|refine⟨trivial,?_⟩|refine⟨(by with_reducible rfl),?_⟩|refine⟨ag (by omega) (by omega),?_⟩|refine⟨rfl,?_⟩)⟩,?_⟩
  rintro k o l ⟨k0,k1,hdr,hln,ho,hs⟩
  intro b1 hb1
  (repeat refine⟨fun h_=>(by first|(simp;done)|(simp[h_];done)|(simp_all;done)),?_⟩)
  intro b2 hb2
  (repeat refine⟨fun h_=>(by first|(simp;done)|(simp[h_];done)|(simp_all;done)),?_⟩)
  have hT:IntKind.i64.wrap (IntKind.i64.wrap (IntKind.i64.wrap (c.1+1)+dl)+k)=c.1+1+dl+k:=by rw[ag (n:=c.1+1) (by omega) (by omega),ag (n:=c.1+1+dl) (by omega) (by omega),ag (by omega) (by omega)]
  have hO:IntKind.i64.wrap (o+1)=o+1:=ag (by omega) (by omega)
  have hK:IntKind.i64.wrap (k+1)=k+1:=ag (by omega) (by omega)
  rw[hT,hO,hK]
  obtain⟨t,ht⟩:∃ t:af,t=(c.1+1+dl+k,o,b):=⟨_,rfl⟩
  have ht1:c.1+1+dl+k=t.1:=by rw[ht]
  rw[← ht,ht1]
  have hc:(bif b2 then decide ((l.length:Int)<4096) else false)=decide (k<=cp/\fd=false/\l.length<4096):=by
   rw[hb2,hb1]
   rw[show decide ((l.length:Int)<4096)=decide (l.length<4096) from decide_eq_decide.2 (by omega)]
   by_cases h1:k<=cp <;> cases fd <;> simp[h1]
  rw[hc]
  refine aJ (fun h=>?_) (fun h=>?_)
  ·obtain⟨h1,h2,h3⟩:=of_decide_eq_true h
   have nxt:bv c.1 dl b (cp+1-(k+1)).toNat (k+1) (o+1,bX l t)=bv c.1 dl b (cp+1).toNat 0 (c.2.1,l0):=by
    rw[← hs,show (cp+1-k).toNat=(cp+1-(k+1)).toNat+1 by omega,bv,if_pos h3,ht]
   refine⟨⟨0,[],false,⟨by omega,by omega,fun _=>⟨rfl,fun y hy=>(by cases (show y∈([]:List af) from hy))⟩,fun h=>by cases h⟩,(by repeat' first|exact trivial|refine⟨trivial,?_⟩|refine⟨(by with_reducible rfl),?_⟩|refine⟨ag (by omega) (by omega),?_⟩|refine⟨rfl,?_⟩)⟩,?_⟩
   rintro i out dn ⟨i0,i1,g1,g2⟩
   refine aJ (fun hi=>?_) (fun hi=>?_)
   ·have hi:=of_decide_eq_true hi
    have hm:out.length<=i.toNat+1:=by
     cases dn with
     | false=>rw[(g1 rfl).1,List.length_take];omega
     | true=>rw[(g2 rfl).1,kD,List.length_take];omega
    intro b3 hb3
    refine⟨fun h_=>⟨fun _=>h_,fun _=>h_,i0,hi,trivial⟩,(by simp),(by simp),(by simp),(by simp),(by simp),?_⟩
    have hb4:(bif b3 then decide (t.1<(l.getD i.toNat default).1) else false)=decide (dn=false/\t.1<(l.getD i.toNat default).1):=by
     rw[hb3]
     cases dn <;> simp
    rw[hb4,ag (n:=i+1) (by omega) (by omega)]
    refine aJ (fun hq=>?_) (fun hq=>?_)
    ·obtain⟨q1,q2⟩:=of_decide_eq_true hq
     subst q1
     obtain⟨e1,e2⟩:=g1 rfl
     refine⟨by simp only[List.length_singleton];omega,i0,hi,by simp only[List.length_append,List.length_singleton];omega,i+1,_,true,⟨by omega,by omega,(fun h=>by cases h),fun _=>?_⟩,by omega,(by repeat' first|exact trivial|refine⟨trivial,?_⟩|refine⟨(by with_reducible rfl),?_⟩|refine⟨ag (by omega) (by omega),?_⟩|refine⟨rfl,?_⟩)⟩
     rw[c5 i0 hi]
     refine⟨?_,l.getD i.toNat default,List.mem_append_right _ (List.mem_singleton.2 rfl),q2⟩
     rw[wu e2 q2,← e1]
    ·have hq:=of_decide_eq_false hq
     refine⟨i0,hi,by simp only[List.length_singleton];omega,i+1,_,dn,⟨by omega,by omega,fun h=>?_,fun h=>?_⟩,by omega,(by repeat' first|exact trivial|refine⟨trivial,?_⟩|refine⟨(by with_reducible rfl),?_⟩|refine⟨ag (by omega) (by omega),?_⟩|refine⟨rfl,?_⟩)⟩
     ·obtain⟨e1,e2⟩:=g1 h
      rw[c5 i0 hi,e1]
      refine⟨rfl,fun y hy=>?_⟩
      rcases List.mem_append.1 hy with hy|hy
      ·exact e2 y hy
      ·rw[List.mem_singleton.1 hy]
       exact Int.not_lt.1 fun z=>hq ⟨h,z⟩
     ·obtain⟨e1,y,hy,z⟩:=g2 h
      rw[c5 i0 hi,e1]
      exact⟨(BF ⟨y,hy,z⟩).symm,y,List.mem_append_left _ hy,z⟩
   ·have hi:=of_decide_eq_false hi
    rw[List.take_of_length_le (by omega)] at g1 g2
    refine aJ (fun hd=>?_) (fun hd=>?_)
    ·have hd:dn=false:=by simpa using hd
     obtain⟨e1,e2⟩:=g1 hd
     refine⟨by rw[e1];simp only[List.length_singleton];omega,k+1,o+1,_,⟨by omega,by omega,fun q=>(by rw[h2] at q;cases q),?_,by omega,?_⟩,by omega,(by repeat' first|exact trivial|refine⟨trivial,?_⟩|refine⟨(by with_reducible rfl),?_⟩|refine⟨ag (by omega) (by omega),?_⟩|refine⟨rfl,?_⟩)⟩
     ·rw[e1,List.length_append];simp only[List.length_singleton];omega
     ·rw[e1,← rE e2];exact nxt
    ·have hd:dn=true:=by simpa using hd
     obtain⟨e1,-⟩:=g2 hd
     refine⟨k+1,o+1,_,⟨by omega,by omega,fun q=>(by rw[h2] at q;cases q),?_,by omega,?_⟩,by omega,(by repeat' first|exact trivial|refine⟨trivial,?_⟩|refine⟨(by with_reducible rfl),?_⟩|refine⟨ag (by omega) (by omega),?_⟩|refine⟨rfl,?_⟩)⟩
     ·rw[e1,kD];omega
     ·rw[e1];exact nxt
  ·have h:=of_decide_eq_false h
   have e:a8 c.1 b (fd,dl,cp) (c.2.1,l0)=(o,l):=by
    unfold a8
    dsimp only
    cases hfd:fd with
    | true =>
     obtain⟨q1,q2⟩:=hdr hfd
     rw[if_pos rfl,q2,ho,q1,Int.add_zero]
    | false =>
     rw[if_neg (by simp),← hs]
     cases hn:(cp+1-k).toNat with
     | zero=>rfl
     | succ n=>rw[bv,if_neg (fun q=>h ⟨by omega,hfd,q⟩)]
   rw[e]
   exact⟨rfl,rfl⟩
theorem vU:aL Try.prog GL 46 rk.spec:=Ct.okH _ Try.func46 (by kernel_rfl) (Al aW (d:=82)) aH wK (aX (by kernel_rfl) v5)
end Go.RS

/- Xrf2: the document's exchange: acknowledgements, what the receiver does, ticks. -/
namespace Go.RS
open Go.SX Go.Proofs
set_option maxRecDepth 100000
set_option linter.unusedVariables false
theorem wX{l:List au}{t x:au}(h:∃ y∈l,t.1<y.1):cJ (l++[x]) t=cJ l t++[x]:=by
 obtain⟨y,hy,q⟩:=h
 obtain⟨a,b⟩:=oX (p:=fun x:au=>decide (x.1<t.1)) ⟨y,hy,decide_eq_false (by omega)⟩ [x]
 unfold cJ
 rw[a,b]
 simp
theorem qH{l m:List au}{t:au}(h:∀ y∈l,y.1<t.1):cJ (l++m) t=l++cJ m t:=by
 have hp:∀ y∈l,(fun x:au=>decide (x.1<t.1)) y=true:=fun y hy=>decide_eq_true (h y hy)
 unfold cJ
 rw[List.takeWhile_append_of_pos hp,List.dropWhile_append_of_pos hp,List.append_assoc]
theorem zz{l:List au}{t x:au}(h:∀ y∈l,y.1<t.1)(hx:t.1<x.1):cJ (l++[x]) t=l++[t]++[x]:=by
 rw[qH h]
 have n1:¬ x.1<t.1:=by omega
 unfold cJ
 rw[List.takeWhile_cons_of_neg (by simpa using n1),List.dropWhile_cons_of_neg (by simpa using n1)]
 simp
theorem z5{l:List au}{t:au}(h:∀ y∈l,y.1<t.1):cJ l t=l++[t]:=by
 have:=qH (m:=[]) h
 rw[List.append_nil] at this
 rw[this];rfl
theorem AS(l:List au)(t:au):(cJ l t).length=l.length+1:=by
 unfold cJ
 have:=congrArg List.length (List.takeWhile_append_dropWhile (p:=fun y:au=>decide (y.1<t.1)) (l:=l))
 rw[List.length_append] at this
 rw[List.length_append,List.length_cons];omega
theorem rp(now:Int)(l:List af):l.take (ai now l).length=ai now l:=by
 have e:ai now l++aP now l=l:=List.takeWhile_append_dropWhile
 conv=>lhs;arg 2;rw[← e]
 exact List.take_left
def sc:Ct:=⟨[.agg bG],[.own 5 aV],fun d=>[(aK d.1).length<=65535,(aA d.1).length<=100000,∀ x∈aA d.1,0<=x.1/\x.1<=65535],fun d=>((bp ((aK d.1).length:Int) ((aA d.1).map (·.1)),()),())⟩
def xq:aG sc.ps->aN:=(fun d=>{loops:=(fun n=>match n with|3=>some (fun S=>{ι:=Int×(List Int),qn:=⟨fun k_=>∀(i:Int)(b:(List Int)),k_ (i,b),fun k_ h_ i=>h_ i.1 i.2,fun k_=>∃ (i:Int) (b:(List Int)),k_ (i,b),fun k_ ⟨i,b,h_⟩=>⟨_,h_⟩⟩,μ:=fun i=>((aA d.1).length-i.1).toNat,inv:=fun i=>0<=i.1/\i.1<=(aA d.1).length/\i.2=bp ((aK d.1).length:Int) (((aA d.1).map (·.1)).take i.1.toNat),keep:=[1],slots:=fun i=>[(3,.own 524288 1),(4,.int .i64 i.1)],keepN:=[32],names:=fun i=>[(524288,.live (.row 5 aV i.2))]})|_=>none)})
theorem zy :
 ∀(a:Int×Int×Int×List (List Int)×Int×List (List Int)×List (Int×List Int)×List (Int×Int×List Int)×List (Int×Int×List Int)),CT.wf bG a/\True->(List.length (aK a)<=(65535:Nat)/\List.length (aA a)<=(100000:Nat)/\ ∀(b:au),b∈aA a->0<=b.1/\b.1<=65535)->(1:Nat)<=List.length [(65:Int)]/\((List.length [(65:Int)]):Int)<=1099511627776/\(∃(b:Int) (c:List Int),(0<=b/\b<=((List.length (aA a)):Int)/\c=bp ((List.length (aK a)):Int) (List.take b.toNat (List.map (fun (d:au)=>d.1) (aA a))))/\(0:Int)=b/\a.1=a.1/\a.2.1=a.2.1/\a.2.2.1=a.2.2.1/\a.2.2.2.1=a.2.2.2.1/\a.2.2.2.2.1=a.2.2.2.2.1/\a.2.2.2.2.2.1=a.2.2.2.2.2.1/\a.2.2.2.2.2.2.1=a.2.2.2.2.2.2.1/\a.2.2.2.2.2.2.2.1=a.2.2.2.2.2.2.2.1/\a.2.2.2.2.2.2.2.2=a.2.2.2.2.2.2.2.2/\dF [(65:Int)] (a.2.2.2.2.2.1.length:Int) (2:Int)=c/\True)/\ ∀(b:Int)(c:List Int),0<=b/\b<=((List.length (aA a)):Int)/\c=bp ((List.length (aK a)):Int) (List.take
 b.toNat (List.map (fun (d:au)=>d.1) (aA a)))->aw (decide (b<(a.2.2.2.2.2.2.1.length:Int))) (0<=b/\b<(a.2.2.2.2.2.2.1.length:Int)/\(c.length:Int)<=1099511627776/\ ∃(d:Int) (e:List Int),(0<=d/\d<=((List.length (aA a)):Int)/\e=bp ((List.length (aK a)):Int) (List.take d.toNat (List.map (fun (f:au)=>f.1) (aA a))))/\Int.toNat (((List.length (aA a)):Int) -d)<Int.toNat (((List.length (aA a)):Int) -b)/\IntKind.wrap .i64 (b+(1:Int))=d/\a.1=a.1/\a.2.1=a.2.1/\a.2.2.1=a.2.2.1/\a.2.2.2.1=a.2.2.2.1/\a.2.2.2.2.1=a.2.2.2.2.1/\a.2.2.2.2.2.1=a.2.2.2.2.2.1/\a.2.2.2.2.2.2.1=a.2.2.2.2.2.2.1/\a.2.2.2.2.2.2.2.1=a.2.2.2.2.2.2.2.1/\a.2.2.2.2.2.2.2.2=a.2.2.2.2.2.2.2.2/\dF c (List.getD a.2.2.2.2.2.2.1 b.toNat default).1 (2:Int)=e/\True) (c=bp ((List.length (aK a)):Int) (List.map (fun (d:au)=>d.1) (aA a))):=by
  rintro c-⟨hg,he,hr⟩
  have hg':c.2.2.2.2.2.1.length<=65535:=hg
  have eE:aA c=c.2.2.2.2.2.2.1:=rfl
  have eG:aK c=c.2.2.2.2.2.1:=rfl
  rw[eE] at he hr ⊢
  rw[eG]
  have e0:dF [65] (c.2.2.2.2.2.1.length:Int) 2=bp (c.2.2.2.2.2.1.length:Int) []:=by
   rw[pV ⟨by omega,by omega⟩];simp[bp,dY]
  rw[e0]
  refine⟨by simp,by simp,⟨0,_,⟨by omega,by omega,rfl⟩,by (repeat first|refine⟨trivial,?_⟩|refine⟨(by with_reducible rfl),?_⟩|refine⟨ag (by omega) (by omega),?_⟩);simp⟩,?_⟩
  rintro i b ⟨i0,i1,rfl⟩
  refine aJ (fun hi=>?_) (fun hi=>?_)
  ·have hi:=of_decide_eq_true hi
   have hx:=hr _ (cy (xs:=c.2.2.2.2.2.2.1) i0 hi)
   have hn:=c5 (l:=c.2.2.2.2.2.2.1.map (·.1)) i0 (by rw[List.length_map];exact hi)
   have em:(c.2.2.2.2.2.2.1.map (·.1)).getD i.toNat default=(c.2.2.2.2.2.2.1.getD i.toNat default).1:=by
    simp only[List.getD_eq_getElem?_getD,List.getElem?_map]
    rw[List.getElem?_eq_getElem (by omega)];rfl
   have e1:dF (bp (c.2.2.2.2.2.1.length:Int) ((c.2.2.2.2.2.2.1.map (·.1)).take i.toNat)) (c.2.2.2.2.2.2.1.getD i.toNat default).1 2=bp (c.2.2.2.2.2.1.length:Int) ((c.2.2.2.2.2.2.1.map (·.1)).take (i+1).toNat):=by
    rw[pV hx,sA,hn,em]
   rw[e1]
   refine⟨i0,hi,?_,i+1,_,⟨by omega,by omega,rfl⟩,by omega,(by repeat' first|exact trivial|refine⟨trivial,?_⟩|refine⟨(by with_reducible rfl),?_⟩|refine⟨ag (by omega) (by omega),?_⟩|refine⟨rfl,?_⟩)⟩
   rw[mE,List.length_take,List.length_map];omega
  ·have hi:=of_decide_eq_false hi
   rw[List.take_of_length_le (by rw[List.length_map];omega)]
theorem yE:aL Try.prog GL 47 sc.spec:=Ct.okH _ Try.func47 (by kernel_rfl) (aI aW sD) aH xq (aX (by kernel_rfl) zy)
def jk(c:ak)(s:List (List Int)×List au):ak:=(c.1,c.2.1,c.2.2.1,c.2.2.2.1,c.2.2.2.2.1,s.1,s.2,c.2.2.2.2.2.2.2)
def sM:Ct:=⟨[.agg bG,.val (.sl aV)],[.agg bG],fun d=>[3<=d.2.1.length,(d.2.1.length:Int)<=1000000,0<=ay d.1,ay d.1<=100000,0<=aj d.1,aj d.1<=100000,(aK d.1).length<=100000,(aA d.1).length<=100000],fun d=>((jk d.1 (bY (ay d.1+aj d.1) (aK d.1,aA d.1) (aR d.2.1 1) (d.2.1.drop 3)),()),())⟩
def zm:aG sM.ps->aN:=(fun d=>{loops:=(fun n=>match n with|4=>some (fun S=>{ι:=(List (List Int))×(List au),qn:=⟨fun k_=>∀(g:(List (List Int)))(e:(List au)),k_ (g,e),fun k_ h_ i=>h_ i.1 i.2,fun k_=>∃ (g:(List (List Int))) (e:(List au)),k_ (g,e),fun k_ ⟨g,e,h_⟩=>⟨_,h_⟩⟩,μ:=fun i=>i.2.length,inv:=fun i=>bV i.2 i.1=bV (aA d.1) (aK d.1++[d.2.1.drop 3])/\i.1.length+i.2.length<=300000,keep:=[2,4],slots:=fun i=>[],keepN:=[80],names:=fun i=>[(48,.live (.cells 28 [.int .i64 (ac d.1),.int .i64 (bm d.1),.int .i64 (aj d.1),.dsl (.sl aV) (ae d.1),.int .i64 (ay d.1),.own 524288 1,.dsl dU i.2,.dsl bf (aD d.1),.dsl bf (bk d.1)])),(524288,.live (.row 22 (.sl aV) i.1))]})|13=>some (fun S=>{ι:=Int×(List au)×Bool,qn:=⟨fun k_=>∀(i:Int)(out:(List au))(dn:Bool),k_ (i,out,dn),fun k_ h_ i=>h_ i.1 i.2.1 i.2.2,fun k_=>∃ (i:Int) (out:(List au)) (dn:Bool),k_ (i,out,dn),fun k_ ⟨i,out,dn,h_⟩=>⟨_,h_⟩⟩,μ:=fun i=>((aA d.1).length-i.1).toNat,inv:=fun i=>0<=i.1/\i.1<=(aA d.1).length/\(∀ x∈(aA d.1).take i.1.toNat,x.1≠aR d.2.1 1)/\(i.2.2=false->i.2.1=(aA d.1).take i.1.toNat∧∀ x∈(aA d.1).take i.1.toNat,x.1<aR d.2.1 1)/\(i.2.2=true->i.2.1=cJ ((aA d.1).take i.1.toNat) (aR d.2.1 1,d.2.1.drop 3)∧∃ x∈(aA d.1).take i.1.toNat,aR d.2.1 1<x.1),keep:=[2,4,5,6],slots:=fun i=>[(7,.own 524288 2),(8,.bool i.2.2),(9,.int .i64 i.1)],keepN:=[48,80],names:=fun i=>[(524288,.live (.row 51 dU i.2.1))]})|_=>none)})
def fL :=
 Int.toNat (3:Int)
def f8(b:List Int) :=
 Int.toNat (b.length:Int)
def jZ(b:List Int) :=
 (bJ b (1:Int) (2:Int),a7 b (fL) (f8 b))
def pU(a:Int×Int×Int×List (List Int)×Int×List (List Int)×List (Int×List Int)×List (Int×Int×List Int)×List (Int×Int×List Int))(b:List Int)(h:Int)(i:List au)(j:Bool) :=
 0<=h/\h<=((List.length (aA a)):Int)/\(∀(k:au),k∈List.take h.toNat (aA a)->k.1≠aR b (1:Int))/\(j=false->i=List.take h.toNat (aA a)/\ ∀(k:au),k∈List.take h.toNat (aA a)->k.1<aR b (1:Int))/\(j=true->i=cJ (List.take h.toNat (aA a)) (aR b (1:Int),List.drop (3:Nat) b)/\ ∃(k:au),k∈List.take h.toNat (aA a)/\aR b 1<k.1)
def nF(a:Int×Int×Int×List (List Int)×Int×List (List Int)×List (Int×List Int)×List (Int×Int×List Int)×List (Int×Int×List Int))(b:List Int)(d:Int)(e:List au)(f:Bool) :=
 d<=((List.length (aA a)):Int)/\(∀(g:au),g∈List.take d.toNat (aA a)->g.1≠aR b (1:Int))/\(f=false->e=List.take d.toNat (aA a)/\ ∀(g:au),g∈List.take d.toNat (aA a)->g.1<aR b (1:Int))/\(f=true->e=cJ (List.take d.toNat (aA a)) (aR b (1:Int),List.drop (3:Nat) b)/\ ∃(g:au),g∈List.take d.toNat (aA a)/\aR b 1<g.1)
def jH(a:Int×Int×Int×List (List Int)×Int×List (List Int)×List (Int×List Int)×List (Int×Int×List Int)×List (Int×Int×List Int))(b:List Int) :=
 bY (ay a+aj a) (aK a,aA a) (aR b (1:Int)) (List.drop (3:Nat) b)
def fP :=
 (140737488355328:Nat)
theorem zl :
 ∀(a:Int×Int×Int×List (List Int)×Int×List (List Int)×List (Int×List Int)×List (Int×Int×List Int)×List (Int×Int×List Int))(b:List Int),CT.wf bG a/\(b.length<=maxLen/\ ∀(c:Int),c∈b->0<=c/\c<=255)/\True->(3:Nat)<=b.length/\(b.length:Int)<=1000000/\0<=ay a/\ay a<=100000/\0<=aj a/\aj a<=100000/\List.length (aK a)<=(100000:Nat)/\List.length (aA a)<=(100000:Nat)->(b.length:Int)<=9223372036854775807/\(0:Int)<=3/\3<=(b.length:Int)/\(b.length:Int)<=(b.length:Int)/\aw (decide (bJ b (1:Int) (2:Int)=(a.2.2.2.2.2.1.length:Int))) (a.2.2.2.2.2.1.length*(24:Nat)<=(fP)/\(a.2.2.2.2.2.1.length+List.length [a7 b (fL) (f8 b)])*(24:Nat)<=(fP)/\(∃(c:List (List Int)),∃(d:List au),(bV d c=bV (aA a) (aK a++[List.drop (3:Nat) b])/\c.length+d.length<=(300000:Nat))/\(0:Int)=0/\(0:Int)=0/\(0:Int)=0/\(0:Int)=0/\a.1=ac a/\a.2.1=bm a/\a.2.2.1=aj a/\a.2.2.2.1=ae
 a/\a.2.2.2.2.1=ay a/\a.2.2.2.2.2.2.1=d/\a.2.2.2.2.2.2.2.1=aD a/\a.2.2.2.2.2.2.2.2=bk a/\a.2.2.2.2.2.1++[a7 b (fL) (f8 b)]=c/\True)/\ ∀(c:List (List Int))(d:List au),bV d c=bV (aA a) (aK a++[List.drop (3:Nat) b])/\c.length+d.length<=(300000:Nat)-> ∀(e:Bool),e=decide (0<(d.length:Int))->(e->(e->e)/\True)/\(e->(e->e)/\(0:Int)<=0/\0<(d.length:Int)/\True)/\(e->(e->e)/\True)/\(e->(e->e)/\True)/\(e->(e->e)/\True)/\(e->(e->e)/\True)/\(e->(e->e)/\(e->e)/\True)/\(e->e)/\aw (bif e then decide ((d.getD (Int.toNat (0:Int)) default).1=(c.length:Int)) else false) ((0:Int)<=0/\0<(d.length:Int)/\(c.length+List.length [(d.getD (Int.toNat (0:Int)) default).2])*(24:Nat)<=(fP)/\(0:Int)<=1/\1<=(d.length:Int)/\(d.length:Int)<=(d.length:Int)/\ ∃(f:List (List Int)),∃(g:List au),(bV g f=bV (aA a) (aK a++[List.drop (3:Nat)
 b])/\f.length+g.length<=(300000:Nat))/\g.length<d.length/\(0:Int)=0/\(0:Int)=0/\(0:Int)=0/\(0:Int)=0/\ac a=ac a/\bm a=bm a/\aj a=aj a/\ae a=ae a/\ay a=ay a/\a7 d (Int.toNat (1:Int)) (Int.toNat (d.length:Int))=g/\aD a=aD a/\bk a=bk a/\c++[(d.getD (Int.toNat (0:Int)) default).2]=f/\True) ((ac a,bm a,aj a,ae a,ay a,c,d,aD a,bk a)=jk a (jH a b))) (∀(c:Bool),c=decide (bJ b (1:Int) 2<(a.2.2.2.2.2.1.length:Int))->((! c)->((! c)->(! c))/\True)/\((! c)->((! c)->(! c))/\True)/\((! c)->((! c)->(! c))/\((! c)->(! c))/\True)/\((! c)->((! c)->(! c))/\((! c)->(! c))/\True)/\(c=false->(! c))/\aw (bif c then true else decide (IntKind.wrap .i64 (a.2.2.2.2.1+a.2.2.1)<=bJ b (1:Int) (2:Int))) (a=jk a (jH a b)) ((∃(d:Int) (e:List au),∃(f:Bool),(0<=d/\(nF a b d e f))/\bJ b (1:Int) (2:Int)=bJ b (1:Int) (2:Int)/\a7 b (fL) (f8 b)=a7 b (fL)
 (f8 b)/\false=f/\(0:Int)=d/\a.1=a.1/\a.2.1=a.2.1/\a.2.2.1=a.2.2.1/\a.2.2.2.1=a.2.2.2.1/\a.2.2.2.2.1=a.2.2.2.2.1/\a.2.2.2.2.2.1=a.2.2.2.2.2.1/\a.2.2.2.2.2.2.1=a.2.2.2.2.2.2.1/\a.2.2.2.2.2.2.2.1=a.2.2.2.2.2.2.2.1/\a.2.2.2.2.2.2.2.2=a.2.2.2.2.2.2.2.2/\(0:Int)=0/\(0:Int)=0/\(0:Int)=0/\(0:Int)=0/\e=([]:List (Int×List Int))/\True)/\ ∀(d:Int)(e:List au)(f:Bool),0<=d/\(nF a b d e f)->aw (decide (d<(a.2.2.2.2.2.2.1.length:Int))) (0<=d/\d<(a.2.2.2.2.2.2.1.length:Int)/\aw (decide ((List.getD a.2.2.2.2.2.2.1 d.toNat default).1=bJ b (1:Int) (2:Int))) (a=jk a (jH a b)) (∀(g:Bool),g= ! f->(g->(g->g)/\True)/\(g->(g->g)/\(g->g)/\0<=d/\d<(a.2.2.2.2.2.2.1.length:Int)/\True)/\(g->(g->g)/\True)/\(g->(g->g)/\True)/\(g->(g->g)/\(g->g)/\True)/\(g->g)/\aw (bif g then decide (bJ b (1:Int) 2<(List.getD a.2.2.2.2.2.2.1 d.toNat default).1) else false) ((e.length+List.length [(jZ
 b)])*(32:Nat)<=(fP)/\0<=d/\d<(a.2.2.2.2.2.2.1.length:Int)/\(List.length (e++[(jZ b)])+List.length [List.getD a.2.2.2.2.2.2.1 d.toNat default])*(32:Nat)<=(fP)/\ ∃(h:Int) (i:List au),∃(j:Bool),(pU a b h i j)/\Int.toNat (((List.length (aA a)):Int) -h)<Int.toNat (((List.length (aA a)):Int) -d)/\bJ b (1:Int) (2:Int)=bJ b (1:Int) (2:Int)/\a7 b (fL) (f8 b)=a7 b (fL) (f8 b)/\true=j/\IntKind.wrap .i64 (d+(1:Int))=h/\a.1=a.1/\a.2.1=a.2.1/\a.2.2.1=a.2.2.1/\a.2.2.2.1=a.2.2.2.1/\a.2.2.2.2.1=a.2.2.2.2.1/\a.2.2.2.2.2.1=a.2.2.2.2.2.1/\a.2.2.2.2.2.2.1=a.2.2.2.2.2.2.1/\a.2.2.2.2.2.2.2.1=a.2.2.2.2.2.2.2.1/\a.2.2.2.2.2.2.2.2=a.2.2.2.2.2.2.2.2/\(0:Int)=0/\(0:Int)=0/\(0:Int)=0/\(0:Int)=0/\e++[(jZ b)]++[List.getD a.2.2.2.2.2.2.1 d.toNat default]=i/\True) (0<=d/\d<(a.2.2.2.2.2.2.1.length:Int)/\(e.length+List.length [List.getD a.2.2.2.2.2.2.1 d.toNat
 default])*(32:Nat)<=(fP)/\ ∃(h:Int) (i:List au),∃(j:Bool),(pU a b h i j)/\Int.toNat (((List.length (aA a)):Int) -h)<Int.toNat (((List.length (aA a)):Int) -d)/\bJ b (1:Int) (2:Int)=bJ b (1:Int) (2:Int)/\a7 b (fL) (f8 b)=a7 b (fL) (f8 b)/\f=j/\IntKind.wrap .i64 (d+(1:Int))=h/\a.1=a.1/\a.2.1=a.2.1/\a.2.2.1=a.2.2.1/\a.2.2.2.1=a.2.2.2.1/\a.2.2.2.2.1=a.2.2.2.2.1/\a.2.2.2.2.2.1=a.2.2.2.2.2.1/\a.2.2.2.2.2.2.1=a.2.2.2.2.2.2.1/\a.2.2.2.2.2.2.2.1=a.2.2.2.2.2.2.2.1/\a.2.2.2.2.2.2.2.2=a.2.2.2.2.2.2.2.2/\(0:Int)=0/\(0:Int)=0/\(0:Int)=0/\(0:Int)=0/\e++[List.getD a.2.2.2.2.2.2.1 d.toNat default]=i/\True))) (aw (! f) ((e.length+List.length [(jZ b)])*(32:Nat)<=(fP)/\(a.1,a.2.1,a.2.2.1,a.2.2.2.1,a.2.2.2.2.1,a.2.2.2.2.2.1,e++[(jZ b)],a.2.2.2.2.2.2.2)=jk a (jH a b)) ((a.1,a.2.1,a.2.2.1,a.2.2.2.1,a.2.2.2.2.1,a.2.2.2.2.2.1,e,a.2.2.2.2.2.2.2)=jk a (jH a b))))):=by
  delta jZ pU nF jH f8 fP fL
  rintro c b-⟨hb,hb2,k0,k1,w0,w1,hg,he⟩
  have eE:aA c=c.2.2.2.2.2.2.1:=rfl
  have eG:aK c=c.2.2.2.2.2.1:=rfl
  have eK:ay c=c.2.2.2.2.1:=rfl
  have eW:aj c=c.2.2.1:=rfl
  have eM:bJ b 1 2=aR b 1:=rfl
  have es:a7 b (Int.toNat 3) (Int.toNat (b.length:Int))=b.drop 3:=by
   unfold a7;rw[Int.toNat_natCast,List.take_length];rfl
  rw[es,eM]
  rw[eK] at k0 k1
  rw[eW] at w0 w1
  rw[ag (n:=c.2.2.2.2.1+c.2.2.1) (by omega) (by omega)]
  rw[eG] at hg
  rw[eE] at he
  generalize hI:aR b 1=I
  generalize hT:b.drop 3=T
  refine⟨by omega,by omega,by omega,by omega,aJ (fun h=>?_) (fun h=>?_)⟩
  ·have h:I=(c.2.2.2.2.2.1.length:Int):=of_decide_eq_true h
   have eT:bY (ay c+aj c) (aK c,aA c) I T=bV (aA c) (aK c++[T]):=if_pos h
   rw[eT]
   refine⟨by omega,by simp only[List.length_singleton];omega,⟨_,_,⟨rfl,by rw[List.length_append,List.length_singleton,eG,eE];omega⟩,(by repeat' first|exact trivial|refine⟨trivial,?_⟩|refine⟨(by with_reducible rfl),?_⟩|refine⟨ag (by omega) (by omega),?_⟩|refine⟨rfl,?_⟩)⟩,?_⟩
   rintro g e ⟨ha,hl⟩
   (repeat (intro (b_:Bool) (hb_:b_=_);(repeat refine⟨(by first|(simp;done)|(rw[hb_];simp;done)|(rw[hb_];simp;omega)|(rw[hb_];simp;intros;omega)|(rw[hb_];simp +contextual;done)),?_⟩);subst hb_))
   refine gZ (fun h1 h2=>?_) (fun h1=>?_)
   ·have h1:=of_decide_eq_true h1
    have h2:=of_decide_eq_true h2
    cases e with
    | nil=>simp at h1
    | cons x r =>
     have h2:x.1=(g.length:Int):=h2
     have hl':g.length+(r.length+1)<=300000:=hl
     have e5:a7 (x::r) (Int.toNat 1) (Int.toNat ((x::r).length:Int))=r:=by
      unfold a7;rw[Int.toNat_natCast,List.take_length];rfl
     rw[e5]
     refine⟨by omega,h1,by simp only[List.length_singleton];omega,by omega,by simp only[List.length_cons];omega,by omega,g++[x.2],r,⟨?_,by rw[List.length_append,List.length_singleton];omega⟩,by simp,(by repeat' first|exact trivial|refine⟨trivial,?_⟩|refine⟨(by with_reducible rfl),?_⟩|refine⟨ag (by omega) (by omega),?_⟩|refine⟨rfl,?_⟩)⟩
     rw[← ha,bV,if_pos h2]
   ·have hz:bV e g=(g,e):=by
     refine ue ?_
     rcases h1 with h1|h1
     ·have h1:=of_decide_eq_false h1
      exact .inl (List.eq_nil_of_length_eq_zero (by omega))
     ·exact .inr (of_decide_eq_false h1)
    rw[← ha,hz]
    rfl
  ·have h:¬ I=(c.2.2.2.2.2.1.length:Int):=of_decide_eq_false h
   have eT:bY (ay c+aj c) (aK c,aA c) I T=if I<(c.2.2.2.2.2.1.length:Int)∨c.2.2.2.2.1+c.2.2.1<=I∨(c.2.2.2.2.2.2.1.any fun x=>decide (x.1=I))=true then (aK c,aA c) else (aK c,cJ (aA c) (I,T)):=if_neg h
   rw[eT]
   (repeat (intro (b_:Bool) (hb_:b_=_);(repeat refine⟨(by first|(simp;done)|(rw[hb_];simp;done)|(rw[hb_];simp;omega)|(rw[hb_];simp;intros;omega)|(rw[hb_];simp +contextual;done)),?_⟩);subst hb_))
   refine kq (fun h1=>?_) (fun h1 h2=>?_)
   ·rw[if_pos (h1.elim (fun q=>.inl (of_decide_eq_true q)) (fun q=>.inr (.inl (of_decide_eq_true q))))]
    rfl
   have h1:=of_decide_eq_false h1
   have h2:=of_decide_eq_false h2
   rw[eE]
   generalize hL:c.2.2.2.2.2.2.1=L at *
   have eR:∀ s,jk c (c.2.2.2.2.2.1,s)=(c.1,c.2.1,c.2.2.1,c.2.2.2.1,c.2.2.2.2.1,c.2.2.2.2.2.1,s,c.2.2.2.2.2.2.2):=fun s=>rfl
   refine⟨⟨0,[],false,⟨by omega,by omega,by simp,fun _=>by simp,fun q=>by cases q⟩,(by repeat' first|exact trivial|refine⟨trivial,?_⟩|refine⟨(by with_reducible rfl),?_⟩|refine⟨ag (by omega) (by omega),?_⟩|refine⟨rfl,?_⟩)⟩,?_⟩
   rintro i out dn ⟨i0,i1,g0,g1,g2⟩
   have hm:out.length<=i.toNat+1:=by
    cases dn with
    | false=>rw[(g1 rfl).1,List.length_take];omega
    | true=>rw[(g2 rfl).1,AS,List.length_take];omega
   refine aJ (fun hi=>?_) (fun hi=>?_)
   ·have hi:=of_decide_eq_true hi
    have hmem:=cy (xs:=L) i0 hi
    have hnx:=c5 (l:=L) i0 hi
    generalize hx:L.getD i.toNat default=x at *
    refine⟨i0,hi,aJ (fun hq=>?_) (fun hq=>?_)⟩
    ·have hq:=of_decide_eq_true hq
     rw[if_pos (.inr (.inr (List.any_eq_true.2 ⟨x,hmem,decide_eq_true hq⟩)))]
     rw[eG,eR,← hL]
    ·have hq:=of_decide_eq_false hq
     have g0':∀ y∈L.take (i+1).toNat,y.1≠I:=fun y hy=>by
      rw[hnx] at hy
      rcases List.mem_append.1 hy with hy|hy
      ·exact g0 y hy
      ·rw[List.mem_singleton.1 hy];exact hq
     intro b3 hb3
     refine⟨(by simp),fun h_=>⟨fun _=>h_,fun _=>h_,i0,hi,trivial⟩,(by simp),(by simp),(by simp),(by simp),?_⟩
     have hb4:(bif b3 then decide (I<x.1) else false)=decide (dn=false/\I<x.1):=by
      rw[hb3]
      cases dn <;> simp
     rw[hb4]
     refine aJ (fun hz=>?_) (fun hz=>?_)
     ·obtain⟨q1,q2⟩:=of_decide_eq_true hz
      subst q1
      obtain⟨e1,e2⟩:=g1 rfl
      refine⟨by simp only[List.length_singleton];omega,i0,hi,by simp only[List.length_append,List.length_singleton];omega,i+1,_,true,⟨by omega,by omega,g0',(fun h=>by cases h),fun _=>?_⟩,by omega,(by repeat' first|exact trivial|refine⟨trivial,?_⟩|refine⟨(by with_reducible rfl),?_⟩|refine⟨ag (by omega) (by omega),?_⟩|refine⟨rfl,?_⟩)⟩
      rw[hnx]
      refine⟨?_,x,List.mem_append_right _ (List.mem_singleton.2 rfl),q2⟩
      rw[zz e2 q2,← e1]
     ·have hz:=of_decide_eq_false hz
      refine⟨i0,hi,by simp only[List.length_singleton];omega,i+1,_,dn,⟨by omega,by omega,g0',fun h=>?_,fun h=>?_⟩,by omega,(by repeat' first|exact trivial|refine⟨trivial,?_⟩|refine⟨(by with_reducible rfl),?_⟩|refine⟨ag (by omega) (by omega),?_⟩|refine⟨rfl,?_⟩)⟩
      ·obtain⟨e1,e2⟩:=g1 h
       rw[hnx,e1]
       refine⟨rfl,fun y hy=>?_⟩
       rcases List.mem_append.1 hy with hy|hy
       ·exact e2 y hy
       ·rw[List.mem_singleton.1 hy]
        have:¬ I<x.1:=fun z=>hz ⟨h,z⟩
        omega
      ·obtain⟨e1,y,hy,z⟩:=g2 h
       rw[hnx,e1]
       exact⟨(wX ⟨y,hy,z⟩).symm,y,List.mem_append_left _ hy,z⟩
   ·have hi:=of_decide_eq_false hi
    rw[List.take_of_length_le (by omega)] at g0 g1 g2
    have hany:¬ (L.any fun x=>decide (x.1=I))=true:=fun q=>by
     obtain⟨y,hy,k⟩:=List.any_eq_true.1 q
     exact g0 y hy (of_decide_eq_true k)
    rw[if_neg (by rintro (q|q|q);exact h1 q;exact h2 q;exact hany q)]
    refine aJ (fun hd=>?_) (fun hd=>?_)
    ·have hd:dn=false:=by simpa using hd
     obtain⟨e1,e2⟩:=g1 hd
     refine⟨by simp only[List.length_singleton];omega,?_⟩
     rw[e1,← z5 e2];rfl
    ·have hd:dn=true:=by simpa using hd
     obtain⟨e1,-⟩:=g2 hd
     rw[e1];rfl
theorem wc:aL Try.prog GL 45 sM.spec:=Ct.okH _ Try.func45 (by kernel_rfl) (aI aW uR) aH zm (aX (by kernel_rfl) zl)
def gn(c:ak)(n:Nat):ak:=(ac c+1,bm c,aj c,ae c,ay c,(bS (ay c+aj c) ((aD c).take n) (aK c,aA c)).1,(bS (ay c+aj c) ((aD c).take n) (aK c,aA c)).2,aD c,bk c)
def dA(c:ak)(up:List aY)(k:Int):ak:=(ac c+1,(am c up).1,aj c,ae c,k,(aE c).1,(aE c).2,aP (ac c+1) (aD c),(am c up).2)
def yx(c:ak)(up:List aY)(o:Int)(dn:List af):ak:=(ac c+1,o,aj c,ae c,av c up,(aE c).1,(aE c).2,dn,aP (ac c+1) (am c up).2)
def qL:Ct:=⟨[.agg bG,.val (.sl ep),.val (.sl ep)],[.agg bG,.val cI],fun d=>[XR d.1,(d.2.1.length:Int)<=1000000,(d.2.2.1.length:Int)<=1000000],fun d=>((iD d.1 d.2.1 d.2.2.1,ec d.1 d.2.1 d.2.2.1,()),())⟩
def xF:aG qL.ps->aN:=(fun d=>{loops:=(fun n=>match n with|2=>some (fun S=>{ι:=Int,μ:=fun i=>(d.2.1.length+d.2.2.1.length-i).toNat,inv:=fun i=>0<=i/\i<=d.2.1.length+d.2.2.1.length∧∀ x∈(d.2.1++d.2.2.1).take i.toNat,cR x=true,keep:=[1,2,3,6,7],slots:=fun i=>[(8,.int .i64 i)],keepN:=[64,112],names:=fun i=>[]})|10=>some (fun S=>{ι:=Int×ak,qn:=⟨fun k_=>∀(j:Int)(b:ak),k_ (j,b),fun k_ h_ i=>h_ i.1 i.2,fun k_=>∃ (j:Int) (b:ak),k_ (j,b),fun k_ ⟨j,b,h_⟩=>⟨_,h_⟩⟩,μ:=fun i=>((aD d.1).length-i.1).toNat,inv:=fun i=>0<=i.1/\i.1<=(aD d.1).length/\(∀ t∈(aD d.1).take i.1.toNat,t.1<=ac d.1+1)/\i.2=gn d.1 i.1.toNat,keep:=[1,2,3,6,7],slots:=fun i=>[(9,.int .i64 i.1)],keepN:=[112],names:=fun i=>[(64,.live (.cells 28 (br bG i.2)))]})|18=>some (fun S=>{ι:=Int×ak×(List Int),qn:=⟨fun k_=>∀(h:Int)(b:ak)(nt:(List Int)),k_ (h,b,nt),fun k_ h_ i=>h_ i.1 i.2.1 i.2.2,fun k_=>∃ (h:Int) (b:ak) (nt:(List Int)),k_ (h,b,nt),fun k_ ⟨h,b,nt,h_⟩=>⟨_,h_⟩⟩,μ:=fun i=>(((am d.1 d.2.2.1).2).length-i.1).toNat,inv:=fun i=>0<=i.1/\i.1<=((am d.1 d.2.2.1).2).length/\(∀ t∈((am d.1 d.2.2.1).2).take i.1.toNat,t.1<=ac d.1+1)/\i.2.1=dA d.1 d.2.2.1 (bw (ay d.1) (((am d.1 d.2.2.1).2).take i.1.toNat))/\i.2.2=bF (((am d.1 d.2.2.1).2).take i.1.toNat),keep:=[1,2,3,6,7],slots:=fun i=>[(11,.int .i64 i.1),(10,.own 524288 1)],keepN:=[112],names:=fun i=>[(64,.live (.cells 28 (br bG i.2.1))),(524288,.live (.row 3 cI i.2.2))]})|22=>some (fun S=>{ι:=Int×(List Int),qn:=⟨fun k_=>∀(a:Int)(nt:(List Int)),k_ (a,nt),fun k_ h_ i=>h_ i.1 i.2,fun k_=>∃ (a:Int) (nt:(List Int)),k_ (a,nt),fun k_ ⟨a,nt,h_⟩=>⟨_,h_⟩⟩,μ:=fun i=>((S.l aV 12).length-i.1).toNat,inv:=fun i=>3<=i.1/\i.1<=(S.l aV 12).length/\(i.1-3)%2=0/\i.2=S.o cI 10++cu (((S.l aV 12).drop 3).take (i.1-3).toNat),keep:=[1,2,3,6,7,11,12],slots:=fun i=>[(13,.int .i64 i.1),(10,.own 524289 1)],keepN:=[64,112],names:=fun i=>[(524289,.live (.row 3 cI i.2))]})|29=>some (fun S=>{ι:=Int×Int×Int×(List af),qn:=⟨fun k_=>∀(x:Int)(i:Int)(o:Int)(dn:(List af)),k_ (x,i,o,dn),fun k_ h_ i=>h_ i.1 i.2.1 i.2.2.1 i.2.2.2,fun k_=>∃ (x:Int) (i:Int) (o:Int) (dn:(List af)),k_ (x,i,o,dn),fun k_ ⟨x,i,o,dn,h_⟩=>⟨_,h_⟩⟩,μ:=fun i=>(av d.1 d.2.2.1+aj d.1-i.1).toNat,inv:=fun i=>av d.1 d.2.2.1<=i.1/\0<=i.2.1/\i.2.1<=i.1-av d.1 d.2.2.1/\ct (ac d.1+1) i.2.2.1 i.2.2.2/\i.2.2.1<=(am d.1 d.2.2.1).1+9*i.2.1/\i.1<=av d.1 d.2.2.1+aj d.1/\bR (ac d.1+1) (ae d.1) d.2.1 (eZ d.1 d.2.2.1 i.1) i.2.1.toNat (i.2.2.1,i.2.2.2)=cL d.1 d.2.1 d.2.2.1,keep:=[1,2,3,6,7,10],slots:=fun i=>[(15,.int .i64 i.1),(14,.int .i64 i.2.1)],keepN:=[524288,112],names:=fun i=>[(64,.live (.cells 28 (br bG (yx d.1 d.2.2.1 i.2.2.1 i.2.2.2))))]})|33=>some (fun S=>{ι:=Int×Bool,qn:=⟨fun k_=>∀(k:Int)(b:Bool),k_ (k,b),fun k_ h_ i=>h_ i.1 i.2,fun k_=>∃ (k:Int) (b:Bool),k_ (k,b),fun k_ ⟨k,b,h_⟩=>⟨_,h_⟩⟩,μ:=fun i=>((S.o cI 10).length-i.1).toNat,inv:=fun i=>0<=i.1/\i.1<=(S.o cI 10).length/\i.2=decide (S.i 15∈(S.o cI 10).take i.1.toNat),keep:=[1,2,3,6,7,10,14,15],slots:=fun i=>[(17,.int .i64 i.1),(16,.bool i.2)],keepN:=[64,524288,112],names:=fun i=>[]})|_=>none),cuts:=(fun n=>match n with|16=>some (fun S=>{ι:=ak,inv:=fun i=>i=dA d.1 d.2.2.1 (ay d.1),keep:=[1,2,3,6,7],slots:=fun i=>[],keepN:=[112],names:=fun i=>[(64,.live (.cells 28 (br bG i)))]})|_=>none)})
def gp(f:ak) :=
 (f.2.2.2.2.2.2.2.1.length:Int)
def j7(e:Int)(f:ak) :=
 (f.1,f.2.1,f.2.2.1,f.2.2.2.1,f.2.2.2.2.1,f.2.2.2.2.2.1,f.2.2.2.2.2.2.1,a7 f.2.2.2.2.2.2.2.1 e.toNat (Int.toNat (gp f)),f.2.2.2.2.2.2.2.2)
def fe(i:Int)(j:ak) :=
 List.getD j.2.2.2.2.2.2.2.2 i.toNat default
def ka(e:Int)(f:ak) :=
 List.getD f.2.2.2.2.2.2.2.1 e.toNat default
def qr :=
 ((0:Int),(0:Int),(0:Int),([]:List (List Int)),(0:Int),([]:List (List Int)),([]:List (Int×List Int)),([]:List (Int×Int×List Int)),([]:List (Int×Int×List Int)))
def gR(i:Int)(j:ak) :=
 ((List.length (fe i j).2.2):Int)
def my :=
 (0:Int)=0/\(0:Int)=0/\(0:Int)=0/\(0:Int)=0/\True
def pA(a:Int×Int×Int×List (List Int)×Int×List (List Int)×List (Int×List Int)×List (Int×Int×List Int)×List (Int×Int×List Int)) :=
 a.1=a.1/\a.2.1=a.2.1/\a.2.2.1=a.2.2.1/\a.2.2.2.1=a.2.2.2.1/\a.2.2.2.2.1=a.2.2.2.2.1/\a.2.2.2.2.2.1=a.2.2.2.2.2.1/\a.2.2.2.2.2.2.1=a.2.2.2.2.2.2.1/\a.2.2.2.2.2.2.2.1=a.2.2.2.2.2.2.2.1/\a.2.2.2.2.2.2.2.2=a.2.2.2.2.2.2.2.2/\(my)
def ie(j:ak) :=
 (j.2.2.2.2.2.2.2.2.length:Int)
def qp(c:List (Bool×Int×Int))(e:Int)(f:ak) :=
 a8 f.1 (bp ((List.length (aK (j7 e f))):Int) (List.map (fun (i:au)=>i.1) (aA (j7 e f)))) (bd c (Int.toNat (0:Int))) (f.2.1,f.2.2.2.2.2.2.2.2)
def jD(i:Int)(j:ak) :=
 bJ (fe i j).2.2 (1:Int) (2:Int)
def oJ(e:Int)(f:ak) :=
 bY (ay f+aj f) (aK f,aA f) (aR (ka e f).2.2 (1:Int)) (List.drop (3:Nat) (ka e f).2.2)
def kN(f g:Bool) :=
 (! f&&g)->((! f&&g)->(! f&&g))/\True
theorem xa :
 ∀(a:Int×Int×Int×List (List Int)×Int×List (List Int)×List (Int×List Int)×List (Int×Int×List Int)×List (Int×Int×List Int))(b c:List (Bool×Int×Int)),CT.wf bG a/\(b.length<=maxLen/\ ∀(d:Bool×Int×Int),d∈b->True/\aq d.2.1/\aq d.2.2)/\(c.length<=maxLen/\ ∀(d:Bool×Int×Int),d∈c->True/\aq d.2.1/\aq d.2.2)/\True->XR a/\(b.length:Int)<=1000000/\(c.length:Int)<=1000000->(∃(d:Int),(0<=d/\d<=(b.length:Int)+(c.length:Int)/\ ∀(e:Bool×Int×Int),e∈List.take d.toNat (b++c)->cR e=true)/\b=b/\c=c/\(0:Int)=0/\(0:Int)=d/\(pA a))/\ ∀(d:Int),(0<=d/\d<=(b.length:Int)+(c.length:Int)/\ ∀(e:Bool×Int×Int),e∈List.take d.toNat (b++c)->cR e=true)->aw (decide (d<IntKind.wrap .i64 ((b.length:Int)+(c.length:Int)))) (∀(e:Bool),e=decide (d<(b.length:Int))->(e->(e->e)/\(e->e)/\0<=d/\d<(b.length:Int)/\True)/\(e->(e->e)/\True)/\(e->(e->e)/\True)/\(e->(e->e)/\True)/\(e->e)/\ ∀(f:Bool),(f=bif e then ! cR (b.getD
 d.toNat default) else false)->((! f)->((! f)->(! f))/\True)/\((! f)->((! f)->(! f))/\((! f)->(! f))/\True)/\((! f)->((! f)->(! f))/\True)/\ ∀(g:Bool),g=decide ((b.length:Int)<=d)->(kN f g)/\((! f&&g)->((! f&&g)->(! f&&g))/\((! f&&g)->(! f&&g))/\True)/\((! f&&g)->((! f&&g)->(! f&&g))/\((! f&&g)->(! f&&g))/\0<=IntKind.wrap .i64 (d -(b.length:Int))/\IntKind.wrap .i64 (d -(b.length:Int))<(c.length:Int)/\True)/\(kN f g)/\(kN f g)/\(kN f g)/\((! f)->((! f)->(! f))/\(g->(! f&&g))/\True)/\(f=false->(! f))/\aw (bif f then true else bif g then ! cR (c.getD (Int.toNat (IntKind.wrap .i64 (d -(b.length:Int)))) default) else false) ((qr)=iD a b c/\(1:Int)=ec a b c) (∃(h:Int),(0<=h/\h<=(b.length:Int)+(c.length:Int)/\ ∀(i:Bool×Int×Int),i∈List.take h.toNat (b++c)->cR i=true)/\Int.toNat ((b.length:Int)+(c.length:Int) -h)<Int.toNat ((b.length:Int)+(c.length:Int)
 -d)/\b=b/\c=c/\(0:Int)=0/\IntKind.wrap .i64 (d+(1:Int))=h/\(pA a))) (aw (decide (1099511627776<=a.1)) ((qr)=iD a b c/\(5:Int)=ec a b c) ((∃(e:Int) (f:ak),(0<=e/\e<=((List.length (aD a)):Int)/\(∀(g:af),g∈List.take e.toNat (aD a)->g.1<=ac a+(1:Int))/\f=gn a e.toNat)/\b=b/\c=c/\(0:Int)=0/\(0:Int)=e/\(0:Int)=0/\(0:Int)=0/\(0:Int)=0/\(0:Int)=0/\IntKind.wrap .i64 (a.1+(1:Int))=f.1/\a.2.1=f.2.1/\a.2.2.1=f.2.2.1/\a.2.2.2.1=f.2.2.2.1/\a.2.2.2.2.1=f.2.2.2.2.1/\a.2.2.2.2.2.1=f.2.2.2.2.2.1/\a.2.2.2.2.2.2.1=f.2.2.2.2.2.2.1/\a.2.2.2.2.2.2.2.1=f.2.2.2.2.2.2.2.1/\a.2.2.2.2.2.2.2.2=f.2.2.2.2.2.2.2.2/\True)/\ ∀(e:Int)(f:ak),0<=e/\e<=((List.length (aD a)):Int)/\(∀(g:af),g∈List.take e.toNat (aD a)->g.1<=ac a+(1:Int))/\f=gn a e.toNat-> ∀(g:Bool),g=decide (e<(gp f))->(g->(g->g)/\True)/\(g->(g->g)/\(g->g)/\0<=e/\e<(gp
 f)/\True)/\(g->(g->g)/\True)/\(g->(g->g)/\True)/\(g->(g->g)/\True)/\(g->(g->g)/\(g->g)/\True)/\(g->g)/\aw (bif g then decide ((ka e f).1=f.1) else false) (0<=e/\e<(gp f)/\(3:Nat)<=List.length (ka e f).2.2/\((List.length (ka e f).2.2):Int)<=1000000/\0<=ay f/\ay f<=100000/\0<=aj f/\aj f<=100000/\List.length (aK f)<=(100000:Nat)/\List.length (aA f)<=(100000:Nat)/\ ∃(h:Int) (i:ak),(0<=h/\h<=((List.length (aD a)):Int)/\(∀(j:af),j∈List.take h.toNat (aD a)->j.1<=ac a+(1:Int))/\i=gn a h.toNat)/\Int.toNat (((List.length (aD a)):Int) -h)<Int.toNat (((List.length (aD a)):Int) -e)/\b=b/\c=c/\(0:Int)=0/\IntKind.wrap .i64 (e+(1:Int))=h/\(0:Int)=0/\(0:Int)=0/\(0:Int)=0/\(0:Int)=0/\f.1=i.1/\f.2.1=i.2.1/\f.2.2.1=i.2.2.1/\f.2.2.2.1=i.2.2.2.1/\f.2.2.2.2.1=i.2.2.2.2.1/\(oJ e f).1=i.2.2.2.2.2.1/\(oJ e
 f).2=i.2.2.2.2.2.2.1/\f.2.2.2.2.2.2.2.1=i.2.2.2.2.2.2.2.1/\f.2.2.2.2.2.2.2.2=i.2.2.2.2.2.2.2.2/\True) (0<=e/\e<=(gp f)/\(gp f)<=(gp f)/\aw (decide (0<e)) (List.length (aK (j7 e f))<=(65535:Nat)/\List.length (aA (j7 e f))<=(100000:Nat)/\(∀(h:au),h∈aA (j7 e f)->0<=h.1/\h.1<=65535)/\(0:Int)<=0/\(f.2.2.2.2.2.2.2.2.length:Int)<=1000000/\0<=f.1/\f.1<=1125899906842624/\0<=f.2.1/\f.2.1<=1125899906842624/\fv (bd c (Int.toNat (0:Int)))/\ ∃(h:ak),h=dA a c (ay a)/\b=b/\c=c/\(0:Int)=0/\(0:Int)=0/\(0:Int)=0/\(0:Int)=0/\(0:Int)=0/\f.1=h.1/\(qp c e f).1=h.2.1/\f.2.2.1=h.2.2.1/\f.2.2.2.1=h.2.2.2.1/\f.2.2.2.2.1=h.2.2.2.2.1/\f.2.2.2.2.2.1=h.2.2.2.2.2.1/\f.2.2.2.2.2.2.1=h.2.2.2.2.2.2.1/\a7 f.2.2.2.2.2.2.2.1 e.toNat (Int.toNat (gp f))=h.2.2.2.2.2.2.2.1/\(qp c e f).2=h.2.2.2.2.2.2.2.2/\True) (∃(h:ak),h=dA a c (ay
 a)/\b=b/\c=c/\(0:Int)=0/\(0:Int)=0/\(0:Int)=0/\(0:Int)=0/\(0:Int)=0/\f.1=h.1/\f.2.1=h.2.1/\f.2.2.1=h.2.2.1/\f.2.2.2.1=h.2.2.2.1/\f.2.2.2.2.1=h.2.2.2.2.1/\f.2.2.2.2.2.1=h.2.2.2.2.2.1/\f.2.2.2.2.2.2.1=h.2.2.2.2.2.2.1/\a7 f.2.2.2.2.2.2.2.1 e.toNat (Int.toNat (gp f))=h.2.2.2.2.2.2.2.1/\f.2.2.2.2.2.2.2.2=h.2.2.2.2.2.2.2.2/\True)/\ ∀(h:ak),h=dA a c (ay a)->(∃(i:Int) (j:ak),∃(k:List Int),(0<=i/\i<=((List.length (am a c).2):Int)/\(∀(l:af),l∈List.take i.toNat (am a c).2->l.1<=ac a+(1:Int))/\j=dA a c (bw (ay a) (List.take i.toNat (am a c).2))/\k=bF (List.take i.toNat (am a
 c).2))/\b=b/\c=c/\(0:Int)=0/\(0:Int)=i/\(0:Int)=0/\(0:Int)=0/\(0:Int)=0/\(0:Int)=0/\h.1=j.1/\h.2.1=j.2.1/\h.2.2.1=j.2.2.1/\h.2.2.2.1=j.2.2.2.1/\h.2.2.2.2.1=j.2.2.2.2.1/\h.2.2.2.2.2.1=j.2.2.2.2.2.1/\h.2.2.2.2.2.2.1=j.2.2.2.2.2.2.1/\h.2.2.2.2.2.2.2.1=j.2.2.2.2.2.2.2.1/\h.2.2.2.2.2.2.2.2=j.2.2.2.2.2.2.2.2/\k=([]:List Int)/\True)/\ ∀(i:Int)(j:ak)(k:List Int),0<=i/\i<=((List.length (am a c).2):Int)/\(∀(l:af),l∈List.take i.toNat (am a c).2->l.1<=ac a+(1:Int))/\j=dA a c (bw (ay a) (List.take i.toNat (am a c).2))/\k=bF (List.take i.toNat (am a c).2)-> ∀(l:Bool),l=decide (i<(ie j))->(l->(l->l)/\True)/\(l->(l->l)/\(l->l)/\0<=i/\i<(ie j)/\True)/\(l->(l->l)/\True)/\(l->(l->l)/\True)/\(l->(l->l)/\True)/\(l->(l->l)/\(l->l)/\True)/\(l->l)/\aw (bif l then decide ((fe i j).1=j.1) else false) (0<=i/\i<(ie j)/\(gR i j)<=9223372036854775807/\(∃(m:Int) (n:List
 Int),(3<=m/\m<=(gR i j)/\(m -(3:Int))%(2:Int)=0/\n=k++cu (List.take (Int.toNat (m -(3:Int))) (List.drop (3:Nat) (fe i j).2.2)))/\b=b/\c=c/\(0:Int)=0/\i=i/\(fe i j).2.2=(fe i j).2.2/\(3:Int)=m/\j.1=j.1/\j.2.1=j.2.1/\j.2.2.1=j.2.2.1/\j.2.2.2.1=j.2.2.2.1/\max j.2.2.2.2.1 (jD i j)=max j.2.2.2.2.1 (jD i j)/\j.2.2.2.2.2.1=j.2.2.2.2.2.1/\j.2.2.2.2.2.2.1=j.2.2.2.2.2.2.1/\j.2.2.2.2.2.2.2.1=j.2.2.2.2.2.2.2.1/\j.2.2.2.2.2.2.2.2=j.2.2.2.2.2.2.2.2/\(0:Int)=0/\(0:Int)=0/\(0:Int)=0/\(0:Int)=0/\k=n/\True)/\ ∀(m:Int)(n:List Int),3<=m/\m<=(gR i j)/\(m -(3:Int))%(2:Int)=0/\n=k++cu (List.take (Int.toNat (m -(3:Int))) (List.drop (3:Nat) (fe i j).2.2))->aw (decide (IntKind.wrap .i64 (m+(1:Int))<(gR i j))) ((gR i j)<=9223372036854775807/\(n.length+List.length [bJ (fe i j).2.2 m (2:Int)])*(8:Nat)<=(fP)/\ ∃(o:Int) (p:List Int),(3<=o/\o<=(gR i j)/\(o
 -(3:Int))%(2:Int)=0/\p=k++cu (List.take (Int.toNat (o -(3:Int))) (List.drop (3:Nat) (fe i j).2.2)))/\Int.toNat ((gR i j) -o)<Int.toNat ((gR i j) -m)/\b=b/\c=c/\(0:Int)=0/\i=i/\(fe i j).2.2=(fe i j).2.2/\IntKind.wrap .i64 (m+(2:Int))=o/\j.1=j.1/\j.2.1=j.2.1/\j.2.2.1=j.2.2.1/\j.2.2.2.1=j.2.2.2.1/\max j.2.2.2.2.1 (jD i j)=max j.2.2.2.2.1 (jD i j)/\j.2.2.2.2.2.1=j.2.2.2.2.2.1/\j.2.2.2.2.2.2.1=j.2.2.2.2.2.2.1/\j.2.2.2.2.2.2.2.1=j.2.2.2.2.2.2.2.1/\j.2.2.2.2.2.2.2.2=j.2.2.2.2.2.2.2.2/\(0:Int)=0/\(0:Int)=0/\(0:Int)=0/\(0:Int)=0/\n++[bJ (fe i j).2.2 m (2:Int)]=p/\True) (∃(o:Int) (p:ak),∃(q:List Int),(0<=o/\o<=((List.length (am a c).2):Int)/\(∀(r:af),r∈List.take o.toNat (am a c).2->r.1<=ac a+(1:Int))/\p=dA a c (bw (ay a) (List.take o.toNat (am a c).2))/\q=bF (List.take o.toNat (am a c).2))/\Int.toNat (((List.length (am a c).2):Int) -o)<Int.toNat
 (((List.length (am a c).2):Int) -i)/\b=b/\c=c/\(0:Int)=0/\IntKind.wrap .i64 (i+(1:Int))=o/\(0:Int)=0/\(0:Int)=0/\(0:Int)=0/\(0:Int)=0/\j.1=p.1/\j.2.1=p.2.1/\j.2.2.1=p.2.2.1/\j.2.2.2.1=p.2.2.2.1/\max j.2.2.2.2.1 (jD i j)=p.2.2.2.2.1/\j.2.2.2.2.2.1=p.2.2.2.2.2.1/\j.2.2.2.2.2.2.1=p.2.2.2.2.2.2.1/\j.2.2.2.2.2.2.2.1=p.2.2.2.2.2.2.2.1/\j.2.2.2.2.2.2.2.2=p.2.2.2.2.2.2.2.2/\n=q/\True)) (0<=i/\i<=(ie j)/\(ie j)<=(ie j)/\(∃(m:Int) (n:Int),∃(o:Int) (p:List af),(av a c<=m/\0<=n/\n<=m -av a c/\ct (ac a+(1:Int)) o p/\o<=(am a c).1+(9:Int)*n/\m<=av a c+aj a/\bR (ac a+(1:Int)) (ae a) b (eZ a c m) n.toNat (o,p)=cL a b c)/\b=b/\c=c/\(0:Int)=0/\(0:Int)=n/\j.2.2.2.2.1=m/\k=k/\(0:Int)=0/\(0:Int)=0/\(0:Int)=0/\(0:Int)=0/\j.1=ac a+(1:Int)/\j.2.1=o/\j.2.2.1=aj a/\j.2.2.2.1=ae a/\j.2.2.2.2.1=av a c/\j.2.2.2.2.2.1=(aE a).1/\j.2.2.2.2.2.2.1=(aE
 a).2/\j.2.2.2.2.2.2.2.1=p/\a7 j.2.2.2.2.2.2.2.2 i.toNat (Int.toNat (ie j))=aP (ac a+(1:Int)) (am a c).2/\True)/\ ∀(m n o:Int)(p:List af),av a c<=m/\0<=n/\n<=m -av a c/\ct (ac a+(1:Int)) o p/\o<=(am a c).1+(9:Int)*n/\m<=av a c+aj a/\bR (ac a+(1:Int)) (ae a) b (eZ a c m) n.toNat (o,p)=cL a b c-> ∀(q:Bool),q=decide (m<((List.length (ae a)):Int))->(q->(q->q)/\True)/\(q->(q->q)/\True)/\(q->(q->q)/\(q->q)/\True)/\(q->(q->q)/\(q->q)/\True)/\(q->q)/\aw (bif q then decide (m<IntKind.wrap .i64 (av a c+aj a)) else false) ((∃(r:Int) (s:Bool),(0<=r/\r<=(k.length:Int)/\s=decide (m∈List.take r.toNat k))/\b=b/\c=c/\(0:Int)=0/\n=n/\m=m/\false=s/\(0:Int)=r/\ac a+(1:Int)=ac a+(1:Int)/\o=o/\aj a=aj a/\ae a=ae a/\av a c=av a c/\(aE a).1=(aE a).1/\(aE a).2=(aE a).2/\p=p/\aP (ac a+(1:Int)) (am a c).2=aP (ac a+(1:Int)) (am a
 c).2/\k=k/\(my))/\ ∀(r:Int)(s:Bool),0<=r/\r<=(k.length:Int)/\s=decide (m∈List.take r.toNat k)->aw (decide (r<(k.length:Int))) (∀(t:Bool),t=s->((! t)->((! t)->(! t))/\((! t)->(! t))/\0<=r/\r<(k.length:Int)/\True)/\((! t)->((! t)->(! t))/\True)/\((! t)->((! t)->(! t))/\((! t)->(! t))/\True)/\(t=false->(! t))/\ ∃(u:Int) (v:Bool),(0<=u/\u<=(k.length:Int)/\v=decide (m∈List.take u.toNat k))/\Int.toNat ((k.length:Int) -u)<Int.toNat ((k.length:Int) -r)/\b=b/\c=c/\(0:Int)=0/\n=n/\m=m/\(bif t then true else decide (k.getD r.toNat default=m))=v/\IntKind.wrap .i64 (r+(1:Int))=u/\ac a+(1:Int)=ac a+(1:Int)/\o=o/\aj a=aj a/\ae a=ae a/\av a c=av a c/\(aE a).1=(aE a).1/\(aE a).2=(aE a).2/\p=p/\aP (ac a+(1:Int)) (am a c).2=aP (ac a+(1:Int)) (am a c).2/\k=k/\(my)) (aw (! s) (0<=m/\m<=65535/\m<((List.length (ae a)):Int)/\List.length (List.getD (ae a) m.toNat
 default)<=(1048576:Nat)/\0<=n/\(p.length:Int)<=1000000/\0<=ac a+(1:Int)/\ac a+(1:Int)<=1125899906842624/\0<=o/\o<=1125899906842624/\fv (bd b n.toNat)/\ ∃(t:Int) (u:Int),∃(v:Int) (w:List af),(av a c<=t/\0<=u/\u<=t -av a c/\ct (ac a+(1:Int)) v w/\v<=(am a c).1+(9:Int)*u/\t<=av a c+aj a/\bR (ac a+(1:Int)) (ae a) b (eZ a c t) u.toNat (v,w)=cL a b c)/\Int.toNat (av a c+aj a -t)<Int.toNat (av a c+aj a -m)/\b=b/\c=c/\(0:Int)=0/\IntKind.wrap .i64 (n+(1:Int))=u/\IntKind.wrap .i64 (m+(1:Int))=t/\k=k/\(0:Int)=0/\(0:Int)=0/\(0:Int)=0/\(0:Int)=0/\ac a+(1:Int)=ac a+(1:Int)/\(a8 (ac a+(1:Int)) (bO m (List.getD (ae a) m.toNat default)) (bd b n.toNat) (o,p)).1=v/\aj a=aj a/\ae a=ae a/\av a c=av a c/\(aE a).1=(aE a).1/\(aE a).2=(aE a).2/\(a8 (ac a+(1:Int)) (bO m (List.getD (ae a) m.toNat default)) (bd b n.toNat)
 (o,p)).2=w/\aP (ac a+(1:Int)) (am a c).2=aP (ac a+(1:Int)) (am a c).2/\True) (∃(t:Int) (u:Int),∃(v:Int) (w:List af),(av a c<=t/\0<=u/\u<=t -av a c/\ct (ac a+(1:Int)) v w/\v<=(am a c).1+(9:Int)*u/\t<=av a c+aj a/\bR (ac a+(1:Int)) (ae a) b (eZ a c t) u.toNat (v,w)=cL a b c)/\Int.toNat (av a c+aj a -t)<Int.toNat (av a c+aj a -m)/\b=b/\c=c/\(0:Int)=0/\n=u/\IntKind.wrap .i64 (m+(1:Int))=t/\k=k/\(0:Int)=0/\(0:Int)=0/\(0:Int)=0/\(0:Int)=0/\ac a+(1:Int)=ac a+(1:Int)/\o=v/\aj a=aj a/\ae a=ae a/\av a c=av a c/\(aE a).1=(aE a).1/\(aE a).2=(aE a).2/\p=w/\aP (ac a+(1:Int)) (am a c).2=aP (ac a+(1:Int)) (am a c).2/\True))) ((ac a+(1:Int),o,aj a,ae a,av a c,(aE a).1,(aE a).2,p,aP (ac a+(1:Int)) (am a c).2)=iD a b c/\(0:Int)=ec a b c))))):=by
  delta j7 fe ka gp qr gR pA ie qp fP jD my oJ kN
  rintro c ds us-⟨⟨hx,ho⟩,hd1,hu1⟩
  rw[ag (n:=(ds.length:Int)+us.length) (by omega) (by omega)]
  refine⟨⟨0,⟨by omega,by omega,by simp⟩,(by repeat' first|exact trivial|refine⟨trivial,?_⟩|refine⟨(by with_reducible rfl),?_⟩|refine⟨ag (by omega) (by omega),?_⟩|refine⟨rfl,?_⟩)⟩,?_⟩
  rintro j ⟨j0,j1,hok⟩
  have happ:((ds++us).length:Int)=ds.length+us.length:=by rw[List.length_append];omega
  refine aJ (fun hj=>?_) (fun hj=>?_)
  ·have hj:=of_decide_eq_true hj
   rw[ag (n:=j-(ds.length:Int)) (by omega) (by omega)]
   have hmem:=cy (xs:=ds++us) j0 (by omega)
   have hnx:=c5 (l:=ds++us) j0 (by omega)
   have hel:(ds++us).getD j.toNat default=if j<ds.length then ds.getD j.toNat default else us.getD (j-(ds.length:Int)).toNat default:=by
    rw[List.getD_eq_getElem?_getD]
    split
    ·rw[List.getElem?_append_left (by omega),List.getD_eq_getElem?_getD]
    ·rw[List.getElem?_append_right (by omega),List.getD_eq_getElem?_getD,show j.toNat-ds.length=(j-(ds.length:Int)).toNat by omega]
   (repeat (intro (b_:Bool) (hb_:b_=_);(repeat refine⟨(by first|(simp;done)|(rw[hb_];simp;done)|(rw[hb_];simp;omega)|(rw[hb_];simp;intros;omega)|(rw[hb_];simp +contextual;done)),?_⟩);subst hb_))
   refine⟨fun h_=>(by rw[h_];rfl),?_⟩
   have hc:(bif bif decide (j<(ds.length:Int)) then !cR (ds.getD j.toNat default) else false then true else bif decide ((ds.length:Int)<=j) then !cR (us.getD (j-(ds.length:Int)).toNat default) else false) = !cR ((ds++us).getD j.toNat default):=by
    rw[hel]
    by_cases h:j<(ds.length:Int)
    ·rw[if_pos h,decide_eq_true h,decide_eq_false (show ¬ (ds.length:Int)<=j by omega)]
     cases cR (ds.getD j.toNat default) <;> rfl
    ·rw[if_neg h,decide_eq_false h,decide_eq_true (show (ds.length:Int)<=j by omega)]
     rfl
   rw[hc]
   refine aJ (fun hq=>?_) (fun hq=>?_)
   ·have hq:cR ((ds++us).getD j.toNat default)=false:=by simpa using hq
    have e:ec c ds us=1:=by
     unfold ec
     refine if_pos (Bool.eq_false_iff.2 fun k=>?_)
     obtain⟨k1,k2⟩:=Bool.and_eq_true_iff.1 k
     have:cR ((ds++us).getD j.toNat default)=true:=by
      rcases List.mem_append.1 hmem with q|q
      ·exact List.all_eq_true.1 k1 _ q
      ·exact List.all_eq_true.1 k2 _ q
     rw[hq] at this;cases this
    unfold iD
    rw[e]
    exact⟨rfl,rfl⟩
   ·have hq:cR ((ds++us).getD j.toNat default)=true:=by simpa using hq
    refine⟨j+1,⟨by omega,by omega,fun x hx=>?_⟩,by omega,(by repeat' first|exact trivial|refine⟨trivial,?_⟩|refine⟨(by with_reducible rfl),?_⟩|refine⟨ag (by omega) (by omega),?_⟩|refine⟨rfl,?_⟩)⟩
    rw[hnx] at hx
    rcases List.mem_append.1 hx with hx|hx
    ·exact hok x hx
    ·rw[List.mem_singleton.1 hx];exact hq
  have hj:=of_decide_eq_false hj
  rw[List.take_of_length_le (by omega)] at hok
  have hB1:fQ ds=true:=List.all_eq_true.2 fun x hx=>hok x (List.mem_append_left _ hx)
  have hB2:fQ us=true:=List.all_eq_true.2 fun x hx=>hok x (List.mem_append_right _ hx)
  have hd:=nw.1 hB1
  have hu:=nw.1 hB2
  refine aJ (fun h3=>?_) (fun h3=>?_)
  ·have h3:1099511627776<=ac c:=of_decide_eq_true h3
   have e:ec c ds us=5:=by
    unfold ec
    rw[hB1,hB2,if_neg (by decide),if_pos h3]
   unfold iD
   rw[e]
   exact⟨rfl,rfl⟩
  have hnow:¬ 1099511627776<=ac c:=of_decide_eq_false h3
  have hE:ec c ds us=0:=by
   unfold ec
   rw[hB1,hB2,if_neg (by decide),if_neg hnow]
  have hC:iD c ds us=bc c ds us:=if_pos hE
  rw[hE,hC]
  clear hE hC hok j0 j1 happ hB1 hB2 h3
  have n0:=hx.now
  have o0:=hx.ord
  have hwin:=hx.win
  have hlog:=hx.log
  have hkn:=hx.kn
  have hgl:(aK c).length<=(ae c).length:=hx.rc.n
  obtain⟨⟨pu1,pu2,pu3,pu4⟩,pk1,pk2⟩:=hx.parts hu
  obtain⟨q1,q2,q3,q4⟩:=lH (ac c+1) (aD c)
  have q5:=rp (ac c+1) (aD c)
  have ew:IntKind.i64.wrap (c.1+1)=ac c+1:=ag (by show _<=ac c+1;omega) (by show ac c+1<=_;omega)
  rw[ew]
  have hdl:=hx.dn.n
  have hrec:∀ n:Nat,gC (ae c) (ay c+aj c) (bS (ay c+aj c) ((aD c).take n) (aK c,aA c)):=fun n =>
   (iO hlog (l:=(aD c).take n) hx.rc fun t ht=>hx.dd t (List.mem_of_mem_take ht)).1
  have hrt:∀ n:Nat,_:=fun n=>n9 (g:=(bS (ay c+aj c) ((aD c).take n) (aK c,aA c)).1) (e:=(bS (ay c+aj c) ((aD c).take n) (aK c,aA c)).2) (hrec n) hlog ⟨hkn.1,by omega⟩ hwin
  refine⟨⟨0,gn c 0,⟨by omega,by omega,by simp,rfl⟩,(by repeat' first|exact trivial|refine⟨trivial,?_⟩|refine⟨(by with_reducible rfl),?_⟩|refine⟨ag (by omega) (by omega),?_⟩|refine⟨rfl,?_⟩)⟩,?_⟩
  rintro j b ⟨j0,j1,hj1,rfl⟩
  have e8:(gn c j.toNat).2.2.2.2.2.2.2.1=aD c:=rfl
  have e1:(gn c j.toNat).1=ac c+1:=rfl
  rw[e8,e1]
  (repeat (intro (b_:Bool) (hb_:b_=_);(repeat refine⟨(by first|(simp;done)|(rw[hb_];simp;done)|(rw[hb_];simp;omega)|(rw[hb_];simp;intros;omega)|(rw[hb_];simp +contextual;done)),?_⟩);subst hb_))
  obtain⟨t1,t2,t3,t4⟩:=hrt j.toNat
  refine gZ (fun h1 h2=>?_) (fun h1=>?_)
  ·have h1:=of_decide_eq_true h1
   have h2:=of_decide_eq_true h2
   have hmem:=cy (xs:=aD c) j0 h1
   obtain⟨d1,d2⟩:=nT (hx.dd _ hmem) hx.it
   have hnx:=c5 (l:=aD c) j0 h1
   generalize (aD c).getD j.toNat default=T at *
   refine⟨j0,h1,d1,by omega,hkn.1,by show ay c<=_;omega,by show 0<=aj c;omega,by show aj c<=_;omega,by show (bS (ay c+aj c) ((aD c).take j.toNat) (aK c,aA c)).1.length<=_;omega,by show (bS (ay c+aj c) ((aD c).take j.toNat) (aK c,aA c)).2.length<=_;omega,
    j+1,(ac c+1,bm c,aj c,ae c,ay c,(bY (ay c+aj c) (bS (ay c+aj c) ((aD c).take j.toNat) (aK c,aA c)) (aR T.2.2 1) (T.2.2.drop 3)).1,(bY (ay c+aj c) (bS (ay c+aj c) ((aD c).take j.toNat) (aK c,aA c)) (aR T.2.2 1) (T.2.2.drop 3)).2,aD c,bk c),⟨by omega,by omega,fun t ht=>?_,?_⟩,by omega,(by repeat' first|exact trivial|refine⟨trivial,?_⟩|refine⟨(by with_reducible rfl),?_⟩|refine⟨ag (by omega) (by omega),?_⟩|refine⟨rfl,?_⟩)⟩
   ·rw[hnx] at ht
    rcases List.mem_append.1 ht with ht|ht
    ·exact hj1 t ht
    ·rw[List.mem_singleton.1 ht];omega
   ·unfold gn
    rw[hnx,sO]
  have hjn:j.toNat=(ai (ac c+1) (aD c)).length:=by
   refine mj j0 j1 hj1 ?_
   rcases h1 with h1|h1
   ·exact .inl (of_decide_eq_false h1)
   ·by_cases hj2:j<(aD c).length
    ·have h1:=of_decide_eq_false h1
     have:=(hx.dn.r _ (cy (xs:=aD c) j0 hj2)).1
     exact .inr (by omega)
    ·exact .inl hj2
  have eS:a7 (aD c) j.toNat (Int.toNat ((aD c).length:Int))=aP (ac c+1) (aD c):=by
   unfold a7;rw[Int.toNat_natCast,List.take_length,hjn];exact q2
  rw[eS]
  have eA:bS (ay c+aj c) ((aD c).take j.toNat) (aK c,aA c)=aE c:=by rw[hjn,q5];rfl
  rw[eA] at t1 t2 t3 t4
  have eA1:(gn c j.toNat)=(ac c+1,bm c,aj c,ae c,ay c,(aE c).1,(aE c).2,aD c,bk c):=by unfold gn;rw[eA]
  rw[eA1]
  have hf0:=iE hu 0
  refine⟨j0,by omega,by omega,aJ (fun h=>?_) (fun h=>?_),?_⟩
  ·have h:=of_decide_eq_true h
   have eU:am c us=a8 (ac c+1) (bp ((aE c).1.length:Int) ((aE c).2.map (·.1))) (bd us 0) (bm c,bk c):=if_neg fun k=>by rw[k] at hjn;simp at hjn;omega
   have eB:(ac c+1,(a8 (ac c+1) (bp ((aE c).1.length:Int) ((aE c).2.map (·.1))) (bd us 0) (bm c,bk c)).1,aj c,ae c,ay c,(aE c).1,(aE c).2,aP (ac c+1) (aD c),(a8 (ac c+1) (bp ((aE c).1.length:Int) ((aE c).2.map (·.1))) (bd us 0) (bm c,bk c)).2)=dA c us (ay c):=by unfold dA;rw[eU]
   have hup:=hx.up.n
   exact⟨by show (aE c).1.length<=_;omega,by show (aE c).2.length<=_;omega,fun x hx=>by have:=t4 x hx;omega,by omega,by show ((bk c).length:Int)<=_;omega,by show 0<=ac c+1;omega,by show ac c+1<=_;omega,o0,by show bm c<=_;omega,hf0,_,eB,(by repeat' first|exact trivial|refine⟨trivial,?_⟩|refine⟨(by with_reducible rfl),?_⟩|refine⟨ag (by omega) (by omega),?_⟩|refine⟨rfl,?_⟩)⟩
  ·have h:=of_decide_eq_false h
   have eU:am c us=(bm c,bk c):=if_pos (List.eq_nil_of_length_eq_zero (by omega))
   have eB:(ac c+1,bm c,aj c,ae c,ay c,(aE c).1,(aE c).2,aP (ac c+1) (aD c),bk c)=dA c us (ay c):=by unfold dA;rw[eU]
   exact⟨_,eB,(by repeat' first|exact trivial|refine⟨trivial,?_⟩|refine⟨(by with_reducible rfl),?_⟩|refine⟨ag (by omega) (by omega),?_⟩|refine⟨rfl,?_⟩)⟩
  clear eA eA1 eS hjn h1 e8 e1 hj1 j0 j1 hrt
  rintro _ rfl
  refine⟨⟨0,dA c us (ay c),[],⟨by omega,by omega,by simp,rfl,rfl⟩,(by repeat' first|exact trivial|refine⟨trivial,?_⟩|refine⟨(by with_reducible rfl),?_⟩|refine⟨ag (by omega) (by omega),?_⟩|refine⟨rfl,?_⟩)⟩,?_⟩
  rintro h b nt ⟨h0,h1,hh,rfl,rfl⟩
  have e9:(dA c us (bw (ay c) ((am c us).2.take h.toNat))).2.2.2.2.2.2.2.2=(am c us).2:=rfl
  have e1:(dA c us (bw (ay c) ((am c us).2.take h.toNat))).1=ac c+1:=rfl
  rw[e9,e1]
  (repeat (intro (b_:Bool) (hb_:b_=_);(repeat refine⟨(by first|(simp;done)|(rw[hb_];simp;done)|(rw[hb_];simp;omega)|(rw[hb_];simp;intros;omega)|(rw[hb_];simp +contextual;done)),?_⟩);subst hb_))
  have hun:=pu1.n
  have hodd:∀ t∈(am c us).2,∃ m:Nat,t.2.2.length=3+2*m/\m<=2000:=fun t ht=>nJ (pu4 t ht) hlog
  refine gZ (fun h2 h3=>?_) (fun h2=>?_)
  ·have h2:=of_decide_eq_true h2
   have h3:=of_decide_eq_true h3
   have hmem:=cy (xs:=(am c us).2) h0 h2
   have ht:=c5 (l:=(am c us).2) h0 h2
   obtain⟨m,hl,hm2⟩:=hodd _ hmem
   generalize (am c us).2.getD h.toNat default=T at *
   have eM:bJ T.2.2 1 2=aR T.2.2 1:=rfl
   rw[eM]
   refine⟨h0,h2,by omega,⟨3,_,⟨by omega,by omega,rfl,rfl⟩,by (repeat first|refine⟨trivial,?_⟩|refine⟨(by with_reducible rfl),?_⟩|refine⟨ag (by omega) (by omega),?_⟩);exact⟨by simp[cu],trivial⟩⟩,?_⟩
   rintro a nt2 ⟨a0,a1,a2,rfl⟩
   have hhn:=nj (l:=(am c us).2.take h.toNat) fun t ht=>hodd t (List.mem_of_mem_take ht)
   have hlt:((am c us).2.take h.toNat).length<=(am c us).2.length:=by rw[List.length_take];omega
   rw[ag (n:=a+1) (by omega) (by omega)]
   refine aJ (fun ha=>?_) (fun ha=>?_)
   ·have ha:=of_decide_eq_true ha
    obtain⟨q,hq⟩:∃ q:Nat,a=3+2*(q:Int):=⟨((a-3)/2).toNat,by omega⟩
    subst hq
    have hp:=mT _ ((T.2.2.drop 3).take (3+2*(q:Int)-3).toNat) (Nat.le_refl _)
    have e1:(3+2*(q:Int)-3).toNat=2*q:=by omega
    have e2:(3+2*(q:Int)+2-3).toNat=2*q+2:=by omega
    have e3:(3+2*(q:Int))=((3+2*q:Nat):Int):=by omega
    have e4:bJ T.2.2 (3+2*(q:Int)) 2=(T.2.2.drop 3).getD (2*q) 0*256+(T.2.2.drop 3).getD (2*q+1) 0:=by
     show aR T.2.2 (3+2*(q:Int))=_
     rw[e3,qU (by omega),← List.drop_drop]
     simp only[List.getD_eq_getElem?_getD,List.getElem?_drop,Nat.add_zero]
    refine⟨by omega,?_,3+2*(q:Int)+2,_,⟨by omega,by omega,by omega,rfl⟩,by omega,?_⟩
    ·rw[List.length_append,hp,List.length_singleton,List.length_take,List.length_drop];omega
    ·(repeat first|refine⟨trivial,?_⟩|refine⟨(by with_reducible rfl),?_⟩|refine⟨ag (by omega) (by omega),?_⟩)
     exact⟨by rw[e1,e2,e4,oM q (by rw[List.length_drop];omega),List.append_assoc],trivial⟩
   ·have ha:=of_decide_eq_false ha
    have w1:max (bw (ay c) ((am c us).2.take h.toNat)) (aR T.2.2 1)=bw (ay c) ((am c us).2.take (h+1).toNat):=by rw[ht,rh]
    have w2:bF ((am c us).2.take h.toNat)++cu ((T.2.2.drop 3).take (a-3).toNat)=bF ((am c us).2.take (h+1).toNat):=by rw[ht,tR,List.take_of_length_le (l:=T.2.2.drop 3) (by rw[List.length_drop];omega)]
    have w3:max (dA c us (bw (ay c) ((am c us).2.take h.toNat))).2.2.2.2.1 (aR T.2.2 1)=bw (ay c) ((am c us).2.take (h+1).toNat):=w1
    rw[w2,w3]
    refine⟨h+1,dA c us (bw (ay c) ((am c us).2.take (h+1).toNat)),_,⟨by omega,by omega,fun t htt=>?_,rfl,rfl⟩,by omega,(by repeat' first|exact trivial|refine⟨trivial,?_⟩|refine⟨(by with_reducible rfl),?_⟩|refine⟨ag (by omega) (by omega),?_⟩|refine⟨rfl,?_⟩)⟩
    rw[ht] at htt
    rcases List.mem_append.1 htt with htt|htt
    ·exact hh t htt
    ·rw[List.mem_singleton.1 htt];omega
  have hn:h.toNat=(ai (ac c+1) (am c us).2).length:=by
   refine mj h0 h1 hh ?_
   rcases h2 with h2|h2
   ·exact .inl (of_decide_eq_false h2)
   ·by_cases hj2:h<(am c us).2.length
    ·have h2:=of_decide_eq_false h2
     have:=(pu1.r _ (cy (xs:=(am c us).2) h0 hj2)).1
     exact .inr (by omega)
    ·exact .inl hj2
  obtain⟨p1,p2,p3,p4⟩:=lH (ac c+1) (am c us).2
  have p5:=rp (ac c+1) (am c us).2
  have eS:a7 (am c us).2 h.toNat (Int.toNat ((am c us).2.length:Int))=aP (ac c+1) (am c us).2:=by
   unfold a7;rw[Int.toNat_natCast,List.take_length,hn];exact p2
  have eT:(am c us).2.take h.toNat=cZ c us:=by rw[hn];exact p5
  rw[eS,eT]
  have eK:bw (ay c) (cZ c us)=av c us:=rfl
  rw[eK]
  have hD:bR (ac c+1) (ae c) ds (eZ c us (av c us)) 0 ((am c us).1,aP (ac c+1) (aD c))=cL c ds us:=rfl
  have hR:∀ x,eZ c us x=(dD x (min ((ae c).length:Int) (av c us+aj c))).filter fun i => !(bF (cZ c us)).contains i:=fun x=>rfl
  have hdn0:=(nl (now:=ac c+1) (by omega) hx.dn).more pu2
  have hfin:∀ o dn',(o,dn')=cL c ds us->((ac c+1,o,aj c,ae c,av c us,(aE c).1,(aE c).2,dn',aP (ac c+1) (am c us).2):ak)=bc c ds us:=fun o dn' he=>by
   show _=((ac c+1,(cL c ds us).1,aj c,ae c,av c us,(aE c).1,(aE c).2,(cL c ds us).2,aP (ac c+1) (am c us).2):ak)
   rw[← he]
  refine⟨h0,by omega,by omega,⟨av c us,0,(am c us).1,aP (ac c+1) (aD c),⟨by omega,by omega,by omega,hdn0.so (by omega) (by omega),by omega,by omega,hD⟩,(by repeat' first|exact trivial|refine⟨trivial,?_⟩|refine⟨(by with_reducible rfl),?_⟩|refine⟨ag (by omega) (by omega),?_⟩|refine⟨rfl,?_⟩)⟩,?_⟩
  have hit:=hx.it
  rintro x i o dn' ⟨x0,i0,i1,hs,ho2,x1,he⟩
  rw[ag (n:=av c us+aj c) (by omega) (by omega)]
  (repeat (intro (b_:Bool) (hb_:b_=_);(repeat refine⟨(by first|(simp;done)|(rw[hb_];simp;done)|(rw[hb_];simp;omega)|(rw[hb_];simp;intros;omega)|(rw[hb_];simp +contextual;done)),?_⟩);subst hb_))
  refine gZ (fun h4 h5=>?_) (fun h4=>?_)
  ·have h4:=of_decide_eq_true h4
   have h5:=of_decide_eq_true h5
   have hcons:=qV (x:=x) (b:=min ((ae c).length:Int) (av c us+aj c)) (by omega)
   have hNl:=nj (l:=cZ c us) fun t ht=>hodd t (p4 t ht)
   have p1':(cZ c us).length<=(am c us).2.length:=p1
   generalize hN:bF (cZ c us)=N at *
   refine⟨⟨0,false,⟨by omega,by omega,by simp⟩,(by repeat' first|exact trivial|refine⟨trivial,?_⟩|refine⟨(by with_reducible rfl),?_⟩|refine⟨ag (by omega) (by omega),?_⟩|refine⟨rfl,?_⟩)⟩,?_⟩
   rintro k b ⟨k0,k1,rfl⟩
   refine aJ (fun hk=>?_) (fun hk=>?_)
   ·have hk:=of_decide_eq_true hk
    have hnx:=c5 (l:=N) k0 hk
    (repeat (intro (b_:Bool) (hb_:b_=_);(repeat refine⟨(by first|(simp;done)|(rw[hb_];simp;done)|(rw[hb_];simp;omega)|(rw[hb_];simp;intros;omega)|(rw[hb_];simp +contextual;done)),?_⟩);subst hb_))
    refine⟨k+1,_,⟨by omega,by omega,rfl⟩,by omega,?_⟩
    (repeat first|refine⟨trivial,?_⟩|refine⟨(by with_reducible rfl),?_⟩|refine⟨ag (by omega) (by omega),?_⟩)
    refine⟨?_,(by repeat' first|exact trivial|refine⟨trivial,?_⟩|refine⟨(by with_reducible rfl),?_⟩|refine⟨ag (by omega) (by omega),?_⟩|refine⟨rfl,?_⟩)⟩
    rw[hnx,A0]
    refine decide_eq_decide.2 ?_
    rw[List.mem_append,List.mem_singleton]
    exact⟨fun q=>q.imp id Eq.symm,fun q=>q.imp id Eq.symm⟩
   ·have hk:=of_decide_eq_false hk
    rw[List.take_of_length_le (by omega)]
    refine aJ (fun hm=>?_) (fun hm=>?_)
    ·have hm:=pn hm
     have hf:=iE hd i.toNat
     have hil:=hit _ (cy (xs:=ae c) (i:=x) (by omega) h4)
     have hs0:=hs
     obtain⟨-,oo,-,-,hdn⟩:=hs0
     obtain⟨s1,s2⟩:=vh (b:=bO x ((ae c).getD x.toNat default)) hf hs (by omega)
     refine⟨by omega,by omega,h4,by omega,i0,by omega,by omega,by omega,oo.1,by omega,hf,x+1,i+1,(a8 (ac c+1) (bO x ((ae c).getD x.toNat default)) (bd ds i.toNat) (o,dn')).1,(a8 (ac c+1) (bO x ((ae c).getD x.toNat default)) (bd ds i.toNat) (o,dn')).2,⟨by omega,by omega,by omega,s1,by omega,by omega,?_⟩,by omega,(by repeat' first|exact trivial|refine⟨trivial,?_⟩|refine⟨(by with_reducible rfl),?_⟩|refine⟨ag (by omega) (by omega),?_⟩|refine⟨rfl,?_⟩)⟩
     rw[← he,hR x,hR,hcons,List.filter_cons_of_pos (by simpa using hm),show (i+1).toNat=i.toNat+1 by omega]
     rfl
    ·have hm:=nW hm
     refine⟨x+1,i,o,dn',⟨by omega,i0,by omega,hs,ho2,by omega,?_⟩,by omega,(by repeat' first|exact trivial|refine⟨trivial,?_⟩|refine⟨(by with_reducible rfl),?_⟩|refine⟨ag (by omega) (by omega),?_⟩|refine⟨rfl,?_⟩)⟩
     rw[← he,hR,hR,hcons,List.filter_cons_of_neg (by simpa using hm)]
  ·have hx2:¬ x<min ((ae c).length:Int) (av c us+aj c):=by
    rcases h4 with q|q
    ·have:=of_decide_eq_false q;omega
    ·have:=of_decide_eq_false q;omega
   refine⟨hfin o dn' ?_,rfl⟩
   rw[← he,hR,tx hx2]
   rfl
theorem BE:aL Try.prog GL 30 qL.spec:=Ct.okH _ Try.func30 (by kernel_rfl) (aI (aI (aI (aI (aI (aI (aI aW v9) wc) yE) Ay) vU) uR) BS) aH xF (aX (by kernel_rfl) xa)
end Go.RS

/- Lawx1: what the laws of the exchange draw. -/
namespace Go.RS
open Go.SX Go.Proofs
set_option maxRecDepth 100000
set_option linter.unusedVariables false
def rH:Cn:=⟨[.box 58 fI,.val cI],[.val (.sl aV)],fun d=>[az d.1,0<=d.2.1,d.2.1<=1000],fun d y=>az y.2.1/\(y.1.1.length:Int)<=d.2.1,fun d h=>⟨(([],()),(d.1,())),h.1,by simp;exact h.2.1⟩⟩
def ze:aG rH.ps->aN:=(fun d=>{loops:=(fun n=>match n with|3=>some (fun S=>{ι:=Int×(List Int×Int)×(List Int),qn:=⟨fun k_=>∀(k:Int)(c:(List Int×Int))(b:(List Int)),k_ (k,c,b),fun k_ h_ i=>h_ i.1 i.2.1 i.2.2,fun k_=>∃ (k:Int) (c:(List Int×Int)) (b:(List Int)),k_ (k,c,b),fun k_ ⟨k,c,b,h_⟩=>⟨_,h_⟩⟩,μ:=fun i=>i.1.toNat,inv:=fun i=>0<=i.1/\az i.2.1/\i.2.2.length+i.1<=d.2.1,keep:=[0,4],slots:=fun i=>[(5,.own 524288 1),(6,.int .i64 i.1)],names:=fun i=>[(1048576,.live (.cells 58 (br fI i.2.1))),(524288,.live (.row 5 aV i.2.2))]})|_=>none)})
theorem vT :
 ∀(a:List Int)(b c:Int),((a.length<=maxLen/\ ∀(d:Int),d∈a->0<=d/\d<=255)/\aq b)/\aq c/\True->az (a,b)/\0<=c/\c<=1000->az (a,b)/\ ∀(d:Int)(e:List Int)(f:Int),0<=d/\(d<IntKind.wrap .i64 (c+(1:Int))∨d=0)/\az (e,f)->(∃(g:Int) (h:List Int×Int),∃(i:List Int),(0<=g/\az h/\(i.length:Int)+g<=c)/\d=g/\e=h.1/\f=h.2/\i=([]:List Int)/\True)/\ ∀(g:Int)(h:List Int×Int)(i:List Int),0<=g/\az h/\(i.length:Int)+g<=c->aw (decide (0<g)) (az h/\ ∀(j:Int)(k:List Int)(l:Int),0<=j/\(j<256∨j=0)/\az (k,l)->(i.length+List.length [IntKind.wrap .u8 j])*(1:Nat)<=(140737488355328:Nat)/\ ∃(m:Int) (n:List Int×Int),∃(o:List Int),(0<=m/\az n/\(o.length:Int)+m<=c)/\m.toNat<g.toNat/\IntKind.wrap .i64 (g -(1:Int))=m/\k=n.1/\l=n.2/\i++[IntKind.wrap .u8 j]=o/\True) (az h/\(i.length:Int)<=c):=by
  rintro l p n-⟨hc,n0,n1⟩
  refine⟨hc,?_⟩
  rintro k l2 p2 ⟨k0,k1,hc2⟩
  rw[ag (by omega) (by omega)] at k1
  refine⟨⟨k,(l2,p2),[],⟨k0,hc2,by simp only[List.length_nil];omega⟩,(by repeat' first|exact trivial|refine⟨trivial,?_⟩|refine⟨(by with_reducible rfl),?_⟩|refine⟨ag (by omega) (by omega),?_⟩|refine⟨rfl,?_⟩)⟩,?_⟩
  rintro k c b ⟨k0,hc,hb⟩
  refine aJ (fun h=>⟨hc,?_⟩) (fun h=>⟨hc,by omega⟩)
  have h:=of_decide_eq_true h
  rintro x l3 p3 ⟨-,-,hc3⟩
  exact⟨by simp only[List.length_singleton];omega,k-1,(l3,p3),b++[IntKind.wrap IntKind.u8 x],⟨by omega,hc3,by rw[List.length_append,List.length_singleton];omega⟩,by omega,(by repeat' first|exact trivial|refine⟨trivial,?_⟩|refine⟨(by with_reducible rfl),?_⟩|refine⟨ag (by omega) (by omega),?_⟩|refine⟨rfl,?_⟩)⟩
theorem Bk:aL Try.prog GL 19 rH.spec:=Cn.okH _ Try.func19 (by kernel_rfl) (aI aW lG) aH ze (aX (by kernel_rfl) vT)
def r7:Cn:=⟨[.box 58 fI,.val cI],[.own 67 ep],fun d=>[az d.1,0<=d.2.1,d.2.1<=1000],fun d y=>az y.2.1/\(y.1.1.length:Int)<=d.2.1∧∀ f∈y.1.1,0<=f.2.2/\f.2.2<=1,fun d h=>⟨(([],()),(d.1,())),h.1,by simp;exact h.2.1,by simp⟩⟩
def Bf:aG r7.ps->aN:=(fun d=>{loops:=(fun n=>match n with|3=>some (fun S=>{ι:=Int×(List Int×Int)×(List aY),qn:=⟨fun k_=>∀(k:Int)(c:(List Int×Int))(l:(List aY)),k_ (k,c,l),fun k_ h_ i=>h_ i.1 i.2.1 i.2.2,fun k_=>∃ (k:Int) (c:(List Int×Int)) (l:(List aY)),k_ (k,c,l),fun k_ ⟨k,c,l,h_⟩=>⟨_,h_⟩⟩,μ:=fun i=>i.1.toNat,inv:=fun i=>0<=i.1/\az i.2.1/\i.2.2.length+i.1<=d.2.1∧∀ f∈i.2.2,0<=f.2.2/\f.2.2<=1,keep:=[0,4],slots:=fun i=>[(5,.own 524288 3),(6,.int .i64 i.1)],names:=fun i=>[(1048576,.live (.cells 58 (br fI i.2.1))),(524288,.live (.row 67 ep i.2.2))]})|_=>none)})
theorem AI :
 ∀(a:List Int)(b c:Int),((a.length<=maxLen/\ ∀(d:Int),d∈a->0<=d/\d<=255)/\aq b)/\aq c/\True->az (a,b)/\0<=c/\c<=1000->az (a,b)/\ ∀(d:Int)(e:List Int)(f:Int),0<=d/\(d<IntKind.wrap .i64 (c+(1:Int))∨d=0)/\az (e,f)->(∃(g:Int) (h:List Int×Int),∃(i:List aY),(0<=g/\az h/\(i.length:Int)+g<=c/\ ∀(j:aY),j∈i->0<=j.2.2/\j.2.2<=1)/\d=g/\e=h.1/\f=h.2/\i=([]:List (Bool×Int×Int))/\True)/\ ∀(g:Int)(h:List Int×Int)(i:List aY),(0<=g/\az h/\(i.length:Int)+g<=c/\ ∀(j:aY),j∈i->0<=j.2.2/\j.2.2<=1)->aw (decide (0<g)) (az h/\ ∀(j:Int)(k:List Int)(l:Int),0<=j/\(j<4∨j=0)/\az (k,l)->az (k,l)/\ ∀(m:Int)(n:List Int)(o:Int),0<=m/\(m<4∨m=0)/\az (n,o)->az (n,o)/\ ∀(p:Int)(q:List Int)(r:Int),0<=p/\(p<8∨p=0)/\az (q,r)->(6:Int)≠(0:Int)/\az (q,r)/\ ∀(s:Int)(t:List Int)(u:Int),0<=s/\(s<40∨s=0)/\az (t,u)->aw (decide (s=39)) (az (t,u)/\ ∀(v:Int)(w:List Int)(x:Int),az (w,x)/\aq
 v->(i.length+List.length [(decide (j=3),v,IntKind.wrap .i64 (Int.tdiv p (6:Int)))])*(24:Nat)<=(140737488355328:Nat)/\ ∃(y:Int) (z:List Int×Int),∃(A:List aY),(0<=y/\az z/\(A.length:Int)+y<=c/\ ∀(B:aY),B∈A->0<=B.2.2/\B.2.2<=1)/\y.toNat<g.toNat/\IntKind.wrap .i64 (g -(1:Int))=y/\w=z.1/\x=z.2/\i++[(decide (j=3),v,IntKind.wrap .i64 (Int.tdiv p (6:Int)))]=A/\True) ((i.length+List.length [(decide (j=3),m,IntKind.wrap .i64 (Int.tdiv p (6:Int)))])*(24:Nat)<=(140737488355328:Nat)/\ ∃(v:Int) (w:List Int×Int),∃(x:List aY),(0<=v/\az w/\(x.length:Int)+v<=c/\ ∀(y:aY),y∈x->0<=y.2.2/\y.2.2<=1)/\v.toNat<g.toNat/\IntKind.wrap .i64 (g -(1:Int))=v/\t=w.1/\u=w.2/\i++[(decide (j=3),m,IntKind.wrap .i64 (Int.tdiv p (6:Int)))]=x/\True)) (az h/\(i.length:Int)<=c/\ ∀(j:Bool×Int×Int),j∈i->0<=j.2.2/\j.2.2<=1):=by
  rintro l p n-⟨hc,n0,n1⟩
  refine⟨hc,?_⟩
  rintro k l2 p2 ⟨k0,k1,hc2⟩
  rw[ag (by omega) (by omega)] at k1
  refine⟨⟨k,(l2,p2),[],⟨k0,hc2,by simp only[List.length_nil];omega,by simp⟩,(by repeat' first|exact trivial|refine⟨trivial,?_⟩|refine⟨(by with_reducible rfl),?_⟩|refine⟨ag (by omega) (by omega),?_⟩|refine⟨rfl,?_⟩)⟩,?_⟩
  rintro k c b ⟨k0,hc,hb,hf⟩
  refine aJ (fun h=>⟨hc,?_⟩) (fun h=>⟨hc,by omega,hf⟩)
  have h:=of_decide_eq_true h
  rintro x l3 p3 ⟨-,-,hc3⟩
  refine⟨hc3,?_⟩
  rintro y l4 p4 ⟨-,-,hc4⟩
  refine⟨hc4,?_⟩
  rintro z l5 p5 ⟨z0,z1,hc5⟩
  refine⟨by decide,hc5,?_⟩
  rintro u l6 p6 ⟨-,-,hc6⟩
  have ez:Int.tdiv z 6=z/6:=Int.tdiv_eq_ediv_of_nonneg z0
  rw[ez,ag (n:=z/6) (by omega) (by omega)]
  have hf':∀ d:Int,∀ f∈b++[(decide (x=3),d,z/6)],0<=f.2.2/\f.2.2<=1:=fun d f hff=>by
   rcases List.mem_append.1 hff with q|q
   ·exact hf f q
   ·rw[List.mem_singleton.1 q];show 0<=z/6/\z/6<=1;omega
  refine aJ (fun _=>⟨hc6,?_⟩) (fun _=>?_)
  ·rintro w l7 p7 ⟨hc7,-⟩
   exact⟨by simp only[List.length_singleton];omega,k-1,(l7,p7),_,⟨by omega,hc7,by rw[List.length_append,List.length_singleton];omega,hf' _⟩,by omega,(by repeat' first|exact trivial|refine⟨trivial,?_⟩|refine⟨(by with_reducible rfl),?_⟩|refine⟨ag (by omega) (by omega),?_⟩|refine⟨rfl,?_⟩)⟩
  ·exact⟨by simp only[List.length_singleton];omega,k-1,(l6,p6),_,⟨by omega,hc6,by rw[List.length_append,List.length_singleton];omega,hf' _⟩,by omega,(by repeat' first|exact trivial|refine⟨trivial,?_⟩|refine⟨(by with_reducible rfl),?_⟩|refine⟨ag (by omega) (by omega),?_⟩|refine⟨rfl,?_⟩)⟩
theorem wm:aL Try.prog GL 29 r7.spec:=Cn.okH _ Try.func29 (by kernel_rfl) (aI (aI aW lG) yF) aH Bf (aX (by kernel_rfl) AI)
def sJ:Cn:=⟨[.box 58 fI,.val cI],[.val (.sl ep)],fun d=>[az d.1,0<=d.2.1,d.2.1<=1000],fun d y=>az y.2.1/\(y.1.1.length:Int)<=d.2.1/\fQ y.1.1=true,fun d h=>⟨(([],()),(d.1,())),h.1,by simp;exact h.2.1,rfl⟩⟩
def xj:aG sJ.ps->aN:=(fun d=>{loops:=(fun n=>match n with|3=>some (fun S=>{ι:=Int×(List aY),qn:=⟨fun k_=>∀(i:Int)(l:(List aY)),k_ (i,l),fun k_ h_ i=>h_ i.1 i.2,fun k_=>∃ (i:Int) (l:(List aY)),k_ (i,l),fun k_ ⟨i,l,h_⟩=>⟨_,h_⟩⟩,μ:=fun i=>(1000-i.1).toNat,inv:=fun i=>0<=i.1/\i.1<=i.2.length/\(i.2.length:Int)<=d.2.1/\(∀ f∈i.2,0<=f.2.2/\f.2.2<=1)∧∀ f∈i.2.take i.1.toNat,cR f=true,keep:=[0,4],slots:=fun i=>[(5,.own 524288 3),(6,.int .i64 i.1)],keepN:=[1048576],names:=fun i=>[(524288,.live (.row 67 ep i.2))]})|_=>none)})
def pw(c g:Int)(h:List aY) :=
 0<=g/\g<=(h.length:Int)/\(h.length:Int)<=c/\(∀(i:aY),i∈h->0<=i.2.2/\i.2.2<=1)/\ ∀(i:aY),i∈List.take g.toNat h->cR i=true
theorem wa :
 ∀(a:List Int)(b c:Int),((a.length<=maxLen/\ ∀(d:Int),d∈a->0<=d/\d<=255)/\aq b)/\aq c/\True->az (a,b)/\0<=c/\c<=1000->az (a,b)/\0<=c/\c<=1000/\ ∀(d:List (Bool×Int×Int))(e:List Int)(f:Int),(az (e,f)/\(d.length:Int)<=c/\ ∀(g:Bool×Int×Int),g∈d->0<=g.2.2/\g.2.2<=1)->(∃(g:Int) (h:List aY),(pw c g h)/\(0:Int)=g/\e=e/\f=f/\d=h/\True)/\ ∀(g:Int)(h:List aY),(pw c g h)->aw (decide (g<(h.length:Int))) (0<=g/\g<(h.length:Int)/\(6:Int)≠(0:Int)/\0<=g/\g<(h.length:Int)/\ ∃(i:Int) (j:List aY),(0<=i/\i<=(j.length:Int)/\(j.length:Int)<=c/\(∀(k:aY),k∈j->0<=k.2.2/\k.2.2<=1)/\ ∀(k:aY),k∈List.take i.toNat j->cR k=true)/\Int.toNat ((1000:Int) -i)<Int.toNat ((1000:Int) -g)/\IntKind.wrap .i64 (g+(1:Int))=i/\e=e/\f=f/\List.set h g.toNat ((h.getD g.toNat default).1,gU (h.getD g.toNat default).2.1 (6:Int),(h.getD g.toNat default).2.2)=j/\True) (az (e,f)/\(h.length:Int)<=c/\fQ
 h=true):=by
  delta pw
  rintro l p n-⟨hc,n0,n1⟩
  refine⟨hc,n0,n1,?_⟩
  rintro fs l2 p2 ⟨hc2,hl,hf⟩
  refine⟨⟨0,fs,⟨by omega,by omega,hl,hf,by simp⟩,(by repeat' first|exact trivial|refine⟨trivial,?_⟩|refine⟨(by with_reducible rfl),?_⟩|refine⟨ag (by omega) (by omega),?_⟩|refine⟨rfl,?_⟩)⟩,?_⟩
  rintro i l ⟨i0,i1,hl,hf,hk⟩
  refine aJ (fun h=>?_) (fun h=>?_)
  ·have h:=of_decide_eq_true h
   have hg:=hf _ (cy (xs:=l) i0 h)
   have hm:0<=gU (l.getD i.toNat default).2.1 6/\gU (l.getD i.toNat default).2.1 6<=5:=by
    unfold gU
    generalize (l.getD i.toNat default).2.1=x
    have h1 : -6<x.tmod 6/\x.tmod 6<6:=⟨by have:=Int.lt_tmod_of_pos x (show (0:Int)<6 by omega);omega,Int.tmod_lt_of_pos x (by omega)⟩
    rw[ag (by omega) (by omega),Int.tmod_eq_emod_of_nonneg (by omega)]
    omega
   have hset:∀ f∈l.set i.toNat ((l.getD i.toNat default).1,gU (l.getD i.toNat default).2.1 6,(l.getD i.toNat default).2.2),f∈l∨f=((l.getD i.toNat default).1,gU (l.getD i.toNat default).2.1 6,(l.getD i.toNat default).2.2):=fun f hff=>List.mem_or_eq_of_mem_set hff
   refine⟨i0,h,by decide,i0,h,i+1,l.set i.toNat ((l.getD i.toNat default).1,gU (l.getD i.toNat default).2.1 6,(l.getD i.toNat default).2.2),⟨by omega,by rw[List.length_set];omega,by rw[List.length_set];exact hl,fun f hff=>?_,fun f hff=>?_⟩,by omega,(by repeat' first|exact trivial|refine⟨trivial,?_⟩|refine⟨(by with_reducible rfl),?_⟩|refine⟨ag (by omega) (by omega),?_⟩|refine⟨rfl,?_⟩)⟩
   ·rcases hset f hff with q|q
    ·exact hf f q
    ·rw[q];exact hg
   ·rw[c5 i0 (by rw[List.length_set];exact h),sZ (by omega),List.take_set_of_le (Nat.le_refl _)] at hff
    rcases List.mem_append.1 hff with q|q
    ·exact hk f q
    ·rw[List.mem_singleton.1 q]
     exact decide_eq_true ⟨hm.1,Int.le_trans hm.2 (by decide),hg.1,Int.le_trans hg.2 (by decide)⟩
  ·have h:=of_decide_eq_false h
   rw[List.take_of_length_le (by omega)] at hk
   exact⟨hc2,hl,List.all_eq_true.2 hk⟩
theorem za:aL Try.prog GL 21 sJ.spec:=Cn.okH _ Try.func21 (by kernel_rfl) (aI (aI aW wm) BV) aH xj (aX (by kernel_rfl) wa)
def sG:Ct:=⟨[],[.val .bool],fun _=>[],fun _=>((true,()),())⟩
def zX:aG sG.ps->aN:=(fun _=>{})
theorem AN :
 True->True-> ∀(a:Int×Int×Int×List (List Int)×Int×List (List Int)×List (Int×List Int)×List (Int×Int×List Int)×List (Int×Int×List Int))(b:Int),a=fg (4:Int)/\b=dj (4:Int)->(1:Nat)<=List.length [(120:Int)]/\XR a/\ ∀(c:Int×Int×Int×List (List Int)×Int×List (List Int)×List (Int×List Int)×List (Int×Int×List Int)×List (Int×Int×List Int))(d:Int),c=fu a [(120:Int)]/\d=c8 a [(120:Int)]->XR c/\ ∀(e:Int×Int×Int×List (List Int)×Int×List (List Int)×List (Int×List Int)×List (Int×Int×List Int)×List (Int×Int×List Int))(f:Int),e=fG c (2:Int)/\f=dw c (2:Int)-> ∀(g:Bool),g=decide (b=0)->(g->(g->g)/\True)/\(g->g)/\ ∀(h:Bool),(h=bif g then decide (d=0) else false)->(h->(h->h)/\True)/\(h->h)/\ ∀(i:Bool),(i=bif h then decide (f=0) else false)->(i->(i->i)/\True)/\(i->(i->i)/\True)/\(i->(i->i)/\True)/\(i->i)/\ ∀(j:Bool),(j=bif i then decide ((e.2.2.2.2.2.1.length:Int)=1) else
 false)->(j->(j->j)/\True)/\(j->(j->j)/\True)/\(j->j)/\ ∀(k:Bool),(k=bif j then decide (e.1=2) else false)->(k->(k->k)/\True)/\(k->(k->k)/\(0:Int)<=0/\0<(e.2.2.2.2.2.1.length:Int)/\True)/\(k->(k->k)/\True)/\(k->(k->k)/\True)/\(k->(k->k)/\True)/\(k->k)/\(bif k then decide (strOfNums (List.getD e.2.2.2.2.2.1 (Int.toNat (0:Int)) default)={data:= #[(120:UInt8)]}) else false)=true:=by
  rintro - -
  rintro c e ⟨hc,he⟩
  have hc:c=e6 4:=hc
  have he:e=0:=he
  subst hc he
  have x1:XR (e6 4):=XR.new (by omega) (by omega)
  refine⟨by decide,x1,?_⟩
  rintro c2 e2 ⟨hc2,he2⟩
  have hp:c8 (e6 4) [120]=0:=by decide
  have hc2:c2=gG (e6 4) [120]:=by rw[hc2];exact if_pos hp
  rw[hp] at he2
  subst hc2 he2
  have x2:XR (gG (e6 4) [120]):=x1.push (by decide) (by decide)
  refine⟨x2,?_⟩
  rintro c3 e3 ⟨hc3,he3⟩
  have hr:dw (gG (e6 4) [120]) 2=0:=by decide
  have hc3:c3=bh 2 (gG (e6 4) [120]):=by rw[hc3];exact if_pos hr
  rw[hr] at he3
  subst he3
  have hv:c3.2.2.2.2.2.1=[[120]]/\c3.1=2:=by
   rw[hc3]
   exact⟨by kernel_rfl,by kernel_rfl⟩
  obtain⟨v1,v2⟩:=hv
  rw[v1,v2]
  (repeat (intro (b_:Bool) (hb_:b_=_);(repeat refine⟨(by first|(simp;done)|(rw[hb_];simp;done)|(rw[hb_];simp;omega)|(rw[hb_];simp;intros;omega)|(rw[hb_];simp +contextual;done)),?_⟩);subst hb_))
  kernel_rfl
theorem xk:aL Try.prog GL 8 sG.spec:=Ct.okH _ Try.func8 (by kernel_rfl) (aI (aI (aI aW (Ct.named yn)) (Ct.named xK)) (Ct.named tV)) aH zX (aX (by kernel_rfl) AN)
def uP:Cn:=⟨[.box 58 fI],[.agg bG],fun d=>[az d.1],fun d y=>az y.2.1/\XR y.1.1/\ac y.1.1<=25,fun d h=>⟨((e6 1,()),(d.1,())),h.1,XR.new (by omega) (by omega),by show (0:Int)<=25;omega⟩⟩
def vL:aG uP.ps->aN:=(fun d=>{loops:=(fun n=>match n with|3=>some (fun S=>{ι:=Int×(List Int×Int)×ak,qn:=⟨fun k_=>∀(k:Int)(c:(List Int×Int))(b:ak),k_ (k,c,b),fun k_ h_ i=>h_ i.1 i.2.1 i.2.2,fun k_=>∃ (k:Int) (c:(List Int×Int)) (b:ak),k_ (k,c,b),fun k_ ⟨k,c,b,h_⟩=>⟨_,h_⟩⟩,μ:=fun i=>i.1.toNat,inv:=fun i=>0<=i.1/\az i.2.1/\XR i.2.2/\ac i.2.2+i.1<=25/\(ae i.2.2).length+i.1<=25,keep:=[0,2],slots:=fun i=>[(3,.ptr 64 0),(5,.int .i64 i.1)],keepN:=[48],names:=fun i=>[(1048576,.live (.cells 58 (br fI i.2.1))),(64,.live (.cells 28 (br bG i.2.2)))]})|_=>none)})
theorem Bh :
 ∀(a:List Int)(b:Int),((a.length<=maxLen/\ ∀(c:Int),c∈a->0<=c/\c<=255)/\aq b)/\True->0<=b/\b<=(a.length:Int)->az (a,b)/\ ∀(c:Int)(d:List Int)(e:Int),0<=c/\(c<6∨c=0)/\az (d,e)-> ∀(f:Int×Int×Int×List (List Int)×Int×List (List Int)×List (Int×List Int)×List (Int×Int×List Int)×List (Int×Int×List Int))(g:Int),f=fg (IntKind.wrap .i64 ((1:Int)+c))/\g=dj (IntKind.wrap .i64 ((1:Int)+c))->az (d,e)/\ ∀(h:Int)(i:List Int)(j:Int),0<=h/\(h<25∨h=0)/\az (i,j)->(∃(k:Int) (l:List Int×Int),∃(m:ak),(0<=k/\az l/\XR m/\ac m+k<=25/\((List.length (ae m)):Int)+k<=25)/\h=k/\(0:Int)=0/\(0:Int)=0/\(0:Int)=0/\(0:Int)=0/\i=l.1/\j=l.2/\f.1=m.1/\f.2.1=m.2.1/\f.2.2.1=m.2.2.1/\f.2.2.2.1=m.2.2.2.1/\f.2.2.2.2.1=m.2.2.2.2.1/\f.2.2.2.2.2.1=m.2.2.2.2.2.1/\f.2.2.2.2.2.2.1=m.2.2.2.2.2.2.1/\f.2.2.2.2.2.2.2.1=m.2.2.2.2.2.2.2.1/\f.2.2.2.2.2.2.2.2=m.2.2.2.2.2.2.2.2/\True)/\ ∀(k:Int)(l:List Int×Int)
 (m:ak),0<=k/\az l/\XR m/\ac m+k<=25/\((List.length (ae m)):Int)+k<=25->aw (decide (0<k)) (az l/\ ∀(n:Int)(o:List Int)(p:Int),0<=n/\(n<2∨n=0)/\az (o,p)->aw (decide (n=0)) (az (o,p)/\(0:Int)<=3/\(3:Int)<=1000/\ ∀(q r:List Int)(s:Int),az (r,s)/\(q.length:Int)<=3-> ∀(t:Int×Int×Int×List (List Int)×Int×List (List Int)×List (Int×List Int)×List (Int×Int×List Int)×List (Int×Int×List Int))(u:Int),t=fu m q/\u=c8 m q-> ∃(v:Int) (w:List Int×Int),∃(x:ak),(0<=v/\az w/\XR x/\ac x+v<=25/\((List.length (ae x)):Int)+v<=25)/\v.toNat<k.toNat/\IntKind.wrap .i64 (k -(1:Int))=v/\(0:Int)=0/\(0:Int)=0/\(0:Int)=0/\(0:Int)=0/\r=w.1/\s=w.2/\t.1=x.1/\t.2.1=x.2.1/\t.2.2.1=x.2.2.1/\t.2.2.2.1=x.2.2.2.1/\t.2.2.2.2.1=x.2.2.2.2.1/\t.2.2.2.2.2.1=x.2.2.2.2.2.1/\t.2.2.2.2.2.2.1=x.2.2.2.2.2.2.1/\t.2.2.2.2.2.2.2.1=x.2.2.2.2.2.2.2.1/\t.2.2.2.2.2.2.2.2=x.2.2.2.2.2.2.2.2/\True) (az
 (o,p)/\(0:Int)<=4/\(4:Int)<=1000/\ ∀(q:List (Bool×Int×Int))(r:List Int)(s:Int),az (r,s)/\(q.length:Int)<=4/\fQ q=true->az (r,s)/\(0:Int)<=2/\(2:Int)<=1000/\ ∀(t:List (Bool×Int×Int))(u:List Int)(v:Int),az (u,v)/\(t.length:Int)<=2/\fQ t=true->XR m/\(q.length:Int)<=1000000/\(t.length:Int)<=1000000/\ ∀(w:Int×Int×Int×List (List Int)×Int×List (List Int)×List (Int×List Int)×List (Int×Int×List Int)×List (Int×Int×List Int))(x:Int),w=iD m q t/\x=ec m q t-> ∃(y:Int) (z:List Int×Int),∃(A:ak),(0<=y/\az z/\XR A/\ac A+y<=25/\((List.length (ae A)):Int)+y<=25)/\y.toNat<k.toNat/\IntKind.wrap .i64 (k
 -(1:Int))=y/\(0:Int)=0/\(0:Int)=0/\(0:Int)=0/\(0:Int)=0/\u=z.1/\v=z.2/\w.1=A.1/\w.2.1=A.2.1/\w.2.2.1=A.2.2.1/\w.2.2.2.1=A.2.2.2.1/\w.2.2.2.2.1=A.2.2.2.2.1/\w.2.2.2.2.2.1=A.2.2.2.2.2.1/\w.2.2.2.2.2.2.1=A.2.2.2.2.2.2.1/\w.2.2.2.2.2.2.2.1=A.2.2.2.2.2.2.2.1/\w.2.2.2.2.2.2.2.2=A.2.2.2.2.2.2.2.2/\True)) (az l/\XR m/\ac m<=25):=by
  rintro l p-hc
  refine⟨hc,?_⟩
  rintro a l2 p2 ⟨a0,a1,hc2⟩
  rw[ag (n:=1+a) (by omega) (by omega)]
  rintro c e ⟨hcc,-⟩
  have hw:dj (1+a)=0:=if_neg (by omega)
  have hcc:c=e6 (1+a):=by rw[hcc];exact if_pos hw
  subst hcc
  refine⟨hc2,?_⟩
  rintro k l3 p3 ⟨k0,k1,hc3⟩
  refine⟨⟨k,(l3,p3),e6 (1+a),⟨k0,hc3,XR.new (by omega) (by omega),by show (0:Int)+k<=25;omega,by show (0:Int)+k<=25;omega⟩,(by repeat' first|exact trivial|refine⟨trivial,?_⟩|refine⟨(by with_reducible rfl),?_⟩|refine⟨ag (by omega) (by omega),?_⟩|refine⟨rfl,?_⟩)⟩,?_⟩
  rintro k c b ⟨k0,hc,hx,hn,hl⟩
  refine aJ (fun h=>⟨hc,?_⟩) (fun h=>⟨hc,hx,by omega⟩)
  have h:=of_decide_eq_true h
  rintro x l4 p4 ⟨-,-,hc4⟩
  refine aJ (fun _=>⟨hc4,by omega,by omega,?_⟩) (fun _=>⟨hc4,by omega,by omega,?_⟩)
  ·rintro it l5 p5 ⟨hc5,hi⟩
   rintro d e ⟨hd,-⟩
   have hp:c8 b it=0:=if_neg (by omega)
   have hd:d=gG b it:=by rw[hd];exact if_pos hp
   subst hd
   refine⟨k-1,(l5,p5),gG b it,⟨by omega,hc5,hx.push (by omega) (by omega),by show ac b+(k-1)<=25;omega,?_⟩,by omega,(by repeat' first|exact trivial|refine⟨trivial,?_⟩|refine⟨(by with_reducible rfl),?_⟩|refine⟨ag (by omega) (by omega),?_⟩|refine⟨rfl,?_⟩)⟩
   show ((ae b++[it]).length:Int)+(k-1)<=25
   rw[List.length_append,List.length_singleton];omega
  ·rintro ds l5 p5 ⟨hc5,hdl,hd⟩
   refine⟨hc5,by omega,by omega,?_⟩
   rintro us l6 p6 ⟨hc6,hul,hu⟩
   refine⟨hx,by omega,by omega,?_⟩
   rintro d e ⟨hdd,-⟩
   have ht:ec b ds us=0:=by
    unfold ec
    rw[hd,hu,if_neg (by decide),if_neg (by omega)]
   have hdd:d=bc b ds us:=by rw[hdd];exact if_pos ht
   subst hdd
   exact⟨k-1,(l6,p6),bc b ds us,⟨by omega,hc6,hx.tick (nw.1 hd) (nw.1 hu),by show ac b+1+(k-1)<=25;omega,by show ((ae b).length:Int)+(k-1)<=25;omega⟩,by omega,(by repeat' first|exact trivial|refine⟨trivial,?_⟩|refine⟨(by with_reducible rfl),?_⟩|refine⟨ag (by omega) (by omega),?_⟩|refine⟨rfl,?_⟩)⟩
theorem Au:aL Try.prog GL 9 uP.spec:=Cn.okH _ Try.func9 (by kernel_rfl) (aI (aI (aI (aI (aI (aI aW lG) (Ct.named wY)) Bk) (Ct.named Aj)) za) (Ct.named BE)) aH vL (aX (by kernel_rfl) Bh)
def tu:Ct:=lg [(false,.sl aV),(false,aV)]
def AJ:aG tu.ps->aN:=(fun _=>{})
theorem zg :
 ∀(a:List Int)(b:Int),(a.length<=maxLen/\ ∀(c:Int),c∈a->0<=c/\c<=255)/\(0<=b/\b<=255)/\True->True->(0:Int)<=400/\ ∀(c:List Int)(d:Int),(c,d)=(if (a.length:Int)<=400 then a else List.take (Int.toNat (400:Int)) a,(0:Int))->az (c,d)/\ ∀(e:Int×Int×Int×List (List Int)×Int×List (List Int)×List (Int×List Int)×List (Int×Int×List Int)×List (Int×Int×List Int))(f:List Int)(g:Int),az (f,g)/\XR e/\ac e<=25->XR e/\ ∀(h:Int×Int×Int×List (List Int)×Int×List (List Int)×List (Int×List Int)×List (Int×Int×List Int)×List (Int×Int×List Int))(i:Int),h=fG e (hM (e.2.2.2.1.length:Int) e.2.2.1)/\i=dw e (hM (e.2.2.2.1.length:Int) e.2.2.1)->(20:Int)≠(0:Int)/\XR h/\ ∀(j:Int×Int×Int×List (List Int)×Int×List (List Int)×List (Int×List Int)×List (Int×Int×List Int)×List (Int×Int×List Int))(k:Int),j=fG h (Int.tmod (IntKind.wrap .i64 b) (20:Int))/\k=dw h (Int.tmod (IntKind.wrap .i64 b) (20:Int))->
 ∀(l:Bool),l=decide (i=0)->(l->(l->l)/\True)/\(l->l)/\ ∀(m:Bool),(m=bif l then decide (k=0) else false)->(m->(m->m)/\True)/\(m->m)/\ ∀(n:Bool),(n=bif m then jj h else false)->(n->(n->n)/\True)/\(n->n)/\ ∀(o:Bool),(o=bif n then jj j else false)->(o->(o->o)/\True)/\(o->(o->o)/\True)/\(o->(o->o)/\True)/\(o->o)/\ ∀(p:Bool),(p=bif o then decide ((j.2.2.2.2.2.2.2.1.length:Int)=0) else false)->(p->(p->p)/\True)/\(p->(p->p)/\True)/\(p->(p->p)/\(p->p)/\True)/\(p->p)/\(bif p then decide (h.2.2.2.1.length<=h.2.2.2.2.2.1.length/\h.2.2.2.1=List.take h.2.2.2.1.length h.2.2.2.2.2.1) else false)=true:=by
  rintro l a ⟨-,⟨a0,a1⟩,-⟩ -
  refine⟨by omega,?_⟩
  rintro l2 p2 hl
  have hc:az (l2,p2):=by
   rw[hl];exact⟨Int.le_refl _,by simp⟩
  refine⟨hc,?_⟩
  rintro x l3 p3 ⟨-,hx,hn⟩
  rw[ag (n:=a) (by omega) (by omega),Int.tmod_eq_emod_of_nonneg a0]
  generalize hk:a%20=k
  have n0:=hx.1.now
  have hlog:=hx.1.log
  have hwin:=hx.1.win
  have hB:hM (x.2.2.2.1.length:Int) x.2.2.1=4*(((ae x).length:Int)/aj x+2)+2000:=if_neg (by show ¬ (((ae x).length:Int)<0∨1024<((ae x).length:Int)∨aj x<1∨64<aj x);omega)
  rw[hB]
  have hq0:0<=((ae x).length:Int)/aj x:=Int.ediv_nonneg (by omega) (by omega)
  have hq1:((ae x).length:Int)/aj x<=(ae x).length:=Int.ediv_le_self _ (by omega)
  have hq2:=Int.lt_ediv_add_one_mul_self ((ae x).length:Int) (show 0<aj x by omega)
  generalize hqq:((ae x).length:Int)/aj x=q at *
  have hr:∀(c:ak)(k:Int),ac c<=100000->0<=k->k<=100000->dw c k=0:=fun c k h h0 h1=>by
   unfold dw
   rw[if_neg (by omega),if_neg (by omega)]
  have hR:∀(c:ak)(k:Int),ac c<=100000->0<=k->k<=100000->fG c k=bh k.toNat c:=fun c k h h0 h1=>if_pos (hr c k h h0 h1)
  refine⟨hx,?_⟩
  rintro y e ⟨hy,he⟩
  rw[hR _ _ (by omega) (by omega) (by omega)] at hy
  rw[hr _ _ (by omega) (by omega) (by omega)] at he
  obtain⟨-,hyn,-⟩:=hx.1.runs (4*(q+2)+2000).toNat
  have hyx:=hx.runs (4*(q+2)+2000).toNat
  rw[← hy] at hyn hyx
  refine⟨by omega,hyx,?_⟩
  rintro z f ⟨hz,hf⟩
  rw[hR _ _ (by omega) (by omega) (by omega)] at hz
  rw[hr _ _ (by omega) (by omega) (by omega)] at hf
  have hm:((ae x).length:Int)<=(((q+1).toNat:Nat):Int)*aj x:=by
   rw[Int.toNat_of_nonneg (by omega)];omega
  obtain⟨r1,r2,r3⟩:=nH hx.1 (n:=(4*(q+2)+2000).toNat) (m:=(q+1).toNat) hm (by omega)
  obtain⟨s1,s2,s3⟩:=nH hx.1 (n:=(4*(q+2)+2000).toNat+k.toNat) (m:=(q+1).toNat) hm (by omega)
  rw[← hy] at r1 r2 r3
  rw[← nZ,← hy,← hz] at s1 s2 s3
  have s2:z.2.2.2.2.2.2.2.1=[]:=s2
  have r3:y.2.2.2.2.2.1=y.2.2.2.1:=r3
  subst he hf
  rw[r1,s1,s2,r3]
  (repeat (intro (b_:Bool) (hb_:b_=_);(repeat refine⟨(by first|(simp;done)|(rw[hb_];simp;done)|(rw[hb_];simp;omega)|(rw[hb_];simp;intros;omega)|(rw[hb_];simp +contextual;done)),?_⟩);subst hb_))
  simp
theorem ok_law21_ExchangeRecovers:aL Try.prog GL 4 tu.spec:=Ct.okH _ Try.func4 (by kernel_rfl) (aI (aI (aI (aI (aI (aI (aI aW xk) (Ct.named wU)) Au) (Ct.named tV)) AR) Aw) wy) aH AJ (aX (by kernel_rfl) zg)
end Go.RS
